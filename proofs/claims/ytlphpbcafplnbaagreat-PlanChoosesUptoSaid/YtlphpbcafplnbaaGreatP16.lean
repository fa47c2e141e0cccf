/- Contracts of functions of the seat, proved in a logic on data over the model (part P16). -/
import Derived.Test.YtlphpbcafplnbaaGreatPD
import Derived.Test.YtlphpbcafplnbaaGreatSA
import Derived.Test.YtlphpbcafplnbaaGreatQS
import Derived.Test.YtlphpbcafplnbaaGreatBSF
import Derived.Test.YtlphpbcafplnbaaGreatXO
set_option linter.unusedSimpArgs false
set_option linter.unusedVariables false
namespace Go.Proofs.YtlphpbcafplnbaaGreat
open Go.VL Go.RowKit
mutual
theorem bindE_bd (sc : List SCol) : ∀ (e : Ex) (t : Tm), bindE sc e = .ok t → t.Bd sc.length
  | .mk op int text of nl args, t, h => by
    rw [bindE] at h
    split at h
    · cases h
      rw [Tm.Bd]
      exact ⟨fun e => absurd e (by decide), by decide, fun _ => rfl, trivial⟩
    · split at h
      · split at h
        · cases h
        · cases h
          rw [Tm.Bd]
          exact ⟨fun e => absurd e (by decide), by decide, fun _ => rfl, trivial⟩
      · split at h
        · split at h
          · rename_i i hi
            cases h
            have := findC_lt hi
            rw [Tm.Bd]
            exact ⟨fun _ => by omega, by simp, fun _ => rfl, trivial⟩
          · cases h
        · split at h
          · cases h
          · rename_i ts hts
            split at h
            · rename_i hk
              cases h
              have hl := kindK_len hk
              rw [List.length_map] at hl
              rw [Tm.Bd]
              refine ⟨fun e => ?_, by omega, fun e => List.isEmpty_iff.1 e, bindEs_bd sc args ts hts⟩
              subst e
              rcases hl with ⟨_, h | h⟩ | ⟨_, h⟩ <;> exact absurd h (by decide)
            · cases h
theorem bindEs_bd (sc : List SCol) : ∀ (es : List Ex) (ts : List Tm), bindEs sc es = .ok ts → Tm.Bds sc.length ts
  | [], ts, h => by rw [bindEs] at h; cases h; trivial
  | e :: r, ts, h => by
    rw [bindEs_cons] at h
    split at h
    · cases h
    · rename_i t ht
      split at h
      · cases h
      · rename_i ts' hts
        cases h
        rw [Tm.Bds]
        exact ⟨bindE_bd sc e t ht, bindEs_bd sc r ts' hts⟩
end
theorem chkL_cols : ∀ (l : List Src), chkL l = 0 → ∀ s ∈ l, 0 ≤ s.cols ∧ s.cols ≤ 8
  | [], _, s, h => by cases h
  | x :: r, hc, s, h => by
    rw [chkL] at hc
    by_cases e : chkS x = 0
    · rw [if_pos e] at hc
      rcases List.mem_cons.1 h with rfl | h
      · unfold chkS at e
        by_cases hb : colBad s = true
        · rw [if_pos hb] at e; omega
        · unfold colBad at hb
          simp only [Bool.or_eq_true, decide_eq_true_eq, not_or] at hb
          omega
      · exact chkL_cols r hc s h
    · rw [if_neg e] at hc; exact absurd hc e
theorem check_cols {q : Qry} (h : checkQ q = 0) : ∀ s ∈ q.src, 0 ≤ s.cols ∧ s.cols ≤ 8 := by
  unfold checkQ at h
  by_cases hb : sizeBad q = true
  · rw [if_pos hb] at h; omega
  · rw [if_neg hb] at h
    exact chkL_cols _ h
theorem termK_bd (w : Qn) (k : Nat) : ∀ t ∈ termK w k, t.Bd (scQ w).length := by
  intro t ht
  unfold termK at ht
  obtain ⟨e, _, h⟩ := List.mem_filterMap.1 ht
  unfold termE at h
  split at h
  · rename_i t' ht'
    cases h
    exact bindE_bd _ _ _ ht'
  · cases h
theorem srcQ_mem (w : Qn) : ∀ s ∈ srcQ w, s.fs = w.A ∨ s.fs = w.B ∨ s.fs = [] := by
  intro s hs
  unfold srcQ at hs
  rcases List.mem_append.1 hs with hs | hs
  · rcases List.mem_append.1 hs with hs | hs
    · simp at hs; subst hs; exact .inl rfl
    · cases htw : w.two <;> rw [htw] at hs
      · cases hs
      · simp at hs; subst hs; exact .inr (.inl rfl)
  · cases hts : w.s3 <;> rw [hts] at hs
    · cases hs
    · simp at hs; subst hs; exact .inr (.inr rfl)
theorem srcQ_len (w : Qn) : (srcQ w).length ≤ 4 := by unfold srcQ; cases w.two <;> cases w.s3 <;> simp
structure Qn.Sm (w : Qn) : Prop where
  a : w.A.length ≤ 134217728
  b : w.B.length ≤ 134217728
  ra : ∀ f ∈ w.A, f.row.length ≤ 134217728
  rb : ∀ f ∈ w.B, f.row.length ≤ 134217728
  c : w.cs.length ≤ 1000000000
  d : w.du.length ≤ 1000000000
  fit : ∀ e ∈ w.cs, e.fit
theorem ask_fit {w : Qn} (h : w.Sm) : (askQ w).Fit where
  s := Nat.le_trans (srcQ_len w) (by decide)
  f := fun s hs => by
    rcases srcQ_mem w s hs with e | e | e <;> rw [e]
    · have := h.a; omega
    · have := h.b; omega
    · decide
  t := Nat.le_trans (List.length_filterMap_le _ _) (by rw [List.take_length]; exact h.c)
  d := by have := h.d; show w.du.length ≤ _; omega
  r := fun s hs f hf => by
    rcases srcQ_mem w s hs with e | e | e <;> rw [e] at hf
    · have := h.ra f hf; omega
    · have := h.rb f hf; omega
    · cases hf
theorem ask_good {w : Qn} (h : w.Sm) (hc : checkQ (askQ w) = 0) : (askQ w).Good (scQ w).length where
  fit := ask_fit h
  cols := check_cols hc
  bd := termK_bd w _
  sm := fun s hs => by
    rcases srcQ_mem w s hs with e | e | e <;> rw [e]
    · exact h.a
    · exact h.b
    · decide
  m := by unfold scQ; cases w.two <;> decide
set_option maxRecDepth 100000 in
theorem bytes38 : Tryz.prog.bytesOf 38 = 16 := by kernel_rfl
set_option maxRecDepth 100000 in
theorem fit_bool {n R : Nat} {xs : List C} (h : Fits Tryz.prog R n 4 xs) : ∃ b, xs = [bln b] := by
  obtain ⟨n, rfl⟩ := fits_pos h
  exact fits_bool Tryz.underlying4 h
set_option maxRecDepth 100000 in
theorem open_pers (R n : Nat) (xs : List C) (h : Fits Tryz.prog R n 83 xs) : ∃ (nl : Bool) (l : List Per), xs = [.sl nl (l.map Per.cells)] ∧ l.length * 16 ≤ R := by
  obtain ⟨n, rfl⟩ := fits_pos h
  obtain ⟨nl, ys, rfl, hn, hl, hys⟩ := fits_slice Tryz.underlying83 h
  obtain ⟨l, rfl, _⟩ := fits_list Per.cells (fun _ => True) (open_per R n) hys
  rw [bytes38] at hl
  exact ⟨nl, l, rfl, by simpa using hl⟩
set_option maxRecDepth 100000 in
theorem open_two (R n : Nat) (xs : List C) (h : Fits Tryz.prog R n 82 xs) : ∃ a b, xs = [bln a, bln b] := by
  obtain ⟨n, rfl⟩ := fits_pos h
  obtain ⟨x, _, rfl, h1, y, _, rfl, h2, rfl⟩ := fits_array Tryz.underlying82 h
  obtain ⟨a, rfl⟩ := fit_bool h1
  obtain ⟨b, rfl⟩ := fit_bool h2
  exact ⟨a, b, rfl⟩
set_option maxRecDepth 100000 in
theorem open_qn (R n : Nat) (hR : R = 4294967296) (s : S) (h : FitsS Tryz.prog R n 85 s) : ∃ w : Qn, s = .agg w.cells ∧ w.Sm := by
  obtain ⟨xs, rfl, h0⟩ := FitsS.struct Tryz.underlying85 h
  obtain ⟨n, rfl⟩ := fits_pos h0
  obtain ⟨a1, _, rfl, h1, a2, _, rfl, h2, a3, _, rfl, h3, a4, _, rfl, h4, a5, _, rfl, h5, a6, _, rfl, h6, a7, _, rfl, h7, a8, _, rfl, h8, rfl⟩ := fits_struct Tryz.underlying85 h0
  obtain ⟨na, A, rfl, _, hA, hrA⟩ := open_facts R _ _ h1
  obtain ⟨nb, B, rfl, _, hB, hrB⟩ := open_facts R _ _ h2
  obtain ⟨two, rfl⟩ := fit_bool h3
  obtain ⟨i0, i1, rfl⟩ := open_two R _ _ h4
  obtain ⟨nc, cs, rfl, hcf, hcl⟩ := open_exs R (by omega) _ _ h5
  obtain ⟨nd, du, rfl, hd⟩ := open_pers R _ _ h6
  obtain ⟨cols, rfl, _⟩ := fit_i64 Tryz.underlying3 h7
  obtain ⟨s3, rfl⟩ := fit_bool h8
  refine ⟨⟨na, A, nb, B, two, i0, i1, nc, cs, nd, du, cols, s3⟩, rfl, ?_⟩
  exact ⟨by show A.length ≤ _; omega, by show B.length ≤ _; omega, fun f hf => by have := (hrA f hf).1; omega, fun f hf => by have := (hrB f hf).1; omega, by show cs.length ≤ _; omega, by show du.length ≤ _; omega, (Ex.fits_iff cs).1 hcf⟩
set_option maxRecDepth 100000 in
theorem open_int3 (R n : Nat) (s : S) (h : FitsS Tryz.prog R n 3 s) : ∃ t : Int, s = .c (i64 t) := by
  unfold FitsS at h
  rw [Tryz.underlying3] at h
  obtain ⟨x, rfl, h2⟩ := h
  obtain ⟨t, e, _⟩ := fit_i64 Tryz.underlying3 h2
  cases e
  exact ⟨t, rfl⟩
end Go.Proofs.YtlphpbcafplnbaaGreat
