/- DmlApplies: raw changes are done, or refused; facts fit a table, or don't; the first that are alike at once are found. Over every argument whose bulk is at most 2^20. -/
import Derived.Test.YtkfiiomdkljjnaaD12
import Derived.Test.YtkfiiomdkljjnaaQS
import Derived.Test.YtkfiiomdkljjnaaDU
import Derived.HandedShaped
import Derived.JoinedCond
set_option linter.unusedSimpArgs false
set_option linter.unusedVariables false
namespace Go.Proofs.Ytkfiiomdkljjnaa
open Go.VL Go.RowKit

set_option maxRecDepth 100000 in
theorem own : ownKnob Try.prog.godebug = none := by kernel_rfl
set_option maxRecDepth 100000 in
theorem laid : laidOutB Try.prog = true := by kernel_rfl
set_option maxRecDepth 100000 in
theorem bytes34 : Try.prog.bytesOf 34 = 40 := by kernel_rfl
set_option maxRecDepth 100000 in
theorem bytes58 : Try.prog.bytesOf 58 = 32 := by kernel_rfl
set_option maxRecDepth 100000 in
theorem bytes3 : Try.prog.bytesOf 3 = 8 := by kernel_rfl
set_option maxRecDepth 100000 in
theorem open_str (R n : Nat) (xs : List C) (h : Fits Try.prog R (n + 1) 9 xs) : ∃ l : List UInt8, xs = [str l] ∧ l.length ≤ R := fits_string Try.underlying9 h
set_option maxRecDepth 100000 in
theorem open_per (R n : Nat) (xs : List C) (h : Fits Try.prog R (n + 2) 32 xs) : ∃ p : Per, xs = p.cells ∧ True := by
  obtain ⟨a1, _, rfl, h1, a2, _, rfl, h2, rfl⟩ := fits_struct Try.underlying32 h
  obtain ⟨f, rfl, _⟩ := fits_i64 Try.underlying2 h1
  obtain ⟨t, rfl, _⟩ := fits_i64 Try.underlying2 h2
  exact ⟨⟨f, t⟩, rfl, trivial⟩
set_option maxRecDepth 100000 in
theorem open_val (R n : Nat) (xs : List C) (h : Fits Try.prog R (n + 2) 58 xs) : ∃ v : Val, xs = v.cells ∧ True := by
  obtain ⟨a1, _, rfl, h1, a2, _, rfl, h2, a3, _, rfl, h3, rfl⟩ := fits_struct Try.underlying58 h
  obtain ⟨k, rfl, _⟩ := fits_i64 Try.underlying3 h1
  obtain ⟨i, rfl, _⟩ := fits_i64 Try.underlying2 h2
  obtain ⟨s, rfl, _⟩ := open_str R n _ h3
  exact ⟨⟨k, i, s⟩, rfl, trivial⟩
set_option maxRecDepth 100000 in
theorem open_fact (R n : Nat) (xs : List C) (h : Fits Try.prog R (n + 4) 34 xs) : ∃ f : Fact, xs = f.cells ∧ f.row.length * 32 ≤ R := by
  obtain ⟨a1, _, rfl, h1, a2, _, rfl, h2, rfl⟩ := fits_struct Try.underlying34 h
  obtain ⟨nl, ys, rfl, _, hl, hys⟩ := fits_slice Try.underlying30 h1
  obtain ⟨row, rfl, _⟩ := fits_list Val.cells (fun _ => True) (open_val R n) hys
  obtain ⟨p, rfl, _⟩ := open_per R (n + 1) _ h2
  rw [bytes58] at hl
  exact ⟨⟨nl, row, p⟩, rfl, by simpa using hl⟩
set_option maxRecDepth 100000 in
theorem open_facts (R n : Nat) (xs : List C) (h : Fits Try.prog R (n + 5) 22 xs) : ∃ (nl : Bool) (l : List Fact), xs = [.sl nl (facts l)] ∧ (nl = true → l = []) ∧ l.length * 40 ≤ R ∧ ∀ f ∈ l, f.row.length * 32 ≤ R := by
  obtain ⟨nl, ys, rfl, hn, hl, hys⟩ := fits_slice Try.underlying22 h
  obtain ⟨l, rfl, hq⟩ := fits_list Fact.cells (fun f => f.row.length * 32 ≤ R) (open_fact R n) hys
  rw [bytes34] at hl
  exact ⟨nl, l, rfl, fun e => by simpa using hn e, by simpa using hl, hq⟩
set_option maxRecDepth 100000 in
theorem open_ints (R n : Nat) (xs : List C) (h : Fits Try.prog R (n + 2) 23 xs) : ∃ (nl : Bool) (l : List Int), xs = [.sl nl (l.map icell)] ∧ (nl = true → l = []) ∧ l.length * 8 ≤ R := by
  obtain ⟨nl, ys, rfl, hn, hl, hys⟩ := fits_slice Try.underlying23 h
  obtain ⟨l, rfl, _⟩ := fits_list icell (fun _ => True) (fun y hy => by
    obtain ⟨k, rfl, _⟩ := fits_i64 Try.underlying3 hy
    exact ⟨k, rfl, trivial⟩) hys
  rw [bytes3] at hl
  exact ⟨nl, l, rfl, fun e => by simpa using hn e, by simpa using hl⟩
set_option maxRecDepth 100000 in
theorem open_col (R n : Nat) (xs : List C) (h : Fits Try.prog R (n + 2) 94 xs) : ∃ c : Col, xs = c.cells ∧ True := by
  obtain ⟨a1, _, rfl, h1, a2, _, rfl, h2, rfl⟩ := fits_struct Try.underlying94 h
  obtain ⟨s, rfl, _⟩ := open_str R n _ h1
  obtain ⟨k, rfl, _⟩ := fits_i64 Try.underlying3 h2
  exact ⟨⟨s, k⟩, rfl, trivial⟩
set_option maxRecDepth 100000 in
theorem open_tab (R n : Nat) (xs : List C) (h : Fits Try.prog R (n + 4) 29 xs) : ∃ t : Tab, xs = t.cells := by
  obtain ⟨a1, _, rfl, h1, a2, _, rfl, h2, a3, _, rfl, h3, a4, _, rfl, h4, a5, _, rfl, h5, rfl⟩ := fits_struct Try.underlying29 h
  obtain ⟨id, rfl, _⟩ := fits_i64 Try.underlying3 h1
  obtain ⟨name, rfl, _⟩ := open_str _ _ _ h2
  obtain ⟨nc, cols, rfl, _, _, hcols⟩ := fits_slice Try.underlying26 h3
  obtain ⟨cols, rfl, _⟩ := fits_list Col.cells (fun _ => True) (open_col R n) hcols
  obtain ⟨nk, keys, rfl, _, _, hkeys⟩ := fits_slice Try.underlying27 h4
  obtain ⟨keys, rfl, _⟩ := fits_list keyc (fun _ => True) (fun y hy => by
    obtain ⟨l, rfl, _⟩ := open_str R (n + 1) y hy
    exact ⟨l, rfl, trivial⟩) hkeys
  obtain ⟨ix, rfl⟩ := fits_bool Try.underlying4 h5
  exact ⟨⟨id, name, nc, cols, nk, keys, ix⟩, rfl⟩
set_option maxRecDepth 100000 in
/-- a list of facts, as an argument -/
theorem open_facts1 (R : Nat) (s : S) (h : FitsS Try.prog R 8 22 s) : ∃ (nl : Bool) (l : List Fact), s = .c (.sl nl (facts l)) ∧ (nl = true → l = []) ∧ l.length * 40 ≤ R ∧ ∀ f ∈ l, f.row.length * 32 ≤ R := by
  unfold FitsS at h
  rw [Try.underlying22] at h
  obtain ⟨x, rfl, h2⟩ := h
  obtain ⟨nl, l, e, h3⟩ := open_facts R 3 _ h2
  cases e
  exact ⟨nl, l, rfl, h3⟩
set_option maxRecDepth 100000 in
theorem open_change (R : Nat) (s : S) (h : FitsS Try.prog R 8 25 s) : ∃ (ne nd : Bool) (e : List Int) (l : List Fact), s = .agg [.sl ne (e.map icell), .sl nd (facts l)] ∧ (nd = true → l = []) ∧ e.length * 8 ≤ R ∧ l.length * 40 ≤ R ∧ ∀ f ∈ l, f.row.length * 32 ≤ R := by
  obtain ⟨xs, rfl, h0⟩ := FitsS.struct Try.underlying25 h
  obtain ⟨a1, _, rfl, h1, a2, _, rfl, h2, rfl⟩ := fits_struct Try.underlying25 h0
  obtain ⟨ne, e, rfl, _, he⟩ := open_ints R _ _ h1
  obtain ⟨nd, l, rfl, hn, hl, hr⟩ := open_facts R 2 _ h2
  exact ⟨ne, nd, e, l, rfl, hn, he, hl, hr⟩
set_option maxRecDepth 100000 in
theorem open_fit (R : Nat) (s : S) (h : FitsS Try.prog R 8 36 s) : ∃ (t : Tab) (f : Fact) (nk : Bool) (keys : List Int), s = .agg (fitCells t f nk keys) ∧ f.row.length * 32 ≤ R ∧ keys.length * 8 ≤ R := by
  obtain ⟨xs, rfl, h0⟩ := FitsS.struct Try.underlying36 h
  obtain ⟨a1, _, rfl, h1, a2, _, rfl, h2, a3, _, rfl, h3, rfl⟩ := fits_struct Try.underlying36 h0
  obtain ⟨t, rfl⟩ := open_tab R 3 _ h1
  obtain ⟨f, rfl, hf⟩ := open_fact R 3 _ h2
  obtain ⟨nk, keys, rfl, _, hk⟩ := open_ints R _ _ h3
  exact ⟨t, f, nk, keys, rfl, hf, hk⟩

set_option maxRecDepth 100000 in
theorem applies_con (ss : List S) (h : FitsAll Try.prog 4294967296 8 [22, 25, 36] ss) : Con Try.prog 3 ss [.c (.v (.bool true))] := by
  obtain ⟨s1, _, rfl, h1, s2, _, rfl, h2, s3, _, rfl, h3, rfl⟩ := h
  obtain ⟨nl, l, rfl, hn, hl, hr⟩ := open_facts1 _ s1 h1
  obtain ⟨ne, nd, e, d, rfl, hnd, he, hd, hr2⟩ := open_change _ s2 h2
  obtain ⟨t, f, nk, keys, rfl, hf, hk⟩ := open_fit _ s3 h3
  exact applies_spec sorts_ok nl ne nd nk l e d t f keys (by omega) (fun f hf => by have := hr f hf; omega) (by omega) (by omega) (fun f hf => by have := hr2 f hf; omega) hnd (by omega) (by omega)

set_option maxRecDepth 100000 in
theorem applies_lifted (os : Os) (started : os.Started) (H : Type) (enc : TypeId × Value → H) (F : Stop.Interp) :
    ReturnsInHanded {} Try.checked os 3 .any ((Rows.OpenSpec.upto Rows.dmlAppliesSpec).pre6 enc Try.prog Try.f3 Rows.dmlAppliesUptoRow.domain false) (((Rows.OpenSpec.upto Rows.dmlAppliesSpec).at F).post enc Try.prog Try.f3 false true false false) := by
  refine returnsInHanded_of_cond (C := Try.checked) (s := Rows.OpenSpec.upto Rows.dmlAppliesSpec) (k := Rows.uptoSmall) rfl own started (by kernel_rfl) Try.func3
    (OpenSpec.witness (enc := enc) (C := Try.checked) (s := Rows.OpenSpec.upto Rows.dmlAppliesSpec) (k := Rows.uptoSmall) rfl false ⟨#[], #[.slice none 0 0, .agg #[.slice none 0 0, .slice none 0 0], .agg #[.int .i64 0, .string ⟨#[]⟩, .slice none 0 0, .slice none 0 0, .bool false, .slice none 0 0, .int .i64 0, .int .i64 0, .slice none 0 0]], []⟩ 8 (by kernel_rfl) (by kernel_rfl) (by kernel_rfl)
      (x := ([.nil, .agg [.nil, .nil], .agg [.agg [.lit (.int .i64 0), .lit (.string []), .nil, .nil, .lit (.bool false)], .agg [.nil, .agg [.lit (.int .i64 0), .lit (.int .i64 0)]], .nil]], [], [])) (by kernel_rfl) rfl (by kernel_rfl)) ?_
  intro W base args ds gs before hval hW _ hk _
  exact law_calls 8 laid (by kernel_rfl) rfl (fun ds hds => by
    match ds, hds with
    | [_, _, _], _ => rfl) rfl Try.underlying4 (fun ss h _ => applies_con ss h) hval hW (upto_weights 8 (by kernel_rfl) hk)

set_option maxRecDepth 100000 in
theorem applies_holds : Rows.DmlAppliesUptoSaid :=
  OpenClaim.holds_of_cond 3 Try.f3 rfl rfl rfl rfl rfl rfl rfl ⟨rfl, rfl, rfl, rfl, rfl⟩ rfl rfl rfl rfl rfl (by kernel_rfl) Try.func3 (by kernel_rfl)
    (of_decide_eq_true (by kernel_rfl)) (by unfold Func.isWrapper; first | (rw [if_pos (by decide +kernel)]; kernel_rfl) | (rw [if_neg (by decide +kernel)]; exact ⟨rfl, rfl⟩))
    (fun os started H enc _ F => applies_lifted os started H enc F)
end Go.Proofs.Ytkfiiomdkljjnaa
