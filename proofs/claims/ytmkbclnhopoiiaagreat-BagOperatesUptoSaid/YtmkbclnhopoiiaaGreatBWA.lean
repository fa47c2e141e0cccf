/- Contracts: math/bits.Add64; the exact sum of a column at an instant. -/
import Derived.Test.YtmkbclnhopoiiaaGreatBSA
import Derived.Laws.Externs
import Derived.Test.YtmkbclnhopoiiaaGreatBQA
set_option linter.unusedSimpArgs false
set_option linter.unusedVariables false
namespace Go.Proofs.YtmkbclnhopoiiaaGreat
open Go.VL Go.RowKit

theorem con_two {P : Program} {f : FuncId} {args : List S} {x y : Value} (hx : x.oneCell' = true) (hy : y.oneCell' = true) (h : ∀ (w : World) (K : Nat → Nat → Prop) (us : List Value), DRs K w args us → (callFunc f us.toArray).run P w = .ok (.value (.tuple #[x, y])) w) : Con P f args [.c (.v x), .c (.v y)] := by
  refine fun w K us hK hd => .inr ⟨_, _, h w K us hd, [x, y], rfl, BelowD.refl _ _, K, fun _ _ h => h, fun _ _ h _ => h, hK, rfl, fun k r v hr hv => ?_, fun j k r r' v v' hne hr hr' _ _ h1 _ => ?_⟩
  · match k with
    | 0 =>
      simp at hr hv
      subst hr hv
      rw [RtR, CR]; exact ⟨rfl, hx⟩
    | 1 =>
      simp at hr hv
      subst hr hv
      rw [RtR, CR]; exact ⟨rfl, hy⟩
    | k + 2 => simp at hr
  · match j with
    | 0 => simp at hr; subst hr; simp [isFr] at h1
    | 1 => simp at hr; subst hr; simp [isFr] at h1
    | j + 2 => simp at hr

theorem add64_spec (x y : Int) (hx : 0 ≤ x) (hy : 0 ≤ y) : Con Tryz.prog 61 [.c (u64 x), .c (u64 y), .c (u64 0)] [.c (u64 ((x + y) % 18446744073709551616)), .c (u64 ((x + y) / 18446744073709551616))] := by
  refine con_two rfl rfl fun w K us hd => ?_
  unfold DRs at hd
  rw [SRs] at hd
  obtain ⟨u, us', rfl, hu, hd⟩ := hd
  rw [SRs] at hd
  obtain ⟨u2, us'', rfl, hu2, hd⟩ := hd
  rw [SRs] at hd
  obtain ⟨u3, us3, rfl, hu3, hd⟩ := hd
  rw [SRs] at hd
  subst hd
  rw [SR, CR] at hu hu2 hu3
  obtain ⟨rfl, _⟩ := hu
  obtain ⟨rfl, _⟩ := hu2
  obtain ⟨rfl, _⟩ := hu3
  show (callFunc 61 #[.int .u64 x, .int .u64 y, .int .u64 0]).run Tryz.prog w = _
  rw [run_callFunc_extern Tryz.func61 (by kernel_rfl) (by kernel_rfl) (by kernel_rfl) (e := add64Entry) (by kernel_rfl), run_add64 x y 0 hx hy (by decide) (by decide), Int.add_zero]
  rfl

/-! ### A column's sum at an instant -/
def colV (c : Nat) (f : Fact) : Int := (f.row[c]!).int
def sumT (c : Nat) (t : Int) : List Fact → Int
  | [] => 0
  | f :: l => (if validAt f t then colV c f else 0) + sumT c t l
theorem sumT_append (c : Nat) (t : Int) (m : List Fact) : ∀ l, sumT c t (l ++ m) = sumT c t l + sumT c t m
  | [] => by simp [sumT]
  | f :: l => by rw [List.cons_append, sumT, sumT, sumT_append c t m l]; omega
theorem sumT_snoc (c : Nat) (t : Int) (l : List Fact) {k : Nat} (h : k < l.length) : sumT c t (l.take (k + 1)) = sumT c t (l.take k) + if validAt l[k] t then colV c l[k] else 0 := by
  rw [take_snoc h, sumT_append]; simp [sumT]
def i64Ok (n : Int) : Prop := -9223372036854775808 ≤ n ∧ n ≤ 9223372036854775807
instance (n : Int) : Decidable (i64Ok n) := by unfold i64Ok; infer_instance
theorem sumT_bound (c : Nat) (t : Int) : ∀ (l : List Fact), (∀ f ∈ l, i64Ok (colV c f)) → -9223372036854775808 * (l.length : Int) ≤ sumT c t l ∧ sumT c t l ≤ 9223372036854775808 * (l.length : Int)
  | [], _ => by simp [sumT]
  | f :: l, h => by
    have ih := sumT_bound c t l fun g hg => h g (by simp [hg])
    have hf := h f (by simp)
    unfold i64Ok at hf
    rw [sumT, List.length_cons]
    split <;> omega
def lowI (S : Int) : Int := S % 18446744073709551616
def highI (S : Int) : Int := S / 18446744073709551616 % 18446744073709551616

theorem u64_wrap (n : Int) : IntKind.u64.wrap n = n % 18446744073709551616 := by rw [IntKind.wrap_u64]
theorem sh63 (n : Int) : n.fdiv (2 ^ min 63 IntKind.i64.bits) = n / 9223372036854775808 := by
  have : (2 : Int) ^ min 63 IntKind.i64.bits = 9223372036854775808 := by decide
  rw [this, Int.fdiv_eq_ediv_of_nonneg _ (by decide)]
theorem low_step (S n : Int) : (lowI S + IntKind.u64.wrap n) % 18446744073709551616 = lowI (S + n) := by rw [u64_wrap]; unfold lowI; omega
theorem high_step (S n : Int) (hn : i64Ok n) : IntKind.u64.wrap (highI S + IntKind.u64.wrap (IntKind.u64.wrap (n.fdiv (2 ^ min 63 IntKind.i64.bits)) + (lowI S + IntKind.u64.wrap n) / 18446744073709551616)) = highI (S + n) := by
  rw [sh63, u64_wrap, u64_wrap, u64_wrap, u64_wrap]
  unfold lowI highI
  unfold i64Ok at hn
  have h1 : n / 9223372036854775808 = if 0 ≤ n then 0 else -1 := by split <;> omega
  have h2 : n % 18446744073709551616 = if 0 ≤ n then n else n + 18446744073709551616 := by split <;> omega
  rw [h1, h2]
  split <;> omega
theorem fits_eq (S : Int) (hS : -9223372036854775808 * 4000000000000 ≤ S ∧ S ≤ 9223372036854775808 * 4000000000000) : (highI S == (IntKind.i64.wrap (lowI S) / 9223372036854775808) % 18446744073709551616) = decide (i64Ok S) := by
  have e1 : IntKind.i64.wrap (lowI S) = if lowI S < 9223372036854775808 then lowI S else lowI S - 18446744073709551616 := by
    rw [IntKind.wrap_i64]; unfold lowI; split <;> omega
  have e2 : (IntKind.i64.wrap (lowI S) / 9223372036854775808) % 18446744073709551616 = if lowI S < 9223372036854775808 then 0 else 18446744073709551615 := by
    rw [e1]; unfold lowI; split <;> omega
  have e3 : highI S = if 0 ≤ S / 18446744073709551616 then S / 18446744073709551616 else S / 18446744073709551616 + 18446744073709551616 := by
    unfold highI; split <;> omega
  have e4 : S = 18446744073709551616 * (S / 18446744073709551616) + lowI S := by unfold lowI; omega
  have e5 : 0 ≤ lowI S ∧ lowI S < 18446744073709551616 := by unfold lowI; omega
  have e6 : -2000000000001 ≤ S / 18446744073709551616 ∧ S / 18446744073709551616 ≤ 2000000000001 := by omega
  rw [e2, e3]
  rw [Bool.eq_iff_iff, beq_iff_eq, decide_eq_true_eq]
  unfold i64Ok
  generalize S / 18446744073709551616 = q at *
  generalize lowI S = r at *
  split <;> split <;> omega
theorem wrap_low (S : Int) (h : i64Ok S) : IntKind.i64.wrap (lowI S) = S := by
  rw [IntKind.wrap_i64]
  unfold lowI
  unfold i64Ok at h
  omega

set_option maxRecDepth 4000 in
set_option maxHeartbeats 16000000 in
theorem total_spec (nl : Bool) (l : List Fact) (c : Nat) (t : Int) (hl : l.length ≤ 4000000000000) (hc : ∀ f ∈ l, c < f.row.length) (hn : ∀ f ∈ l, i64Ok (colV c f)) :
    Con Tryz.prog 33 [.c (.sl nl (facts l)), .c (i64 c), .c (i64 t)] [.c (i64 (IntKind.i64.wrap (lowI (sumT c t l)))), .c (bln (decide (i64Ok (sumT c t l))))] := by
  refine spec_of Tryz.func33 rfl (by kernel_rfl) (by simp [Tryz.f33]) (fun w0 K0 => vc_ok _ _ _ (by kernel_rfl) ?_)
  simp only [Tryz.f33]
  simp -dsimp
  refine VL.loop (fun k : Nat => ⟨[(16, .c (i64 k)), (15, .c (i64 l.length)), (14, .c (.sl nl (facts l))), (8, .c (u64 (lowI (sumT c t (l.take k))))), (9, .c (u64 (highI (sumT c t (l.take k))))), (1, .c (i64 c)), (2, .c (i64 t))], []⟩)
    (fun k => k ≤ l.length) (fun k => l.length - k) 0 (by kernel_rfl) (by simp) (by simp [St.le, sumT, lowI, highI]) ?_
  intro k hk
  by_cases h1 : k < l.length
  · have hw : IntKind.i64.wrap ((k : Int) + 1) = (k : Int) + 1 := IntWalk.i64_in _ (by omega)
    have hsn := sumT_snoc c t l h1
    have hcf := hc _ (List.getElem_mem h1)
    have hnf := hn _ (List.getElem_mem h1)
    simp -dsimp [h1, Fact.cells]
    generalize l[k] = f at *
    refine VC.mk _ (check_at _ f.p rfl) ?_
    simp -dsimp
    refine VG.mk [.c (bln (has f.p t))] _ (fun _ => has_at _ f.p t rfl) rfl ?_
    have hva : validAt f t = (right f.p && has f.p t) := rfl
    simp -dsimp
    refine VIf.mk (fun h => ?_) (fun h => ?_)
    · have h' : validAt f t = false := by
        rw [hva]
        by_cases hr : right f.p = true
        · have e0 : checkOf f.p = 0 := (checkOf_ok f.p).2 hr
          rw [e0] at h
          rw [hr]; simpa using h
        · simp [hr]
      rw [h', if_neg (by simp), Int.add_zero] at hsn
      simp -dsimp [hw]
      refine ⟨k + 1, by omega, ?_, by omega⟩
      simp [St.le, hsn]
    · have h' : validAt f t = true := by
        rw [hva]
        by_cases hr : right f.p = true
        · have e0 : checkOf f.p = 0 := (checkOf_ok f.p).2 hr
          rw [e0] at h
          rw [hr]; simpa using h
        · exfalso
          have e0 : ¬ checkOf f.p = 0 := fun e => hr ((checkOf_ok f.p).1 e)
          simp [e0] at h
      rw [h', if_pos rfl] at hsn
      unfold colV at hnf hsn
      rw [getElem!_pos f.row c hcf] at hnf hsn
      simp -dsimp [hcf, Val.cells]
      have hl0 : 0 ≤ lowI (sumT c t (l.take k)) := Int.emod_nonneg _ (by decide)
      have hu0 : 0 ≤ IntKind.u64.wrap f.row[c].int := by rw [u64_wrap]; exact Int.emod_nonneg _ (by decide)
      refine VC.mk _ (add64_spec _ _ hl0 hu0) ?_
      simp -dsimp [hw]
      refine ⟨k + 1, by omega, ?_, by omega⟩
      simp [St.le, hsn]
      exact ⟨low_step _ _, high_step _ _ hnf⟩
  · obtain rfl : k = l.length := by omega
    rw [List.take_length]
    simp -dsimp [sh63, u64_wrap]
    have hb := sumT_bound c t l hn
    exact fits_eq _ (by omega)
end Go.Proofs.YtmkbclnhopoiiaaGreat
/- Contract: Sum. -/
set_option linter.unusedSimpArgs false
set_option linter.unusedVariables false
namespace Go.Proofs.YtmkbclnhopoiiaaGreat
open Go.VL Go.RowKit

def colE (c : Int) (f : Fact) : Int := if colIn f.row.length c then (if (f.row[c.toNat]!).kind = 1 then 0 else 170) else 161
def sumE (c : Int) : List Fact → Int
  | [] => 0
  | f :: l => if colE c f = 0 then sumE c l else colE c f
theorem sumE_append (c : Int) (m : List Fact) : ∀ l, sumE c (l ++ m) = if sumE c l = 0 then sumE c m else sumE c l
  | [] => by simp [sumE]
  | f :: l => by
    rw [List.cons_append, sumE, sumE, sumE_append c m l]
    by_cases h : colE c f = 0
    · rw [if_pos h, if_pos h]
    · rw [if_neg h, if_neg h, if_neg h]
theorem sumE_snoc (c : Int) (l : List Fact) {k : Nat} (h : k < l.length) (h0 : sumE c (l.take k) = 0) : sumE c (l.take (k + 1)) = colE c l[k] := by
  rw [take_snoc h, sumE_append, if_pos h0]
  simp only [sumE]
  split
  · rename_i e; exact e.symm
  · rfl
theorem sumE_stop (c : Int) (l : List Fact) {k : Nat} (h : k < l.length) (h0 : sumE c (l.take k) = 0) (h1 : colE c l[k] ≠ 0) : sumE c l = colE c l[k] := by
  have := sumE_snoc c l h h0
  conv => lhs; rw [← List.take_append_drop (k + 1) l]
  rw [sumE_append, this, if_neg h1]
theorem sumE_zero (c : Int) : ∀ (l : List Fact), sumE c l = 0 → ∀ f ∈ l, colE c f = 0
  | [], _, f, hf => by simp at hf
  | g :: l, h, f, hf => by
    rw [sumE] at h
    split at h
    · rename_i hg
      rcases List.mem_cons.1 hf with rfl | hf
      · exact hg
      · exact sumE_zero c l h f hf
    · rename_i hg; exact absurd h hg
theorem colE_in {c : Int} {f : Fact} (h : colE c f = 0) : 0 ≤ c ∧ c < f.row.length := by
  unfold colE at h
  split at h
  · rename_i h1
    unfold colIn at h1
    rw [Bool.not_eq_true', Bool.or_eq_false_iff, decide_eq_false_iff_not, decide_eq_false_iff_not] at h1
    omega
  · omega
def sumF (c : Nat) (l : List Fact) (s : Per × Int) : Fact := ⟨false, num (sumT c s.1.f l), s.1⟩
def sumS (c : Nat) (l : List Fact) (st : List (Per × Int)) : List Fact := (st.filter fun s => decide (s.2 ≠ 0)).map (sumF c l)
def sumOk (c : Nat) (l : List Fact) (st : List (Per × Int)) : Bool := st.all fun s => decide (s.2 = 0) || decide (i64Ok (sumT c s.1.f l))
theorem sumS_snoc (c : Nat) (l : List Fact) (st : List (Per × Int)) {k : Nat} (h : k < st.length) : sumS c l (st.take (k + 1)) = sumS c l (st.take k) ++ if st[k].2 = 0 then [] else [sumF c l st[k]] := by
  unfold sumS
  rw [take_snoc h, List.filter_append, List.map_append]
  by_cases e : st[k].2 = 0 <;> simp [e]
theorem sumS_len (c : Nat) (l : List Fact) (st : List (Per × Int)) : (sumS c l st).length ≤ st.length := by unfold sumS; rw [List.length_map]; exact List.length_filter_le _ _
theorem sumOk_snoc (c : Nat) (l : List Fact) (st : List (Per × Int)) {k : Nat} (h : k < st.length) : sumOk c l (st.take (k + 1)) = (sumOk c l (st.take k) && (decide (st[k].2 = 0) || decide (i64Ok (sumT c st[k].1.f l)))) := by
  unfold sumOk; rw [take_snoc h, List.all_append]; simp
theorem sumOk_not (c : Nat) (l : List Fact) (st : List (Per × Int)) {k : Nat} (h : k < st.length) (h1 : st[k].2 ≠ 0) (h2 : ¬ i64Ok (sumT c st[k].1.f l)) : sumOk c l st = false := by
  unfold sumOk
  rw [List.all_eq_false]
  exact ⟨st[k], List.getElem_mem h, by simp [h1, h2]⟩
def sumX (c : Nat) (l : List Fact) : List Fact := sumS c l (stepsL (perR l) [])
def sumL (sortP : List Per → List Per) (c : Nat) (l : List Fact) : List Fact := normalL sortP (sumX c l)
def sumGood (c : Nat) (l : List Fact) : Bool := sumOk c l (stepsL (perR l) [])
theorem sumX_len (c : Nat) (l : List Fact) : (sumX c l).length ≤ 2 * l.length := by
  have h1 := sumS_len c l (stepsL (perR l) [])
  have h2 := stepsL_len (perR l) []
  have h3 := edgesL_len (perR l ++ [])
  have h4 := rightL_len l
  rw [List.append_nil] at h2 h3
  have h5 : (perR l).length = (rightL l).length := List.length_map ..
  unfold sumX
  omega
theorem sumX_rows (c : Nat) (l : List Fact) : Rows1 (sumX c l) := fun f hf => by
  obtain ⟨s, _, rfl⟩ := List.mem_map.1 hf
  show 1 ≤ _
  omega
theorem step_full (l : List Fact) {s : Per × Int} (h : s ∈ stepsL (perR l) []) (h0 : ¬ s.2 = 0) : ∃ f, f ∈ l := by
  match l, h with
  | [], h =>
    exfalso
    have e : stepsL (perR []) [] = [] := List.eq_nil_of_length_eq_zero (by
      have h2 := stepsL_len (perR []) []
      have h3 := edgesL_len (perR [] ++ [])
      have h4 : (perR []).length = 0 := by
        have := rightL_len []
        show ((rightL []).map Fact.p).length = 0
        rw [List.length_map]; simpa using this
      rw [List.append_nil] at h2 h3
      omega)
    rw [e] at h; simp at h
  | f :: l, _ => exact ⟨f, by simp⟩
/-- values that a machine can hold -/
def Vals64 (l : List Fact) : Prop := ∀ f ∈ l, ∀ v ∈ f.row, i64Ok v.int
theorem total_at (nl : Bool) (xs : List (List C)) (cc : Int) (l : List Fact) (c : Nat) (t : Int) (hx : xs = facts l) (hcc : cc = c) (hl : l.length ≤ 4000000000000) (hc : ∀ f ∈ l, c < f.row.length) (hn : ∀ f ∈ l, i64Ok (colV c f)) :
    Con Tryz.prog 33 [.c (.sl nl xs), .c (i64 cc), .c (i64 t)] [.c (i64 (IntKind.i64.wrap (lowI (sumT c t l)))), .c (bln (decide (i64Ok (sumT c t l))))] := by rw [hx, hcc]; exact total_spec nl l c t hl hc hn

set_option maxRecDepth 4000 in
set_option maxHeartbeats 16000000 in
theorem sum_spec0 {sortP : List Per → List Per} (hs : Sorts sortP) (hi : SortsI) (hf : SortsF) (nl : Bool) (l : List Fact) (c : Int) (hl : l.length ≤ 1500000000000) (hr : Rows1 l) (hv : Vals64 l) :
    Con Tryz.prog 9 [.c (.sl nl (facts l)), .c (i64 c)] (if sumE c l = 0 ∧ sumGood c.toNat l = true then [.c (.sl (sumL sortP c.toNat l).isEmpty (facts (sumL sortP c.toNat l))), .c (i64 0)] else [.fr true 0 [] 0, .c (i64 (if sumE c l = 0 then 171 else sumE c l))]) := by
  refine spec_of Tryz.func9 rfl (by kernel_rfl) (by simp [Tryz.f9]) (fun w0 K0 => vc_ok _ _ _ (by kernel_rfl) ?_)
  simp only [Tryz.f9]
  simp -dsimp
  refine VL.loop (fun k : Nat => ⟨[(15, .c (i64 k)), (14, .c (i64 l.length)), (13, .c (.sl nl (facts l))), (0, .c (.sl nl (facts l))), (1, .c (i64 c))], []⟩)
    (fun k => k ≤ l.length ∧ sumE c (l.take k) = 0) (fun k => l.length - k) 0 (by kernel_rfl) ⟨by simp, rfl⟩ (by simp [St.le]) ?_
  intro k ⟨hk, h0⟩
  by_cases h1 : k < l.length
  · have hw : IntKind.i64.wrap ((k : Int) + 1) = (k : Int) + 1 := IntWalk.i64_in _ (by omega)
    have hsn := sumE_snoc c l h1 h0
    have hst := sumE_stop c l h1 h0
    simp -dsimp [h1, Fact.cells]
    generalize l[k] = f at *
    refine VIf.mk (fun h => ?_) (fun h => ?_)
    · have e1 : colE c f = 161 := by
        unfold colE colIn
        rw [h]; rfl
      rw [e1] at hst
      have e2 : sumE c l = 161 := hst (by decide)
      simp -dsimp [e2]
    · have hci : colIn f.row.length c = true := by unfold colIn; rw [h]; rfl
      rw [Bool.or_eq_false_iff, decide_eq_false_iff_not, decide_eq_false_iff_not] at h
      have h2 : c.toNat < f.row.length := by omega
      have h3 : (c < f.row.length) = True := by simp; omega
      have h4 : (0 ≤ c) = True := by simp; omega
      have eE : colE c f = if f.row[c.toNat].kind = 1 then 0 else 170 := by unfold colE; rw [if_pos hci, getElem!_pos f.row c.toNat h2]
      simp -dsimp [h2, h3, h4, Val.cells]
      refine VIf.mk (fun h => ?_) (fun h => ?_)
      · have hk1 : ¬ f.row[c.toNat].kind = 1 := by simpa using h
        rw [if_neg hk1] at eE
        rw [eE] at hst
        have e2 : sumE c l = 170 := hst (by decide)
        simp -dsimp [e2]
      · have hk1 : f.row[c.toNat].kind = 1 := by simpa using h
        rw [if_pos hk1] at eE
        rw [eE] at hsn
        simp -dsimp [hw]
        refine ⟨k + 1, ⟨by omega, hsn⟩, ?_, by omega⟩
        simp [St.le]
  · obtain rfl : k = l.length := by omega
    rw [List.take_length] at h0
    have hin : ∀ f ∈ l, 0 ≤ c ∧ c < f.row.length := fun f hf => colE_in (sumE_zero c l h0 f hf)
    have hp := periods_spec hf nl l (by omega) hr
    have hrl := rightL_len l
    have hpl : (perR l).length = (rightL l).length := List.length_map ..
    have hst := steps_spec hi (perR l).isEmpty true (perR l) [] (by simp) (by simp) (by omega) (by simp)
    have hsl := stepsL_len (perR l) []
    have hel := edgesL_len (perR l ++ [])
    rw [List.append_nil] at hsl hel
    have hcr := sumX_rows c.toNat l
    have hcl := sumX_len c.toNat l
    have hno := fun z => normal_con hs hi hf false z _ (sumX c.toNat l) rfl (by omega) hcr
    have hmem := fun s (h : s ∈ stepsL (perR l) []) => step_full l h
    unfold sumL sumGood
    unfold sumX at *
    rw [h0]
    generalize stepsL (perR l) [] = st at *
    generalize perR l = ps at *
    simp -dsimp
    refine VC.mk _ hp ?_
    simp -dsimp
    refine VC.mk _ hst ?_
    simp -dsimp
    refine VL.loop (fun i : KI => ⟨[(42, .c (i64 i.k)), (41, .c (i64 st.length)), (40, .c (.sl st.isEmpty (stepCs st))), (8, .own 512 (sumS c.toNat l (st.take i.k)).length), (0, .c (.sl nl (facts l))), (1, .c (i64 c))], [(512, some (.arr i.nl i.sz (facts (sumS c.toNat l (st.take i.k))) 0))]⟩)
      (fun i => i.k ≤ st.length ∧ sumOk c.toNat l (st.take i.k) = true ∧ i.nl = (sumS c.toNat l (st.take i.k)).isEmpty ∧ i.sz = if i.nl then 0 else 3) (fun i => st.length - i.k) ⟨0, true, 0⟩ (by kernel_rfl) ⟨by simp, rfl, rfl, rfl⟩ (by simp [St.le, sumS]) ?_
    intro ⟨k, z, sz⟩ ⟨hk, hok, hz, hsz⟩
    simp only at hk hok hz hsz
    have hck := sumS_len c.toNat l (st.take k)
    rw [List.length_take] at hck
    by_cases h1 : k < st.length
    · have hw : IntKind.i64.wrap ((k : Int) + 1) = (k : Int) + 1 := IntWalk.i64_in _ (by omega)
      have hsn := sumS_snoc c.toNat l st h1
      have hon := sumOk_snoc c.toNat l st h1
      have hbad := sumOk_not c.toNat l st h1
      have hm := hmem _ (List.getElem_mem h1)
      simp -dsimp [h1, stepC]
      generalize st[k] = s at *
      refine VIf.mk (fun h => ?_) (fun h => ?_)
      · have e0 : s.2 = 0 := by simpa using h
        rw [if_pos e0, List.append_nil] at hsn
        rw [hok, Bool.true_and, decide_eq_true e0, Bool.true_or] at hon
        simp -dsimp [hw]
        refine ⟨⟨k + 1, z, sz⟩, ⟨by simp only; omega, hon, by rw [hsn]; exact hz, hsz⟩, ?_, by simp only; omega⟩
        simp [St.le, hsn]
      · have e0 : ¬ s.2 = 0 := by simpa using h
        have hne := hm e0
        have hc0 : (c.toNat : Int) = c := by
          obtain ⟨f, hf⟩ := hne
          have := hin f hf; omega
        have hci : ∀ f ∈ l, c.toNat < f.row.length := fun f hf => by have := hin f hf; omega
        rw [if_neg e0] at hsn
        rw [hok, Bool.true_and, decide_eq_false e0, Bool.false_or] at hon
        simp -dsimp
        refine VC.mk _ (total_at nl _ c l c.toNat s.1.f rfl hc0.symm (by omega) hci (fun f hf => by
          unfold colV
          rw [getElem!_pos f.row c.toNat (hci f hf)]
          exact hv f hf _ (List.getElem_mem _))) ?_
        simp -dsimp
        refine VIf.mk (fun h => ?_) (fun h => ?_)
        · have hb : ¬ i64Ok (sumT c.toNat s.1.f l) := by simpa using h
          have e2 := hbad e0 hb
          simp -dsimp [e2]
        · have hb : i64Ok (sumT c.toNat s.1.f l) := by simpa using h
          rw [decide_eq_true hb] at hon
          rw [wrap_low _ hb]
          simp -dsimp [hw, maxLen]
          refine ⟨fun e => by rw [hsz, e]; rfl, by omega, ⟨k + 1, false, 3⟩, ⟨by simp only; omega, hon, by rw [hsn]; simp, rfl⟩, ?_, by simp only; omega⟩
          simp [St.le, hsn, sumF, num, Fact.cells, Val.cells]
    · obtain rfl : k = st.length := by omega
      rw [List.take_length] at *
      generalize sumS c.toNat l st = cs at *
      generalize normalL sortP cs = d at *
      simp -dsimp [hok]
      refine ⟨by decide, VCL.snap ?_⟩
      simp -dsimp
      refine VC.mk _ (hno z) ?_
      simp -dsimp [hok]

theorem sum_spec {sortP : List Per → List Per} (hs : Sorts sortP) (hi : SortsI) (hf : SortsF) (nl : Bool) (l : List Fact) (c : Int) (hl : l.length ≤ 1500000000000) (hr : Rows1 l) (hv : Vals64 l) :
    Con Tryz.prog 9 [.c (.sl nl (facts l)), .c (i64 c)] (if sumE c l = 0 ∧ sumGood c.toNat l = true then [.c (.sl (sumL sortP c.toNat l).isEmpty (facts (sumL sortP c.toNat l))), .c (i64 0)] else [.c (.sl true []), .c (i64 (if sumE c l = 0 then 171 else sumE c l))]) := by
  have h := sum_spec0 hs hi hf nl l c hl hr hv
  by_cases hp : sumE c l = 0 ∧ sumGood c.toNat l = true
  · rw [if_pos hp] at h ⊢; exact h
  · rw [if_neg hp] at h ⊢; exact h.frz 0 rfl
end Go.Proofs.YtmkbclnhopoiiaaGreat
/- Plain law: a sum at an instant; a count is the sum of ones; sums of two lists. -/
set_option linter.unusedSimpArgs false
set_option linter.unusedVariables false
namespace Go.Proofs.YtmkbclnhopoiiaaGreat
open Go.VL Go.RowKit

theorem perR_mem {l : List Fact} {f : Fact} (hf : f ∈ l) (hr : right f.p = true) : f.p ∈ perR l :=
  List.mem_map.2 ⟨norm f, rightL_mem.2 ⟨f, hf, hr, rfl⟩, rfl⟩
theorem sumT_same (c : Nat) (t t' : Int) : ∀ (l : List Fact), (∀ f ∈ l, validAt f t = validAt f t') → sumT c t l = sumT c t' l
  | [], _ => rfl
  | f :: l, h => by rw [sumT, sumT, h f (by simp), sumT_same c t t' l fun g hg => h g (by simp [hg])]
theorem sumT_between (c : Nat) (l : List Fact) {i : Nat} (hi : i + 1 < (edgesL (perR l)).length) {t : Int} (h1 : (edgesL (perR l))[i]! ≤ t) (h2 : t < (edgesL (perR l))[i + 1]!) : sumT c (edgesL (perR l))[i]! l = sumT c t l :=
  sumT_same c _ _ l fun f hf => by
    unfold validAt
    by_cases hr : right f.p = true
    · rw [has_between (perR_mem hf hr) hr hi h1 h2]
    · simp only [Bool.not_eq_true] at hr
      rw [hr]; rfl
theorem sumX_eq (c : Nat) (l : List Fact) : sumX c l = cellF (edgesL (perR l)) (fun i => if 0 < cntP (perR l) (edgesL (perR l))[i]! then some (num (sumT c (edgesL (perR l))[i]! l)) else none) ((edgesL (perR l)).length - 1) := by
  unfold sumX sumS stepsL cellF
  rw [List.append_nil]
  generalize edgesL (perR l) = E
  generalize List.range (E.length - 1) = is
  induction is with
  | nil => rfl
  | cons i is ih =>
    rw [List.map_cons, List.filter_cons, List.flatMap_cons, ← ih]
    have e0 : (cntP [] E[i]! : Int) = 0 := rfl
    simp only [e0, Int.sub_zero]
    by_cases h : 0 < cntP (perR l) E[i]!
    · have h' : ((cntP (perR l) E[i]! : Nat) : Int) ≠ 0 := by omega
      rw [if_pos (by simpa using h'), if_pos h, List.map_cons]
      rfl
    · have h' : ¬ ((cntP (perR l) E[i]! : Nat) : Int) ≠ 0 := by omega
      rw [if_neg (by simpa using h'), if_neg h]
      rfl
theorem sum_at (c : Nat) (l : List Fact) (t : Int) : atT (sumX c l) t = if 0 < (sliceL l t).length then [num (sumT c t l)] else [] := by
  rw [sumX_eq, ← perR_cnt]
  have hp := perR_right l
  obtain ⟨hE, _⟩ := edgesL_ok (perR l)
  by_cases h : ∃ i, i < (edgesL (perR l)).length - 1 ∧ (edgesL (perR l))[i]! ≤ t ∧ t < (edgesL (perR l))[i + 1]!
  · obtain ⟨i, h1, h2, h3⟩ := h
    have hb := cntP_between (ps := perR l) (qs := perR l) (fun p h => h) hp (i := i) (by omega) h2 h3
    rw [at_some hE (fun i hi => edge_right hi) _ h2 h3 _ (by omega) h1, hb, sumT_between c l (by omega) h2 h3]
    split <;> rfl
  · have h' : ∀ i, i < (edgesL (perR l)).length - 1 → ¬ ((edgesL (perR l))[i]! ≤ t ∧ t < (edgesL (perR l))[i + 1]!) := fun i hi h2 => h ⟨i, hi, h2⟩
    rw [at_none hE _ _ (by omega) h', steps_none hp h']
    rfl
theorem sumGood_at {c : Nat} {l : List Fact} (hg : sumGood c l = true) {t : Int} (ht : 0 < (sliceL l t).length) : i64Ok (sumT c t l) := by
  rw [← perR_cnt] at ht
  have hp := perR_right l
  by_cases h : ∃ i, i < (edgesL (perR l)).length - 1 ∧ (edgesL (perR l))[i]! ≤ t ∧ t < (edgesL (perR l))[i + 1]!
  · obtain ⟨i, h1, h2, h3⟩ := h
    have hb := cntP_between (ps := perR l) (qs := perR l) (fun p h => h) hp (i := i) (by omega) h2 h3
    have hs := sumT_between c l (by omega) h2 h3
    unfold sumGood sumOk at hg
    rw [List.all_eq_true] at hg
    have hm : (⟨⟨(edgesL (perR l))[i]!, (edgesL (perR l))[i + 1]!⟩, (cntP (perR l) (edgesL (perR l))[i]! : Int) - cntP [] (edgesL (perR l))[i]!⟩ : Per × Int) ∈ stepsL (perR l) [] := by
      unfold stepsL
      rw [List.append_nil]
      exact List.mem_map.2 ⟨i, List.mem_range.2 h1, rfl⟩
    have := hg _ hm
    rw [Bool.or_eq_true, decide_eq_true_eq, decide_eq_true_eq] at this
    simp only at this
    rw [hs, hb] at this
    have e0 : (cntP [] (edgesL (perR l))[i]! : Int) = 0 := rfl
    rcases this with h | h
    · omega
    · exact h
  · have h' : ∀ i, i < (edgesL (perR l)).length - 1 → ¬ ((edgesL (perR l))[i]! ≤ t ∧ t < (edgesL (perR l))[i + 1]!) := fun i hi h2 => h ⟨i, hi, h2⟩
    have := steps_none hp h'
    omega
theorem slice_filter (l : List Fact) (t : Int) : (sliceL l t).length = (l.filter fun f => validAt f t).length := by
  rw [(slice_at l t).length_eq]
  unfold atT
  rw [List.length_map]
theorem sumT_none (c : Nat) (t : Int) : ∀ (l : List Fact), (l.filter fun f => validAt f t).length = 0 → sumT c t l = 0
  | [], _ => rfl
  | f :: l, h => by
    rw [List.filter_cons] at h
    split at h
    · simp at h
    · rename_i hv
      rw [sumT, if_neg hv, sumT_none c t l h]; rfl
/-! ### Ones -/
def oneF (f : Fact) : Fact := ⟨false, num 1, f.p⟩
theorem ones_sum (t : Int) : ∀ (l : List Fact), sumT 0 t (l.map oneF) = (l.filter fun f => validAt f t).length
  | [] => rfl
  | f :: l => by
    rw [List.map_cons, sumT, ones_sum t l, List.filter_cons]
    have e1 : validAt (oneF f) t = validAt f t := rfl
    have e2 : colV 0 (oneF f) = 1 := rfl
    rw [e1, e2]
    split
    · rw [List.length_cons]; omega
    · omega
theorem ones_len (t : Int) (l : List Fact) : (sliceL (l.map oneF) t).length = (sliceL l t).length := by
  rw [slice_filter, slice_filter, List.filter_map, List.length_map]
  rfl
theorem ones_E : ∀ (l : List Fact), sumE 0 (l.map oneF) = 0
  | [] => rfl
  | f :: l => by
    rw [List.map_cons, sumE, if_pos (by rfl), ones_E l]
theorem ones_good {l : List Fact} (hl : l.length ≤ 4000000000000) : sumGood 0 (l.map oneF) = true := by
  unfold sumGood sumOk
  rw [List.all_eq_true]
  intro s _
  rw [Bool.or_eq_true, decide_eq_true_eq, decide_eq_true_eq]
  right
  rw [ones_sum]
  have := List.length_filter_le (fun f => validAt f s.1.f) l
  unfold i64Ok; omega
section
variable {sortP : List Per → List Per}
theorem ones_count (hs : Sorts sortP) (l : List Fact) : sumL sortP 0 (l.map oneF) = countL sortP l := by
  refine normal_perm hs fun t => ?_
  rw [sum_at, count_at, ones_len, ones_sum, slice_filter]
theorem sl_sum (hs : Sorts sortP) (c : Nat) (l : List Fact) (t : Int) : sliceL (sumL sortP c l) t = if 0 < (sliceL l t).length then [num (sumT c t l)] else [] := by
  refine slice_perm (by split <;> simp) ?_
  rw [← sum_at]
  exact (normal_at hs _ t).symm
/-! ### Sums of two lists -/
def accN (n : Int) (rs : List (List Val)) : Int := rs.foldl (fun n r => IntKind.i64.wrap (n + (r[0]!).int)) n
theorem accN_snoc (n : Int) (rs : List (List Val)) {k : Nat} (h : k < rs.length) : accN n (rs.take (k + 1)) = IntKind.i64.wrap (accN n (rs.take k) + (rs[k][0]!).int) := by
  unfold accN; rw [take_snoc h, List.foldl_append]; rfl
theorem sum_two (hs : Sorts sortP) {a b : List Fact} {t : Int} (ha : sumGood 0 a = true) (hb : sumGood 0 b = true) (hab : sumGood 0 (a ++ b) = true) :
    accN (accN 0 (sliceL (sumL sortP 0 a) t)) (sliceL (sumL sortP 0 b) t) = sumT 0 t (a ++ b) ∧ (0 < (sliceL (sumL sortP 0 a) t).length + (sliceL (sumL sortP 0 b) t).length ↔ 0 < (sliceL (a ++ b) t).length) := by
  have eN : (sliceL (a ++ b) t).length = (sliceL a t).length + (sliceL b t).length := by
    rw [slice_filter, slice_filter, slice_filter, List.filter_append, List.length_append]
  have eS := sumT_append 0 t b a
  have hga := @sumGood_at 0 a ha t
  have hgb := @sumGood_at 0 b hb t
  have hgc := @sumGood_at 0 (a ++ b) hab t
  have hza : (sliceL a t).length = 0 → sumT 0 t a = 0 := fun h => sumT_none 0 t a (by rw [← slice_filter]; exact h)
  have hzb : (sliceL b t).length = 0 → sumT 0 t b = 0 := fun h => sumT_none 0 t b (by rw [← slice_filter]; exact h)
  rw [sl_sum hs, sl_sum hs, eS]
  rw [eS, eN] at hgc
  rw [eN]
  have hacc : ∀ n (N : Nat) (S : Int), (N = 0 → S = 0) → i64Ok n → i64Ok (n + S) → accN n (if 0 < N then [num S] else []) = n + S := fun n N S h0 hn hS => by
    by_cases h : 0 < N
    · rw [if_pos h]
      show IntKind.i64.wrap (n + S) = _
      exact IntWalk.i64_in _ hS
    · rw [if_neg h, h0 (by omega), Int.add_zero]; rfl
  have z0 : i64Ok 0 := ⟨by decide, by decide⟩
  have a1 : i64Ok (sumT 0 t a) := by
    by_cases h : 0 < (sliceL a t).length
    · exact hga h
    · rw [hza (by omega)]; exact z0
  have c1 : i64Ok (sumT 0 t a + sumT 0 t b) := by
    by_cases h : 0 < (sliceL a t).length + (sliceL b t).length
    · exact hgc h
    · rw [hza (by omega), hzb (by omega)]; exact z0
  refine ⟨?_, ?_⟩
  · rw [hacc 0 _ _ hza z0 (by rw [Int.zero_add]; exact a1), Int.zero_add, hacc _ _ _ hzb a1 c1]
  · split <;> split <;> simp only [List.length_singleton, List.length_nil] <;> omega
end
end Go.Proofs.YtmkbclnhopoiiaaGreat
