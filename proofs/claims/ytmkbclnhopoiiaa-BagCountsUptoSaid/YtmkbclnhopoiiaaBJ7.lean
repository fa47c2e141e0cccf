/- Contract: BagCounts. -/
import Derived.Test.YtmkbclnhopoiiaaBWA
import Derived.Test.YtmkbclnhopoiiaaBJ6
set_option linter.unusedSimpArgs false
set_option linter.unusedVariables false
namespace Go.Proofs.Ytmkbclnhopoiiaa
open Go.VL Go.RowKit

/-- Sum's code, Sum's facts -/
def sumGd (c : Int) (l : List Fact) : Bool := decide (sumE c l = 0) && sumGood c.toNat l
def sumC (c : Int) (l : List Fact) : Int := if sumGd c l then 0 else if sumE c l = 0 then 171 else sumE c l
def sumR (sortP : List Per → List Per) (c : Int) (l : List Fact) : List Fact := if sumGd c l then sumL sortP c.toNat l else []
theorem sumE_codes (c : Int) : ∀ (l : List Fact), sumE c l = 0 ∨ sumE c l = 161 ∨ sumE c l = 170
  | [] => .inl rfl
  | f :: l => by
    rw [sumE]
    split
    · exact sumE_codes c l
    · unfold colE
      split
      · split <;> simp
      · simp
theorem sumC_zero (c : Int) (l : List Fact) : sumC c l = 0 ↔ sumGd c l = true := by
  unfold sumC
  have := sumE_codes c l
  split
  · rename_i h; simp [h]
  · rename_i h
    split
    · simp [h]
    · rename_i h2; simp [h, h2]
theorem sum_con {sortP : List Per → List Per} (hs : Sorts sortP) (hi : SortsI) (hf : SortsF) (nl : Bool) (xs : List (List C)) (l : List Fact) (c : Int) (hx : xs = facts l) (hl : l.length ≤ 1500000000000) (hr : Rows1 l) (hv : Vals64 l) :
    Con Try.prog 30 [.c (.sl nl xs), .c (i64 c)] [.c (.sl (sumR sortP c l).isEmpty (facts (sumR sortP c l))), .c (i64 (sumC c l))] := by
  rw [hx]
  have h := sum_spec hs hi hf nl l c hl hr hv
  unfold sumR sumC
  by_cases hp : sumE c l = 0 ∧ sumGood c.toNat l = true
  · have e : sumGd c l = true := by unfold sumGd; rw [hp.1, hp.2]; rfl
    rw [if_pos hp] at h
    rw [e]; exact h
  · have e : sumGd c l = false := by
      unfold sumGd
      rw [Bool.and_eq_false_iff, decide_eq_false_iff_not]
      by_cases h1 : sumE c l = 0
      · right; rw [Bool.eq_false_iff]; exact fun h2 => hp ⟨h1, h2⟩
      · left; exact h1
    rw [if_neg hp] at h
    rw [e]; exact h
theorem sumL_rows (sortP : List Per → List Per) (c : Nat) (l : List Fact) : Rows1 (sumL sortP c l) := normal_rows1 (sumX_rows c l)

set_option maxRecDepth 4000 in
set_option maxHeartbeats 32000000 in
theorem counts_spec {sortP : List Per → List Per} (hs : Sorts sortP) (hi : SortsI) (hf : SortsF) (na nb : Bool) (a b : List Fact) (t : Int) (la : a.length ≤ 200000000) (lb : b.length ≤ 200000000) (ra : Rows1 a) (rb : Rows1 b) (va : Vals64 a) (vb : Vals64 b) :
    Con Try.prog 9 [.c (.sl na (facts a)), .c (.sl nb (facts b)), .c (i64 t)] [.c (bln true)] := by
  refine spec_of Try.func9 rfl (by kernel_rfl) (by simp [Try.f9]) (fun w0 K0 => vc_ok _ _ _ (by kernel_rfl) ?_)
  simp only [Try.f9]
  simp -dsimp
  refine VC.mk _ (awake_spec hs hi hf) ?_
  simp -dsimp
  refine VL.loop (fun k : Nat => ⟨[(30, .c (i64 k)), (29, .c (i64 a.length)), (28, .c (.sl na (facts a))), (7, .own 1728 k), (0, .c (.sl na (facts a))), (1, .c (.sl nb (facts b))), (2, .c (i64 t))], [(1728, some (.arr false 3 (facts ((a.take k).map oneF)) 0))]⟩)
    (fun k => k ≤ a.length) (fun k => a.length - k) 0 (by kernel_rfl) (by simp) (by simp [St.le]) ?_
  intro k hk
  by_cases h1 : k < a.length
  · have hw : IntKind.i64.wrap ((k : Int) + 1) = (k : Int) + 1 := IntWalk.i64_in _ (by omega)
    have hsn : facts ((a.take (k + 1)).map oneF) = facts ((a.take k).map oneF) ++ [(oneF a[k]).cells] := by rw [take_snoc h1, List.map_append]; exact List.map_append ..
    simp -dsimp [h1, Fact.cells]
    refine ⟨by decide, by omega, by omega, k + 1, by omega, ?_, by omega⟩
    rw [facts, facts, List.map_map, List.map_map, List.map_take, List.map_take] at hsn
    simp [St.le, hw, hsn, oneF, num, Fact.cells, Val.cells]
  obtain rfl : k = a.length := by omega
  rw [List.take_length] at *
  have hgd : sumGd 0 (a.map oneF) = true := by unfold sumGd; rw [ones_E]; exact ones_good (by omega)
  have kones := sum_con hs hi hf false (facts (a.map oneF)) (a.map oneF) 0 rfl (by rw [List.length_map]; omega) (fun f hf => by
    obtain ⟨g, _, rfl⟩ := List.mem_map.1 hf
    show 1 ≤ _
    omega) (fun f hf v hv => by
    obtain ⟨g, _, rfl⟩ := List.mem_map.1 hf
    have : v = ⟨1, 1, []⟩ := by simpa [oneF, num] using hv
    subst this
    exact ⟨by decide, by decide⟩)
  rw [(sumC_zero 0 _).2 hgd, show sumR sortP 0 (a.map oneF) = countL sortP a by unfold sumR; rw [hgd]; exact ones_count hs a] at kones
  rw [facts, List.map_map] at kones
  have kc := count_spec hs hi hf na a (by omega) ra
  have lc := normal_len hs (countP a)
  have lcp := countP_len a
  have rc := normal_rows1 (sortP := sortP) (countP_rows a)
  have ks := sameF_true (countL sortP a).isEmpty (countL sortP a).isEmpty (countL sortP a) (countL sortP a) rfl (by unfold countL; omega) rc
  generalize countL sortP a = cn at *
  have ksa := sum_con hs hi hf na _ a 0 rfl (by omega) ra va
  have ksb := sum_con hs hi hf nb _ b 0 rfl (by omega) rb vb
  have rab : Rows1 (a ++ b) := fun f hf => by
    rcases List.mem_append.1 hf with h | h
    · exact ra f h
    · exact rb f h
  have vab : Vals64 (a ++ b) := fun f hf => by
    rcases List.mem_append.1 hf with h | h
    · exact va f h
    · exact vb f h
  have ksc := sum_con hs hi hf false (facts a ++ facts b) (a ++ b) 0 (List.map_append ..).symm (by rw [List.length_append]; omega) rab vab
  simp -dsimp
  refine VCL.snap ?_
  simp -dsimp
  refine VC.mk _ kones ?_
  simp -dsimp
  refine VG.mk [.c (.sl cn.isEmpty (facts cn))] _ (fun _ => kc) rfl ?_
  simp -dsimp
  refine VG.mk [.c (bln true)] _ (fun _ => ks) rfl ?_
  simp -dsimp
  refine VC.mk _ ksa ?_
  simp -dsimp
  refine VC.mk _ ksb ?_
  simp -dsimp [maxLen]
  refine ⟨by omega, by omega, VCL.snap ?_⟩
  simp -dsimp
  refine VC.mk _ ksc ?_
  simp -dsimp
  refine VIf.mk (fun h => ?_) (fun h => ?_)
  · simp -dsimp
  rw [Bool.or_eq_false_iff, Bool.or_eq_false_iff, bne_eq_false_iff_eq, bne_eq_false_iff_eq, bne_eq_false_iff_eq] at h
  obtain ⟨⟨ha, hb⟩, hab⟩ := h
  have ga := (sumC_zero 0 a).1 ha
  have gb := (sumC_zero 0 b).1 hb
  have gab := (sumC_zero 0 (a ++ b)).1 hab
  have eX : sumR sortP 0 a = sumL sortP 0 a := by unfold sumR; rw [ga]; rfl
  have eY : sumR sortP 0 b = sumL sortP 0 b := by unfold sumR; rw [gb]; rfl
  have eZ : sumR sortP 0 (a ++ b) = sumL sortP 0 (a ++ b) := by unfold sumR; rw [gab]; rfl
  have good : ∀ l, sumGd 0 l = true → sumGood 0 l = true := fun l h => (Bool.and_eq_true _ _ ▸ h).2
  have htwo := sum_two hs (good _ ga) (good _ gb) (good _ gab) (t := t)
  have hz := sl_sum hs 0 (a ++ b) t
  rw [eX, eY, eZ, ha, hb, hab]
  have len : ∀ l, (sumL sortP 0 l).length ≤ 2 * l.length := fun l => Nat.le_trans (normal_len hs _) (sumX_len 0 l)
  have lX := len a
  have lY := len b
  have lZ := len (a ++ b)
  rw [List.length_append] at lZ
  have kx := sliceW_spec hf (sumL sortP 0 a).isEmpty (sumL sortP 0 a) t (by omega) (sumL_rows _ _ _)
  have ky := sliceW_spec hf (sumL sortP 0 b).isEmpty (sumL sortP 0 b) t (by omega) (sumL_rows _ _ _)
  have kz := sliceW_spec hf (sumL sortP 0 (a ++ b)).isEmpty (sumL sortP 0 (a ++ b)) t (by omega) (sumL_rows _ _ _)
  have slx := slice_len (sumL sortP 0 a) t
  have sly := slice_len (sumL sortP 0 b) t
  have ox : ∀ r ∈ sliceL (sumL sortP 0 a) t, 0 < r.length := fun r hr => by
    rw [sl_sum hs] at hr
    split at hr
    · simp at hr; subst hr; exact Nat.one_pos
    · simp at hr
  have oy : ∀ r ∈ sliceL (sumL sortP 0 b) t, 0 < r.length := fun r hr => by
    rw [sl_sum hs] at hr
    split at hr
    · simp at hr; subst hr; exact Nat.one_pos
    · simp at hr
  rw [hz] at kz
  generalize sumL sortP 0 a = X at *
  generalize sumL sortP 0 b = Y at *
  generalize sumL sortP 0 (a ++ b) = Z at *
  generalize sliceL X t = RX at *
  generalize sliceL Y t = RY at *
  simp -dsimp
  refine ⟨by decide, ?_⟩
  refine VL.loop (fun k : Nat => ⟨[(90, .c (i64 k)), (89, .c (i64 2)), (88, .own 5632 2), (18, .c (i64 (if k = 0 then 0 else if k = 1 then accN 0 RX else accN (accN 0 RX) RY))), (19, .c (i64 (if k = 0 then 0 else if k = 1 then RX.length else (RX.length + RY.length : Nat)))), (16, .c (.sl Z.isEmpty (facts Z))), (2, .c (i64 t))], [(5632, some (.arr false 1 [[.sl X.isEmpty (facts X)], [.sl Y.isEmpty (facts Y)]] 0))]⟩)
    (fun k => k ≤ 2) (fun k => 2 - k) 0 (by kernel_rfl) (by simp) (by simp [St.le]) ?_
  intro k hk
  obtain rfl | rfl | rfl : k = 0 ∨ k = 1 ∨ k = 2 := by omega
  · simp -dsimp
    refine VC.mk _ kx ?_
    simp -dsimp
    refine VL.loop (fun j : Nat => ⟨[(98, .c (i64 j)), (97, .c (i64 RX.length)), (96, .c (.sl RX.isEmpty (rowsW List.isEmpty RX))), (18, .c (i64 (accN 0 (RX.take j)))), (19, .c (i64 (j : Int))), (90, .c (i64 0)), (89, .c (i64 2)), (88, .own 5632 2), (16, .c (.sl Z.isEmpty (facts Z))), (2, .c (i64 t))], [(5632, some (.arr false 1 [[.sl X.isEmpty (facts X)], [.sl Y.isEmpty (facts Y)]] 0))]⟩)
      (fun j => j ≤ RX.length) (fun j => RX.length - j) 0 (by kernel_rfl) (by simp) (by simp [St.le, accN]) ?_
    intro j hj
    by_cases j1 : j < RX.length
    · have hwj : IntKind.i64.wrap ((j : Int) + 1) = (j : Int) + 1 := IntWalk.i64_in _ (by omega)
      have hwr : IntKind.i64.wrap ((j : Int) + 1) = (j : Int) + 1 := IntWalk.i64_in _ (by omega)
      have hsn := accN_snoc 0 RX j1
      have hr0 := ox _ (List.getElem_mem j1)
      rw [getElem!_pos RX[j] 0 hr0] at hsn
      simp -dsimp [j1, hr0, Val.cells]
      refine ⟨j + 1, by omega, ?_, by omega⟩
      simp [St.le, hwj, hwr, hsn]
      try omega
    · obtain rfl : j = RX.length := by omega
      rw [List.take_length]
      simp -dsimp
      refine ⟨0 + 1, by omega, ?_, by omega⟩
      simp [St.le]
  · simp -dsimp
    refine VC.mk _ ky ?_
    simp -dsimp
    refine VL.loop (fun j : Nat => ⟨[(98, .c (i64 j)), (97, .c (i64 RY.length)), (96, .c (.sl RY.isEmpty (rowsW List.isEmpty RY))), (18, .c (i64 (accN (accN 0 RX) (RY.take j)))), (19, .c (i64 ((RX.length : Int) + j))), (90, .c (i64 1)), (89, .c (i64 2)), (88, .own 5632 2), (16, .c (.sl Z.isEmpty (facts Z))), (2, .c (i64 t))], [(5632, some (.arr false 1 [[.sl X.isEmpty (facts X)], [.sl Y.isEmpty (facts Y)]] 0))]⟩)
      (fun j => j ≤ RY.length) (fun j => RY.length - j) 0 (by kernel_rfl) (by simp) (by simp [St.le, accN]) ?_
    intro j hj
    by_cases j1 : j < RY.length
    · have hwj : IntKind.i64.wrap ((j : Int) + 1) = (j : Int) + 1 := IntWalk.i64_in _ (by omega)
      have hwr : IntKind.i64.wrap ((RX.length : Int) + j + 1) = (RX.length : Int) + j + 1 := IntWalk.i64_in _ (by omega)
      have hsn := accN_snoc (accN 0 RX) RY j1
      have hr0 := oy _ (List.getElem_mem j1)
      rw [getElem!_pos RY[j] 0 hr0] at hsn
      simp -dsimp [j1, hr0, Val.cells]
      refine ⟨j + 1, by omega, ?_, by omega⟩
      simp [St.le, hwj, hwr, hsn]
      try omega
    · obtain rfl : j = RY.length := by omega
      rw [List.take_length]
      simp -dsimp
      refine ⟨1 + 1, by omega, ?_, by omega⟩
      simp [St.le]
  · obtain ⟨t1, t2⟩ := htwo
    by_cases hN : 0 < (sliceL (a ++ b) t).length
    · have hp := t2.2 hN
      have q1 : ((RX.length : Int) + RY.length == 0) = false := by rw [beq_eq_false_iff_ne]; omega
      have q2 : (0 < (RX.length : Int) + RY.length) = True := by simp; omega
      rw [if_pos hN] at kz
      simp -dsimp
      refine VC.mk _ kz ?_
      rw [t1]
      simp -dsimp [q1, q2, rowsW_one, num, Val.cells]
    · have hp : ¬ 0 < RX.length + RY.length := fun h => hN (t2.1 h)
      have q1 : ((RX.length : Int) + RY.length == 0) = true := by rw [beq_iff_eq]; omega
      rw [if_neg hN] at kz
      simp -dsimp
      refine VC.mk _ kz ?_
      simp -dsimp [q1, rowsW_nil]
end Go.Proofs.Ytmkbclnhopoiiaa
