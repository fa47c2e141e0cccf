/- Contract: BagCoalesces. -/
import Derived.Test.YtmkbclnhopoiiaaBVA
import Derived.Test.YtmkbclnhopoiiaaBJ1
set_option linter.unusedSimpArgs false
set_option linter.unusedVariables false
namespace Go.Proofs.Ytmkbclnhopoiiaa
open Go.VL Go.RowKit

set_option maxRecDepth 4000 in
set_option maxHeartbeats 16000000 in
theorem canonical_spec (nl : Bool) (l : List Fact) (hl : l.length ≤ 3518437208883) (hr : Rows1 l) (hR : ∀ f ∈ l, right f.p = true) (hA : l.Pairwise Apart) : Con Try.prog 19 [.c (.sl nl (facts l))] [.c (bln true)] := by
  refine spec_of Try.func19 rfl (by kernel_rfl) (by simp [Try.f19]) (fun w0 K0 => vc_ok _ _ _ (by kernel_rfl) ?_)
  simp only [Try.f19]
  simp -dsimp
  refine VL.loop (fun k : Nat => ⟨[(7, .c (i64 k)), (6, .c (i64 l.length)), (5, .c (.sl nl (facts l))), (0, .c (.sl nl (facts l)))], []⟩) (fun k => k ≤ l.length) (fun k => l.length - k) 0 (by kernel_rfl) (by simp) (by simp [St.le]) ?_
  intro k hk
  by_cases h1 : k < l.length
  · have hw : IntKind.i64.wrap ((k : Int) + 1) = (k : Int) + 1 := IntWalk.i64_in _ (by omega)
    have hrk := hr _ (List.getElem_mem h1)
    have hRk := hR _ (List.getElem_mem h1)
    by_cases hk0 : k = 0
    · subst hk0
      simp -dsimp [h1, Fact.cells]
      refine VL.draw (by kernel_rfl) [(0, true), (1, true), (3, true), (7, true), (15, true), (31, true), (63, true), (127, true), (255, false), (255, false), (767, false), (2047, false), (4095, false), (8191, false), (255, false), (16639, false), (65535, true), (131071, true), (262143, true), (524287, true)] (by kernel_rfl) ?_
      simp -dsimp [h1, Fact.cells]
      refine VC.mk _ (refRight_at _ l[0].p rfl) ?_
      rw [hRk]
      have hm1 : IntKind.i64.wrap (-1) = -1 := by decide
      simp -dsimp [hm1, h1, Fact.cells]
      refine VG.mk [.c (i64 0)] _ (fun h => Bool.noConfusion h) rfl ?_
      simp -dsimp
      refine VL.draw (by kernel_rfl) [(0, true), (1, true), (3, true), (7, false), (7, false), (23, false), (63, false), (127, false), (255, false), (7, false), (519, false), (2047, true), (4095, true), (8191, true), (16383, false), (16383, false), (49151, false), (131071, false), (262143, false), (524287, false), (1048575, false), (16383, false), (2113535, false), (6307839, false), (16777215, true), (33554431, true)] (by kernel_rfl) ?_
      simp -dsimp [hm1, h1, Fact.cells]
      refine VG.mk [.c (bln false)] _ (fun h => Bool.noConfusion h) rfl ?_
      simp -dsimp [hm1, h1, Fact.cells, hw]
      refine ⟨1, by omega, ?_, by omega⟩
      simp [St.le]
    · have h0 : k - 1 < l.length := by omega
      have hw1 : IntKind.i64.wrap ((k : Int) - 1) = ((k - 1 : Nat) : Int) := by rw [IntWalk.i64_in _ (by omega)]; omega
      have hj := hr _ (List.getElem_mem h0)
      have hap := List.pairwise_iff_getElem.1 hA (k - 1) k h0 h1 (by omega)
      have hpos : 0 < k := by omega
      simp -dsimp [h1, Fact.cells]
      refine VL.draw (by kernel_rfl) [(0, true), (1, true), (3, true), (7, true), (15, true), (31, true), (63, true), (127, true), (255, false), (255, false), (767, false), (2047, false), (4095, false), (8191, false), (255, false), (16639, false), (65535, true), (131071, true), (262143, true), (524287, true)] (by kernel_rfl) ?_
      simp -dsimp [h1, Fact.cells]
      refine VC.mk _ (refRight_at _ l[k].p rfl) ?_
      rw [hRk]
      simp -dsimp [hpos, hw1, h0, Fact.cells]
      have hle : ¬ (0 : Int) < cmpR l[k - 1].row l[k].row := by have := hap.1; omega
      refine VG.mk [.c (i64 (cmpR l[k - 1].row l[k].row))] _ (fun _ => refCompare_spec _ _ _ _ (by omega)) rfl ?_
      simp -dsimp [hle]
      refine VL.draw (by kernel_rfl) [(0, true), (1, true), (3, true), (7, false), (7, false), (23, false), (63, false), (127, false), (255, false), (7, false), (519, false), (2047, true), (4095, true), (8191, true), (16383, false), (16383, false), (49151, false), (131071, false), (262143, false), (524287, false), (1048575, false), (16383, false), (2113535, false), (6307839, false), (16777215, true), (33554431, true)] (by kernel_rfl) ?_
      simp -dsimp [hpos, hw1, h0, Fact.cells]
      have hsm := refSame_spec l[k - 1].nl l[k].nl l[k - 1].row l[k].row (by omega)
      by_cases he : l[k - 1].row = l[k].row
      · have hlt := hap.2 he
        have hlt' : ¬ l[k].p.f ≤ l[k - 1].p.t := by omega
        rw [decide_eq_true he] at hsm
        refine VG.mk [.c (bln true)] _ (fun _ => hsm) rfl ?_
        simp -dsimp [hw1, h0, Fact.cells, hlt', hw]
        refine ⟨k + 1, by omega, ?_, by omega⟩
        simp [St.le]
      · rw [decide_eq_false he] at hsm
        refine VG.mk [.c (bln false)] _ (fun _ => hsm) rfl ?_
        simp -dsimp [hw1, h0, Fact.cells, hw]
        refine ⟨k + 1, by omega, ?_, by omega⟩
        simp [St.le]
  · obtain rfl : k = l.length := by omega
    simp -dsimp

@[simp] theorem rowsE_get (rs : List (List Val)) (k : Nat) (h : k < (rowsE rs).length) : (rowsE rs)[k] = [.sl (rs[k]'(by simpa using h)).isEmpty (vals (rs[k]'(by simpa using h)))] := by simp [rowsE, rowE]
theorem onceS_len (acc : List (List Val)) (r : List Val) : (onceS acc r).length ≤ acc.length + 1 := by unfold onceS; split <;> simp
theorem onceL_len (rs : List (List Val)) : (onceL rs).length ≤ rs.length := by
  refine rev_ind (p := fun rs => (onceL rs).length ≤ rs.length) (by simp [onceL]) (fun l r ih => ?_) rs
  rw [onceL_snoc]
  have := onceS_len (onceL l) r
  simp
  omega
theorem onceL_sub (rs : List (List Val)) : ∀ x ∈ onceL rs, x ∈ rs := by
  refine rev_ind (p := fun rs => ∀ x ∈ onceL rs, x ∈ rs) (by simp [onceL]) (fun l r ih => ?_) rs
  intro x hx
  rw [onceL_snoc] at hx
  unfold onceS at hx
  split at hx
  · exact List.mem_append_left _ (ih x hx)
  · rcases List.mem_append.1 hx with h | h
    · exact List.mem_append_left _ (ih x h)
    · exact List.mem_append_right _ h
set_option maxRecDepth 4000 in
set_option maxHeartbeats 16000000 in
theorem coalesces_spec {sortP : List Per → List Per} (hs : Sorts sortP) (hi : SortsI) (hf : SortsF) (nl : Bool) (l : List Fact) (t : Int) (hl : l.length ≤ 3518437208883) (hr : Rows1 l) : Con Try.prog 4 [.c (.sl nl (facts l)), .c (i64 t)] [.c (bln true)] := by
  refine spec_of Try.func4 rfl (by kernel_rfl) (by simp [Try.f4]) (fun w0 K0 => vc_ok _ _ _ (by kernel_rfl) ?_)
  have kc := coalesce_spec hs hf nl l (by omega) hr
  have lc := coalesce_pre hs l
  have rc := coalesce_rows1 (sortP := sortP) hr
  obtain ⟨ap1, ap2⟩ := coalesce_apart hs l
  have kcan := canonical_spec (coalesceL sortP l).isEmpty (coalesceL sortP l) (by omega) rc (fun f hf => (ap1 f hf).1) ap2
  have kcc := coalesce_spec hs hf (coalesceL sortP l).isEmpty (coalesceL sortP l) (by omega) rc
  rw [coalesce_idem hs] at kcc
  have ksame := sameF_true (coalesceL sortP l).isEmpty (coalesceL sortP l).isEmpty _ _ rfl (by omega) rc
  have kn := normal_con hs hi hf false (coalesceL sortP l).isEmpty _ (coalesceL sortP l) rfl (by omega) rc
  rw [normal_self hs (coalesce_form hs l)] at kn
  have ksl := slice_spec hf nl l t (by omega) hr
  have ksc := slice_spec hf (coalesceL sortP l).isEmpty (coalesceL sortP l) t (by omega) rc
  rw [coalesce_slice hs] at ksc
  have hsr := fun r => @slice_row l t r
  have hsl := slice_len l t
  generalize coalesceL sortP l = c at *
  generalize sliceL l t = sl at *
  simp only [Try.f4]
  simp -dsimp
  refine VC.mk _ (awake_spec hs hi hf) ?_
  simp -dsimp
  refine VC.mk _ kc ?_
  simp -dsimp
  refine VC.mk _ kcan ?_
  simp -dsimp
  refine VG.mk [.c (.sl c.isEmpty (facts c))] _ (fun _ => kcc) rfl ?_
  simp -dsimp
  refine VG.mk [.c (bln true)] _ (fun _ => ksame) rfl ?_
  simp -dsimp
  refine ⟨by decide, VGL.call (args := [.tmp 26]) _ _ _ _ _ rfl rfl rfl ?_⟩
  simp -dsimp
  refine VCL.snap ?_
  simp -dsimp
  refine VC.mk _ kn ?_
  simp -dsimp
  refine VG.mk [.c (bln true)] _ (fun _ => ksame) rfl ?_
  simp -dsimp
  refine VC.mk _ ksl ?_
  simp -dsimp
  refine VL.loop (fun i : KI => ⟨[(36, .c (i64 i.k)), (35, .c (i64 sl.length)), (34, .c (.sl sl.isEmpty (rowsE sl))), (6, .own 384 (onceL (sl.take i.k)).length), (5, .c (.sl c.isEmpty (facts c))), (1, .c (i64 t))], [(384, some (.arr i.nl i.sz (rowsE (onceL (sl.take i.k))) 0))]⟩)
    (fun i => i.k ≤ sl.length ∧ i.nl = (onceL (sl.take i.k)).isEmpty ∧ i.sz = if i.nl then 0 else 1) (fun i => sl.length - i.k) ⟨0, true, 0⟩ (by kernel_rfl) ⟨by simp, rfl, rfl⟩ (by simp [St.le, onceL, rowsE]) ?_
  intro ⟨k, z, sz⟩ ⟨hk, hz, hsz⟩
  simp only at hk hz hsz
  have hol := onceL_len (sl.take k)
  rw [List.length_take] at hol
  by_cases h1 : k < sl.length
  · have hw : IntKind.i64.wrap ((k : Int) + 1) = (k : Int) + 1 := IntWalk.i64_in _ (by omega)
    have hsn : onceL (sl.take (k + 1)) = onceS (onceL (sl.take k)) sl[k] := by rw [take_snoc h1, onceL_snoc]
    have hrw : ∀ r ∈ onceL (sl.take k), r.length ≤ 4398046511104 := by
      intro r hr0
      obtain ⟨f, hf, rfl⟩ := hsr r (List.mem_of_mem_take (onceL_sub _ r hr0))
      exact hr f hf
    have hsi : ∀ (o : List (List Val)) (r : List Val), (onceS o r).isEmpty = false := fun o r => by
      unfold onceS
      split
      · rename_i h
        cases o with
        | nil => simp at h
        | cons => rfl
      · simp
    have hse := hsi (onceL (sl.take k)) sl[k]
    rw [← hsn] at hse
    generalize onceL (sl.take k) = o at *
    rcases List.eq_nil_or_concat o with rfl | ⟨o', q, hq⟩
    · obtain rfl : z = true := hz
      obtain rfl : sz = 0 := by rw [hsz]; rfl
      have hm1 : IntKind.i64.wrap (-1) = -1 := by decide
      simp -dsimp [h1, hm1]
      refine VG.mk [.c (bln false)] _ (fun h => Bool.noConfusion h) rfl ?_
      simp -dsimp [hw, maxLen]
      refine ⟨⟨k + 1, false, 1⟩, ⟨by simp only; omega, hse.symm, rfl⟩, ?_, by simp only; omega⟩
      rw [hsn]
      simp [St.le, onceS, rowsE, rowE]
    · have hne : 0 < o.length := by rw [hq]; simp
      have hof : o.isEmpty = false := by rw [hq]; simp
      have hl1 : o.length - 1 < o.length := by omega
      have hlast : o.getLast? = some o[o.length - 1] := by
        rw [List.getLast?_eq_getElem?, List.getElem?_eq_getElem hl1]
      have hT : IntKind.i64.wrap ((o.length : Int) - 1) = ((o.length - 1 : Nat) : Int) := by rw [IntWalk.i64_in _ (by omega)]; omega
      have hn0 : ((o.length : Int) == 0) = false := by simp; intro e; rw [e] at hne; simp at hne
      have hnl : ¬ o = [] := by rintro rfl; simp at hne
      obtain rfl : z = false := by rw [hz, hof]
      obtain rfl : sz = 1 := by rw [hsz]; rfl
      have hlr := hrw _ (List.getElem_mem hl1)
      clear hq
      simp -dsimp [h1, hn0, hT, hl1, hnl]
      have hsm := refSame_spec o[o.length - 1].isEmpty sl[k].isEmpty o[o.length - 1] sl[k] (by omega)
      by_cases he : o[o.length - 1] = sl[k]
      · rw [decide_eq_true he] at hsm
        refine VG.mk [.c (bln true)] _ (fun _ => hsm) rfl ?_
        have e : onceS o sl[k] = o := by unfold onceS; rw [hlast, if_pos (by rw [he])]
        simp -dsimp [hw]
        refine ⟨⟨k + 1, false, 1⟩, ⟨by simp only; omega, hse.symm, rfl⟩, ?_, by simp only; omega⟩
        rw [hsn, e]
        simp [St.le]
      · rw [decide_eq_false he] at hsm
        refine VG.mk [.c (bln false)] _ (fun _ => hsm) rfl ?_
        have e : onceS o sl[k] = o ++ [sl[k]] := by
          unfold onceS; rw [hlast, if_neg]
          intro h; exact he (Option.some.inj h)
        simp -dsimp [hw, maxLen]
        refine ⟨by omega, ⟨k + 1, false, 1⟩, ⟨by simp only; omega, hse.symm, rfl⟩, ?_, by simp only; omega⟩
        rw [hsn, e]
        simp [St.le, rowsE, rowE]
  · obtain rfl : k = sl.length := by omega
    rw [List.take_length] at *
    have hcr : ∀ x ∈ flE (onceL sl), x.2.length ≤ 4398046511104 := by
      intro x hx
      obtain ⟨r, hr0, rfl⟩ := List.mem_map.1 hx
      obtain ⟨f, hf, rfl⟩ := hsr r (onceL_sub _ r hr0)
      exact hr f hf
    have hsr2 := sameRows_spec (onceL sl).isEmpty z (flE (onceL sl)) (flE (onceL sl)) (by unfold flE; simp; have := onceL_len sl; omega) hcr
    rw [flE_rows] at hsr2
    simp -dsimp
    refine VC.mk _ ksc ?_
    simp -dsimp
    refine VCL.snap ?_
    simp -dsimp
    refine VC.mk _ hsr2 ?_
    simp -dsimp
end Go.Proofs.Ytmkbclnhopoiiaa
