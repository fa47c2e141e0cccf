/- Contracts: the document's Columns, Project. -/
import Derived.Test.YtmkbclnhopoiiaaGreatGRB
import Derived.Test.YtmkbclnhopoiiaaGreatBQA
import Derived.Test.YtmkbclnhopoiiaaGreatBWA
import Derived.Test.YtmkbclnhopoiiaaGreatBVA
import Derived.Test.YtmkbclnhopoiiaaGreatBZV
set_option linter.unusedSimpArgs false
set_option linter.unusedVariables false
namespace Go.Proofs.YtmkbclnhopoiiaaGreat
open Go.VL Go.RowKit

set_option maxRecDepth 4000 in
set_option maxHeartbeats 8000000 in
theorem columns_spec0 (nl nc : Bool) (row : List Val) (cs : List Int) (hc : cs.length ≤ 4398046511104) (hr : row.length ≤ 4398046511104) :
    Con Tryz.prog 30 [.c (.sl nl (vals row)), .c (.sl nc (ints cs))] (if colsIn row.length cs then [.fr cs.isEmpty (if cs.isEmpty then 0 else 3) (vals (pick row cs)) 0, .c (bln true)] else [.fr true 0 [] 0, .c (bln false)]) := by
  refine spec_of Tryz.func30 rfl (by kernel_rfl) (by simp [Tryz.f30]) (fun w0 K0 => vc_ok _ _ _ (by kernel_rfl) ?_)
  simp only [Tryz.f30]
  simp -dsimp
  refine VL.loop (fun j : KI => ⟨[(7, .c (i64 j.k)), (6, .own 384 j.k), (0, .c (.sl nl (vals row))), (1, .c (.sl nc (ints cs)))], [(384, some (.arr j.nl j.sz (vals (pick row (cs.take j.k))) 0))]⟩)
    (fun j => j.k ≤ cs.length ∧ colsIn row.length (cs.take j.k) = true ∧ j.nl = decide (j.k = 0) ∧ j.sz = if j.nl then 0 else 3) (fun j => cs.length - j.k) ⟨0, true, 0⟩ (by kernel_rfl) ⟨by simp, by simp [colsIn], rfl, rfl⟩ (by simp [St.le, pick]) ?_
  intro ⟨j, z, sz⟩ ⟨hj, hci, hz, hsz⟩
  simp only at hj hci hz hsz
  by_cases j1 : j < cs.length
  · have hwj : IntKind.i64.wrap ((j : Int) + 1) = (j : Int) + 1 := IntWalk.i64_in _ (by omega)
    have hcs := colsIn_snoc row.length cs j1
    have hpk := pick_snoc row cs j1
    have hno : colIn row.length cs[j] = false → colsIn row.length cs = false := fun h => by
      unfold colsIn
      rw [List.all_eq_false]
      exact ⟨cs[j], List.getElem_mem j1, by rw [h]; simp⟩
    simp -dsimp [j1, ints]
    refine VIf.mk (fun h => ?_) (fun h => ?_)
    · have hb : colsIn row.length cs = false := hno (by unfold colIn; rw [h]; rfl)
      simp -dsimp [hb]
    · have hcl : colIn row.length cs[j] = true := by unfold colIn; rw [h]; rfl
      rw [hcl, Bool.and_true] at hcs
      rw [Bool.or_eq_false_iff, decide_eq_false_iff_not, decide_eq_false_iff_not] at h
      have h2 : cs[j].toNat < row.length := by omega
      have h3 : (cs[j] < row.length) = True := by simp; omega
      have h4 : (0 ≤ cs[j]) = True := by simp; omega
      have e4 : row[cs[j].toNat]! = row[cs[j].toNat] := getElem!_pos row cs[j].toNat h2
      rw [e4] at hpk
      simp -dsimp [j1, h2, h3, h4]
      have hpl : (pick row (cs.take j)).length = j := by simp [pick]; omega
      refine ⟨by decide, hpl, fun e => by rw [hsz, e]; rfl, by rw [hpl]; omega, ⟨j + 1, false, 3⟩, ⟨by simp only; omega, by simp only; rw [hcs]; exact hci, by simp, rfl⟩, ?_, by simp only; omega⟩
      simp [St.le, hwj, ints, hpk, Val.cells]
  · obtain rfl : j = cs.length := by omega
    rw [List.take_length] at hci
    simp -dsimp [hci]
    have hpl : (pick row cs).length = cs.length := by simp [pick]
    have e : z = cs.isEmpty := by rw [hz]; cases cs <;> simp
    refine ⟨⟨e, ?_⟩, hpl⟩
    rw [hsz, e]; cases cs <;> simp
theorem columns_spec (nl nc : Bool) (row : List Val) (cs : List Int) (hc : cs.length ≤ 4398046511104) (hr : row.length ≤ 4398046511104) :
    Con Tryz.prog 30 [.c (.sl nl (vals row)), .c (.sl nc (ints cs))] [.c (.sl (if colsIn row.length cs then cs.isEmpty else true) (if colsIn row.length cs then vals (pick row cs) else [])), .c (bln (colsIn row.length cs))] := by
  have h := columns_spec0 nl nc row cs hc hr
  by_cases hp : colsIn row.length cs = true
  · rw [if_pos hp] at h; rw [hp]; exact h.frz 0 rfl
  · rw [if_neg hp] at h; simp only [Bool.not_eq_true] at hp; rw [hp]; exact h.frz 0 rfl

def rprojF (cs : List Int) (f : Fact) : Fact := ⟨cs.isEmpty, pick f.row cs, f.p⟩
theorem rproj_cnt (cs : List Int) (l : List Fact) (r : List Val) (t : Int) : cnt (l.map (rprojF cs)) r t = cnt (l.map (projF cs)) r t := by
  unfold cnt
  rw [List.filter_map, List.filter_map, List.length_map, List.length_map]
  rfl
theorem rproj_normal {sortP : List Per → List Per} (hs : Sorts sortP) (cs : List Int) (l : List Fact) : normalL sortP (l.map (rprojF cs)) = projL sortP l cs := (normal_eq hs _ _).2 fun r t => rproj_cnt cs l r t
theorem rproj_rows {cs : List Int} (hc : cs.length ≤ 4398046511104) (l : List Fact) : Rows1 (l.map (rprojF cs)) := fun f hf => by
  obtain ⟨g, _, rfl⟩ := List.mem_map.1 hf
  show (pick g.row cs).length ≤ _
  simpa [pick] using hc
def refProject (sortP : List Per → List Per) (l : List Fact) (cs : List Int) : List Fact := refNormal sortP (l.map (rprojF cs))
set_option maxRecDepth 4000 in
set_option maxHeartbeats 16000000 in
theorem refProject_spec0 {sortP : List Per → List Per} (hs : Sorts sortP) (nl nc : Bool) (l : List Fact) (cs : List Int) (hl : l.length ≤ 400000000) (hc : cs.length ≤ 4398046511104) (hr : Rows1 l) :
    Con Tryz.prog 8 [.c (.sl nl (facts l)), .c (.sl nc (ints cs))] (if projOk l cs then [.c (.sl (refProject sortP l cs).isEmpty (facts (refProject sortP l cs))), .c (i64 0)] else [.fr true 0 [] 0, .c (i64 161)]) := by
  refine spec_of Tryz.func8 rfl (by kernel_rfl) (by simp [Tryz.f8]) (fun w0 K0 => vc_ok _ _ _ (by kernel_rfl) ?_)
  simp only [Tryz.f8]
  simp -dsimp
  refine VL.loop (fun i : KI => ⟨[(7, .c (i64 i.k)), (6, .own 384 i.k), (0, .c (.sl nl (facts l))), (1, .c (.sl nc (ints cs)))], [(384, some (.arr i.nl i.sz (facts ((l.take i.k).map (rprojF cs))) 0))]⟩)
    (fun i => i.k ≤ l.length ∧ projOk (l.take i.k) cs = true ∧ i.nl = decide (i.k = 0) ∧ i.sz = if i.nl then 0 else 3) (fun i => l.length - i.k) ⟨0, true, 0⟩ (by kernel_rfl) ⟨by simp, by simp [projOk], rfl, rfl⟩ (by simp [St.le]) ?_
  intro ⟨k, z, sz⟩ ⟨hk, hpo, hz, hsz⟩
  simp only at hk hpo hz hsz
  by_cases h1 : k < l.length
  · have hw : IntKind.i64.wrap ((k : Int) + 1) = (k : Int) + 1 := IntWalk.i64_in _ (by omega)
    have hsn : (l.take (k + 1)).map (rprojF cs) = (l.take k).map (rprojF cs) ++ [rprojF cs l[k]] := by rw [take_snoc h1, List.map_append]; rfl
    have hps := projOk_snoc l cs h1
    have hno : colsIn l[k].row.length cs = false → projOk l cs = false := fun h => by
      unfold projOk
      rw [List.all_eq_false]
      exact ⟨l[k], List.getElem_mem h1, by rw [h]; simp⟩
    have hrk := hr _ (List.getElem_mem h1)
    simp -dsimp [h1, Fact.cells]
    refine VC.mk _ (columns_spec l[k].nl nc l[k].row cs hc hrk) ?_
    simp -dsimp
    by_cases hcc : colsIn l[k].row.length cs = true
    · rw [hcc] at hps ⊢
      rw [hpo, Bool.true_and] at hps
      simp -dsimp [h1, Fact.cells]
      have hsc := congrArg (List.map Fact.cells) hsn
      rw [List.map_append, List.map_map, List.map_map, List.map_take, List.map_take] at hsc
      refine ⟨by decide, by omega, fun e => by rw [hsz, e]; rfl, by omega, ⟨k + 1, false, 3⟩, ⟨by simp only; omega, hps, by simp, rfl⟩, ?_, by simp only; omega⟩
      simp [St.le, hw]
      exact hsc.symm
    · simp only [Bool.not_eq_true] at hcc
      have hb := hno hcc
      rw [hcc]
      simp -dsimp [hb]
  · obtain rfl : k = l.length := by omega
    rw [List.take_length] at *
    have hno := refNormal_spec hs z (l.map (rprojF cs)) (by rw [List.length_map]; exact hl) (rproj_rows hc l)
    have hcl : (l.map (rprojF cs)).length = l.length := List.length_map ..
    rw [hpo, if_pos rfl]
    unfold refProject
    generalize l.map (rprojF cs) = c at *
    generalize refNormal sortP c = d at *
    simp -dsimp
    refine VCL.snap ?_
    simp -dsimp
    refine ⟨hcl, ?_⟩
    refine VC.mk _ hno ?_
    simp -dsimp
theorem refProject_spec {sortP : List Per → List Per} (hs : Sorts sortP) (nl nc : Bool) (l : List Fact) (cs : List Int) (hl : l.length ≤ 400000000) (hc : cs.length ≤ 4398046511104) (hr : Rows1 l) :
    Con Tryz.prog 8 [.c (.sl nl (facts l)), .c (.sl nc (ints cs))] [.c (.sl (if projOk l cs then (refProject sortP l cs).isEmpty else true) (if projOk l cs then facts (refProject sortP l cs) else [])), .c (i64 (if projOk l cs then 0 else 161))] := by
  have h := refProject_spec0 hs nl nc l cs hl hc hr
  by_cases hp : projOk l cs = true
  · rw [if_pos hp] at h; rw [hp]; exact h
  · rw [if_neg hp] at h; simp only [Bool.not_eq_true] at hp; rw [hp]; exact h.frz 0 rfl
theorem same_project {sortP : List Per → List Per} (hs : Sorts sortP) (na nb : Bool) (l : List Fact) (cs : List Int) (hl : l.length ≤ 400000000) (hc : cs.length ≤ 4398046511104) :
    Con Tryz.prog 11 [.c (.sl na (facts (projL sortP l cs))), .c (.sl nb (facts (refProject sortP l cs)))] [.c (bln true)] := by
  have := same_normal hs na nb (l.map (rprojF cs)) (by rw [List.length_map]; exact hl) (rproj_rows hc l)
  rw [rproj_normal hs] at this
  exact this
end Go.Proofs.YtmkbclnhopoiiaaGreat
/- Contract: the document's exact sum of numbers. -/
set_option linter.unusedSimpArgs false
set_option linter.unusedVariables false
namespace Go.Proofs.YtmkbclnhopoiiaaGreat
open Go.VL Go.RowKit

def sumI : List Int → Int
  | [] => 0
  | x :: l => x + sumI l
theorem sumI_append : ∀ (l m : List Int), sumI (l ++ m) = sumI l + sumI m
  | [], m => by simp [sumI]
  | x :: l, m => by rw [List.cons_append, sumI, sumI, sumI_append l m]; omega
def oppo (n x : Int) : Bool := (decide (0 ≤ n) && decide (x < 0)) || (decide (n < 0) && decide (0 ≤ x))
def atI (n : Int) (L : List Int) : Nat → Int
  | 0 => -1
  | k + 1 => if oppo n L[k]! = true then k else atI n L k
theorem atI_lt (n : Int) (L : List Int) : ∀ k, atI n L k < k ∧ -1 ≤ atI n L k
  | 0 => by simp [atI]
  | k + 1 => by
    have := atI_lt n L k
    rw [atI]; split <;> omega
theorem atI_some (n : Int) (L : List Int) : ∀ k, 0 ≤ atI n L k → oppo n L[(atI n L k).toNat]! = true
  | 0, h => by simp [atI] at h
  | k + 1, h => by
    rw [atI] at h ⊢
    split
    · rename_i h1; exact h1
    · rename_i h1
      rw [if_neg h1] at h
      exact atI_some n L k h
theorem atI_none (n : Int) (L : List Int) : ∀ k, ¬ 0 ≤ atI n L k → ∀ j, j < k → ¬ oppo n L[j]! = true
  | 0, _, j, hj => by omega
  | k + 1, h, j, hj => by
    rw [atI] at h
    split at h
    · omega
    · rename_i h1
      by_cases e : j = k
      · subst e; exact h1
      · exact atI_none n L k h j (by omega)
theorem sumI_sign : ∀ (L : List Int), ((∀ x ∈ L, 0 ≤ x) → 0 ≤ sumI L) ∧ ((∀ x ∈ L, x < 0) → sumI L ≤ 0)
  | [] => by simp [sumI]
  | x :: L => by
    have ih := sumI_sign L
    rw [sumI]
    refine ⟨fun h => ?_, fun h => ?_⟩
    · have := ih.1 fun y hy => h y (by simp [hy]); have := h x (by simp); omega
    · have := ih.2 fun y hy => h y (by simp [hy]); have := h x (by simp); omega
theorem sumI_cut (L : List Int) {k : Nat} (h : k < L.length) : sumI L = L[k] + sumI (L.take k ++ L.drop (k + 1)) := by
  conv => lhs; rw [← List.take_append_drop k L, List.drop_eq_getElem_cons h]
  rw [sumI_append, sumI_append, sumI]; omega
/-- no number of the other sign is left: the sum that comes first tells all -/
theorem stuck {n x : Int} {L : List Int} (hn : i64Ok n) (ho : ∀ y ∈ x :: L, ¬ oppo n y = true) : (i64Ok (n + x) → True) ∧ (¬ i64Ok (n + x) → ¬ i64Ok (n + sumI (x :: L))) := by
  refine ⟨fun _ => trivial, fun h h2 => h ?_⟩
  rw [sumI] at h2
  unfold i64Ok at *
  by_cases h0 : 0 ≤ n
  · have hp : ∀ y ∈ x :: L, 0 ≤ y := fun y hy => by
      have := ho y hy
      unfold oppo at this
      simp [h0] at this
      omega
    have := (sumI_sign L).1 fun y hy => hp y (by simp [hy])
    have := hp x (by simp)
    omega
  · have hp : ∀ y ∈ x :: L, y < 0 := fun y hy => by
      have := ho y hy
      unfold oppo at this
      simp [h0] at this
      omega
    have := (sumI_sign L).2 fun y hy => hp y (by simp [hy])
    have := hp x (by simp)
    omega

def addτ (m : Nat) : Nat := if m = 512 then 5056 else if m = 5056 then 512 else m
theorem addτ_inv (m : Nat) : addτ (addτ m) = m := by
  unfold addτ
  repeat' split
  all_goals omega
theorem over_eq {n x : Int} (hn : i64Ok n) (hx : i64Ok x) : ((decide (0 ≤ x) && decide (IntKind.i64.wrap (9223372036854775807 - x) < n)) || (decide (x < 0) && decide (n < IntKind.i64.wrap (-9223372036854775808 - x)))) = decide (¬ i64Ok (n + x)) := by
  unfold i64Ok at *
  rw [Bool.eq_iff_iff, decide_eq_true_eq, Bool.or_eq_true, Bool.and_eq_true, Bool.and_eq_true]
  simp only [decide_eq_true_eq]
  by_cases h : 0 ≤ x
  · rw [IntWalk.i64_in (9223372036854775807 - x) (by omega)]
    omega
  · rw [IntWalk.i64_in (-9223372036854775808 - x) (by omega)]
    omega
set_option maxRecDepth 4000 in
set_option maxHeartbeats 16000000 in
theorem add_spec (nl : Bool) (l : List Int) (hl : l.length ≤ 4000000000000) (hi : ∀ x ∈ l, i64Ok x) :
    Con Tryz.prog 35 [.c (.sl nl (ints l))] [.c (i64 (if i64Ok (sumI l) then sumI l else 0)), .c (bln (decide (i64Ok (sumI l))))] := by
  refine spec_of Tryz.func35 rfl (by kernel_rfl) (by simp [Tryz.f35]) (fun w0 K0 => vc_ok _ _ _ (by kernel_rfl) ?_)
  simp only [Tryz.f35]
  simp -dsimp [maxLen]
  refine ⟨fun e he => by obtain ⟨x, _, rfl⟩ := List.mem_map.1 he; rfl, by omega, ?_⟩
  refine VL.loopR (fun i : Int × List Int => ⟨[(4, .own 512 i.2.length), (5, .c (i64 i.1))], [(512, some (.arr false 1 (ints i.2) 0))]⟩)
    (fun i => i.1 + sumI i.2 = sumI l ∧ i64Ok i.1 ∧ (∀ x ∈ i.2, i64Ok x) ∧ i.2.length ≤ l.length) (fun i => i.2.length) (0, l) (by kernel_rfl) ⟨by simp, (show i64Ok 0 from ⟨by decide, by decide⟩), hi, Nat.le_refl _⟩ (by simp [St.le]) ?_
  intro ⟨n, L⟩ ⟨hS, hn, hLi, hLl⟩
  simp only at hS hn hLi hLl
  have hen : ∀ e : List C, e ∈ ints L → e.length = 1 := fun e he => by obtain ⟨x, _, rfl⟩ := List.mem_map.1 he; rfl
  by_cases h0 : 0 < L.length
  · have h0' : (0 < (L.length : Int)) = True := eq_true (by omega)
    simp -dsimp [h0, h0']
    refine VL.loop (fun k : Nat => ⟨[(7, .c (i64 k)), (6, .c (i64 (atI n L k))), (4, .own 512 L.length), (5, .c (i64 n))], [(512, some (.arr false 1 (ints L) 0))]⟩)
      (fun k => k ≤ L.length) (fun k => L.length - k) 0 (by kernel_rfl) (by simp) (by simp [St.le, atI]) ?_
    intro k hk
    by_cases k1 : k < L.length
    · have hwk : IntKind.i64.wrap ((k : Int) + 1) = (k : Int) + 1 := IntWalk.i64_in _ (by omega)
      have hat : atI n L (k + 1) = if oppo n L[k] = true then (k : Int) else atI n L k := by rw [atI, getElem!_pos L k k1]
      simp -dsimp [k1]
      refine ⟨fun h => ⟨h, fun h2 => ⟨h, h2⟩⟩, fun h => by omega, ?_⟩
      refine VIf.mk (fun h => ?_) (fun h => ?_)
      · have ho : oppo n L[k] = true := h
        rw [if_pos ho] at hat
        simp -dsimp [hwk]
        refine ⟨k + 1, by omega, ?_, by omega⟩
        simp [St.le, hat]
      · have ho : oppo n L[k] = false := h
        rw [if_neg (by rw [ho]; simp)] at hat
        simp -dsimp [hwk]
        refine ⟨k + 1, by omega, ?_, by omega⟩
        simp [St.le, hat]
    · obtain rfl : k = L.length := by omega
      have hlt := atI_lt n L L.length
      have hso := atI_some n L L.length
      have hno := atI_none n L L.length
      generalize atI n L L.length = c at *
      simp -dsimp
      refine VIf.mk (fun h => ?_) (fun h => ?_)
      · have hc : ¬ 0 ≤ c := by rw [decide_eq_true_eq] at h; omega
        have hno := hno hc
        have hL0 := hLi _ (List.getElem_mem h0)
        simp -dsimp [h0]
        have hov := over_eq hn hL0
        have hst : ¬ i64Ok (n + L[0]) → ¬ i64Ok (n + sumI L) := fun h => by
          match L, h0, hno, h with
          | x :: L', _, hno, h =>
            refine (stuck hn fun y hy => ?_).2 h
            obtain ⟨j, hj, rfl⟩ := List.getElem_of_mem hy
            have := hno j hj
            rwa [getElem!_pos _ j hj] at this
        refine ⟨fun h => ⟨h, fun h2 => ⟨h, h2⟩⟩, fun h => by omega, VIf.mk (fun h => ?_) (fun h => ?_)⟩
        · rw [hov, decide_eq_true_eq] at h
          have hb := hst h
          rw [hS] at hb
          simp -dsimp [hb]
        · rw [hov, decide_eq_false_iff_not, Decidable.not_not] at h
          simp -dsimp [h0]
          refine VL.snap 4 ?_
          simp -dsimp [h0]
          refine VL.draw (by kernel_rfl) [(0, false), (0, false), (0, false), (6, false), (15, false), (0, false), (0, false), (64, false), (224, false), (511, true), (1023, true)] (by kernel_rfl) ?_
          have hw1 : IntKind.i64.wrap (0 + 1) = 1 := by decide
          have hT : List.take L.length (ints L) = ints L := List.take_of_length_le (by simp)
          have hin : i64Ok (n + L[0]) := h
          have hwn : IntKind.i64.wrap (n + L[0]) = n + L[0] := IntWalk.i64_in _ hin
          have hcut := sumI_cut L h0
          rw [List.take_zero, List.nil_append, Nat.zero_add] at hcut
          simp -dsimp [h0, hT, hwn]
          refine ⟨hen, ⟨by omega, hen⟩, fun e he => hen e (List.mem_of_mem_tail he), by omega, n + L[0], L.drop 1, ⟨by omega, hin, fun x hx => hLi x (List.mem_of_mem_drop hx), by rw [List.length_drop]; omega⟩, addτ, addτ_inv, ?_, by rw [List.length_drop]; omega⟩
          simp [St.le, St.ren, addτ, renS, renR, renSs, ints]
      · have hc : 0 ≤ c := by rw [decide_eq_false_iff_not] at h; omega
        have hop := hso hc
        obtain ⟨c', rfl⟩ := Int.eq_ofNat_of_zero_le hc
        have hcl : c' < L.length := by omega
        simp -dsimp [hcl]
        refine VL.snap 4 ?_
        simp -dsimp [hcl]
        refine VL.draw (by kernel_rfl) [(0, false), (0, false), (0, false), (6, false), (15, false), (0, false), (0, false), (64, false), (224, false), (511, true), (1023, true)] (by kernel_rfl) ?_
        have hw' : IntKind.i64.wrap ((c' : Int) + 1) = (c' : Int) + 1 := IntWalk.i64_in _ (by omega)
        have hT : List.take L.length (ints L) = ints L := List.take_of_length_le (by simp)
        have hN : ((c' : Int) + 1).toNat = c' + 1 := by omega
        have hm : min c' L.length = c' := by omega
        have hin : i64Ok (n + L[c']) := by
          have h1 := hLi _ (List.getElem_mem hcl)
          rw [show (((c' : Nat) : Int)).toNat = c' by omega, getElem!_pos L c' hcl] at hop
          unfold oppo at hop
          unfold i64Ok at *
          simp at hop
          omega
        have hwn : IntKind.i64.wrap (n + L[c']) = n + L[c'] := IntWalk.i64_in _ hin
        have hcut := sumI_cut L hcl
        have hlc : (L.take c' ++ L.drop (c' + 1)).length = c' + (L.length - (c' + 1)) := by rw [List.length_append, List.length_take, List.length_drop]; omega
        simp -dsimp [hcl, hw', hT, hN, hm, hwn]
        refine ⟨⟨by omega, hen⟩, fun e he => hen e (List.mem_of_mem_take he), by omega, ⟨by omega, by omega, hen⟩, fun e he => hen e (List.mem_of_mem_drop he), by omega, n + L[c'], L.take c' ++ L.drop (c' + 1), ⟨by omega, hin, fun x hx => ?_, by omega⟩, addτ, addτ_inv, ?_, by omega⟩
        · rcases List.mem_append.1 hx with h | h
          · exact hLi x (List.mem_of_mem_take h)
          · exact hLi x (List.mem_of_mem_drop h)
        · simp [St.le, St.ren, addτ, renS, renR, renSs, ints]
          omega
  · have : L = [] := List.length_eq_zero_iff.1 (by omega)
    subst this
    have hSn : n = sumI l := by simpa [sumI] using hS
    rw [hSn] at hn
    simp -dsimp [hn, hSn]
end Go.Proofs.YtmkbclnhopoiiaaGreat
/- Contract: the document's Sum. -/
set_option linter.unusedSimpArgs false
set_option linter.unusedVariables false
namespace Go.Proofs.YtmkbclnhopoiiaaGreat
open Go.VL Go.RowKit

/-- a column's numbers -/
def colN (c : Nat) (rs : List (List Val)) : List Int := rs.map fun r => (r[c]!).int
theorem colN_snoc (c : Nat) (rs : List (List Val)) {k : Nat} (h : k < rs.length) : colN c (rs.take (k + 1)) = colN c (rs.take k) ++ [(rs[k][c]!).int] := by
  unfold colN; rw [take_snoc h, List.map_append]; rfl
theorem sumI_perm {l m : List Int} (h : l.Perm m) : sumI l = sumI m := by
  induction h with
  | nil => rfl
  | cons x _ ih => rw [sumI, sumI, ih]
  | swap x y l => rw [sumI, sumI, sumI, sumI]; omega
  | trans _ _ h1 h2 => exact h1.trans h2
theorem sumI_at (c : Nat) (t : Int) : ∀ (l : List Fact), sumI (colN c (atT l t)) = sumT c t l
  | [] => rfl
  | f :: l => by
    have ih := sumI_at c t l
    rw [atT_cons, sumT]
    split
    · unfold colN at *
      rw [List.singleton_append, List.map_cons, sumI, ih]; rfl
    · rw [List.nil_append, ih]; omega
def sumR1 (c : Nat) (rs : List (List Val)) : List (List Val) := if 0 < rs.length then [num (sumI (colN c rs))] else []
def smG (c : Nat) (l : List Fact) (i : Nat) : List (List Val) := sumR1 c (nG l i)
def smNL (c : Nat) (l : List Fact) (i : Nat) : Bool := (smG c l i).isEmpty
def refSum (sortP : List Per → List Per) (c : Nat) (l : List Fact) : List Fact := refF sortP (edgesL (pers l)) (smNL c l) (smG c l)
theorem sum_in {sortP : List Per → List Per} (hs : Sorts sortP) (c : Nat) (l : List Fact) (r : List Val) (t : Int) : cnt (sumL sortP c l) r t = (rowsIn (edgesL (pers l)) (smG c l) t).count r := by
  unfold sumL
  rw [normal_cnt hs, cnt_at, sum_at, (slice_at l t).length_eq]
  refine (List.perm_iff_count.1 (in_perm (ps := pers l) (F := smG c l) (m := if 0 < (atT l t).length then [num (sumT c t l)] else []) (fun i h1 h2 h3 => ?_) (fun ho => ?_)) r).symm
  · have := rows_in (pers_mem (l := l) fun f hf => hf) h1 h2 h3
    unfold smG sumR1
    rw [show (nG l i).length = (atT l t).length from this.length_eq, show sumI (colN c (nG l i)) = sumT c t l from (sumI_perm (this.map _)).trans (sumI_at c t l)]
  · rw [rows_out (pers_mem (l := l) fun f hf => hf) ho]; rfl
theorem sumR1_bound (c : Nat) (rs : List (List Val)) : (sumR1 c rs).length ≤ 4000000000000 ∧ ∀ r ∈ sumR1 c rs, r.length ≤ 4398046511104 := by
  unfold sumR1
  split
  · exact ⟨by simp, fun r hr => by simp at hr; subst hr; show 1 ≤ _; omega⟩
  · exact ⟨by simp, fun r hr => by simp at hr⟩
/-- the cells' sums fit just if those of the steps do -/
def goodC (c : Nat) (l : List Fact) (n : Nat) : Bool := (List.range n).all fun i => decide ((nG l i).length = 0) || decide (i64Ok (sumI (colN c (nG l i))))
theorem goodC_succ (c : Nat) (l : List Fact) (n : Nat) : goodC c l (n + 1) = (goodC c l n && (decide ((nG l n).length = 0) || decide (i64Ok (sumI (colN c (nG l n)))))) := by
  unfold goodC; rw [List.range_succ, List.all_append]; simp
theorem goodC_not {c : Nat} {l : List Fact} {n i : Nat} (hi : i < n) (h : (decide ((nG l i).length = 0) || decide (i64Ok (sumI (colN c (nG l i))))) = false) : goodC c l n = false := by
  unfold goodC
  rw [List.all_eq_false]
  exact ⟨i, List.mem_range.2 hi, by rw [h]; simp⟩
theorem edges_same {a b : List Per} (h : ∀ t, t ∈ edgesL a ↔ t ∈ edgesL b) : edgesL a = edgesL b := by
  have key : ∀ (l m : List Int), Rise l → Rise m → (∀ t, t ∈ l ↔ t ∈ m) → l = m := by
    intro l
    induction l with
    | nil =>
      intro m _ _ h
      cases m with
      | nil => rfl
      | cons y m => exact absurd ((h y).2 (by simp)) (by simp)
    | cons x l ih =>
      intro m h1 h2 h
      cases m with
      | nil => exact absurd ((h x).1 (by simp)) (by simp)
      | cons y m =>
        obtain ⟨a1, a2⟩ := List.pairwise_cons.1 h1
        obtain ⟨b1, b2⟩ := List.pairwise_cons.1 h2
        have e : x = y := by
          rcases List.mem_cons.1 ((h x).1 (by simp)) with e | e
          · exact e
          · rcases List.mem_cons.1 ((h y).2 (by simp)) with e2 | e2
            · exact e2.symm
            · have := a1 y e2; have := b1 x e; omega
        subst e
        rw [ih m a2 b2 fun t => ?_]
        constructor
        · intro ht
          rcases List.mem_cons.1 ((h t).1 (by simp [ht])) with e | e
          · subst e; have := a1 t ht; omega
          · exact e
        · intro ht
          rcases List.mem_cons.1 ((h t).2 (by simp [ht])) with e | e
          · subst e; have := b1 t ht; omega
          · exact e
  exact key _ _ (edgesL_ok a).1 (edgesL_ok b).1 h
theorem edges_right (l : List Fact) : edgesL (perR l) = edgesL (pers l) := by
  refine edges_same fun t => ?_
  rw [(edgesL_ok _).2, (edgesL_ok _).2, mem_endsOf, mem_endsOf]
  constructor
  · rintro ⟨p, hp, hr, h⟩
    obtain ⟨f, hf, rfl⟩ := List.mem_map.1 hp
    obtain ⟨g, hg, _, rfl⟩ := rightL_mem.1 hf
    exact ⟨g.p, List.mem_map.2 ⟨g, hg, rfl⟩, hr, h⟩
  · rintro ⟨p, hp, hr, h⟩
    obtain ⟨f, hf, rfl⟩ := List.mem_map.1 hp
    exact ⟨f.p, perR_mem hf hr, hr, h⟩
theorem good_eq (c : Nat) (l : List Fact) : goodC c l ((edgesL (pers l)).length - 1) = sumGood c l := by
  unfold goodC sumGood sumOk stepsL
  rw [List.append_nil, edges_right, List.all_map]
  rw [Bool.eq_iff_iff, List.all_eq_true, List.all_eq_true]
  refine forall_congr' fun i => forall_congr' fun hi => ?_
  have hi := List.mem_range.1 hi
  have hlt : (edgesL (pers l))[i]! < (edgesL (pers l))[i + 1]! := by
    have := (right_iff _).1 ((edges_ok l).2 i (by omega))
    simp only at this; omega
  have e := rows_in (pers_mem (l := l) fun f hf => hf) (i := i) (by omega) (Int.le_refl _) hlt
  have e1 : (nG l i).length = cntP (perR l) (edgesL (pers l))[i]! := by
    rw [perR_cnt, (slice_at l _).length_eq]; exact e.length_eq
  have e2 : sumI (colN c (nG l i)) = sumT c (edgesL (pers l))[i]! l := (sumI_perm (e.map _)).trans (sumI_at c _ l)
  simp only [Function.comp, e1, e2]
  have e0 : (cntP [] (edgesL (pers l))[i]! : Int) = 0 := rfl
  rw [Bool.or_eq_true, Bool.or_eq_true, decide_eq_true_eq, decide_eq_true_eq, decide_eq_true_eq]
  constructor
  · rintro (h | h)
    · left; omega
    · exact .inr h
  · rintro (h | h)
    · left; omega
    · exact .inr h

set_option maxRecDepth 4000 in
set_option maxHeartbeats 32000000 in
theorem refSum_spec0 {sortP : List Per → List Per} (hs : Sorts sortP) (na : Bool) (l : List Fact) (c : Int) (hl : l.length ≤ 200000000) (hr : Rows1 l) (hv : Vals64 l) :
    Con Tryz.prog 10 [.c (.sl na (facts l)), .c (i64 c)] (if sumE c l = 0 ∧ sumGood c.toNat l = true then [.c (.sl (refSum sortP c.toNat l).isEmpty (facts (refSum sortP c.toNat l))), .c (i64 0)] else [.fr true 0 [] 0, .c (i64 (if sumE c l = 0 then 171 else sumE c l))]) := by
  refine spec_of Tryz.func10 rfl (by kernel_rfl) (by simp [Tryz.f10]) (fun w0 K0 => vc_ok _ _ _ (by kernel_rfl) ?_)
  simp only [Tryz.f10]
  simp -dsimp
  refine VL.loop (fun k : Nat => ⟨[(6, .c (i64 k)), (0, .c (.sl na (facts l))), (1, .c (i64 c))], []⟩)
    (fun k => k ≤ l.length ∧ sumE c (l.take k) = 0) (fun k => l.length - k) 0 (by kernel_rfl) ⟨by simp, rfl⟩ (by simp [St.le]) ?_
  intro k ⟨hk, h0⟩
  by_cases h1 : k < l.length
  · have hw : IntKind.i64.wrap ((k : Int) + 1) = (k : Int) + 1 := IntWalk.i64_in _ (by omega)
    have hsn := sumE_snoc c l h1 h0
    have hst := sumE_stop c l h1 h0
    simp -dsimp [h1, Fact.cells]
    refine VIf.mk (fun h => ?_) (fun h => ?_)
    · have e1 : colE c l[k] = 161 := by
        unfold colE colIn
        rw [h]; rfl
      rw [e1] at hst
      have e2 : sumE c l = 161 := hst (by decide)
      simp -dsimp [e2]
    · have hci : colIn l[k].row.length c = true := by unfold colIn; rw [h]; rfl
      rw [Bool.or_eq_false_iff, decide_eq_false_iff_not, decide_eq_false_iff_not] at h
      have h2 : c.toNat < l[k].row.length := by omega
      have h3 : (c < l[k].row.length) = True := by simp; omega
      have h4 : (0 ≤ c) = True := by simp; omega
      have eE : colE c l[k] = if l[k].row[c.toNat].kind = 1 then 0 else 170 := by unfold colE; rw [if_pos hci, getElem!_pos l[k].row c.toNat h2]
      simp -dsimp [h1, h2, h3, h4, Fact.cells, Val.cells]
      refine VIf.mk (fun h => ?_) (fun h => ?_)
      · have hk1 : ¬ l[k].row[c.toNat].kind = 1 := by simpa using h
        rw [if_neg hk1] at eE
        rw [eE] at hst
        have e2 : sumE c l = 170 := hst (by decide)
        simp -dsimp [e2]
      · have hk1 : l[k].row[c.toNat].kind = 1 := by simpa using h
        rw [if_pos hk1] at eE
        rw [eE] at hsn
        simp -dsimp [hw]
        refine ⟨k + 1, ⟨by omega, hsn⟩, ?_, by omega⟩
        simp [St.le]
  obtain rfl : k = l.length := by omega
  rw [List.take_length] at h0
  have hin : ∀ f ∈ l, 0 ≤ c ∧ c < f.row.length := fun f hf => colE_in (sumE_zero c l h0 f hf)
  have kc := cells_spec0 na l (by omega) hr
  rw [cellsC_of] at kc
  have hE := edges_ok l
  have hle := edges_le l
  have hm : (sumL sortP c.toNat l).length ≤ 2 * l.length := Nat.le_trans (normal_len hs _) (sumX_len c.toNat l)
  have hn : ∀ i, (nG l i).length ≤ l.length := fun i => rowsAt_len _ _
  have hNr : ∀ i, ∀ r ∈ nG l i, 0 ≤ c ∧ c < r.length ∧ ∀ v ∈ r, i64Ok v.int := fun i r h => by
    obtain ⟨f, hf, _, rfl⟩ := rowsAt_mem h
    exact ⟨(hin f hf).1, (hin f hf).2, hv f hf⟩
  have hcg : ∀ i, smG c.toNat l i = sumR1 c.toNat (nG l i) := fun _ => rfl
  have hcn : ∀ i, smNL c.toNat l i = (smG c.toNat l i).isEmpty := fun _ => rfl
  have hgs := goodC_succ c.toNat l
  have hgn := fun n i => @goodC_not c.toNat l n i
  have hge := good_eq c.toNat l
  have kf : ∀ z, Con Tryz.prog 36 [.c (.sl z ((cellsOf (edgesL (pers l)) (smNL c.toNat l) (smG c.toNat l)).map CD.cells))] [.c (.sl (refSum sortP c.toNat l).isEmpty (facts (refSum sortP c.toNat l)))] :=
    fun z => facts_ref hs hE.1 hE.2 (smNL c.toNat l) (smG c.toNat l) (normal_form (sumX c.toNat l)) (sum_in hs c.toNat l) z (by omega) (fun i => sumR1_bound _ _) (by unfold sumL at hm; omega)
  generalize refSum sortP c.toNat l = R at *
  rw [← mixC_0 _ _ (smNL c.toNat l) _ (smG c.toNat l)] at kc
  simp only [← mixC_n (edgesL (pers l)) (nNL l) (smNL c.toNat l) (nG l) (smG c.toNat l)] at kf
  have hset := @mixC_set (edgesL (pers l)) (nNL l) (smNL c.toNat l) (nG l) (smG c.toNat l)
  have hget := @mixC_get (edgesL (pers l)) (nNL l) (smNL c.toNat l) (nG l) (smG c.toNat l)
  generalize hM : mixC (edgesL (pers l)) (nNL l) (smNL c.toNat l) (nG l) (smG c.toNat l) = M at *
  have hML : ∀ i, (M i).length = (edgesL (pers l)).length - 1 := fun i => by rw [← hM]; exact mixC_len ..
  rw [h0, ← hge]
  generalize nG l = NG at *
  generalize nNL l = NN at *
  generalize edgesL (pers l) = E at *
  simp -dsimp
  refine VC.mk _ kc ?_
  simp -dsimp
  refine VL.loop (fun i : Nat => ⟨[(8, .c (i64 i)), (7, .own 2688 (E.length - 1)), (1, .c (i64 c))], [(2688, some (.arr (decide (E.length ≤ 1)) (if E.length ≤ 1 then 0 else 3) (M i) 0))]⟩)
    (fun i => i ≤ E.length - 1 ∧ goodC c.toNat l i = true) (fun i => E.length - 1 - i) 0 (by kernel_rfl) ⟨by simp, rfl⟩ (by simp [St.le, hML]) ?_
  intro i ⟨hi, hgo⟩
  by_cases h1 : i < E.length - 1
  · have hw : IntKind.i64.wrap ((i : Int) + 1) = (i : Int) + 1 := IntWalk.i64_in _ (by omega)
    have hd : decide (E.length ≤ 1) = false := decide_eq_false (by omega)
    have hz : (if E.length ≤ 1 then 0 else 3) = 3 := if_neg (by omega)
    have hc1 : ((i : Int) < ((E.length - 1 : Nat) : Int)) = True := eq_true (by omega)
    have hgi := hget i (by rw [hML]; exact h1)
    have hsi := hset h1
    have hni := hn i
    have hNri := hNr i
    have hci := hcg i
    have hgsi := hgs i
    rw [hgo, Bool.true_and] at hgsi
    have hgni := hgn (E.length - 1) i h1
    rw [hcn] at hsi
    simp -dsimp [hML, h1, hd, hz, hc1]
    generalize hN : NG i = N at *
    refine VL.loop (fun j : KI => ⟨[(10, .c (i64 j.k)), (9, .own 576 j.k), (8, .c (i64 i)), (7, .own 2688 (E.length - 1)), (1, .c (i64 c))], [(576, some (.arr j.nl j.sz (ints (colN c.toNat (N.take j.k))) 0)), (2688, some (.arr false 3 (M i) 0))]⟩)
      (fun j => j.k ≤ N.length ∧ j.nl = decide (j.k = 0) ∧ j.sz = if j.nl then 0 else 1) (fun j => N.length - j.k) ⟨0, true, 0⟩ (by kernel_rfl) ⟨by simp, rfl, rfl⟩ (by simp [St.le, colN]) ?_
    intro ⟨j, y, sy⟩ ⟨hj, hy, hsy⟩
    simp only at hj hy hsy
    by_cases j1 : j < N.length
    · have hwj : IntKind.i64.wrap ((j : Int) + 1) = (j : Int) + 1 := IntWalk.i64_in _ (by omega)
      have hsj := colN_snoc c.toNat N j1
      obtain ⟨c0, c1, _⟩ := hNri _ (List.getElem_mem j1)
      have h2 : c.toNat < N[j].length := by omega
      have h3 : (c < N[j].length) = True := by simp; omega
      have h4 : (0 ≤ c) = True := by simp; omega
      rw [getElem!_pos N[j] c.toNat h2] at hsj
      have hlj : (colN c.toNat (N.take j)).length = j := by simp [colN]; omega
      simp -dsimp [hML, h1, hgi, j1, h2, h3, h4, Val.cells]
      refine ⟨by decide, hlj, fun e => by rw [hsy, e]; rfl, by rw [hlj]; omega, ⟨j + 1, false, 1⟩, ⟨by simp only; omega, by simp, rfl⟩, ?_, by simp only; omega⟩
      simp [St.le, hwj, hsj]
      rfl
    · obtain rfl : j = N.length := by omega
      rw [List.take_length] at *
      have hlN : (colN c.toNat N).length = N.length := by simp [colN]
      simp -dsimp [hML, h1, hgi]
      have hadd := add_spec y (colN c.toNat N) (by rw [hlN]; omega) (fun x hx => by
        obtain ⟨r, hr0, rfl⟩ := List.mem_map.1 hx
        obtain ⟨a1, a2, a3⟩ := hNri r hr0
        have h2 : c.toNat < r.length := by omega
        rw [getElem!_pos r c.toNat h2]
        exact a3 _ (List.getElem_mem _))
      refine ⟨hlN, VIf.mk (fun h => ?_) (fun h => ?_)⟩
      · have hp : 0 < N.length := of_decide_eq_true h
        have hci : smG c.toNat l i = [num (sumI (colN c.toNat N))] := by rw [hci]; unfold sumR1; rw [if_pos hp]
        rw [hci] at hsi
        simp -dsimp
        refine VCL.snap ?_
        simp -dsimp
        refine ⟨hlN, VC.mk _ hadd ?_⟩
        simp -dsimp
        refine VIf.mk (fun h => ?_) (fun h => ?_)
        · have hb : ¬ i64Ok (sumI (colN c.toNat N)) := by simpa using h
          have e2 := hgni (by rw [decide_eq_false (by omega), decide_eq_false hb]; rfl)
          simp -dsimp [e2]
        · have hb : i64Ok (sumI (colN c.toNat N)) := by simpa using h
          rw [decide_eq_true hb, Bool.or_true] at hgsi
          rw [if_pos hb]
          simp -dsimp [hML, h1, hgi]
          refine ⟨by decide, i + 1, ⟨by omega, hgsi⟩, ?_, by omega⟩
          simp [St.le, hd, hz, hw]
          exact hsi
      · have hp : ¬ 0 < N.length := of_decide_eq_false h
        have hci : smG c.toNat l i = [] := by rw [hci]; unfold sumR1; rw [if_neg hp]
        rw [hci] at hsi
        rw [decide_eq_true (show N.length = 0 by omega), Bool.true_or] at hgsi
        simp -dsimp [hML, hw]
        refine ⟨i + 1, ⟨by omega, hgsi⟩, ?_, by omega⟩
        simp [St.le, hd, hz]
        exact hsi
  · obtain rfl : i = E.length - 1 := by omega
    simp -dsimp [hML]
    refine VCL.snap ?_
    simp -dsimp [hML]
    refine VC.mk _ (kf _) ?_
    simp -dsimp [hgo]
theorem sumE_codes (c : Int) : ∀ (l : List Fact), sumE c l = 0 ∨ sumE c l = 161 ∨ sumE c l = 170
  | [] => .inl rfl
  | f :: l => by
    rw [sumE]
    split
    · exact sumE_codes c l
    · unfold colE
      split
      · split <;> simp
      · simp
/-- Sum's code -/
def sumGd (c : Int) (l : List Fact) : Bool := decide (sumE c l = 0) && sumGood c.toNat l
def sumC (c : Int) (l : List Fact) : Int := if sumGd c l then 0 else if sumE c l = 0 then 171 else sumE c l
def sumB (sortP : List Per → List Per) (c : Int) (l : List Fact) : List Fact := if sumGd c l then sumL sortP c.toNat l else []
def refSumB (sortP : List Per → List Per) (c : Int) (l : List Fact) : List Fact := if sumGd c l then refSum sortP c.toNat l else []
theorem sum_con {sortP : List Per → List Per} (hs : Sorts sortP) (hi : SortsI) (hf : SortsF) (nl : Bool) (l : List Fact) (c : Int) (hl : l.length ≤ 1500000000000) (hr : Rows1 l) (hv : Vals64 l) :
    Con Tryz.prog 9 [.c (.sl nl (facts l)), .c (i64 c)] [.c (.sl (sumB sortP c l).isEmpty (facts (sumB sortP c l))), .c (i64 (sumC c l))] := by
  have h := sum_spec hs hi hf nl l c hl hr hv
  unfold sumB sumC
  by_cases hp : sumE c l = 0 ∧ sumGood c.toNat l = true
  · have e : sumGd c l = true := by unfold sumGd; rw [hp.1, hp.2]; rfl
    rw [if_pos hp] at h
    rw [e]; exact h
  · have e : sumGd c l = false := by
      unfold sumGd
      rw [Bool.and_eq_false_iff, decide_eq_false_iff_not]
      by_cases h1 : sumE c l = 0
      · right; rw [Bool.eq_false_iff]; exact fun h2 => hp ⟨h1, h2⟩
      · left; exact h1
    rw [if_neg hp] at h
    rw [e]; exact h
theorem refSum_con {sortP : List Per → List Per} (hs : Sorts sortP) (nl : Bool) (l : List Fact) (c : Int) (hl : l.length ≤ 200000000) (hr : Rows1 l) (hv : Vals64 l) :
    Con Tryz.prog 10 [.c (.sl nl (facts l)), .c (i64 c)] [.c (.sl (refSumB sortP c l).isEmpty (facts (refSumB sortP c l))), .c (i64 (sumC c l))] := by
  have h := refSum_spec0 hs nl l c hl hr hv
  unfold refSumB sumC
  by_cases hp : sumE c l = 0 ∧ sumGood c.toNat l = true
  · have e : sumGd c l = true := by unfold sumGd; rw [hp.1, hp.2]; rfl
    rw [if_pos hp] at h
    rw [e]; exact h
  · have e : sumGd c l = false := by
      unfold sumGd
      rw [Bool.and_eq_false_iff, decide_eq_false_iff_not]
      by_cases h1 : sumE c l = 0
      · right; rw [Bool.eq_false_iff]; exact fun h2 => hp ⟨h1, h2⟩
      · left; exact h1
    rw [if_neg hp] at h
    rw [e]; exact h.frz 0 rfl
theorem same_sum {sortP : List Per → List Per} (hs : Sorts sortP) (na nb : Bool) (l : List Fact) (c : Int) (hl : l.length ≤ 200000000) :
    Con Tryz.prog 11 [.c (.sl na (facts (sumB sortP c l))), .c (.sl nb (facts (refSumB sortP c l)))] [.c (bln true)] := by
  unfold sumB refSumB
  by_cases h : sumGd c l = true
  · rw [if_pos h, if_pos h]
    have hE := edges_ok l
    have hm : (sumL sortP c.toNat l).length ≤ 2 * l.length := Nat.le_trans (normal_len hs _) (sumX_len c.toNat l)
    exact same_ref hs hE.1 hE.2 (smNL c.toNat l) (smG c.toNat l) (normal_form (sumX c.toNat l)) (sum_in hs c.toNat l) na nb (by unfold sumL at hm; omega) (normal_rows1 (sumX_rows c.toNat l))
  · rw [if_neg h, if_neg h]
    have := sameF_spec na nb [] [] (by simp) (fun f hf => by simp at hf)
    simpa using this

/-! ### Copies -/
def copyF (f : Fact) : Fact := ⟨false, f.row, f.p⟩
set_option maxRecDepth 4000 in
set_option maxHeartbeats 16000000 in
theorem copyF_spec (nl : Bool) (l : List Fact) (hl : l.length ≤ 3518437208883) (hr : Rows1 l) : Con Tryz.prog 6 [.c (.sl nl (facts l))] [.c (.sl false (facts (l.map copyF)))] := by
  refine Con.frz (rs := [.fr false 3 (facts (l.map copyF)) 0]) ?_ 0 rfl
  refine spec_of Tryz.func6 rfl (by kernel_rfl) (by simp [Tryz.f6]) (fun w0 K0 => vc_ok _ _ _ (by kernel_rfl) ?_)
  simp only [Tryz.f6]
  simp -dsimp
  refine ⟨by omega, ?_⟩
  refine VL.loop (fun k : Nat => ⟨[(4, .c (i64 k)), (3, .own 448 k), (0, .c (.sl nl (facts l)))], [(448, some (.arr false 3 (facts ((l.take k).map copyF)) 0))]⟩)
    (fun k => k ≤ l.length) (fun k => l.length - k) 0 (by kernel_rfl) (by simp) (by simp [St.le]) ?_
  intro k hk
  by_cases h1 : k < l.length
  · have hw : IntKind.i64.wrap ((k : Int) + 1) = (k : Int) + 1 := IntWalk.i64_in _ (by omega)
    have hsn : facts ((l.take (k + 1)).map copyF) = facts ((l.take k).map copyF) ++ [(copyF l[k]).cells] := by rw [take_snoc h1, List.map_append]; exact List.map_append ..
    have hrk := hr _ (List.getElem_mem h1)
    simp -dsimp [h1, Fact.cells]
    refine VL.draw (by kernel_rfl) [(0, false), (0, false), (0, false), (6, false), (14, false), (30, false), (62, false), (0, false), (0, false), (384, false), (896, false), (1920, false), (4094, false), (8190, false), (16383, true), (32767, true)] (by kernel_rfl) ?_
    simp -dsimp [h1, Fact.cells]
    refine VCE.mk _ (copy_frz l[k].nl l[k].row hrk) ?_
    simp -dsimp [h1, Fact.cells, hw, maxLen]
    refine ⟨by omega, by omega, k + 1, by omega, ?_, by omega⟩
    rw [facts, facts, List.map_map, List.map_map, List.map_take, List.map_take] at hsn
    simp [St.le, hsn, copyF, Fact.cells]
  · obtain rfl : k = l.length := by omega
    rw [List.take_length]
    simp -dsimp
theorem copy_cnt (l : List Fact) (r : List Val) (t : Int) : cnt (l.map copyF) r t = cnt l r t := by
  unfold cnt
  rw [List.filter_map, List.length_map]
  rfl
end Go.Proofs.YtmkbclnhopoiiaaGreat
/- Plain law: copies say the same; the document's rows are in order. -/
set_option linter.unusedSimpArgs false
set_option linter.unusedVariables false
namespace Go.Proofs.YtmkbclnhopoiiaaGreat
open Go.VL Go.RowKit

theorem copy_at (l : List Fact) (t : Int) : atT (l.map copyF) t = atT l t := by
  unfold atT
  rw [List.filter_map, List.map_map]
  rfl
theorem copy_pers (l : List Fact) : pers (l.map copyF) = pers l := by unfold pers; rw [List.map_map]; rfl
theorem copy_rowsAt (l : List Fact) (t : Int) : rowsAt (l.map copyF) t = rowsAt l t := by
  unfold rowsAt
  rw [List.foldl_map]
  rfl
theorem copy_sumT (c : Nat) (t : Int) : ∀ (l : List Fact), sumT c t (l.map copyF) = sumT c t l
  | [] => rfl
  | f :: l => by rw [List.map_cons, sumT, sumT, copy_sumT c t l]; rfl
theorem copy_sumE (c : Int) : ∀ (l : List Fact), sumE c (l.map copyF) = sumE c l
  | [] => rfl
  | f :: l => by rw [List.map_cons, sumE, sumE, copy_sumE c l]; rfl
theorem copy_nG (l : List Fact) (i : Nat) : nG (l.map copyF) i = nG l i := by unfold nG; rw [copy_rowsAt, copy_pers]
theorem copy_good (c : Nat) (l : List Fact) : sumGood c (l.map copyF) = sumGood c l := by
  rw [← good_eq, ← good_eq, copy_pers]
  unfold goodC
  simp only [copy_nG]
theorem copy_gd (c : Int) (l : List Fact) : sumGd c (l.map copyF) = sumGd c l := by unfold sumGd; rw [copy_sumE, copy_good]
theorem copy_sumC (c : Int) (l : List Fact) : sumC c (l.map copyF) = sumC c l := by unfold sumC; rw [copy_gd, copy_sumE]
theorem copy_rows1 {l : List Fact} (h : Rows1 l) : Rows1 (l.map copyF) := fun f hf => by
  obtain ⟨g, hg, rfl⟩ := List.mem_map.1 hf
  exact h g hg
theorem copy_vals {l : List Fact} (h : Vals64 l) : Vals64 (l.map copyF) := fun f hf => by
  obtain ⟨g, hg, rfl⟩ := List.mem_map.1 hf
  exact h g hg
theorem copy_rows2 {a b : List Fact} (h : Rows2 a b) : Rows2 (a.map copyF) (b.map copyF) := fun x hx y hy => by
  obtain ⟨f, hf, rfl⟩ := List.mem_map.1 hx
  obtain ⟨g, hg, rfl⟩ := List.mem_map.1 hy
  exact h f hf g hg
theorem copy_slen (l : List Fact) (t : Int) : (sliceL (l.map copyF) t).length = (sliceL l t).length := by rw [(slice_at _ t).length_eq, (slice_at l t).length_eq, copy_at]
theorem copy_projOk (l : List Fact) (cs : List Int) : projOk (l.map copyF) cs = projOk l cs := by unfold projOk; rw [List.all_map]; rfl
section
variable {sortP : List Per → List Per}
theorem copy_normal (hs : Sorts sortP) (a b : List Fact) : normalL sortP (a.map copyF ++ b.map copyF) = normalL sortP (a ++ b) :=
  normal_perm hs fun t => by rw [atT_append, atT_append, copy_at, copy_at]
theorem copy_coalesce (hs : Sorts sortP) (l : List Fact) : coalesceL sortP (l.map copyF) = coalesceL sortP l :=
  (coalesce_form hs _).ext (coalesce_form hs l) hs fun r t => by rw [coalesce_cnt hs, coalesce_cnt hs, copy_cnt]
theorem copy_except (hs : Sorts sortP) (a b : List Fact) : exceptL sortP (a.map copyF) (b.map copyF) = exceptL sortP a b :=
  (except_form _ _).ext (except_form a b) hs fun r t => by rw [except_cnt hs, except_cnt hs, copy_cnt, copy_cnt]
theorem copy_join (hs : Sorts sortP) (a b : List Fact) : joinL sortP (a.map copyF) (b.map copyF) = joinL sortP a b :=
  normal_perm hs fun t => by rw [atT_join, atT_join, copy_at, copy_at]
theorem copy_clip (hs : Sorts sortP) (l : List Fact) (p : Per) : clipL sortP (l.map copyF) p = clipL sortP l p :=
  (normal_eq hs _ _).2 fun r t => by rw [clipP_cnt, clipP_cnt, copy_cnt]
theorem copy_count (hs : Sorts sortP) (l : List Fact) : countL sortP (l.map copyF) = countL sortP l :=
  normal_perm hs fun t => by rw [count_at, count_at, copy_slen]
theorem copy_proj (hs : Sorts sortP) (l : List Fact) (cs : List Int) : projL sortP (l.map copyF) cs = projL sortP l cs := by
  unfold projL
  rw [List.map_map]
  rfl
theorem copy_sum (hs : Sorts sortP) (c : Int) (l : List Fact) : sumB sortP c (l.map copyF) = sumB sortP c l := by
  unfold sumB
  rw [copy_gd]
  split
  · exact normal_perm hs fun t => by rw [sum_at, sum_at, copy_slen, copy_sumT]
  · rfl
end
theorem rowsAt_up (l : List Fact) (t : Int) : RUp (rowsAt l t) := by
  refine rev_ind (p := fun l => RUp (rowsAt l t)) ?_ ?_ l
  · simp [rowsAt]
  · intro l f ih
    have e : rowsAt (l ++ [f]) t = if validAt f t then insR f.row (rowsAt l t) else rowsAt l t := by unfold rowsAt; rw [List.foldl_append]; rfl
    rw [e]
    split
    · exact insR_up _ _ ih
    · exact ih
theorem rowsAt_slice (l : List Fact) (t : Int) : sliceL (l.map copyF) t = rowsAt l t := by
  refine slice_perm (rowsAt_up l t) ?_
  rw [copy_at]
  exact rowsAt_perm l t
end Go.Proofs.YtmkbclnhopoiiaaGreat
