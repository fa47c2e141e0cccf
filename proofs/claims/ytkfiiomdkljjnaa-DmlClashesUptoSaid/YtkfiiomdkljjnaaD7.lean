/- Contracts: the document's first two facts that are alike at once. -/
import Derived.Test.YtkfiiomdkljjnaaD6
set_option linter.unusedSimpArgs false
set_option linter.unusedVariables false
namespace Go.Proofs.Ytkfiiomdkljjnaa
open Go.VL Go.RowKit

theorem lapOk_eq (a b : Per) : lapOk a b = (right a && (right b && (decide (a.f < b.t) && decide (b.f < a.t)))) := by
  rw [Bool.eq_iff_iff]
  unfold lapOk right lapP
  simp
  omega

set_option maxRecDepth 4000 in
set_option maxHeartbeats 16000000 in
theorem refClash_spec (nl nk : Bool) (l : List Fact) (keys : List Int) (hl : l.length ≤ 140737488355328) (hr : Rows1 l) (hk : keys.length ≤ 140737488355328) :
    Con Try.prog 11 [.c (.sl nl (facts l)), .c (.sl nk (keys.map icell))] [.c (i64 (clashI l keys)), .c (i64 (clashJ l keys)), .c (bln (clashR l keys).isSome)] := by
  refine spec_of Try.func11 rfl (by kernel_rfl) (by simp [Try.f11]) (fun w0 K0 => vc_ok _ _ _ (by kernel_rfl) ?_)
  simp only [Try.f11]
  simp -dsimp
  refine VL.loop (fun i : Nat => ⟨[(7, .c (i64 i)), (0, .c (.sl nl (facts l))), (1, .c (.sl nk (keys.map icell)))], []⟩)
    (fun i => i ≤ l.length ∧ clashUp l keys i = none) (fun i => l.length - i) 0 (by kernel_rfl) ⟨by simp, rfl⟩ (by simp [St.le]) ?_
  intro i ⟨hi, hup⟩
  by_cases h1 : i < l.length
  · have hw : IntKind.i64.wrap ((i : Int) + 1) = (i : Int) + 1 := IntWalk.i64_in _ (by omega)
    simp -dsimp [h1]
    refine VL.loop (fun j : Nat => ⟨[(8, .c (i64 j)), (7, .c (i64 i)), (0, .c (.sl nl (facts l))), (1, .c (.sl nk (keys.map icell)))], []⟩)
      (fun j => j ≤ i ∧ clashRow l keys i j = none) (fun j => i - j) 0 (by kernel_rfl) ⟨by simp, rfl⟩ (by simp [St.le]) ?_
    intro j ⟨hj, hrow⟩
    by_cases h2 : j < i
    · have hw2 : IntKind.i64.wrap ((j : Int) + 1) = (j : Int) + 1 := IntWalk.i64_in _ (by omega)
      have h3 : j < l.length := by omega
      simp -dsimp [h1, h2, h3]
      refine VL.draw (by kernel_rfl) [(0, false), (0, false), (3, false), (7, false), (15, false), (0, false), (0, false), (96, false), (224, false), (480, false), (0, false), (0, false), (3103, false), (8191, true)] (by kernel_rfl) ?_
      simp -dsimp [h1, h3, Fact.cells]
      refine ⟨by simp [Value.cells], ?_⟩
      refine VL.draw (by kernel_rfl) [(0, true), (1, true), (3, true), (7, true), (15, true), (31, true), (63, true), (127, false), (255, false), (127, false), (639, false), (2047, true), (4095, true), (8191, true), (16383, false), (32767, false), (16383, false), (81919, false), (262143, true), (524287, true), (1048575, true), (2097151, false), (2097151, false), (8388607, false), (16777215, false), (33554431, false), (2097151, false), (2097151, false), (203423743, false), (471859199, false), (1008730111, false), (2097151, false), (4294967295, true), (8589934591, true)] (by kernel_rfl) ?_
      simp -dsimp [h1, h3, Fact.cells]
      have hrj := hr l[j] (List.getElem_mem h3)
      have hri := hr l[i] (List.getElem_mem h1)
      refine VC.mk _ (refRight_at _ l[j].p rfl) ?_
      simp -dsimp
      refine VG.mk [.c (bln (right l[i].p))] _ (fun _ => refRight_at _ l[i].p rfl) rfl ?_
      simp -dsimp [h1, h3, Fact.cells]
      refine VG.mk [.c (bln (alike l[j].row l[i].row keys))] _ (fun _ => refAlike_spec _ _ _ l[j].row l[i].row keys (by omega) (by omega) hk) rfl ?_
      simp -dsimp
      have hc : clashes l[j]! l[i]! keys = (lapOk l[j].p l[i].p && alike l[j].row l[i].row keys) := by
        rw [getElem!_pos l j h3, getElem!_pos l i h1]; rfl
      rw [lapOk_eq] at hc
      refine VIf.mk (fun h => ?_) (fun h => ?_)
      · have h' : clashes l[j]! l[i]! keys = true := by rw [hc]; simpa [and_assoc] using h
        have e := clashR_yes h1 h2 hup hrow h'
        simp -dsimp
        simp [clashI, clashJ, e]
      · have h' : clashes l[j]! l[i]! keys = false := by rw [hc]; simpa [and_assoc] using h
        simp -dsimp [hw2]
        refine ⟨j + 1, ⟨by omega, clashRow_no hrow h'⟩, ?_, by omega⟩
        simp [St.le]
    · obtain rfl : j = i := by omega
      simp -dsimp [hw]
      refine ⟨j + 1, ⟨by omega, ?_⟩, ?_, by omega⟩
      · rw [clashUp, hup]; exact hrow
      · simp [St.le]
  · obtain rfl : i = l.length := by omega
    simp -dsimp
    unfold clashI clashJ clashR
    rw [hup]
    simp
end Go.Proofs.Ytkfiiomdkljjnaa
