/- Contracts of functions of the seat, proved in a logic on data over the model (part Q3). -/
import Derived.Test.YtkfiiomdkljjnaaQ2
set_option linter.unusedSimpArgs false
set_option linter.unusedVariables false
namespace Go.Proofs.Ytkfiiomdkljjnaa
open Go.VL Go.RowKit

set_option maxRecDepth 4000 in
set_option maxHeartbeats 4000000 in
theorem idx_spec (nil : Bool) (l : List Per) (hl : l.length ≤ 140737488355328) :
    Con Try.prog 104 [.c (.sl nil (l.map Per.cells)), .c (.fn 84 [])] [.c (i64 (match l.findIdx? (fun p => !right p) with | some k => (k : Int) | none => -1))] := by
  refine spec_of Try.func104 rfl (by kernel_rfl) (by simp [Try.f104]) (fun w0 K0 => vc_ok _ _ _ (by kernel_rfl) ?_)
  simp only [Try.f104]
  simp -dsimp
  refine VL.loop (fun k : Nat => ⟨[(8, .c (i64 k)), (7, .c (i64 l.length)), (0, .c (.sl nil (l.map Per.cells))), (1, .c (.fn 84 []))], []⟩) (fun k => k ≤ l.length ∧ ∀ j, (hj : j < k) → (hl : j < l.length) → right l[j] = true) (fun k => l.length - k) 0 (by kernel_rfl) (by simp) (by simp [St.le]) ?_
  intro k ⟨hk, hbef⟩
  simp -dsimp
  refine VIf.mk (fun h => ?_) (fun h => ?_)
  · have hlt : k < l.length := by simpa using h
    have hw : IntKind.i64.wrap ((k : Int) + 1) = (k : Int) + 1 := IntWalk.i64_in _ (by omega)
    simp -dsimp [hlt, Per.cells]
    refine VC.mk _ (bad_spec l[k]) ?_
    simp -dsimp
    refine VIf.mk (fun h2 => ?_) (fun h2 => ?_)
    · simp -dsimp
      have : l.findIdx? (fun p => !right p) = some k := by
        rw [List.findIdx?_eq_some_iff_getElem]
        exact ⟨hlt, h2, fun j hj => by rw [hbef j hj (by omega)]; simp⟩
      rw [this]
    · simp -dsimp [hw]
      refine ⟨k + 1, ⟨by omega, fun j hj hl => ?_⟩, ?_, by omega⟩
      · by_cases e : j = k
        · subst e; simpa using h2
        · exact hbef j (by omega) hl
      · simp [St.le]
  · simp at h
    simp -dsimp
    have : l.findIdx? (fun p => !right p) = none := by
      rw [List.findIdx?_eq_none_iff]
      intro p hp
      obtain ⟨j, hj, rfl⟩ := List.getElem_of_mem hp
      simp [hbef j (by omega) hj]
    rw [this]
end Go.Proofs.Ytkfiiomdkljjnaa
