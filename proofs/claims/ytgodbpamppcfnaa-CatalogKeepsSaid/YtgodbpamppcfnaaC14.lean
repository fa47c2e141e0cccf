/- Contracts of functions of the seat, proved in a logic on data over the model (part C14). -/
import Derived.Test.YtgodbpamppcfnaaC9
set_option linter.unusedSimpArgs false
set_option linter.unusedVariables false
namespace Go.Proofs.Ytgodbpamppcfnaa
open Go.VL Go.RowKit

set_option maxRecDepth 4000 in
set_option maxHeartbeats 4000000 in
theorem findRef_spec (nl : Bool) (ts : List Tab) (name : List UInt8) (hl : ts.length ≤ 140737488355328) : Con Try.prog 44 [.c (.sl nl (ts.map Tab.cells)), .c (str name)] [.c (i64 (findI ts name))] := by
  refine spec_of Try.func44 rfl (by kernel_rfl) (by simp [Try.f44]) (fun w0 K0 => vc_ok _ _ _ (by kernel_rfl) ?_)
  simp only [Try.f44]
  simp -dsimp
  refine VL.loop (fun k : Nat => ⟨[(5, .c (i64 k)), (0, .c (.sl nl (ts.map Tab.cells))), (1, .c (str name))], []⟩) (fun k => k ≤ ts.length ∧ ∀ j, (hj : j < ts.length) → j < k → ts[j].name ≠ name) (fun k => ts.length - k) 0 (by kernel_rfl) (by simp) (by simp [St.le]) ?_
  intro k ⟨hk, hb⟩
  simp -dsimp
  refine VIf.mk (fun h => ?_) (fun h => ?_)
  · have hlt : k < ts.length := by simpa using h
    have hw : IntKind.i64.wrap ((k : Int) + 1) = (k : Int) + 1 := IntWalk.i64_in _ (by omega)
    simp -dsimp [hlt, Tab.cells]
    refine VIf.mk (fun h2 => ?_) (fun h2 => ?_)
    · have h2' : ts[k].name = name := by simpa using h2
      simp -dsimp
      have e : findI ts name = (k : Int) := idxI_at hlt (by simp [h2']) (fun j hj => by simpa using hb j (by omega) hj)
      rw [e]
    · have h2' : ts[k].name ≠ name := by simpa using h2
      simp -dsimp [hw]
      refine ⟨k + 1, ⟨by omega, fun j hj hlt' => ?_⟩, ?_, by omega⟩
      · by_cases e : j = k
        · subst e; exact h2'
        · exact hb j hj (by omega)
      · simp [St.le]
  · simp at h
    simp -dsimp
    have e : findI ts name = -1 := idxI_none fun j hj => by simpa using hb j hj (by omega)
    rw [e]
end Go.Proofs.Ytgodbpamppcfnaa
