/- Contracts of functions of the seat, proved in a logic on data over the model (part P3b). -/
import Derived.Test.YtlmnablagocfiaaP3a
namespace Go.Proofs.Ytlmnablagocfiaa
open Go.VL Go.RowKit

set_option maxRecDepth 4000 in
set_option maxHeartbeats 4000000 in
theorem check_spec (e : Ent) : Con Try.prog 11 [.agg e.cells] [.c (i64 (ck e))] := by
  refine spec_of Try.func11 rfl (by kernel_rfl) (by simp [Try.f11]) (fun w0 K0 => vc_ok _ _ _ (by kernel_rfl) ?_)
  simp only [Try.f11]
  simp -dsimp [Ent.cells]
  repeat' first
    | refine VIf.mk (fun h => ?_) (fun h => ?_)
    | refine And.intro (by grind) ?_
    | (simp -dsimp; done)
    | simp -dsimp
  all_goals (unfold ck; grind)

end Go.Proofs.Ytlmnablagocfiaa
