/- Contracts of functions of the seat, proved in a logic on data over the model (part P3c). -/
import Derived.Test.YtlmnablagocfiaaP3a
namespace Go.Proofs.Ytlmnablagocfiaa
open Go.VL Go.RowKit

set_option maxRecDepth 4000 in
set_option maxHeartbeats 4000000 in
theorem rcheck_spec (e : Ent) : Con Try.prog 13 [.agg e.rcells] [.c (i64 (ck e))] := by
  refine spec_of Try.func13 rfl (by kernel_rfl) (by simp [Try.f13]) (fun w0 K0 => vc_ok _ _ _ (by kernel_rfl) ?_)
  simp only [Try.f13]
  simp -dsimp [Ent.rcells]
  repeat' first
    | refine VIf.mk (fun h => ?_) (fun h => ?_)
    | refine And.intro (by grind) ?_
    | (simp -dsimp; done)
    | simp -dsimp
  all_goals have hd : e.data = [] ↔ e.data.length = 0 := by simp
  all_goals (unfold ck; by_cases k1 : e.kind = 1 <;> by_cases k2 : e.kind = 2 <;> by_cases k3 : e.kind = 3 <;> grind)
end Go.Proofs.Ytlmnablagocfiaa
