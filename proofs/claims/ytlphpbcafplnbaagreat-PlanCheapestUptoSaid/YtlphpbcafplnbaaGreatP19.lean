/- PlanCheapest: what is chosen without an oracle is one of the ways and none costs less; every way is picked by some oracle. Over every argument whose bulk is at most 2^20. -/
import Derived.Test.YtlphpbcafplnbaaGreatP17
import Derived.Test.YtlphpbcafplnbaaGreatP18
set_option linter.unusedSimpArgs false
set_option linter.unusedVariables false
namespace Go.Proofs.YtlphpbcafplnbaaGreat
open Go.VL Go.RowKit

set_option maxRecDepth 100000 in
theorem cheapest_holds : Rows.PlanCheapestUptoSaid :=
  OpenClaim.holds_of_cond 11 Tryz.f11 rfl rfl rfl rfl rfl rfl rfl ⟨rfl, rfl, rfl, rfl, rfl⟩ rfl rfl rfl rfl rfl (by kernel_rfl) Tryz.func11 cheapest_facts
    (of_decide_eq_true (by kernel_rfl)) (by unfold Func.isWrapper; first | (rw [if_pos (by decide +kernel)]; kernel_rfl) | (rw [if_neg (by decide +kernel)]; exact ⟨rfl, rfl⟩))
    (fun os started H enc _ F => cheapest_lifted os started H enc F)
end Go.Proofs.YtlphpbcafplnbaaGreat
