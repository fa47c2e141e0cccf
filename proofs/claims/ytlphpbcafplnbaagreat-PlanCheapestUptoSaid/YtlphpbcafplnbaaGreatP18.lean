/- PlanCheapest: the facts of the program that the row asks for. -/
import Derived.Test.YtlphpbcafplnbaaGreatRows
import Derived.JoinedCond
import Derived.KernelRfl
set_option linter.unusedSimpArgs false
set_option linter.unusedVariables false
namespace Go.Proofs.YtlphpbcafplnbaaGreat
set_option maxRecDepth 100000 in
theorem cheapest_facts : joinedFacts Tryz.pinned.checked.prog 11 Tryz.f11 (Rows.OpenSpec.upto Rows.planCheapestSpec).bare Rows.planCheapestUptoRow = true := by kernel_rfl
end Go.Proofs.YtlphpbcafplnbaaGreat
