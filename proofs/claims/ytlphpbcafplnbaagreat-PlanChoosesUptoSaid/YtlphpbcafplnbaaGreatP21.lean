/- Contracts of functions of the seat, proved in a logic on data over the model (part P21). -/
import Derived.Test.YtlphpbcafplnbaaGreatRows
import Derived.JoinedCond
import Derived.KernelRfl
set_option linter.unusedSimpArgs false
set_option linter.unusedVariables false
namespace Go.Proofs.YtlphpbcafplnbaaGreat
set_option maxRecDepth 100000 in
theorem chooses_facts : joinedFacts Tryz.pinned.checked.prog 10 Tryz.f10 (Rows.OpenSpec.upto Rows.planChoosesSpec).bare Rows.planChoosesUptoRow = true := by kernel_rfl
end Go.Proofs.YtlphpbcafplnbaaGreat
