/- Contracts of functions of the seat, proved in a logic on data over the model (part N48). -/
import Derived.Test.YtlphpbcafplnbaaGreatRows
import Derived.JoinedCond
import Derived.KernelRfl
set_option linter.unusedSimpArgs false
set_option linter.unusedVariables false
namespace Go.Proofs.YtlphpbcafplnbaaGreat
set_option maxRecDepth 100000 in
theorem filters_facts:joinedFacts Tryz.pinned.checked.prog 8 Tryz.f8 (Rows.OpenSpec.upto Rows.execFiltersSpec).bare Rows.execFiltersUptoRow=true:=by kernel_rfl
end Go.Proofs.YtlphpbcafplnbaaGreat
