/- Contracts of functions of the seat, proved in a logic on data over the model (part S17). -/
import Derived.Test.YtlphpbcafplnbaaGreatRows
import Derived.JoinedCond
import Derived.KernelRfl
set_option linter.unusedSimpArgs false
set_option linter.unusedVariables false
namespace Go.Proofs.YtlphpbcafplnbaaGreat
set_option maxRecDepth 100000 in
theorem sorts_facts:joinedFacts Tryz.pinned.checked.prog 6 Tryz.f6 (Rows.OpenSpec.upto Rows.execSortsSpec).bare Rows.execSortsUptoRow=true:=by kernel_rfl
end Go.Proofs.YtlphpbcafplnbaaGreat
