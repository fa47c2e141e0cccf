/- ExecFilters: facts kept by conditions, cut to a period, their columns turned, are the document's; and it does not matter which comes first. Over every argument whose bulk is at most 2^20. -/
import Derived.Test.YtlphpbcafplnbaaGreatN47
import Derived.Test.YtlphpbcafplnbaaGreatN48
set_option linter.unusedSimpArgs false
set_option linter.unusedVariables false
namespace Go.Proofs.YtlphpbcafplnbaaGreat
open Go.VL Go.RowKit
set_option maxRecDepth 100000 in
theorem filters_holds:Rows.ExecFiltersUptoSaid :=
  OpenClaim.holds_of_cond 8 Tryz.f8 rfl rfl rfl rfl rfl rfl rfl ⟨rfl,rfl,rfl,rfl,rfl⟩ rfl rfl rfl rfl rfl (by kernel_rfl) Tryz.func8 filters_facts
    (of_decide_eq_true (by kernel_rfl)) (by unfold Func.isWrapper;first | (rw [if_pos (by decide +kernel)];kernel_rfl) | (rw [if_neg (by decide +kernel)];exact ⟨rfl,rfl⟩))
    (fun os started H enc _ F=>filters_lifted os started H enc F)
end Go.Proofs.YtlphpbcafplnbaaGreat
