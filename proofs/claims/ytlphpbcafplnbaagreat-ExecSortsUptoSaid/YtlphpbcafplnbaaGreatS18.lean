/- ExecSorts: facts sorted by any columns stand in the document's order, sorted twice they are as sorted once, what was handed in is left, and none is lost. Over every argument whose bulk is at most 2^20. -/
import Derived.Test.YtlphpbcafplnbaaGreatS16
import Derived.Test.YtlphpbcafplnbaaGreatS17
set_option linter.unusedSimpArgs false
set_option linter.unusedVariables false
namespace Go.Proofs.YtlphpbcafplnbaaGreat
open Go.VL Go.RowKit
set_option maxRecDepth 100000 in
theorem sorts_holds:Rows.ExecSortsUptoSaid :=
  OpenClaim.holds_of_cond 6 Tryz.f6 rfl rfl rfl rfl rfl rfl rfl ⟨rfl,rfl,rfl,rfl,rfl⟩ rfl rfl rfl rfl rfl (by kernel_rfl) Tryz.func6 sorts_facts
    (of_decide_eq_true (by kernel_rfl)) (by unfold Func.isWrapper;first | (rw [if_pos (by decide +kernel)];kernel_rfl) | (rw [if_neg (by decide +kernel)];exact ⟨rfl,rfl⟩))
    (fun os started H enc _ F=>sorts_lifted os started H enc F)
end Go.Proofs.YtlphpbcafplnbaaGreat
