/- PlanChooses: the ways of answering a raw question, what each is reckoned to cost, and which one an oracle, or the least cost, picks, are the document's. Over every argument whose bulk is at most 2^20. -/
import Derived.Test.YtlphpbcafplnbaaGreatR10
import Derived.Test.YtlphpbcafplnbaaGreatP21
set_option linter.unusedSimpArgs false
set_option linter.unusedVariables false
namespace Go.Proofs.YtlphpbcafplnbaaGreat
open Go.VL Go.RowKit
set_option maxRecDepth 100000 in
theorem chooses_holds : Rows.PlanChoosesUptoSaid :=
  OpenClaim.holds_of_cond 10 Tryz.f10 rfl rfl rfl rfl rfl rfl rfl ⟨rfl, rfl, rfl, rfl, rfl⟩ rfl rfl rfl rfl rfl (by kernel_rfl) Tryz.func10 chooses_facts
    (of_decide_eq_true (by kernel_rfl)) (by unfold Func.isWrapper; first | (rw [if_pos (by decide +kernel)]; kernel_rfl) | (rw [if_neg (by decide +kernel)]; exact ⟨rfl, rfl⟩))
    (fun os started H enc _ F => chooses_lifted os started H enc F)
end Go.Proofs.YtlphpbcafplnbaaGreat
