/- PlanCheapest: the row's step. -/
import Derived.Test.YtlphpbcafplnbaaGreatP16
import Derived.HandedShaped
import Derived.JoinedCond
set_option linter.unusedSimpArgs false
set_option linter.unusedVariables false
namespace Go.Proofs.YtlphpbcafplnbaaGreat
open Go.VL Go.RowKit

set_option maxRecDepth 100000 in
theorem cheapest_lifted (os : Os) (started : os.Started) (H : Type) (enc : TypeId × Value → H) (F : Stop.Interp) :
    ReturnsInHanded {} Tryz.checked os 11 .any ((Rows.OpenSpec.upto Rows.planCheapestSpec).pre6 enc Tryz.prog Tryz.f11 Rows.planCheapestUptoRow.domain false) (((Rows.OpenSpec.upto Rows.planCheapestSpec).at F).post enc Tryz.prog Tryz.f11 false true false false) := by
  refine returnsInHanded_of_cond (C := Tryz.checked) (s := Rows.OpenSpec.upto Rows.planCheapestSpec) (k := Rows.uptoSmall) rfl own started (by kernel_rfl) Tryz.func11
    (OpenSpec.witness (enc := enc) (C := Tryz.checked) (s := Rows.OpenSpec.upto Rows.planCheapestSpec) (k := Rows.uptoSmall) rfl false ⟨#[], #[.agg #[.slice none 0 0, .slice none 0 0, .bool false, .bool false, .bool false, .slice none 0 0, .slice none 0 0, .int .i64 0, .bool false], .int .i64 0], []⟩ 8 (by kernel_rfl) (by kernel_rfl) (by kernel_rfl)
      (x := ([.agg [.nil, .nil, .lit (.bool false), .agg [.lit (.bool false), .lit (.bool false)], .nil, .nil, .lit (.int .i64 0), .lit (.bool false)], .lit (.int .i64 0)], [], [])) (by kernel_rfl) rfl (by kernel_rfl)) ?_
  intro W base args ds gs before hval hW _ hk _
  exact law_callsR [85, 3, 22, 40, 36, 58, 38, 2, 9, 4, 82, 60, 65, 83] (by kernel_rfl) laid (by kernel_rfl) rfl (fun ds hds => by
    match ds, hds with
    | [_, _], _ => rfl) rfl Tryz.underlying4 (fun ss h _ => cheapest_con ss h) hval hW (upto_weightsR [85, 3, 22, 40, 36, 58, 38, 2, 9, 4, 82, 60, 65, 83] (by kernel_rfl) (by kernel_rfl) hk)

end Go.Proofs.YtlphpbcafplnbaaGreat
