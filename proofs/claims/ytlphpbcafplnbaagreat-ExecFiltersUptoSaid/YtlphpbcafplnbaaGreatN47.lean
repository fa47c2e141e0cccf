/- Contracts of functions of the seat, proved in a logic on data over the model (part N47). -/
import Derived.HandedShaped
import Derived.JoinedCond
import Derived.Test.YtlphpbcafplnbaaGreatN46
set_option linter.unusedSimpArgs false
set_option linter.unusedVariables false
namespace Go.Proofs.YtlphpbcafplnbaaGreat
open Go.VL Go.RowKit
set_option maxRecDepth 100000 in
theorem filters_lifted (os:Os) (started:os.Started) (H:Type) (enc:TypeId × Value→H) (F:Stop.Interp) :
    ReturnsInHanded {} Tryz.checked os 8 .any ((Rows.OpenSpec.upto Rows.execFiltersSpec).pre6 enc Tryz.prog Tryz.f8 Rows.execFiltersUptoRow.domain false) (((Rows.OpenSpec.upto Rows.execFiltersSpec).at F).post enc Tryz.prog Tryz.f8 false true false false):=by
  refine returnsInHanded_of_cond (C:=Tryz.checked) (s:=Rows.OpenSpec.upto Rows.execFiltersSpec) (k:=Rows.uptoSmall) rfl own started (by kernel_rfl) Tryz.func8
    (OpenSpec.witness (enc:=enc) (C:=Tryz.checked) (s:=Rows.OpenSpec.upto Rows.execFiltersSpec) (k:=Rows.uptoSmall) rfl false ⟨#[],#[.slice none 0 0,.slice none 0 0,.agg #[.int .i64 0,.int .i64 0,.int .i64 0]],[]⟩ 8 (by kernel_rfl) (by kernel_rfl) (by kernel_rfl)
      (x:=([.nil,.nil,.agg [.agg [.lit (.int .i64 0),.lit (.int .i64 0)],.lit (.int .i64 0)]],[],[])) (by kernel_rfl) rfl (by kernel_rfl)) ?_
  intro W base args ds gs before hval hW _ hk _
  exact law_callsR [22,60,62,40,36,58,38,2,3,9,65] (by kernel_rfl) laid (by kernel_rfl) rfl (fun ds hds=>by
    match ds,hds with
    | [_,_,_],_=>rfl) rfl Tryz.underlying4 (fun ss h _=>filters_con ss h) hval hW (upto_weightsR [22,60,62,40,36,58,38,2,3,9,65] (by kernel_rfl) (by kernel_rfl) hk)
end Go.Proofs.YtlphpbcafplnbaaGreat
