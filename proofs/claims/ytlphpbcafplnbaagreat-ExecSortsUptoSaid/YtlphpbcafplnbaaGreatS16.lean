/- Contracts of functions of the seat, proved in a logic on data over the model (part S16). -/
import Derived.HandedShaped
import Derived.JoinedCond
import Derived.Test.YtlphpbcafplnbaaGreatS15
set_option linter.unusedSimpArgs false
set_option linter.unusedVariables false
namespace Go.Proofs.YtlphpbcafplnbaaGreat
open Go.VL Go.RowKit
set_option maxRecDepth 100000 in
theorem sorts_lifted (os:Os) (started:os.Started) (H:Type) (enc:TypeId × Value→H) (F:Stop.Interp) :
    ReturnsInHanded {} Tryz.checked os 6 .any ((Rows.OpenSpec.upto Rows.execSortsSpec).pre6 enc Tryz.prog Tryz.f6 Rows.execSortsUptoRow.domain false) (((Rows.OpenSpec.upto Rows.execSortsSpec).at F).post enc Tryz.prog Tryz.f6 false true false false):=by
  refine returnsInHanded_of_cond (C:=Tryz.checked) (s:=Rows.OpenSpec.upto Rows.execSortsSpec) (k:=Rows.uptoSmall) rfl own started (by kernel_rfl) Tryz.func6
    (OpenSpec.witness (enc:=enc) (C:=Tryz.checked) (s:=Rows.OpenSpec.upto Rows.execSortsSpec) (k:=Rows.uptoSmall) rfl false ⟨#[],#[.slice none 0 0,.slice none 0 0],[]⟩ 6 (by kernel_rfl) (by kernel_rfl) (by kernel_rfl)
      (x:=([.nil,.nil],[],[])) (by kernel_rfl) rfl (by kernel_rfl)) ?_
  intro W base args ds gs before hval hW _ hk _
  exact law_callsR [22,53,40,36,58,38,2,3,9] (by kernel_rfl) laid (by kernel_rfl) rfl (fun ds hds=>by
    match ds,hds with
    | [_,_],_=>rfl) rfl Tryz.underlying4 (fun ss h _=>sorts_con ss h) hval hW (upto_weightsR [22,53,40,36,58,38,2,3,9] (by kernel_rfl) (by kernel_rfl) hk)
end Go.Proofs.YtlphpbcafplnbaaGreat
