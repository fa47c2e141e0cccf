/- DmlOutside: outside a period, and outside the rows that the terms hold at, what is deleted and what is changed leave every slice as it was; inside, the held rows are gone. Over every argument whose bulk is at most 2^20. -/
import Derived.Test.YtkfiiomdkljjnaaXO
import Derived.Test.YtkfiiomdkljjnaaYA
import Derived.Test.YtkfiiomdkljjnaaQS
import Derived.Test.YtkfiiomdkljjnaaBSF
import Derived.HandedShaped
import Derived.JoinedCond
set_option linter.unusedSimpArgs false
set_option linter.unusedVariables false
namespace Go.Proofs.Ytkfiiomdkljjnaa
open Go.VL Go.RowKit

set_option maxRecDepth 100000 in
theorem outside_con (ss : List S) (h : FitsAllR Try.prog 4294967296 [22, 63, 2] ss) : Con Try.prog 6 ss [.c (.v (.bool true))] := by
  obtain ⟨s1, _, n1, rfl, h1, s2, _, n2, rfl, h2, s3, _, n3, rfl, h3, rfl⟩ := h
  obtain ⟨nl, l, rfl, hl, hr⟩ := open_facts1 _ n1 s1 h1
  obtain ⟨p, nw, wh, np, pl, nv, vs, rfl, hw, hv, hwl, hvl, hp⟩ := open_ask _ n2 (by decide) s2 h2
  obtain ⟨t, rfl⟩ := open_int1 _ n3 s3 h3
  exact outside_spec sorts_ok sortsF_ok nl l p nw wh np pl nv vs t (by omega) (fun f hf => by have := (hr f hf).1; omega) (fun f hf => (hr f hf).2) hw hv (by omega) (by omega) (by omega)

set_option maxRecDepth 100000 in
theorem outside_lifted (os : Os) (started : os.Started) (H : Type) (enc : TypeId × Value → H) (F : Stop.Interp) :
    ReturnsInHanded {} Try.checked os 6 .any ((Rows.OpenSpec.upto Rows.dmlOutsideSpec).pre6 enc Try.prog Try.f6 Rows.dmlOutsideUptoRow.domain false) (((Rows.OpenSpec.upto Rows.dmlOutsideSpec).at F).post enc Try.prog Try.f6 false true false false) := by
  refine returnsInHanded_of_cond (C := Try.checked) (s := Rows.OpenSpec.upto Rows.dmlOutsideSpec) (k := Rows.uptoSmall) rfl own started (by kernel_rfl) Try.func6
    (OpenSpec.witness (enc := enc) (C := Try.checked) (s := Rows.OpenSpec.upto Rows.dmlOutsideSpec) (k := Rows.uptoSmall) rfl false ⟨#[], #[.slice none 0 0, .agg #[.int .i64 0, .int .i64 0, .slice none 0 0, .slice none 0 0, .slice none 0 0], .int .i64 0], []⟩ 8 (by kernel_rfl) (by kernel_rfl) (by kernel_rfl)
      (x := ([.nil, .agg [.agg [.lit (.int .i64 0), .lit (.int .i64 0)], .nil, .nil, .nil], .lit (.int .i64 0)], [], [])) (by kernel_rfl) rfl (by kernel_rfl)) ?_
  intro W base args ds gs before hval hW _ hk _
  exact law_callsR [22, 34, 30, 58, 32, 2, 3, 9, 63, 61, 107, 23] (by kernel_rfl) laid (by kernel_rfl) rfl (fun ds hds => by
    match ds, hds with
    | [_, _, _], _ => rfl) rfl Try.underlying4 (fun ss h _ => outside_con ss h) hval hW (upto_weightsR [22, 34, 30, 58, 32, 2, 3, 9, 63, 61, 107, 23] (by kernel_rfl) (by kernel_rfl) hk)

set_option maxRecDepth 100000 in
theorem outside_holds : Rows.DmlOutsideUptoSaid :=
  OpenClaim.holds_of_cond 6 Try.f6 rfl rfl rfl rfl rfl rfl rfl ⟨rfl, rfl, rfl, rfl, rfl⟩ rfl rfl rfl rfl rfl (by kernel_rfl) Try.func6 (by kernel_rfl)
    (of_decide_eq_true (by kernel_rfl)) (by unfold Func.isWrapper; first | (rw [if_pos (by decide +kernel)]; kernel_rfl) | (rw [if_neg (by decide +kernel)]; exact ⟨rfl, rfl⟩))
    (fun os started H enc _ F => outside_lifted os started H enc F)
end Go.Proofs.Ytkfiiomdkljjnaa
