/- DmlTwice: deleting twice for one period is deleting once; what was deleted, put back, is there as before. Over every argument whose bulk is at most 2^20. -/
import Derived.Test.YtkfiiomdkljjnaaGreatXO
import Derived.Test.YtkfiiomdkljjnaaGreatZ3
import Derived.Test.YtkfiiomdkljjnaaGreatQS
import Derived.Test.YtkfiiomdkljjnaaGreatBSF
import Derived.Test.YtkfiiomdkljjnaaGreatBS2
import Derived.HandedShaped
import Derived.JoinedCond
set_option linter.unusedSimpArgs false
set_option linter.unusedVariables false
namespace Go.Proofs.YtkfiiomdkljjnaaGreat
open Go.VL Go.RowKit

set_option maxRecDepth 100000 in
theorem twice_con (ss : List S) (h : FitsAllR Tryz.prog 4294967296 [22, 28] ss) : Con Tryz.prog 4 ss [.c (.v (.bool true))] := by
  obtain ⟨s1, _, n1, rfl, h1, s2, _, n2, rfl, h2, rfl⟩ := h
  obtain ⟨nl, l, rfl, hl, hr⟩ := open_facts1 _ n1 s1 h1
  obtain ⟨p, nw, wh, np, pl, nv, vs, rfl, hw, hv, hwl, hvl, hp⟩ := open_ask _ n2 (by decide) s2 h2
  exact twice_spec sorts_ok sortsI_ok sortsF_ok nl l p nw wh np pl nv vs (by omega) (fun f hf => by have := (hr f hf).1; omega) (fun f hf => (hr f hf).2) hw hv (by omega) (by omega) (by omega)

set_option maxRecDepth 100000 in
theorem twice_lifted (os : Os) (started : os.Started) (H : Type) (enc : TypeId × Value → H) (F : Stop.Interp) :
    ReturnsInHanded {} Tryz.checked os 4 .any ((Rows.OpenSpec.upto Rows.dmlTwiceSpec).pre6 enc Tryz.prog Tryz.f4 Rows.dmlTwiceUptoRow.domain false) (((Rows.OpenSpec.upto Rows.dmlTwiceSpec).at F).post enc Tryz.prog Tryz.f4 false true false false) := by
  refine returnsInHanded_of_cond (C := Tryz.checked) (s := Rows.OpenSpec.upto Rows.dmlTwiceSpec) (k := Rows.uptoSmall) rfl own started (by kernel_rfl) Tryz.func4
    (OpenSpec.witness (enc := enc) (C := Tryz.checked) (s := Rows.OpenSpec.upto Rows.dmlTwiceSpec) (k := Rows.uptoSmall) rfl false ⟨#[], #[.slice none 0 0, .agg #[.int .i64 0, .int .i64 0, .slice none 0 0, .slice none 0 0, .slice none 0 0]], []⟩ 8 (by kernel_rfl) (by kernel_rfl) (by kernel_rfl)
      (x := ([.nil, .agg [.agg [.lit (.int .i64 0), .lit (.int .i64 0)], .nil, .nil, .nil]], [], [])) (by kernel_rfl) rfl (by kernel_rfl)) ?_
  intro W base args ds gs before hval hW _ hk _
  exact law_callsR [22, 47, 45, 64, 24, 2, 3, 9, 28, 25, 62, 26] (by kernel_rfl) laid (by kernel_rfl) rfl (fun ds hds => by
    match ds, hds with
    | [_, _], _ => rfl) rfl Tryz.underlying4 (fun ss h _ => twice_con ss h) hval hW (upto_weightsR [22, 47, 45, 64, 24, 2, 3, 9, 28, 25, 62, 26] (by kernel_rfl) (by kernel_rfl) hk)

set_option maxRecDepth 100000 in
theorem twice_holds : Rows.DmlTwiceUptoSaid :=
  OpenClaim.holds_of_cond 4 Tryz.f4 rfl rfl rfl rfl rfl rfl rfl ⟨rfl, rfl, rfl, rfl, rfl⟩ rfl rfl rfl rfl rfl (by kernel_rfl) Tryz.func4 (by kernel_rfl)
    (of_decide_eq_true (by kernel_rfl)) (by unfold Func.isWrapper; first | (rw [if_pos (by decide +kernel)]; kernel_rfl) | (rw [if_neg (by decide +kernel)]; exact ⟨rfl, rfl⟩))
    (fun os started H enc _ F => twice_lifted os started H enc F)
end Go.Proofs.YtkfiiomdkljjnaaGreat
