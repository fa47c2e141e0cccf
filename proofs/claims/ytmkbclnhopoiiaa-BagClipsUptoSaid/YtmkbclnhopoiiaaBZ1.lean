/- BagClips: cut to two periods one after the other is cut to what they have in common; two parts that meet are together the whole. Over every argument whose bulk is at most 2^20. -/
import Derived.Test.YtmkbclnhopoiiaaBZ
import Derived.Test.YtmkbclnhopoiiaaBJ1
set_option linter.unusedSimpArgs false
set_option linter.unusedVariables false
namespace Go.Proofs.Ytmkbclnhopoiiaa
open Go.VL Go.RowKit

set_option maxRecDepth 100000 in
theorem clips_con (ss : List S) (h : FitsAll Try.prog 4294967296 8 [22, 36, 36] ss) : Con Try.prog 5 ss [.c (.v (.bool true))] := by
  obtain ⟨s1, _, rfl, h1, s2, _, rfl, h2, s3, _, rfl, h3, rfl⟩ := h
  obtain ⟨nl, l, rfl, hn, hl, hr⟩ := open_facts1 _ s1 h1
  obtain ⟨p, rfl⟩ := open_per1 _ s2 h2
  obtain ⟨q, rfl⟩ := open_per1 _ s3 h3
  exact clips_spec sorts_ok sortsI_ok sortsF_ok nl l p q (by omega) (rows1_of (by omega) hr)

set_option maxRecDepth 100000 in
theorem clips_lifted (os : Os) (started : os.Started) (H : Type) (enc : TypeId × Value → H) (F : Stop.Interp) :
    ReturnsInHanded {} Try.checked os 5 .any ((Rows.OpenSpec.upto Rows.bagClipsSpec).pre6 enc Try.prog Try.f5 Rows.bagClipsUptoRow.domain false) (((Rows.OpenSpec.upto Rows.bagClipsSpec).at F).post enc Try.prog Try.f5 false true false false) := by
  refine returnsInHanded_of_cond (C := Try.checked) (s := Rows.OpenSpec.upto Rows.bagClipsSpec) (k := Rows.uptoSmall) rfl own started (by kernel_rfl) Try.func5
    (OpenSpec.witness (enc := enc) (C := Try.checked) (s := Rows.OpenSpec.upto Rows.bagClipsSpec) (k := Rows.uptoSmall) rfl false ⟨#[], #[.slice none 0 0, .agg #[.int .i64 0, .int .i64 0], .agg #[.int .i64 0, .int .i64 0]], []⟩ 8 (by kernel_rfl) (by kernel_rfl) (by kernel_rfl)
      (x := ([.nil, .agg [.lit (.int .i64 0), .lit (.int .i64 0)], .agg [.lit (.int .i64 0), .lit (.int .i64 0)]], [], [])) (by kernel_rfl) rfl (by kernel_rfl)) ?_
  intro W base args ds gs before hval hW _ hk _
  exact law_calls 8 laid (by kernel_rfl) rfl (fun ds hds => by
    match ds, hds with
    | [_, _, _], _ => rfl) rfl Try.underlying4 (fun ss h _ => clips_con ss h) hval hW (upto_weights 8 (by kernel_rfl) hk)

set_option maxRecDepth 100000 in
theorem bagClips_holds : Rows.BagClipsUptoSaid :=
  OpenClaim.holds_of_cond 5 Try.f5 rfl rfl rfl rfl rfl rfl rfl ⟨rfl, rfl, rfl, rfl, rfl⟩ rfl rfl rfl rfl rfl (by kernel_rfl) Try.func5 (by kernel_rfl)
    (of_decide_eq_true (by kernel_rfl)) (by unfold Func.isWrapper; first | (rw [if_pos (by decide +kernel)]; kernel_rfl) | (rw [if_neg (by decide +kernel)]; exact ⟨rfl, rfl⟩))
    (fun os started H enc _ F => clips_lifted os started H enc F)
end Go.Proofs.Ytmkbclnhopoiiaa
