/- BagJoins: joining is the same the other way round but for the columns' order; joining three doesn't hang on which two come first. Conditions: none. -/
import Derived.Test.YtmkbclnhopoiiaaBZ
import Derived.Test.YtmkbclnhopoiiaaBJ5
set_option linter.unusedSimpArgs false
set_option linter.unusedVariables false
namespace Go.Proofs.Ytmkbclnhopoiiaa
open Go.VL Go.RowKit

set_option maxRecDepth 100000 in
theorem joins_con (ss : List S) (h : FitsAll Try.prog reachBytes 8 [22, 22, 22] ss) : Con Try.prog 7 ss [.c (.v (.bool true))] := by
  obtain ⟨s1, _, rfl, h1, s2, _, rfl, h2, s3, _, rfl, h3, rfl⟩ := h
  obtain ⟨nl1, l1, rfl, hn1, hl1, hr1⟩ := open_facts1 _ s1 h1
  obtain ⟨nl2, l2, rfl, hn2, hl2, hr2⟩ := open_facts1 _ s2 h2
  obtain ⟨nl3, l3, rfl, hn3, hl3, hr3⟩ := open_facts1 _ s3 h3
  exact joins_spec sorts_ok sortsI_ok sortsF_ok nl1 nl2 nl3 l1 l2 l3 (by have e : reachBytes = 140737488351232 := rfl; omega) (by have e : reachBytes = 140737488351232 := rfl; omega) (by have e : reachBytes = 140737488351232 := rfl; omega) (rows1_of (by have e : reachBytes = 140737488351232 := rfl; omega) hr1) (rows1_of (by have e : reachBytes = 140737488351232 := rfl; omega) hr2) (fun f hf => by have e : reachBytes = 140737488351232 := rfl; have := hr3 f hf; omega)

set_option maxRecDepth 100000 in
theorem joins_lifted (os : Os) (started : os.Started) (H : Type) (enc : TypeId × Value → H) :
    ReturnsInHanded {} Try.checked os 7 .any (Rows.bagJoinsSpec.pre6 enc Try.prog Try.f7 [] false) (Rows.bagJoinsSpec.post enc Try.prog Try.f7 false true false false) := by
  refine returnsInHanded_of_change_shaped (C := Try.checked) own started (by kernel_rfl) Try.func7
    (ChangeSpec.witness6 (enc := enc) (C := Try.checked) (s := Rows.bagJoinsSpec) false ⟨#[], #[.slice none 0 0, .slice none 0 0, .slice none 0 0], []⟩ 8 (by kernel_rfl) (by kernel_rfl) (by kernel_rfl) (by kernel_rfl)) ?_
  intro W base args ds gs before hval hW _ hwt _ _
  exact law_calls 8 laid (by kernel_rfl) rfl (fun ds hds => by
    match ds, hds with
    | [_, _, _], _ => rfl) rfl Try.underlying4 (fun ss h _ => joins_con ss h) hval hW hwt

set_option maxRecDepth 100000 in
theorem joins_holds : Rows.BagJoinsSaid :=
  OpenClaim.holds_of_wide 7 Try.f7 rfl rfl rfl rfl rfl rfl rfl ⟨rfl, rfl, rfl, rfl, rfl⟩ rfl rfl rfl rfl rfl (by kernel_rfl) Try.func7 (by kernel_rfl)
    (of_decide_eq_true (by kernel_rfl)) (by unfold Func.isWrapper; first | (rw [if_pos (by decide +kernel)]; kernel_rfl) | (rw [if_neg (by decide +kernel)]; exact ⟨rfl, rfl⟩))
    (fun os started H enc _ => joins_lifted os started H enc)
end Go.Proofs.Ytmkbclnhopoiiaa
