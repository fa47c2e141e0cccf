/- BagLaws: what is taken off and what is left are together what was there, as far as it was there; nothing less nothing is nothing; joining with one row that always holds is only that column more. Over every argument whose bulk is at most 2^20. -/
import Derived.Test.YtmkbclnhopoiiaaBZ
import Derived.Test.YtmkbclnhopoiiaaBJ4
set_option linter.unusedSimpArgs false
set_option linter.unusedVariables false
namespace Go.Proofs.Ytmkbclnhopoiiaa
open Go.VL Go.RowKit

set_option maxRecDepth 100000 in
theorem laws_con (ss : List S) (h : FitsAll Try.prog 4294967296 8 [22, 22] ss) : Con Try.prog 6 ss [.c (.v (.bool true))] := by
  obtain ⟨s1, _, rfl, h1, s2, _, rfl, h2, rfl⟩ := h
  obtain ⟨nl1, l1, rfl, hn1, hl1, hr1⟩ := open_facts1 _ s1 h1
  obtain ⟨nl2, l2, rfl, hn2, hl2, hr2⟩ := open_facts1 _ s2 h2
  exact laws_spec sorts_ok sortsI_ok sortsF_ok nl1 nl2 l1 l2 (by omega) (by omega) (fun f hf => by have := hr1 f hf; omega) (rows1_of (by omega) hr2)

set_option maxRecDepth 100000 in
theorem laws_lifted (os : Os) (started : os.Started) (H : Type) (enc : TypeId × Value → H) (F : Stop.Interp) :
    ReturnsInHanded {} Try.checked os 6 .any ((Rows.OpenSpec.upto Rows.bagLawsSpec).pre6 enc Try.prog Try.f6 Rows.bagLawsUptoRow.domain false) (((Rows.OpenSpec.upto Rows.bagLawsSpec).at F).post enc Try.prog Try.f6 false true false false) := by
  refine returnsInHanded_of_cond (C := Try.checked) (s := Rows.OpenSpec.upto Rows.bagLawsSpec) (k := Rows.uptoSmall) rfl own started (by kernel_rfl) Try.func6
    (OpenSpec.witness (enc := enc) (C := Try.checked) (s := Rows.OpenSpec.upto Rows.bagLawsSpec) (k := Rows.uptoSmall) rfl false ⟨#[], #[.slice none 0 0, .slice none 0 0], []⟩ 8 (by kernel_rfl) (by kernel_rfl) (by kernel_rfl)
      (x := ([.nil, .nil], [], [])) (by kernel_rfl) rfl (by kernel_rfl)) ?_
  intro W base args ds gs before hval hW _ hk _
  exact law_calls 8 laid (by kernel_rfl) rfl (fun ds hds => by
    match ds, hds with
    | [_, _], _ => rfl) rfl Try.underlying4 (fun ss h _ => laws_con ss h) hval hW (upto_weights 8 (by kernel_rfl) hk)

set_option maxRecDepth 100000 in
theorem laws_holds : Rows.BagLawsUptoSaid :=
  OpenClaim.holds_of_cond 6 Try.f6 rfl rfl rfl rfl rfl rfl rfl ⟨rfl, rfl, rfl, rfl, rfl⟩ rfl rfl rfl rfl rfl (by kernel_rfl) Try.func6 (by kernel_rfl)
    (of_decide_eq_true (by kernel_rfl)) (by unfold Func.isWrapper; first | (rw [if_pos (by decide +kernel)]; kernel_rfl) | (rw [if_neg (by decide +kernel)]; exact ⟨rfl, rfl⟩))
    (fun os started H enc _ F => laws_lifted os started H enc F)
end Go.Proofs.Ytmkbclnhopoiiaa
