/- PeriodSets: for every period and list, what period.Union, Minus and Edges tell is what the document tells. Conditions: none. -/
import Derived.Test.YtdpjdmgdngjjnaaQE5
import Derived.Test.YtdpjdmgdngjjnaaQS2
import Derived.Test.YtdpjdmgdngjjnaaQ10
set_option linter.unusedSimpArgs false
set_option linter.unusedVariables false
namespace Go.Proofs.Ytdpjdmgdngjjnaa
open Go.VL Go.RowKit

theorem sets_con (ss : List S) (h : FitsAll Try.prog reachBytes 6 [23, 24] ss) : Con Try.prog 9 ss [.c (.v (.bool true))] := by
  obtain ⟨s1, _, rfl, h1, s2, _, rfl, h2, rfl⟩ := h
  obtain ⟨a, rfl⟩ := open_per1 _ s1 h1
  obtain ⟨nl, l, rfl, hn, hl⟩ := open_pers _ s2 h2
  have e : reachBytes = 140737488351232 := rfl
  exact sets_spec sorts_ok sortsI_ok a nl l hn (by omega)

set_option maxRecDepth 100000 in
theorem sets_lifted (os : Os) (started : os.Started) (H : Type) (enc : TypeId × Value → H) :
    ReturnsInHanded {} Try.checked os 9 .any (Rows.periodSetsSpec.pre6 enc Try.prog Try.f9 [] false) (Rows.periodSetsSpec.post enc Try.prog Try.f9 false true false false) := by
  refine returnsInHanded_of_change_shaped (C := Try.checked) own started (by kernel_rfl) Try.func9
    (ChangeSpec.witness6 (enc := enc) (C := Try.checked) (s := Rows.periodSetsSpec) false ⟨#[], #[.agg #[.int .i64 0, .int .i64 0], .slice none 0 0], []⟩ 8 (by kernel_rfl) (by kernel_rfl) (by kernel_rfl) (by kernel_rfl)) ?_
  intro W base args ds gs before hval hW _ hwt _ _
  exact law_calls 6 laid (by kernel_rfl) rfl (fun ds hds => by
    match ds, hds with
    | [_, _], _ => rfl) rfl Try.underlying4 (fun ss h _ => sets_con ss h) hval hW hwt

theorem sets_holds : Rows.PeriodSetsSaid :=
  OpenClaim.holds_of_wide 9 Try.f9 rfl rfl rfl rfl rfl rfl rfl ⟨rfl, rfl, rfl, rfl, rfl⟩ rfl rfl rfl rfl rfl (by kernel_rfl) Try.func9 (by kernel_rfl)
    (of_decide_eq_true (by kernel_rfl)) (by unfold Func.isWrapper; first | (rw [if_pos (by decide +kernel)]; kernel_rfl) | (rw [if_neg (by decide +kernel)]; exact ⟨rfl, rfl⟩))
    (fun os started H enc _ => sets_lifted os started H enc)
#print axioms sets_holds
end Go.Proofs.Ytdpjdmgdngjjnaa
