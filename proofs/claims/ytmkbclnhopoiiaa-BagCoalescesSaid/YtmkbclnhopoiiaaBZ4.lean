/- BagCoalesces: what is coalesced is in the one canonical form, maximal periods that are apart and not adjacent; it tells each row just where it was told; coalesced again it is the same. Conditions: none. -/
import Derived.Test.YtmkbclnhopoiiaaBZ
import Derived.Test.YtmkbclnhopoiiaaBJ2
set_option linter.unusedSimpArgs false
set_option linter.unusedVariables false
namespace Go.Proofs.Ytmkbclnhopoiiaa
open Go.VL Go.RowKit

set_option maxRecDepth 100000 in
theorem coalescesW_con (ss : List S) (h : FitsAll Try.prog reachBytes 8 [22, 2] ss) : Con Try.prog 4 ss [.c (.v (.bool true))] := by
  obtain ⟨s1, _, rfl, h1, s2, _, rfl, h2, rfl⟩ := h
  obtain ⟨nl1, l1, rfl, hn1, hl1, hr1⟩ := open_facts1 _ s1 h1
  obtain ⟨t2, rfl⟩ := open_int1 _ s2 h2
  exact coalesces_spec sorts_ok sortsI_ok sortsF_ok nl1 l1 t2 (by have e : reachBytes = 140737488351232 := rfl; omega) (rows1_of (by have e : reachBytes = 140737488351232 := rfl; omega) hr1)

set_option maxRecDepth 100000 in
theorem coalescesW_lifted (os : Os) (started : os.Started) (H : Type) (enc : TypeId × Value → H) :
    ReturnsInHanded {} Try.checked os 4 .any (Rows.bagCoalescesSpec.pre6 enc Try.prog Try.f4 [] false) (Rows.bagCoalescesSpec.post enc Try.prog Try.f4 false true false false) := by
  refine returnsInHanded_of_change_shaped (C := Try.checked) own started (by kernel_rfl) Try.func4
    (ChangeSpec.witness6 (enc := enc) (C := Try.checked) (s := Rows.bagCoalescesSpec) false ⟨#[], #[.slice none 0 0, .int .i64 0], []⟩ 8 (by kernel_rfl) (by kernel_rfl) (by kernel_rfl) (by kernel_rfl)) ?_
  intro W base args ds gs before hval hW _ hwt _ _
  exact law_calls 8 laid (by kernel_rfl) rfl (fun ds hds => by
    match ds, hds with
    | [_, _], _ => rfl) rfl Try.underlying4 (fun ss h _ => coalescesW_con ss h) hval hW hwt

set_option maxRecDepth 100000 in
theorem coalescesW_holds : Rows.BagCoalescesSaid :=
  OpenClaim.holds_of_wide 4 Try.f4 rfl rfl rfl rfl rfl rfl rfl ⟨rfl, rfl, rfl, rfl, rfl⟩ rfl rfl rfl rfl rfl (by kernel_rfl) Try.func4 (by kernel_rfl)
    (of_decide_eq_true (by kernel_rfl)) (by unfold Func.isWrapper; first | (rw [if_pos (by decide +kernel)]; kernel_rfl) | (rw [if_neg (by decide +kernel)]; exact ⟨rfl, rfl⟩))
    (fun os started H enc _ => coalescesW_lifted os started H enc)
end Go.Proofs.Ytmkbclnhopoiiaa
