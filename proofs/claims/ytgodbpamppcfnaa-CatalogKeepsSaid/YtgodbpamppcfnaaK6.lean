/- Proved: CatalogKeeps: what is handed in is left and not kept, answers are new memory; for every table, no condition. -/
import Derived.Test.YtgodbpamppcfnaaK5
import Derived.Test.YtgodbpamppcfnaaC20
set_option linter.unusedSimpArgs false
set_option linter.unusedVariables false
namespace Go.Proofs.Ytgodbpamppcfnaa
open Go.VL Go.RowKit

theorem keeps_con (ss : List S) (h : FitsAll Try.prog reachBytes 6 [25] ss) : Con Try.prog 5 ss [.c (.v (.bool true))] := by
  obtain ⟨s1, _, rfl, h1, rfl⟩ := h
  obtain ⟨t, rfl, hn, hk, h2, h3⟩ := open_tab _ s1 h1
  have e : reachBytes = 140737488351232 := rfl
  exact keepsC_spec t ⟨hn, hk, by omega, by omega⟩

set_option maxRecDepth 100000 in
theorem keeps_lifted (os : Os) (started : os.Started) (H : Type) (enc : TypeId × Value → H) :
    ReturnsInHanded {} Try.checked os 5 .any (Rows.catalogKeepsSpec.pre6 enc Try.prog Try.f5 [] false) (Rows.catalogKeepsSpec.post enc Try.prog Try.f5 false true false false) := by
  refine returnsInHanded_of_change_shaped (C := Try.checked) own started (by kernel_rfl) Try.func5
    (ChangeSpec.witness6 (enc := enc) (C := Try.checked) (s := Rows.catalogKeepsSpec) false ⟨#[], #[.agg #[.int .i64 0, .string ⟨#[]⟩, .slice none 0 0, .slice none 0 0, .bool false]], []⟩ 8 (by kernel_rfl) (by kernel_rfl) (by kernel_rfl) (by kernel_rfl)) ?_
  intro W base args ds gs before hval hW _ hwt _ _
  exact law_calls 6 laid (by kernel_rfl) rfl (fun ds hds => by
    match ds, hds with
    | [_], _ => rfl) rfl Try.underlying4 (fun ss h _ => keeps_con ss h) hval hW hwt

theorem keeps_holds : Rows.CatalogKeepsSaid :=
  OpenClaim.holds_of_wide 5 Try.f5 rfl rfl rfl rfl rfl rfl rfl ⟨rfl, rfl, rfl, rfl, rfl⟩ rfl rfl rfl rfl rfl (by kernel_rfl) Try.func5 (by kernel_rfl)
    (of_decide_eq_true (by kernel_rfl)) (by unfold Func.isWrapper; first | (rw [if_pos (by decide +kernel)]; kernel_rfl) | (rw [if_neg (by decide +kernel)]; exact ⟨rfl, rfl⟩))
    (fun os started H enc _ => keeps_lifted os started H enc)
end Go.Proofs.Ytgodbpamppcfnaa
