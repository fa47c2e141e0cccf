/- Contracts of functions of the seat, proved in a logic on data over the model (part C29). -/
import Derived.Test.YtgodbpamppcfnaaC27
import Derived.Test.YtgodbpamppcfnaaC20
set_option linter.unusedSimpArgs false
set_option linter.unusedVariables false
namespace Go.Proofs.Ytgodbpamppcfnaa
open Go.VL Go.RowKit

theorem tab_ok {t : Tab} (h1 : t.nc = true → t.cols = []) (h2 : t.nk = true → t.keys = []) (h3 : t.cols.length * 24 ≤ reachBytes) (h4 : t.keys.length * 16 ≤ reachBytes) : t.Ok := by
  have e : reachBytes = 140737488351232 := rfl
  rw [e] at h3 h4
  exact ⟨h1, h2, by omega, by omega⟩
theorem indexes_con (ss : List S) (h : FitsAll Try.prog reachBytes 6 [25] ss) : Con Try.prog 8 ss [.c (.v (.bool true))] := by
  obtain ⟨s1, _, rfl, h1, rfl⟩ := h
  obtain ⟨t, rfl, h2, h3, h4, h5⟩ := open_tab _ s1 h1
  exact indexes_spec t (tab_ok h2 h3 h4 h5)

set_option maxRecDepth 100000 in
theorem indexes_lifted (os : Os) (started : os.Started) (H : Type) (enc : TypeId × Value → H) :
    ReturnsInHanded {} Try.checked os 8 .any (Rows.catalogIndexesSpec.pre6 enc Try.prog Try.f8 [] false) (Rows.catalogIndexesSpec.post enc Try.prog Try.f8 false true false false) := by
  refine returnsInHanded_of_change_shaped (C := Try.checked) own started (by kernel_rfl) Try.func8
    (ChangeSpec.witness6 (enc := enc) (C := Try.checked) (s := Rows.catalogIndexesSpec) false ⟨#[], #[.agg #[.int .i64 0, .string ⟨#[]⟩, .slice none 0 0, .slice none 0 0, .bool false]], []⟩ 8 (by kernel_rfl) (by kernel_rfl) (by kernel_rfl) (by kernel_rfl)) ?_
  intro W base args ds gs before hval hW _ hwt _ _
  exact law_calls 6 laid (by kernel_rfl) rfl (fun ds hds => by
    match ds, hds with
    | [_], _ => rfl) rfl Try.underlying4 (fun ss h _ => indexes_con ss h) hval hW hwt

theorem indexes_holds : Rows.CatalogIndexesSaid :=
  OpenClaim.holds_of_wide 8 Try.f8 rfl rfl rfl rfl rfl rfl rfl ⟨rfl, rfl, rfl, rfl, rfl⟩ rfl rfl rfl rfl rfl (by kernel_rfl) Try.func8 (by kernel_rfl)
    (of_decide_eq_true (by kernel_rfl)) (by unfold Func.isWrapper; first | (rw [if_pos (by decide +kernel)]; kernel_rfl) | (rw [if_neg (by decide +kernel)]; exact ⟨rfl, rfl⟩))
    (fun os started H enc _ => indexes_lifted os started H enc)
end Go.Proofs.Ytgodbpamppcfnaa
