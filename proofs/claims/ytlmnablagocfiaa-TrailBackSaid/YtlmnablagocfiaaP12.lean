/- Contracts of functions of the seat, proved in a logic on data over the model (part P12). -/
import Derived.Test.YtlmnablagocfiaaP9
import Derived.Test.YtlmnablagocfiaaP11
namespace Go.Proofs.Ytlmnablagocfiaa
open Go.VL Go.RowKit

theorem back_con (ss : List S) (h : FitsAll Try.prog 4 [24, 22] ss) : Con Try.prog 4 ss [.c (.v (.bool true))] := by
  obtain ⟨s1, _, rfl, h1, s2, _, rfl, h2, rfl⟩ := h
  obtain ⟨e, rfl, _, ht⟩ := open_entry s1 h1
  unfold FitsS at h2
  rw [Try.underlying22] at h2
  obtain ⟨x, rfl, h2⟩ := h2
  obtain ⟨nil, l, e1, hn, hl⟩ := open_bytes 2 _ h2
  cases e1
  exact back_spec e nil l ht hn (by omega)

set_option maxRecDepth 100000 in
theorem back_lifted (os : Os) (started : os.Started) (H : Type) (enc : TypeId × Value → H) :
    ReturnsInHanded {} Try.checked os 4 .any (Rows.trailBackSpec.pre6 enc Try.prog Try.f4 [] false) (Rows.trailBackSpec.post enc Try.prog Try.f4 false true false false) := by
  refine returnsInHanded_of_change_shaped (C := Try.checked) own started (by kernel_rfl) Try.func4
    (ChangeSpec.witness6 (enc := enc) (C := Try.checked) (s := Rows.trailBackSpec) false ⟨#[], #[.agg #[.int .i64 0, .int .i64 0, .int .i64 0, .int .i64 0, .int .i64 0, .slice none 0 0], .slice none 0 0], []⟩ 8 (by kernel_rfl) (by kernel_rfl) (by kernel_rfl) (by kernel_rfl)) ?_
  intro W base args ds gs before hval hW _ hwt _ _
  exact law_calls 4 laid (by kernel_rfl) rfl (fun ds hds => by
    match ds, hds with
    | [_, _], _ => rfl) rfl Try.underlying4 (fun ss h _ => back_con ss h) hval hW hwt

theorem back_holds : Rows.TrailBackSaid :=
  OpenClaim.holds_of_wide 4 Try.f4 rfl rfl rfl rfl rfl rfl rfl ⟨rfl, rfl, rfl, rfl, rfl⟩ rfl rfl rfl rfl rfl (by kernel_rfl) Try.func4 (by kernel_rfl)
    (of_decide_eq_true (by kernel_rfl)) (by unfold Func.isWrapper; first | (rw [if_pos (by decide +kernel)]; kernel_rfl) | (rw [if_neg (by decide +kernel)]; exact ⟨rfl, rfl⟩))
    (fun os started H enc _ => back_lifted os started H enc)
end Go.Proofs.Ytlmnablagocfiaa
