/- Contracts of functions of the seat, proved in a logic on data over the model (part Q19). -/
import Derived.Test.YtdpjdmgdngjjnaaQ18
import Derived.Test.YtdpjdmgdngjjnaaQ10
import Derived.Test.YtdpjdmgdngjjnaaQU
set_option linter.unusedSimpArgs false
set_option linter.unusedVariables false
namespace Go.Proofs.Ytdpjdmgdngjjnaa
open Go.VL Go.RowKit

theorem back_con (ss : List S) (h : FitsAll Try.prog 4294967296 6 [23, 24] ss) : Con Try.prog 5 ss [.c (.v (.bool true))] := by
  obtain ⟨s1, _, rfl, h1, s2, _, rfl, h2, rfl⟩ := h
  obtain ⟨a, rfl⟩ := open_per1 _ s1 h1
  obtain ⟨nl, l, rfl, hn, hl⟩ := open_pers _ s2 h2
  exact back_spec sorts_ok a nl l hn (by omega)

set_option maxRecDepth 100000 in
theorem back_lifted (os : Os) (started : os.Started) (H : Type) (enc : TypeId × Value → H) (F : Stop.Interp) :
    ReturnsInHanded {} Try.checked os 5 .any ((Rows.OpenSpec.upto Rows.periodBackSpec).pre6 enc Try.prog Try.f5 Rows.periodBackUptoRow.domain false) (((Rows.OpenSpec.upto Rows.periodBackSpec).at F).post enc Try.prog Try.f5 false true false false) := by
  refine returnsInHanded_of_cond (C := Try.checked) (s := Rows.OpenSpec.upto Rows.periodBackSpec) (k := Rows.uptoSmall) rfl own started (by kernel_rfl) Try.func5
    (OpenSpec.witness (enc := enc) (C := Try.checked) (s := Rows.OpenSpec.upto Rows.periodBackSpec) (k := Rows.uptoSmall) rfl false ⟨#[], #[.agg #[.int .i64 0, .int .i64 0], .slice none 0 0], []⟩ 8 (by kernel_rfl) (by kernel_rfl) (by kernel_rfl)
      (x := ([.agg [.lit (.int .i64 0), .lit (.int .i64 0)], .nil], [], [])) (by kernel_rfl) rfl (by kernel_rfl)) ?_
  intro W base args ds gs before hval hW _ hk _
  exact law_calls 6 laid (by kernel_rfl) rfl (fun ds hds => by
    match ds, hds with
    | [_, _], _ => rfl) rfl Try.underlying4 (fun ss h _ => back_con ss h) hval hW (upto_weights 6 (by kernel_rfl) hk)

theorem back_holds : Rows.PeriodBackUptoSaid :=
  OpenClaim.holds_of_cond 5 Try.f5 rfl rfl rfl rfl rfl rfl rfl ⟨rfl, rfl, rfl, rfl, rfl⟩ rfl rfl rfl rfl rfl (by kernel_rfl) Try.func5 (by kernel_rfl)
    (of_decide_eq_true (by kernel_rfl)) (by unfold Func.isWrapper; first | (rw [if_pos (by decide +kernel)]; kernel_rfl) | (rw [if_neg (by decide +kernel)]; exact ⟨rfl, rfl⟩))
    (fun os started H enc _ F => back_lifted os started H enc F)
end Go.Proofs.Ytdpjdmgdngjjnaa
