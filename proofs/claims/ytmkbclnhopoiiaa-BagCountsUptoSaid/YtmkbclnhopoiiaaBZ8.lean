/- BagCounts: a count is the sum of ones; the sum of two lists together is, where both have rows, the sum of their sums. Over every argument whose bulk is at most 2^20. -/
import Derived.Test.YtmkbclnhopoiiaaBZ
import Derived.Test.YtmkbclnhopoiiaaBJ7
import Derived.Test.YtmkbclnhopoiiaaBZV
set_option linter.unusedSimpArgs false
set_option linter.unusedVariables false
namespace Go.Proofs.Ytmkbclnhopoiiaa
open Go.VL Go.RowKit

set_option maxRecDepth 100000 in
theorem counts_con (ss : List S) (h : FitsAll Try.prog 4294967296 8 [22, 22, 2] ss) : Con Try.prog 9 ss [.c (.v (.bool true))] := by
  obtain ⟨s1, _, rfl, h1, s2, _, rfl, h2, s3, _, rfl, h3, rfl⟩ := h
  obtain ⟨nl1, l1, rfl, hn1, hl1, hr1, hv1⟩ := open_factsV _ s1 h1
  obtain ⟨nl2, l2, rfl, hn2, hl2, hr2, hv2⟩ := open_factsV _ s2 h2
  obtain ⟨t3, rfl⟩ := open_int1 _ s3 h3
  exact counts_spec sorts_ok sortsI_ok sortsF_ok nl1 nl2 l1 l2 t3 (by omega) (by omega) (rows1_of (by omega) hr1) (rows1_of (by omega) hr2) hv1 hv2

set_option maxRecDepth 100000 in
theorem counts_lifted (os : Os) (started : os.Started) (H : Type) (enc : TypeId × Value → H) (F : Stop.Interp) :
    ReturnsInHanded {} Try.checked os 9 .any ((Rows.OpenSpec.upto Rows.bagCountsSpec).pre6 enc Try.prog Try.f9 Rows.bagCountsUptoRow.domain false) (((Rows.OpenSpec.upto Rows.bagCountsSpec).at F).post enc Try.prog Try.f9 false true false false) := by
  refine returnsInHanded_of_cond (C := Try.checked) (s := Rows.OpenSpec.upto Rows.bagCountsSpec) (k := Rows.uptoSmall) rfl own started (by kernel_rfl) Try.func9
    (OpenSpec.witness (enc := enc) (C := Try.checked) (s := Rows.OpenSpec.upto Rows.bagCountsSpec) (k := Rows.uptoSmall) rfl false ⟨#[], #[.slice none 0 0, .slice none 0 0, .int .i64 0], []⟩ 8 (by kernel_rfl) (by kernel_rfl) (by kernel_rfl)
      (x := ([.nil, .nil, .lit (.int .i64 0)], [], [])) (by kernel_rfl) rfl (by kernel_rfl)) ?_
  intro W base args ds gs before hval hW _ hk _
  exact law_calls 8 laid (by kernel_rfl) rfl (fun ds hds => by
    match ds, hds with
    | [_, _, _], _ => rfl) rfl Try.underlying4 (fun ss h _ => counts_con ss h) hval hW (upto_weights 8 (by kernel_rfl) hk)

set_option maxRecDepth 100000 in
theorem counts_holds : Rows.BagCountsUptoSaid :=
  OpenClaim.holds_of_cond 9 Try.f9 rfl rfl rfl rfl rfl rfl rfl ⟨rfl, rfl, rfl, rfl, rfl⟩ rfl rfl rfl rfl rfl (by kernel_rfl) Try.func9 (by kernel_rfl)
    (of_decide_eq_true (by kernel_rfl)) (by unfold Func.isWrapper; first | (rw [if_pos (by decide +kernel)]; kernel_rfl) | (rw [if_neg (by decide +kernel)]; exact ⟨rfl, rfl⟩))
    (fun os started H enc _ F => counts_lifted os started H enc F)
end Go.Proofs.Ytmkbclnhopoiiaa
