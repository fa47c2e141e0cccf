/- DmlClashes: there is a clash just if at some instant two rows are alike in the keys; deleting never makes one. Over every argument whose bulk is at most 2^20. -/
import Derived.Test.YtkfiiomdkljjnaaE7
import Derived.Test.YtkfiiomdkljjnaaD13
set_option linter.unusedSimpArgs false
set_option linter.unusedVariables false
namespace Go.Proofs.Ytkfiiomdkljjnaa
open Go.VL Go.RowKit

set_option maxRecDepth 100000 in
theorem open_per1 (R : Nat) (s : S) (h : FitsS Try.prog R 8 32 s) : ∃ p : Per, s = .agg p.cells := by
  obtain ⟨xs, rfl, h0⟩ := FitsS.struct Try.underlying32 h
  obtain ⟨p, rfl, _⟩ := open_per R 5 _ h0
  exact ⟨p, rfl⟩
set_option maxRecDepth 100000 in
theorem open_ints1 (R : Nat) (s : S) (h : FitsS Try.prog R 8 23 s) : ∃ (nl : Bool) (l : List Int), s = .c (.sl nl (l.map icell)) ∧ l.length * 8 ≤ R := by
  unfold FitsS at h
  rw [Try.underlying23] at h
  obtain ⟨x, rfl, h2⟩ := h
  obtain ⟨nl, l, e, _, h3⟩ := open_ints R 5 _ h2
  cases e
  exact ⟨nl, l, rfl, h3⟩

set_option maxRecDepth 100000 in
theorem clashes_con (ss : List S) (h : FitsAll Try.prog 4294967296 8 [22, 32, 23] ss) : Con Try.prog 4 ss [.c (.v (.bool true))] := by
  obtain ⟨s1, _, rfl, h1, s2, _, rfl, h2, s3, _, rfl, h3, rfl⟩ := h
  obtain ⟨nl, l, rfl, hn, hl, hr⟩ := open_facts1 _ s1 h1
  obtain ⟨p, rfl⟩ := open_per1 _ s2 h2
  obtain ⟨nk, keys, rfl, hk⟩ := open_ints1 _ s3 h3
  exact clashes_spec sorts_ok nl nk l p keys (by omega) (fun f hf => by have := hr f hf; omega) (by omega)

set_option maxRecDepth 100000 in
theorem clashes_lifted (os : Os) (started : os.Started) (H : Type) (enc : TypeId × Value → H) (F : Stop.Interp) :
    ReturnsInHanded {} Try.checked os 4 .any ((Rows.OpenSpec.upto Rows.dmlClashesSpec).pre6 enc Try.prog Try.f4 Rows.dmlClashesUptoRow.domain false) (((Rows.OpenSpec.upto Rows.dmlClashesSpec).at F).post enc Try.prog Try.f4 false true false false) := by
  refine returnsInHanded_of_cond (C := Try.checked) (s := Rows.OpenSpec.upto Rows.dmlClashesSpec) (k := Rows.uptoSmall) rfl own started (by kernel_rfl) Try.func4
    (OpenSpec.witness (enc := enc) (C := Try.checked) (s := Rows.OpenSpec.upto Rows.dmlClashesSpec) (k := Rows.uptoSmall) rfl false ⟨#[], #[.slice none 0 0, .agg #[.int .i64 0, .int .i64 0], .slice none 0 0], []⟩ 8 (by kernel_rfl) (by kernel_rfl) (by kernel_rfl)
      (x := ([.nil, .agg [.lit (.int .i64 0), .lit (.int .i64 0)], .nil], [], [])) (by kernel_rfl) rfl (by kernel_rfl)) ?_
  intro W base args ds gs before hval hW _ hk _
  exact law_calls 8 laid (by kernel_rfl) rfl (fun ds hds => by
    match ds, hds with
    | [_, _, _], _ => rfl) rfl Try.underlying4 (fun ss h _ => clashes_con ss h) hval hW (upto_weights 8 (by kernel_rfl) hk)

theorem clashes_holds : Rows.DmlClashesUptoSaid :=
  OpenClaim.holds_of_cond 4 Try.f4 rfl rfl rfl rfl rfl rfl rfl ⟨rfl, rfl, rfl, rfl, rfl⟩ rfl rfl rfl rfl rfl (by kernel_rfl) Try.func4 (by kernel_rfl)
    (of_decide_eq_true (by kernel_rfl)) (by unfold Func.isWrapper; first | (rw [if_pos (by decide +kernel)]; kernel_rfl) | (rw [if_neg (by decide +kernel)]; exact ⟨rfl, rfl⟩))
    (fun os started H enc _ F => clashes_lifted os started H enc F)
end Go.Proofs.Ytkfiiomdkljjnaa
