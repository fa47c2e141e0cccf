/- Contracts of functions of the seat, proved in a logic on data over the model (part C25). -/
import Derived.Test.YtgodbpamppcfnaaC24
import Derived.Test.YtgodbpamppcfnaaC20
set_option linter.unusedSimpArgs false
set_option linter.unusedVariables false
namespace Go.Proofs.Ytgodbpamppcfnaa
open Go.VL Go.RowKit

theorem bytes44 : Try.prog.bytesOf 44 = 32 := by kernel_rfl
theorem open_val (R n : Nat) (xs : List C) (h : Fits Try.prog R (n + 2) 44 xs) : ∃ v : Val, xs = v.cells ∧ True := by
  obtain ⟨a1, _, rfl, h1, a2, _, rfl, h2, a3, _, rfl, h3, rfl⟩ := fits_struct Try.underlying44 h
  obtain ⟨k, rfl, _⟩ := fits_i64 Try.underlying3 h1
  obtain ⟨i, rfl, _⟩ := fits_i64 Try.underlying2 h2
  obtain ⟨s, rfl, _⟩ := open_str R n _ h3
  exact ⟨⟨k, i, s⟩, rfl, trivial⟩
theorem open_row (R : Nat) (s : S) (h : FitsS Try.prog R 6 30 s) : ∃ nl row, s = .c (.sl nl (List.map Val.cells row)) ∧ row.length ≤ R := by
  unfold FitsS at h
  rw [Try.underlying30] at h
  obtain ⟨x, rfl, h2⟩ := h
  obtain ⟨nl, ys, e, hn, hl, hys⟩ := fits_slice Try.underlying30 h2
  obtain ⟨row, rfl, _⟩ := fits_list Val.cells (fun _ => True) (open_val R 3) hys
  rw [bytes44] at hl
  cases e
  refine ⟨nl, row, rfl, ?_⟩
  simp only [List.length_map] at hl
  omega
theorem open_name (R : Nat) (s : S) (h : FitsS Try.prog R 6 9 s) : ∃ l, s = .c (str l) ∧ l.length ≤ R := by
  unfold FitsS at h
  rw [Try.underlying9] at h
  obtain ⟨x, rfl, h2⟩ := h
  obtain ⟨l, e, h3⟩ := open_str R 5 _ h2
  cases e
  exact ⟨l, rfl, h3⟩

theorem rows_con (ss : List S) (h : FitsAll Try.prog 4294967296 6 [25, 30, 9] ss) : Con Try.prog 4 ss [.c (.v (.bool true))] := by
  obtain ⟨s1, _, rfl, h1, s2, _, rfl, h2, s3, _, rfl, h3, rfl⟩ := h
  obtain ⟨t, rfl, _, _, h4, h5⟩ := open_tab _ s1 h1
  obtain ⟨nl, row, rfl, h6⟩ := open_row _ s2 h2
  obtain ⟨l, rfl, _⟩ := open_name _ s3 h3
  exact rows_spec t nl row l h4 h5 h6

set_option maxRecDepth 100000 in
theorem rows_lifted (os : Os) (started : os.Started) (H : Type) (enc : TypeId × Value → H) (F : Stop.Interp) :
    ReturnsInHanded {} Try.checked os 4 .any ((Rows.OpenSpec.upto Rows.catalogRowsSpec).pre6 enc Try.prog Try.f4 Rows.catalogRowsUptoRow.domain false) (((Rows.OpenSpec.upto Rows.catalogRowsSpec).at F).post enc Try.prog Try.f4 false true false false) := by
  refine returnsInHanded_of_cond (C := Try.checked) (s := Rows.OpenSpec.upto Rows.catalogRowsSpec) (k := Rows.uptoSmall) rfl own started (by kernel_rfl) Try.func4
    (OpenSpec.witness (enc := enc) (C := Try.checked) (s := Rows.OpenSpec.upto Rows.catalogRowsSpec) (k := Rows.uptoSmall) rfl false ⟨#[], #[.agg #[.int .i64 0, .string ⟨#[]⟩, .slice none 0 0, .slice none 0 0, .bool false], .slice none 0 0, .string ⟨#[]⟩], []⟩ 8 (by kernel_rfl) (by kernel_rfl) (by kernel_rfl)
      (x := ([.agg [.lit (.int .i64 0), .lit (.string []), .nil, .nil, .lit (.bool false)], .nil, .lit (.string [])], [], [])) (by kernel_rfl) rfl (by kernel_rfl)) ?_
  intro W base args ds gs before hval hW _ hk _
  exact law_calls 6 laid (by kernel_rfl) rfl (fun ds hds => by
    match ds, hds with
    | [_, _, _], _ => rfl) rfl Try.underlying4 (fun ss h _ => rows_con ss h) hval hW (upto_weights 6 (by kernel_rfl) hk)

theorem rows_holds : Rows.CatalogRowsUptoSaid :=
  OpenClaim.holds_of_cond 4 Try.f4 rfl rfl rfl rfl rfl rfl rfl ⟨rfl, rfl, rfl, rfl, rfl⟩ rfl rfl rfl rfl rfl (by kernel_rfl) Try.func4 (by kernel_rfl)
    (of_decide_eq_true (by kernel_rfl)) (by unfold Func.isWrapper; first | (rw [if_pos (by decide +kernel)]; kernel_rfl) | (rw [if_neg (by decide +kernel)]; exact ⟨rfl, rfl⟩))
    (fun os started H enc _ F => rows_lifted os started H enc F)
end Go.Proofs.Ytgodbpamppcfnaa
