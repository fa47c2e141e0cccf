/- Contracts of functions of the seat, proved in a logic on data over the model (part C20). -/
import Derived.Test.YtgodbpamppcfnaaC19
import Derived.Test.YtgodbpamppcfnaaCU
import Derived.Test.YtgodbpamppcfnaaRows
import Derived.HandedShaped
import Derived.JoinedCond
set_option linter.unusedSimpArgs false
set_option linter.unusedVariables false
namespace Go.Proofs.Ytgodbpamppcfnaa
open Go.VL Go.RowKit

theorem bytes54 : Try.prog.bytesOf 54 = 24 := by kernel_rfl
theorem bytes9 : Try.prog.bytesOf 9 = 16 := by kernel_rfl
theorem open_str (R n : Nat) (xs : List C) (h : Fits Try.prog R (n + 1) 9 xs) : ∃ l : List UInt8, xs = [str l] ∧ l.length ≤ R := fits_string Try.underlying9 h
theorem open_col (R n : Nat) (xs : List C) (h : Fits Try.prog R (n + 2) 54 xs) : ∃ c : Col, xs = c.cells ∧ True := by
  obtain ⟨a1, _, rfl, h1, a2, _, rfl, h2, rfl⟩ := fits_struct Try.underlying54 h
  obtain ⟨s, rfl, _⟩ := open_str R n _ h1
  obtain ⟨k, rfl, _⟩ := fits_i64 Try.underlying3 h2
  exact ⟨⟨s, k⟩, rfl, trivial⟩
/-- a table -/
theorem open_tab (R : Nat) (s : S) (h : FitsS Try.prog R 6 25 s) : ∃ t : Tab, s = .agg t.cells ∧ (t.nc = true → t.cols = []) ∧ (t.nk = true → t.keys = []) ∧ t.cols.length * 24 ≤ R ∧ t.keys.length * 16 ≤ R := by
  obtain ⟨xs, rfl, h0⟩ := FitsS.struct Try.underlying25 h
  obtain ⟨a1, _, rfl, h1, a2, _, rfl, h2, a3, _, rfl, h3, a4, _, rfl, h4, a5, _, rfl, h5, rfl⟩ := fits_struct Try.underlying25 h0
  obtain ⟨id, rfl, _⟩ := fits_i64 Try.underlying3 h1
  obtain ⟨name, rfl, _⟩ := open_str _ _ _ h2
  obtain ⟨nc, cols, rfl, hnc, hlc, hcols⟩ := fits_slice Try.underlying22 h3
  obtain ⟨cols, rfl, _⟩ := fits_list Col.cells (fun _ => True) (open_col R 2) hcols
  obtain ⟨nk, keys, rfl, hnk, hlk, hkeys⟩ := fits_slice Try.underlying23 h4
  obtain ⟨keys, rfl, _⟩ := fits_list keyc (fun _ => True) (fun y hy => by
    obtain ⟨l, rfl, _⟩ := open_str R 3 y hy
    exact ⟨l, rfl, trivial⟩) hkeys
  obtain ⟨ix, rfl⟩ := fits_bool Try.underlying4 h5
  rw [bytes54] at hlc
  rw [bytes9] at hlk
  refine ⟨⟨id, name, nc, cols, nk, keys, ix⟩, rfl, fun e => by simpa using hnc e, fun e => by simpa using hnk e, ?_, ?_⟩
  · simp only [List.length_map] at hlc ⊢; omega
  · simp only [List.length_map] at hlk ⊢; omega

theorem back_con (ss : List S) (h : FitsAll Try.prog 4294967296 6 [25] ss) : Con Try.prog 3 ss [.c (.v (.bool true))] := by
  obtain ⟨s1, _, rfl, h1, rfl⟩ := h
  obtain ⟨t, rfl, _, _, h2, h3⟩ := open_tab _ s1 h1
  exact back_spec t (by omega) (by omega)

theorem own : ownKnob Try.prog.godebug = none := by kernel_rfl
theorem laid : laidOutB Try.prog = true := by kernel_rfl

set_option maxRecDepth 100000 in
theorem back_lifted (os : Os) (started : os.Started) (H : Type) (enc : TypeId × Value → H) (F : Stop.Interp) :
    ReturnsInHanded {} Try.checked os 3 .any ((Rows.OpenSpec.upto Rows.catalogBackSpec).pre6 enc Try.prog Try.f3 Rows.catalogBackUptoRow.domain false) (((Rows.OpenSpec.upto Rows.catalogBackSpec).at F).post enc Try.prog Try.f3 false true false false) := by
  refine returnsInHanded_of_cond (C := Try.checked) (s := Rows.OpenSpec.upto Rows.catalogBackSpec) (k := Rows.uptoSmall) rfl own started (by kernel_rfl) Try.func3
    (OpenSpec.witness (enc := enc) (C := Try.checked) (s := Rows.OpenSpec.upto Rows.catalogBackSpec) (k := Rows.uptoSmall) rfl false ⟨#[], #[.agg #[.int .i64 0, .string ⟨#[]⟩, .slice none 0 0, .slice none 0 0, .bool false]], []⟩ 8 (by kernel_rfl) (by kernel_rfl) (by kernel_rfl)
      (x := ([.agg [.lit (.int .i64 0), .lit (.string []), .nil, .nil, .lit (.bool false)]], [], [])) (by kernel_rfl) rfl (by kernel_rfl)) ?_
  intro W base args ds gs before hval hW _ hk _
  exact law_calls 6 laid (by kernel_rfl) rfl (fun ds hds => by
    match ds, hds with
    | [_], _ => rfl) rfl Try.underlying4 (fun ss h _ => back_con ss h) hval hW (upto_weights 6 (by kernel_rfl) hk)

theorem back_holds : Rows.CatalogBackUptoSaid :=
  OpenClaim.holds_of_cond 3 Try.f3 rfl rfl rfl rfl rfl rfl rfl ⟨rfl, rfl, rfl, rfl, rfl⟩ rfl rfl rfl rfl rfl (by kernel_rfl) Try.func3 (by kernel_rfl)
    (of_decide_eq_true (by kernel_rfl)) (by unfold Func.isWrapper; first | (rw [if_pos (by decide +kernel)]; kernel_rfl) | (rw [if_neg (by decide +kernel)]; exact ⟨rfl, rfl⟩))
    (fun os started H enc _ F => back_lifted os started H enc F)
end Go.Proofs.Ytgodbpamppcfnaa
