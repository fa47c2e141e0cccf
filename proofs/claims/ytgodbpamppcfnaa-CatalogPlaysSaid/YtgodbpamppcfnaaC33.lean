/- Contracts of functions of the seat, proved in a logic on data over the model (part C33). -/
import Derived.Test.YtgodbpamppcfnaaC32
import Derived.Test.YtgodbpamppcfnaaC29
set_option linter.unusedSimpArgs false
set_option linter.unusedVariables false
namespace Go.Proofs.Ytgodbpamppcfnaa
open Go.VL Go.RowKit

theorem bytes63 : 1 ≤ Try.prog.bytesOf 63 := by decide +kernel
theorem open_tabF (R m : Nat) (xs : List C) (h0 : Fits Try.prog R (m + 4) 25 xs) : ∃ t : Tab, xs = t.cells ∧ (t.nc = true → t.cols = []) ∧ (t.nk = true → t.keys = []) ∧ t.cols.length * 24 ≤ R ∧ t.keys.length * 16 ≤ R := by
  obtain ⟨a1, _, rfl, h1, a2, _, rfl, h2, a3, _, rfl, h3, a4, _, rfl, h4, a5, _, rfl, h5, rfl⟩ := fits_struct Try.underlying25 h0
  obtain ⟨id, rfl, _⟩ := fits_i64 Try.underlying3 h1
  obtain ⟨name, rfl, _⟩ := open_str _ _ _ h2
  obtain ⟨nc, cols, rfl, hnc, hlc, hcols⟩ := fits_slice Try.underlying22 h3
  obtain ⟨cols, rfl, _⟩ := fits_list Col.cells (fun _ => True) (open_col R m) hcols
  obtain ⟨nk, keys, rfl, hnk, hlk, hkeys⟩ := fits_slice Try.underlying23 h4
  obtain ⟨keys, rfl, _⟩ := fits_list keyc (fun _ => True) (fun y hy => by
    obtain ⟨l, rfl, _⟩ := open_str R (m + 1) y hy
    exact ⟨l, rfl, trivial⟩) hkeys
  obtain ⟨ix, rfl⟩ := fits_bool Try.underlying4 h5
  rw [bytes54] at hlc
  rw [bytes9] at hlk
  refine ⟨⟨id, name, nc, cols, nk, keys, ix⟩, rfl, fun e => by simpa using hnc e, fun e => by simpa using hnk e, ?_, ?_⟩
  · simp only [List.length_map] at hlc ⊢; omega
  · simp only [List.length_map] at hlk ⊢; omega
theorem open_opn (xs : List C) (h : Fits Try.prog reachBytes 6 63 xs) : ∃ o : Opn, xs = o.cells ∧ o.tab.Ok := by
  obtain ⟨a1, _, rfl, h1, a2, _, rfl, h2, rfl⟩ := fits_struct Try.underlying63 h
  obtain ⟨k, rfl, _⟩ := fits_i64 Try.underlying3 h1
  obtain ⟨t, rfl, h3, h4, h5, h6⟩ := open_tabF reachBytes 1 _ h2
  exact ⟨⟨k, t⟩, by simp [Opn.cells], tab_ok h3 h4 h5 h6⟩
theorem plays_con (ss : List S) (h : FitsAll Try.prog reachBytes 7 [60] ss) : Con Try.prog 7 ss [.c (.v (.bool true))] := by
  obtain ⟨s1, _, rfl, h1, rfl⟩ := h
  unfold FitsS at h1
  rw [Try.underlying60] at h1
  obtain ⟨x, rfl, h2⟩ := h1
  obtain ⟨nl, ys, e, hn, hl, hys⟩ := fits_slice Try.underlying60 h2
  obtain ⟨l, rfl, ho⟩ := fits_list Opn.cells (fun o => o.tab.Ok) open_opn hys
  cases e
  have hb := bytes63
  have e : reachBytes = 140737488351232 := rfl
  have := Nat.mul_le_mul_left (List.map Opn.cells l).length hb
  simp only [List.length_map] at this hl
  exact plays_spec nl l ho (by omega)

set_option maxRecDepth 100000 in
theorem plays_lifted (os : Os) (started : os.Started) (H : Type) (enc : TypeId × Value → H) :
    ReturnsInHanded {} Try.checked os 7 .any (Rows.catalogPlaysSpec.pre6 enc Try.prog Try.f7 [] false) (Rows.catalogPlaysSpec.post enc Try.prog Try.f7 false true false false) := by
  refine returnsInHanded_of_change_shaped (C := Try.checked) own started (by kernel_rfl) Try.func7
    (ChangeSpec.witness6 (enc := enc) (C := Try.checked) (s := Rows.catalogPlaysSpec) false ⟨#[], #[.slice none 0 0], []⟩ 8 (by kernel_rfl) (by kernel_rfl) (by kernel_rfl) (by kernel_rfl)) ?_
  intro W base args ds gs before hval hW _ hwt _ _
  exact law_calls 7 laid (by kernel_rfl) rfl (fun ds hds => by
    match ds, hds with
    | [_], _ => rfl) rfl Try.underlying4 (fun ss h _ => plays_con ss h) hval hW hwt

theorem plays_holds : Rows.CatalogPlaysSaid :=
  OpenClaim.holds_of_wide 7 Try.f7 rfl rfl rfl rfl rfl rfl rfl ⟨rfl, rfl, rfl, rfl, rfl⟩ rfl rfl rfl rfl rfl (by kernel_rfl) Try.func7 (by kernel_rfl)
    (of_decide_eq_true (by kernel_rfl)) (by unfold Func.isWrapper; first | (rw [if_pos (by decide +kernel)]; kernel_rfl) | (rw [if_neg (by decide +kernel)]; exact ⟨rfl, rfl⟩))
    (fun os started H enc _ => plays_lifted os started H enc)
end Go.Proofs.Ytgodbpamppcfnaa
