/- Arguments opened: facts whose numbers a machine holds. -/
import Derived.Test.YtmkbclnhopoiiaaGreatBZ
import Derived.Test.YtmkbclnhopoiiaaGreatBWA
set_option linter.unusedSimpArgs false
set_option linter.unusedVariables false
namespace Go.Proofs.YtmkbclnhopoiiaaGreat
open Go.VL Go.RowKit

set_option maxRecDepth 100000 in
theorem open_valV (R n : Nat) (xs : List C) (h : Fits Tryz.prog R (n + 2) 50 xs) : ∃ v : Val, xs = v.cells ∧ i64Ok v.int := by
  obtain ⟨a1, _, rfl, h1, a2, _, rfl, h2, a3, _, rfl, h3, rfl⟩ := fits_struct Tryz.underlying50 h
  obtain ⟨k, rfl, _⟩ := fits_i64 Tryz.underlying3 h1
  obtain ⟨i, rfl, hi⟩ := fits_i64 Tryz.underlying2 h2
  obtain ⟨s, rfl, _⟩ := open_str R n _ h3
  exact ⟨⟨k, i, s⟩, rfl, hi⟩
set_option maxRecDepth 100000 in
theorem open_factV (R n : Nat) (xs : List C) (h : Fits Tryz.prog R (n + 4) 48 xs) : ∃ f : Fact, xs = f.cells ∧ f.row.length * 32 ≤ R ∧ ∀ v ∈ f.row, i64Ok v.int := by
  obtain ⟨a1, _, rfl, h1, a2, _, rfl, h2, rfl⟩ := fits_struct Tryz.underlying48 h
  obtain ⟨nl, ys, rfl, _, hl, hys⟩ := fits_slice Tryz.underlying46 h1
  obtain ⟨row, rfl, hv⟩ := fits_list Val.cells (fun v => i64Ok v.int) (open_valV R n) hys
  obtain ⟨p, rfl, _⟩ := open_per R (n + 1) _ h2
  rw [bytes49] at hl
  exact ⟨⟨nl, row, p⟩, rfl, by simpa using hl, hv⟩
set_option maxRecDepth 100000 in
/-- a list of facts, as an argument -/
theorem open_factsV (R : Nat) (s : S) (h : FitsS Tryz.prog R 8 22 s) : ∃ (nl : Bool) (l : List Fact), s = .c (.sl nl (facts l)) ∧ (nl = true → l = []) ∧ l.length * 40 ≤ R ∧ (∀ f ∈ l, f.row.length * 32 ≤ R) ∧ Vals64 l := by
  unfold FitsS at h
  rw [Tryz.underlying22] at h
  obtain ⟨x, rfl, h2⟩ := h
  obtain ⟨nl, ys, e, hn, hl, hys⟩ := fits_slice Tryz.underlying22 h2
  obtain ⟨l, rfl, hq⟩ := fits_list Fact.cells (fun f => f.row.length * 32 ≤ R ∧ ∀ v ∈ f.row, i64Ok v.int) (open_factV R 3) hys
  rw [bytes38] at hl
  cases e
  exact ⟨nl, l, rfl, fun e => by simpa using hn e, by simpa using hl, fun f hf => (hq f hf).1, fun f hf => (hq f hf).2⟩
end Go.Proofs.YtmkbclnhopoiiaaGreat
