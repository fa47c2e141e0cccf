/- Arguments opened: facts, periods, instants; what all statements of the seat share. -/
import Derived.Test.YtmkbclnhopoiiaaGreatBPA
import Derived.Test.YtmkbclnhopoiiaaGreatQS
import Derived.Test.YtmkbclnhopoiiaaGreatBSF
import Derived.Test.YtmkbclnhopoiiaaGreatBS2
import Derived.Test.YtmkbclnhopoiiaaGreatBU
import Derived.HandedShaped
import Derived.JoinedCond
set_option linter.unusedSimpArgs false
set_option linter.unusedVariables false
namespace Go.Proofs.YtmkbclnhopoiiaaGreat
open Go.VL Go.RowKit

set_option maxRecDepth 100000 in
theorem own : ownKnob Tryz.prog.godebug = none := by kernel_rfl
set_option maxRecDepth 100000 in
theorem laid : laidOutB Tryz.prog = true := by kernel_rfl
set_option maxRecDepth 100000 in
theorem bytes38 : Tryz.prog.bytesOf 48 = 40 := by kernel_rfl
set_option maxRecDepth 100000 in
theorem bytes49 : Tryz.prog.bytesOf 50 = 32 := by kernel_rfl
set_option maxRecDepth 100000 in
theorem open_str (R n : Nat) (xs : List C) (h : Fits Tryz.prog R (n + 1) 9 xs) : ∃ l : List UInt8, xs = [str l] ∧ l.length ≤ R := fits_string Tryz.underlying9 h
set_option maxRecDepth 100000 in
theorem open_per (R n : Nat) (xs : List C) (h : Fits Tryz.prog R (n + 2) 24 xs) : ∃ p : Per, xs = p.cells ∧ True := by
  obtain ⟨a1, _, rfl, h1, a2, _, rfl, h2, rfl⟩ := fits_struct Tryz.underlying24 h
  obtain ⟨f, rfl, _⟩ := fits_i64 Tryz.underlying2 h1
  obtain ⟨t, rfl, _⟩ := fits_i64 Tryz.underlying2 h2
  exact ⟨⟨f, t⟩, rfl, trivial⟩
set_option maxRecDepth 100000 in
theorem open_val (R n : Nat) (xs : List C) (h : Fits Tryz.prog R (n + 2) 50 xs) : ∃ v : Val, xs = v.cells ∧ True := by
  obtain ⟨a1, _, rfl, h1, a2, _, rfl, h2, a3, _, rfl, h3, rfl⟩ := fits_struct Tryz.underlying50 h
  obtain ⟨k, rfl, _⟩ := fits_i64 Tryz.underlying3 h1
  obtain ⟨i, rfl, _⟩ := fits_i64 Tryz.underlying2 h2
  obtain ⟨s, rfl, _⟩ := open_str R n _ h3
  exact ⟨⟨k, i, s⟩, rfl, trivial⟩
set_option maxRecDepth 100000 in
theorem open_fact (R n : Nat) (xs : List C) (h : Fits Tryz.prog R (n + 4) 48 xs) : ∃ f : Fact, xs = f.cells ∧ f.row.length * 32 ≤ R := by
  obtain ⟨a1, _, rfl, h1, a2, _, rfl, h2, rfl⟩ := fits_struct Tryz.underlying48 h
  obtain ⟨nl, ys, rfl, _, hl, hys⟩ := fits_slice Tryz.underlying46 h1
  obtain ⟨row, rfl, _⟩ := fits_list Val.cells (fun _ => True) (open_val R n) hys
  obtain ⟨p, rfl, _⟩ := open_per R (n + 1) _ h2
  rw [bytes49] at hl
  exact ⟨⟨nl, row, p⟩, rfl, by simpa using hl⟩
set_option maxRecDepth 100000 in
theorem open_facts (R n : Nat) (xs : List C) (h : Fits Tryz.prog R (n + 5) 22 xs) : ∃ (nl : Bool) (l : List Fact), xs = [.sl nl (facts l)] ∧ (nl = true → l = []) ∧ l.length * 40 ≤ R ∧ ∀ f ∈ l, f.row.length * 32 ≤ R := by
  obtain ⟨nl, ys, rfl, hn, hl, hys⟩ := fits_slice Tryz.underlying22 h
  obtain ⟨l, rfl, hq⟩ := fits_list Fact.cells (fun f => f.row.length * 32 ≤ R) (open_fact R n) hys
  rw [bytes38] at hl
  exact ⟨nl, l, rfl, fun e => by simpa using hn e, by simpa using hl, hq⟩
set_option maxRecDepth 100000 in
/-- a list of facts, as an argument -/
theorem open_facts1 (R : Nat) (s : S) (h : FitsS Tryz.prog R 8 22 s) : ∃ (nl : Bool) (l : List Fact), s = .c (.sl nl (facts l)) ∧ (nl = true → l = []) ∧ l.length * 40 ≤ R ∧ ∀ f ∈ l, f.row.length * 32 ≤ R := by
  unfold FitsS at h
  rw [Tryz.underlying22] at h
  obtain ⟨x, rfl, h2⟩ := h
  obtain ⟨nl, l, e, h3⟩ := open_facts R 3 _ h2
  cases e
  exact ⟨nl, l, rfl, h3⟩
set_option maxRecDepth 100000 in
theorem open_per1 (R : Nat) (s : S) (h : FitsS Tryz.prog R 8 24 s) : ∃ p : Per, s = .agg p.cells := by
  obtain ⟨xs, rfl, h0⟩ := FitsS.struct Tryz.underlying24 h
  obtain ⟨p, rfl, _⟩ := open_per R _ _ h0
  exact ⟨p, rfl⟩
set_option maxRecDepth 100000 in
theorem open_int1 (R : Nat) (s : S) (h : FitsS Tryz.prog R 8 2 s) : ∃ t : Int, s = .c (i64 t) := by
  unfold FitsS at h
  rw [Tryz.underlying2] at h
  obtain ⟨x, rfl, h2⟩ := h
  obtain ⟨t, e, _⟩ := fits_i64 Tryz.underlying2 h2
  cases e
  exact ⟨t, rfl⟩
theorem rows1_of {l : List Fact} {R : Nat} (hR : R ≤ 140737488355328) (h : ∀ f ∈ l, f.row.length * 32 ≤ R) : Rows1 l := fun f hf => by have := h f hf; omega
end Go.Proofs.YtmkbclnhopoiiaaGreat
