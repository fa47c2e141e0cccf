/- Contracts of functions of the seat, proved in a logic on data over the model (part XO). -/
import Derived.Test.YtlphpbcafplnbaaGreatXC
import Derived.Test.YtlphpbcafplnbaaGreatDB
import Derived.Test.YtlphpbcafplnbaaGreatDD
import Derived.Test.YtlphpbcafplnbaaGreatV37
set_option linter.unusedSimpArgs false
set_option linter.unusedVariables false
namespace Go.Proofs.YtlphpbcafplnbaaGreat
open Go.VL Go.RowKit
set_option maxRecDepth 100000 in
theorem own : ownKnob Tryz.prog.godebug = none := by kernel_rfl
set_option maxRecDepth 100000 in
theorem laid : laidOutB Tryz.prog = true := by kernel_rfl
set_option maxRecDepth 100000 in
theorem bytes34 : Tryz.prog.bytesOf 40 = 40 := by kernel_rfl
set_option maxRecDepth 100000 in
theorem bytes58 : Tryz.prog.bytesOf 58 = 32 := by kernel_rfl
set_option maxRecDepth 100000 in
theorem bytes107 : Tryz.prog.bytesOf 65 = 80 := by kernel_rfl
set_option maxRecDepth 100000 in
theorem fits_pos {P : Program} {R n : Nat} {t : TypeId} {xs : List C} (h : Fits P R n t xs) : ∃ m, n = m + 1 := by
  cases n with
  | zero => unfold Fits at h; exact h.elim
  | succ m => exact ⟨m, rfl⟩
set_option maxRecDepth 100000 in
theorem fit_i64 {n : Nat} {R : Nat} {t : TypeId} {xs : List C} (hu : Tryz.prog.underlying t = some (.int .i64)) (h : Fits Tryz.prog R n t xs) : ∃ m : Int, xs = [i64 m] ∧ fits64 m = true := by
  obtain ⟨n, rfl⟩ := fits_pos h
  obtain ⟨m, rfl, h1, h2⟩ := fits_i64 hu h
  exact ⟨m, rfl, (fits64_iff m).2 ⟨h1, h2⟩⟩
set_option maxRecDepth 100000 in
theorem fit_str {n R : Nat} {xs : List C} (h : Fits Tryz.prog R n 9 xs) : ∃ l : List UInt8, xs = [str l] ∧ l.length ≤ R := by
  obtain ⟨n, rfl⟩ := fits_pos h
  exact fits_string Tryz.underlying9 h
set_option maxRecDepth 100000 in
theorem open_per (R n : Nat) (xs : List C) (h : Fits Tryz.prog R n 38 xs) : ∃ p : Per, xs = p.cells ∧ True := by
  obtain ⟨n, rfl⟩ := fits_pos h
  obtain ⟨a1, _, rfl, h1, a2, _, rfl, h2, rfl⟩ := fits_struct Tryz.underlying38 h
  obtain ⟨f, rfl, _⟩ := fit_i64 Tryz.underlying2 h1
  obtain ⟨t, rfl, _⟩ := fit_i64 Tryz.underlying2 h2
  exact ⟨⟨f, t⟩, rfl, trivial⟩
set_option maxRecDepth 100000 in
theorem open_val (R n : Nat) (xs : List C) (h : Fits Tryz.prog R n 58 xs) : ∃ v : Val, xs = v.cells ∧ fits64 v.int = true := by
  obtain ⟨n, rfl⟩ := fits_pos h
  obtain ⟨a1, _, rfl, h1, a2, _, rfl, h2, a3, _, rfl, h3, rfl⟩ := fits_struct Tryz.underlying58 h
  obtain ⟨k, rfl, _⟩ := fit_i64 Tryz.underlying3 h1
  obtain ⟨i, rfl, hi⟩ := fit_i64 Tryz.underlying2 h2
  obtain ⟨s, rfl, _⟩ := fit_str h3
  exact ⟨⟨k, i, s⟩, rfl, hi⟩
set_option maxRecDepth 100000 in
theorem open_fact (R n : Nat) (xs : List C) (h : Fits Tryz.prog R n 40 xs) : ∃ f : Fact, xs = f.cells ∧ (f.row.length * 32 ≤ R ∧ VFit f.row) := by
  obtain ⟨n, rfl⟩ := fits_pos h
  obtain ⟨a1, _, rfl, h1, a2, _, rfl, h2, rfl⟩ := fits_struct Tryz.underlying40 h
  obtain ⟨n, rfl⟩ := fits_pos h1
  obtain ⟨nl, ys, rfl, _, hl, hys⟩ := fits_slice Tryz.underlying36 h1
  obtain ⟨row, rfl, hq⟩ := fits_list Val.cells (fun v => fits64 v.int = true) (open_val R n) hys
  obtain ⟨p, rfl, _⟩ := open_per R _ _ h2
  rw [bytes58] at hl
  exact ⟨⟨nl, row, p⟩, rfl, by simpa using hl, hq⟩
set_option maxRecDepth 100000 in
theorem open_facts (R n : Nat) (xs : List C) (h : Fits Tryz.prog R n 22 xs) : ∃ (nl : Bool) (l : List Fact), xs = [.sl nl (facts l)] ∧ (nl = true → l = []) ∧ l.length * 40 ≤ R ∧ ∀ f ∈ l, f.row.length * 32 ≤ R ∧ VFit f.row := by
  obtain ⟨n, rfl⟩ := fits_pos h
  obtain ⟨nl, ys, rfl, hn, hl, hys⟩ := fits_slice Tryz.underlying22 h
  obtain ⟨l, rfl, hq⟩ := fits_list Fact.cells (fun f => f.row.length * 32 ≤ R ∧ VFit f.row) (open_fact R n) hys
  rw [bytes34] at hl
  exact ⟨nl, l, rfl, fun e => by simpa using hn e, by simpa using hl, hq⟩
set_option maxRecDepth 100000 in
theorem open_ex (R : Nat) (hR : R ≤ 80000000000) : ∀ (n : Nat) (xs : List C), Fits Tryz.prog R n 65 xs → ∃ e : Ex, xs = e.cells ∧ e.fit := by
  intro n
  induction n using Nat.strongRecOn with
  | _ n ih =>
    intro xs h
    obtain ⟨n, rfl⟩ := fits_pos h
    obtain ⟨a1, _, rfl, h1, a2, _, rfl, h2, a3, _, rfl, h3, a4, _, rfl, h4, a5, _, rfl, h5, rfl⟩ := fits_struct Tryz.underlying65 h
    obtain ⟨op, rfl, _⟩ := fit_str h1
    obtain ⟨int, rfl, hi⟩ := fit_i64 Tryz.underlying2 h2
    obtain ⟨text, rfl, _⟩ := fit_str h3
    obtain ⟨of, rfl, _⟩ := fit_str h4
    obtain ⟨m, rfl⟩ := fits_pos h5
    obtain ⟨nl, ys, rfl, hn, hl, hys⟩ := fits_slice Tryz.underlying60 h5
    obtain ⟨args, rfl, hq⟩ := fits_list Ex.cells Ex.fit (fun y hy => ih m (by omega) y hy) hys
    rw [bytes107] at hl
    simp at hl
    refine ⟨.mk op int text of nl args, ?_, ?_⟩
    · rw [Ex.cells_mk]; rfl
    · rw [Ex.fit]
      exact ⟨hi, by omega, (Ex.fits_iff args).2 hq⟩
set_option maxRecDepth 100000 in
theorem open_exs (R : Nat) (hR : R ≤ 80000000000) (n : Nat) (xs : List C) (h : Fits Tryz.prog R n 60 xs) : ∃ (nl : Bool) (l : List Ex), xs = [.sl nl (exprs l)] ∧ Ex.fits l ∧ l.length * 80 ≤ R := by
  obtain ⟨n, rfl⟩ := fits_pos h
  obtain ⟨nl, ys, rfl, hn, hl, hys⟩ := fits_slice Tryz.underlying60 h
  obtain ⟨l, rfl, hq⟩ := fits_list Ex.cells Ex.fit (open_ex R hR n) hys
  rw [bytes107] at hl
  exact ⟨nl, l, rfl, (Ex.fits_iff l).2 hq, by simpa using hl⟩
end Go.Proofs.YtlphpbcafplnbaaGreat
