/- Proved: TrailReports: what raw entries come to is the document's answer: every list of entries, every marks, no condition. -/
import Derived.Test.YtddhmoffjpnbgaaT22
import Derived.Test.YtddhmoffjpnbgaaVD
import Derived.Test.YtddhmoffjpnbgaaRows
import Derived.HandedShaped
import Derived.JoinedCond
set_option linter.unusedSimpArgs false
set_option linter.unusedVariables false
namespace Go.Proofs.Ytddhmoffjpnbgaa
open Go.VL Go.RowKit

set_option maxRecDepth 100000

theorem own : ownKnob Try.prog.godebug = none := by kernel_rfl
theorem laid : laidOutB Try.prog = true := by kernel_rfl
theorem bytes_byte : Try.prog.bytesOf 5 = 1 := by kernel_rfl
theorem bytes_ent : Try.prog.bytesOf 31 = 64 := by kernel_rfl
/-- a slice of bytes -/
theorem open_bytes (R n : Nat) (xs : List C) (h : Fits Try.prog R (n + 2) 29 xs) : ∃ (nil : Bool) (l : List UInt8), xs = [.sl nil (l.map u8c)] ∧ l.length ≤ R := by
  obtain ⟨nil, ys, rfl, h1, h2, h3⟩ := fits_slice Try.underlying29 h
  obtain ⟨l, rfl, _⟩ := fits_list u8c (fun _ => True) (fun y hy => by
    obtain ⟨b, rfl⟩ := fits_u8 Try.underlying5 hy
    exact ⟨b, rfl, trivial⟩) h3
  rw [bytes_byte] at h2
  refine ⟨nil, l, rfl, by simpa using h2⟩
/-- an entry -/
theorem open_ent (R n : Nat) (xs : List C) (h : Fits Try.prog R (n + 3) 31 xs) : ∃ e : Ent, xs = e.cells ∧ e.data.length ≤ R := by
  obtain ⟨a1, _, rfl, h1, a2, _, rfl, h2, a3, _, rfl, h3, a4, _, rfl, h4, a5, _, rfl, h5, a6, _, rfl, h6, rfl⟩ := fits_struct Try.underlying31 h
  obtain ⟨m1, rfl, _⟩ := fits_i64 Try.underlying3 h1
  obtain ⟨m2, rfl, _⟩ := fits_i64 Try.underlying2 h2
  obtain ⟨m3, rfl, _⟩ := fits_i64 Try.underlying3 h3
  obtain ⟨m4, rfl, _⟩ := fits_i64 Try.underlying3 h4
  obtain ⟨m5, rfl, _⟩ := fits_i64 Try.underlying2 h5
  obtain ⟨nil, l, rfl, hl⟩ := open_bytes R _ _ h6
  exact ⟨⟨m1, m2, m3, m4, m5, nil, l⟩, rfl, hl⟩
/-- a list of entries -/
theorem open_ents (R : Nat) (s : S) (h : FitsS Try.prog R 6 22 s) : ∃ (nl : Bool) (l : List Ent), s = .c (.sl nl (l.map Ent.cells)) ∧ (∀ e ∈ l, e.data.length ≤ R) ∧ l.length * 64 ≤ R ∧ (nl = true → l = []) := by
  unfold FitsS at h
  rw [Try.underlying22] at h
  obtain ⟨x, rfl, h2⟩ := h
  obtain ⟨nil, ys, e, hn, hl, hys⟩ := fits_slice Try.underlying22 h2
  obtain ⟨l, rfl, hd⟩ := fits_list Ent.cells (fun e => e.data.length ≤ R) (open_ent R 2) hys
  cases e
  rw [bytes_ent] at hl
  exact ⟨nil, l, rfl, hd, by simpa using hl, fun e => by simpa using hn e⟩
/-- a whole number -/
theorem open_int (R : Nat) (s : S) (h : FitsS Try.prog R 6 2 s) : ∃ x : Int, s = .c (i64 x) := by
  unfold FitsS at h
  rw [Try.underlying2] at h
  obtain ⟨x, rfl, h2⟩ := h
  obtain ⟨k, e, _⟩ := fits_i64 Try.underlying2 h2
  cases e
  exact ⟨k, rfl⟩

theorem bytes_i64 : Try.prog.bytesOf 2 = 8 := by kernel_rfl
/-- a list of whole numbers -/
theorem open_ints (R : Nat) (s : S) (h : FitsS Try.prog R 6 23 s) : ∃ (nl : Bool) (l : List Int), s = .c (.sl nl (ints l)) ∧ l.length * 8 ≤ R := by
  unfold FitsS at h
  rw [Try.underlying23] at h
  obtain ⟨x, rfl, h2⟩ := h
  obtain ⟨nil, ys, e, hn, hl, hys⟩ := fits_slice Try.underlying23 h2
  obtain ⟨l, rfl, _⟩ := fits_list (fun x : Int => [C.v (.int .i64 x)]) (fun _ => True) (fun y hy => by
    obtain ⟨m, rfl, _⟩ := fits_i64 Try.underlying2 hy
    exact ⟨m, rfl, trivial⟩) hys
  cases e
  rw [bytes_i64] at hl
  exact ⟨nil, l, rfl, by simpa using hl⟩

theorem reports_con (ss : List S) (h : FitsAll Try.prog reachBytes 6 [22, 23] ss) : Con Try.prog 3 ss [.c (.v (.bool true))] := by
  obtain ⟨s1, _, rfl, h1, s2, _, rfl, h2, rfl⟩ := h
  obtain ⟨nl, l, rfl, hd, hl, _⟩ := open_ents _ s1 h1
  obtain ⟨nm, ms, rfl, hms⟩ := open_ints _ s2 h2
  have e : reachBytes = 140737488351232 := rfl
  exact reports_spec sorts_ok sortsI_ok nl nm l ms (by omega) (fun x hx => by have := hd x hx; omega) (by omega)

set_option maxRecDepth 100000 in
theorem reports_lifted (os : Os) (started : os.Started) (H : Type) (enc : TypeId × Value → H) :
    ReturnsInHanded {} Try.checked os 3 .any (Rows.trailReportsSpec.pre6 enc Try.prog Try.f3 [] false) (Rows.trailReportsSpec.post enc Try.prog Try.f3 false true false false) := by
  refine returnsInHanded_of_change_shaped (C := Try.checked) own started (by kernel_rfl) Try.func3
    (ChangeSpec.witness6 (enc := enc) (C := Try.checked) (s := Rows.trailReportsSpec) false ⟨#[], #[.slice none 0 0, .slice none 0 0], []⟩ 8 (by kernel_rfl) (by kernel_rfl) (by kernel_rfl) (by kernel_rfl)) ?_
  intro W base args ds gs before hval hW _ hwt _ _
  exact law_calls 6 laid (by kernel_rfl) rfl (fun ds hds => by
    match ds, hds with
    | [_, _], _ => rfl) rfl Try.underlying4 (fun ss h _ => reports_con ss h) hval hW hwt

theorem reports_holds : Rows.TrailReportsSaid :=
  OpenClaim.holds_of_wide 3 Try.f3 rfl rfl rfl rfl rfl rfl rfl ⟨rfl, rfl, rfl, rfl, rfl⟩ rfl rfl rfl rfl rfl (by kernel_rfl) Try.func3 (by kernel_rfl)
    (of_decide_eq_true (by kernel_rfl)) (by unfold Func.isWrapper; first | (rw [if_pos (by decide +kernel)]; kernel_rfl) | (rw [if_neg (by decide +kernel)]; exact ⟨rfl, rfl⟩))
    (fun os started H enc _ => reports_lifted os started H enc)
end Go.Proofs.Ytddhmoffjpnbgaa
