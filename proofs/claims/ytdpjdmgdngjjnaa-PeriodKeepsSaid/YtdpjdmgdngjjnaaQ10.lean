/- Contracts of functions of the seat, proved in a logic on data over the model (part Q10). -/
import Derived.Test.YtdpjdmgdngjjnaaQ9
import Derived.Test.YtdpjdmgdngjjnaaQS
import Derived.Test.YtdpjdmgdngjjnaaVD
import Derived.Test.YtdpjdmgdngjjnaaRows
import Derived.HandedShaped
import Derived.JoinedCond
set_option linter.unusedSimpArgs false
set_option linter.unusedVariables false
namespace Go.Proofs.Ytdpjdmgdngjjnaa
open Go.VL Go.RowKit

theorem own : ownKnob Try.prog.godebug = none := by kernel_rfl
theorem laid : laidOutB Try.prog = true := by kernel_rfl
theorem bytes23 : Try.prog.bytesOf 23 = 16 := by kernel_rfl
theorem open_per (R n : Nat) (xs : List C) (h : Fits Try.prog R (n + 2) 23 xs) : ∃ p : Per, xs = p.cells ∧ True := by
  obtain ⟨a1, _, rfl, h1, a2, _, rfl, h2, rfl⟩ := fits_struct Try.underlying23 h
  obtain ⟨f, rfl, _⟩ := fits_i64 Try.underlying2 h1
  obtain ⟨t, rfl, _⟩ := fits_i64 Try.underlying2 h2
  exact ⟨⟨f, t⟩, rfl, trivial⟩
/-- a period -/
theorem open_per1 (R : Nat) (s : S) (h : FitsS Try.prog R 6 23 s) : ∃ p : Per, s = .agg p.cells := by
  obtain ⟨xs, rfl, h0⟩ := FitsS.struct Try.underlying23 h
  obtain ⟨p, rfl, _⟩ := open_per R 3 _ h0
  exact ⟨p, rfl⟩
/-- a list of periods -/
theorem open_pers (R : Nat) (s : S) (h : FitsS Try.prog R 6 24 s) : ∃ (nl : Bool) (l : List Per), s = .c (.sl nl (l.map Per.cells)) ∧ (nl = true → l = []) ∧ l.length * 16 ≤ R := by
  unfold FitsS at h
  rw [Try.underlying24] at h
  obtain ⟨x, rfl, h2⟩ := h
  obtain ⟨nl, ys, e, hn, hl, hys⟩ := fits_slice Try.underlying24 h2
  obtain ⟨l, rfl, _⟩ := fits_list Per.cells (fun _ => True) (open_per R 3) hys
  cases e
  rw [bytes23] at hl
  exact ⟨nl, l, rfl, fun e => by simpa using hn e, by simpa using hl⟩
/-- a whole number -/
theorem open_int (R : Nat) (s : S) (h : FitsS Try.prog R 6 2 s) : ∃ x : Int, s = .c (i64 x) := by
  unfold FitsS at h
  rw [Try.underlying2] at h
  obtain ⟨x, rfl, h2⟩ := h
  obtain ⟨k, e, _⟩ := fits_i64 Try.underlying2 h2
  cases e
  exact ⟨k, rfl⟩

theorem instants_con (ss : List S) (h : FitsAll Try.prog reachBytes 6 [23, 24, 2] ss) : Con Try.prog 4 ss [.c (.v (.bool true))] := by
  obtain ⟨s1, _, rfl, h1, s2, _, rfl, h2, s3, _, rfl, h3, rfl⟩ := h
  obtain ⟨a, rfl⟩ := open_per1 _ s1 h1
  obtain ⟨nl, l, rfl, hn, hl⟩ := open_pers _ s2 h2
  obtain ⟨t, rfl⟩ := open_int _ s3 h3
  have e : reachBytes = 140737488351232 := rfl
  exact instants_spec sorts_ok a nl l t hn (by omega)

set_option maxRecDepth 100000 in
theorem instants_lifted (os : Os) (started : os.Started) (H : Type) (enc : TypeId × Value → H) :
    ReturnsInHanded {} Try.checked os 4 .any (Rows.periodInstantsSpec.pre6 enc Try.prog Try.f4 [] false) (Rows.periodInstantsSpec.post enc Try.prog Try.f4 false true false false) := by
  refine returnsInHanded_of_change_shaped (C := Try.checked) own started (by kernel_rfl) Try.func4
    (ChangeSpec.witness6 (enc := enc) (C := Try.checked) (s := Rows.periodInstantsSpec) false ⟨#[], #[.agg #[.int .i64 0, .int .i64 0], .slice none 0 0, .int .i64 0], []⟩ 8 (by kernel_rfl) (by kernel_rfl) (by kernel_rfl) (by kernel_rfl)) ?_
  intro W base args ds gs before hval hW _ hwt _ _
  exact law_calls 6 laid (by kernel_rfl) rfl (fun ds hds => by
    match ds, hds with
    | [_, _, _], _ => rfl) rfl Try.underlying4 (fun ss h _ => instants_con ss h) hval hW hwt

theorem instants_holds : Rows.PeriodInstantsSaid :=
  OpenClaim.holds_of_wide 4 Try.f4 rfl rfl rfl rfl rfl rfl rfl ⟨rfl, rfl, rfl, rfl, rfl⟩ rfl rfl rfl rfl rfl (by kernel_rfl) Try.func4 (by kernel_rfl)
    (of_decide_eq_true (by kernel_rfl)) (by unfold Func.isWrapper; first | (rw [if_pos (by decide +kernel)]; kernel_rfl) | (rw [if_neg (by decide +kernel)]; exact ⟨rfl, rfl⟩))
    (fun os started H enc _ => instants_lifted os started H enc)
#print axioms instants_holds
end Go.Proofs.Ytdpjdmgdngjjnaa
