/- Contracts of functions of the seat, proved in a logic on data over the model (part P9). -/
import Derived.Test.YtlmnablagocfiaaP8
import Derived.Test.YtlmnablagocfiaaV24
import Derived.Test.YtlmnablagocfiaaRows
import Derived.HandedShaped
namespace Go.Proofs.Ytlmnablagocfiaa
open Go.VL Go.RowKit

theorem bytes5 : Try.prog.bytesOf 5 = 1 := by kernel_rfl
/-- a slice of bytes -/
theorem open_bytes (n : Nat) (xs : List C) (h : Fits Try.prog (n + 2) 22 xs) : ∃ nil l, xs = [.sl nil (l.map u8c)] ∧ (nil = true → l = []) ∧ l.length ≤ 140737488351232 := by
  obtain ⟨nil, ys, rfl, h1, h2, h3⟩ := fits_slice Try.underlying22 h
  obtain ⟨l, rfl, _⟩ := fits_list u8c (fun _ => True) (fun y hy => by
    obtain ⟨b, rfl⟩ := fits_u8 Try.underlying5 hy
    exact ⟨b, rfl, trivial⟩) h3
  rw [bytes5] at h2
  refine ⟨nil, l, rfl, fun e => by simpa using h1 e, by simpa [reachBytes] using h2⟩

/-- an entry -/
theorem open_entry (s : S) (h : FitsS Try.prog 4 24 s) : ∃ e : Ent, s = .agg e.cells ∧ (e.nil = true → e.data = []) ∧ e.txn ≤ 9223372036854775807 := by
  obtain ⟨xs, rfl, h0⟩ := FitsS.struct Try.underlying24 h
  obtain ⟨a1, _, rfl, h1, a2, _, rfl, h2, a3, _, rfl, h3, a4, _, rfl, h4, a5, _, rfl, h5, a6, _, rfl, h6, rfl⟩ := fits_struct Try.underlying24 h0
  obtain ⟨m1, rfl, _⟩ := fits_i64 Try.underlying3 h1
  obtain ⟨m2, rfl, _, hm⟩ := fits_i64 Try.underlying2 h2
  obtain ⟨m3, rfl, _⟩ := fits_i64 Try.underlying3 h3
  obtain ⟨m4, rfl, _⟩ := fits_i64 Try.underlying3 h4
  obtain ⟨m5, rfl, _⟩ := fits_i64 Try.underlying2 h5
  obtain ⟨nil, l, rfl, hn, _⟩ := open_bytes 1 _ h6
  exact ⟨⟨m1, m2, m3, m4, m5, nil, l⟩, rfl, hn, hm⟩

theorem writes_con (ss : List S) (h : FitsAll Try.prog 4 [24, 22] ss) : Con Try.prog 3 ss [.c (.v (.bool true))] := by
  obtain ⟨s1, _, rfl, h1, s2, _, rfl, h2, rfl⟩ := h
  obtain ⟨e, rfl, _, ht⟩ := open_entry s1 h1
  unfold FitsS at h2
  rw [Try.underlying22] at h2
  obtain ⟨x, rfl, h2⟩ := h2
  obtain ⟨nil, l, e1, hn, hl⟩ := open_bytes 2 _ h2
  cases e1
  exact writes_spec e nil l ht hn (by omega)

theorem own : ownKnob Try.prog.godebug = none := by kernel_rfl
theorem laid : laidOutB Try.prog = true := by kernel_rfl

set_option maxRecDepth 100000 in
theorem writes_lifted (os : Os) (started : os.Started) (H : Type) (enc : TypeId × Value → H) :
    ReturnsInHanded {} Try.checked os 3 .any (Rows.trailWritesSpec.pre6 enc Try.prog Try.f3 [] false) (Rows.trailWritesSpec.post enc Try.prog Try.f3 false true false false) := by
  refine returnsInHanded_of_change_shaped (C := Try.checked) own started (by kernel_rfl) Try.func3
    (ChangeSpec.witness6 (enc := enc) (C := Try.checked) (s := Rows.trailWritesSpec) false ⟨#[], #[.agg #[.int .i64 0, .int .i64 0, .int .i64 0, .int .i64 0, .int .i64 0, .slice none 0 0], .slice none 0 0], []⟩ 8 (by kernel_rfl) (by kernel_rfl) (by kernel_rfl) (by kernel_rfl)) ?_
  intro W base args ds gs before hval hW _ hwt _ _
  exact law_calls 4 laid (by kernel_rfl) rfl (fun ds hds => by
    match ds, hds with
    | [_, _], _ => rfl) rfl Try.underlying4 (fun ss h _ => writes_con ss h) hval hW hwt

theorem writes_holds : Rows.TrailWritesSaid :=
  OpenClaim.holds_of_wide 3 Try.f3 rfl rfl rfl rfl rfl rfl rfl ⟨rfl, rfl, rfl, rfl, rfl⟩ rfl rfl rfl rfl rfl (by kernel_rfl) Try.func3 (by kernel_rfl)
    (of_decide_eq_true (by kernel_rfl)) (by unfold Func.isWrapper; first | (rw [if_pos (by decide +kernel)]; kernel_rfl) | (rw [if_neg (by decide +kernel)]; exact ⟨rfl, rfl⟩))
    (fun os started H enc _ => writes_lifted os started H enc)
end Go.Proofs.Ytlmnablagocfiaa
