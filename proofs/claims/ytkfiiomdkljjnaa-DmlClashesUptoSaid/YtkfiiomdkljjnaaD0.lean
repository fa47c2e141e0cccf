/- Values, rows, facts as data; the order of rows. -/
import Derived.Test.YtkfiiomdkljjnaaQ2
set_option linter.unusedSimpArgs false
set_option linter.unusedVariables false
namespace Go.Proofs.Ytkfiiomdkljjnaa
open Go.VL Go.RowKit

/-- a value -/
structure Val where
  kind : Int
  int : Int
  text : List UInt8
deriving DecidableEq
instance : Inhabited Val := ⟨⟨0, 0, []⟩⟩
def Val.cells (v : Val) : List C := [i64 v.kind, i64 v.int, str v.text]
@[simp] theorem Val.len (v : Val) : v.cells.length = 3 := rfl
abbrev vals (l : List Val) : List (List C) := l.map Val.cells
/-- a fact: its row (is it nil?), its period -/
structure Fact where
  nl : Bool
  row : List Val
  p : Per
deriving DecidableEq
instance : Inhabited Fact := ⟨⟨false, [], ⟨0, 0⟩⟩⟩
def Fact.cells (f : Fact) : List C := [.sl f.nl (vals f.row), i64 f.p.f, i64 f.p.t]
@[simp] theorem Fact.len (f : Fact) : f.cells.length = 3 := rfl
abbrev facts (l : List Fact) : List (List C) := l.map Fact.cells
/-- a fact, whether or not its row is nil -/
def Fact.strip (f : Fact) : List Val × Per := (f.row, f.p)
def strips (l : List Fact) : List (List Val × Per) := l.map Fact.strip

@[simp] theorem str_toList (l : List UInt8) : (ByteArray.mk l.toArray).toList = l := by
  rw [ByteArray.toList_eq]

/-! ### The order of values, rows -/
def ltV (a b : Val) : Bool := decide (a.kind < b.kind) || (decide (a.kind = b.kind) && (decide (a.int < b.int) || (decide (a.int = b.int) && Op.bytesLess a.text b.text)))
theorem bl_irr : ∀ (a : List UInt8), Op.bytesLess a a = false
  | [] => rfl
  | x :: a => by simp [Op.bytesLess, bl_irr a]
theorem ltV_irr (a : Val) : ltV a a = false := by simp [ltV, bl_irr]
def cmpV (a b : Val) : Int := if ltV a b then -1 else if a = b then 0 else 1
theorem cmpV_0 (a b : Val) : cmpV a b = 0 ↔ a = b := by
  unfold cmpV
  constructor
  · intro h
    split at h
    · cases h
    · split at h
      · assumption
      · cases h
  · rintro rfl; simp [ltV_irr]
def cmpR : List Val → List Val → Int
  | [], [] => 0
  | [], _ :: _ => -1
  | _ :: _, [] => 1
  | a :: l, b :: m => if cmpV a b = 0 then cmpR l m else cmpV a b
theorem cmpR_0 : ∀ (l m : List Val), cmpR l m = 0 ↔ l = m
  | [], [] => by simp [cmpR]
  | [], _ :: _ => by simp [cmpR]
  | _ :: _, [] => by simp [cmpR]
  | a :: l, b :: m => by
    rw [cmpR]
    by_cases h : cmpV a b = 0
    · rw [if_pos h, cmpR_0 l m]
      rw [cmpV_0] at h
      simp [h]
    · rw [if_neg h]
      rw [cmpV_0] at h
      simp [cmpV_0, h]
/-- of rows alike in their first k values -/
theorem cmpR_take : ∀ (k : Nat) (l m : List Val), l.take k = m.take k → k ≤ l.length → k ≤ m.length → cmpR l m = cmpR (l.drop k) (m.drop k)
  | 0, l, m, _, _, _ => by simp
  | k + 1, [], m, _, h, _ => by simp at h
  | k + 1, _ :: _, [], _, _, h => by simp at h
  | k + 1, a :: l, b :: m, h, h1, h2 => by
    simp at h
    rw [cmpR, if_pos ((cmpV_0 a b).2 h.1)]
    simp only [List.drop_succ_cons]
    exact cmpR_take k l m h.2 (by simpa using h1) (by simpa using h2)
theorem cmpR_at {l m : List Val} {k : Nat} (h : l.take k = m.take k) (h1 : k < l.length) (h2 : k < m.length) (hne : cmpV l[k] m[k] ≠ 0) : cmpR l m = cmpV l[k] m[k] := by
  rw [cmpR_take k l m h (by omega) (by omega), List.drop_eq_getElem_cons h1, List.drop_eq_getElem_cons h2, cmpR, if_neg hne]
theorem cmpR_end {l m : List Val} {k : Nat} (h : l.take k = m.take k) (h1 : k ≤ l.length) (h2 : k ≤ m.length) (he : k = l.length ∨ k = m.length) : cmpR l m = if l.length < m.length then -1 else if m.length < l.length then 1 else 0 := by
  rw [cmpR_take k l m h h1 h2]
  rcases he with rfl | rfl
  · rw [List.drop_length]
    rcases Nat.lt_or_ge l.length m.length with hlt | hge
    · rw [if_pos hlt, List.drop_eq_getElem_cons hlt]; rfl
    · rw [if_neg (by omega), if_neg (by omega), List.drop_of_length_le (by omega)]; rfl
  · rw [show m.drop m.length = [] from List.drop_length]
    rcases Nat.lt_or_ge m.length l.length with hlt | hge
    · rw [if_neg (by omega), if_pos hlt, List.drop_eq_getElem_cons hlt]; rfl
    · rw [if_neg (by omega), if_neg (by omega), List.drop_of_length_le (by omega)]; rfl
theorem take_step {α : Type} {l m : List α} {k : Nat} (h : k < l.length) (h' : k < m.length) (e : l.take k = m.take k) (e' : l[k] = m[k]) : l.take (k + 1) = m.take (k + 1) := by
  rw [take_snoc h, take_snoc h', e, e']

/-! ### Which values are values -/
def badV (v : Val) : Int :=
  if (v.kind = 1 ∧ v.text = []) ∨ (v.kind = 2 ∧ v.int = 0 ∧ v.text.length ≤ 64) then 0 else if v.kind = 2 ∧ v.int = 0 then 2 else 21
def badR : List Val → Int
  | [] => 0
  | v :: l => if badV v = 0 then badR l else badV v
theorem badR_at (l : List Val) {k : Nat} (h : k < l.length) (hb : badR (l.take k) = 0) : badR (l.take (k + 1)) = badV l[k] := by
  rw [take_snoc h]
  generalize l.take k = m at *
  induction m with
  | nil => simp only [List.nil_append, badR]; split <;> omega
  | cons v m ih =>
    simp only [badR, List.cons_append] at hb ⊢
    split at hb
    · rename_i h0; rw [if_pos h0]; exact ih hb
    · rename_i h0; exact absurd hb h0
theorem badR_stop (l : List Val) {k : Nat} (h : k < l.length) (hb : badR (l.take k) = 0) (hv : badV l[k] ≠ 0) : badR l = badV l[k] := by
  have e : l = l.take k ++ l[k] :: l.drop (k + 1) := by rw [← List.drop_eq_getElem_cons h, List.take_append_drop]
  generalize l[k] = v at *
  generalize l.drop (k + 1) = r at *
  rw [e]
  clear e h
  generalize l.take k = m at *
  induction m with
  | nil => simp [badR, hv]
  | cons w m ih =>
    simp only [badR, List.cons_append] at hb ⊢
    split at hb
    · rename_i h0; rw [if_pos h0]; exact ih hb
    · rename_i h0; exact absurd hb h0
end Go.Proofs.Ytkfiiomdkljjnaa
