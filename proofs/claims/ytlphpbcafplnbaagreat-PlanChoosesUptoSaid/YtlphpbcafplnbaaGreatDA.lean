/- Contracts of functions of the seat, proved in a logic on data over the model (part DA). -/
import Derived.Test.YtlphpbcafplnbaaGreatQA
import Derived.Test.YtlphpbcafplnbaaGreatV33
import Derived.Test.YtlphpbcafplnbaaGreatVC
set_option linter.unusedSimpArgs false
set_option linter.unusedVariables false
namespace Go.Proofs.YtlphpbcafplnbaaGreat
open Go.VL Go.RowKit
structure Val where
  kind : Int
  int : Int
  text : List UInt8
deriving DecidableEq
instance : Inhabited Val := ⟨⟨0, 0, []⟩⟩
def Val.cells (v : Val) : List C := [i64 v.kind, i64 v.int, str v.text]
@[simp] theorem Val.len (v : Val) : v.cells.length = 3 := rfl
abbrev vals (l : List Val) : List (List C) := l.map Val.cells
structure Fact where
  nl : Bool
  row : List Val
  p : Per
deriving DecidableEq
instance : Inhabited Fact := ⟨⟨false, [], ⟨0, 0⟩⟩⟩
def Fact.cells (f : Fact) : List C := [.sl f.nl (vals f.row), i64 f.p.f, i64 f.p.t]
@[simp] theorem Fact.len (f : Fact) : f.cells.length = 3 := rfl
abbrev facts (l : List Fact) : List (List C) := l.map Fact.cells
@[simp] theorem str_toList (l : List UInt8) : (ByteArray.mk l.toArray).toList = l := by
  rw [ByteArray.toList_eq]
def ltV (a b : Val) : Bool := decide (a.kind < b.kind) || (decide (a.kind = b.kind) && (decide (a.int < b.int) || (decide (a.int = b.int) && Op.bytesLess a.text b.text)))
theorem bl_irr : ∀ (a : List UInt8), Op.bytesLess a a = false
  | [] => rfl
  | x :: a => by simp [Op.bytesLess, bl_irr a]
theorem ltV_irr (a : Val) : ltV a a = false := by simp [ltV, bl_irr]
def cmpV (a b : Val) : Int := if ltV a b then -1 else if a = b then 0 else 1
theorem cmpV_0 (a b : Val) : cmpV a b = 0 ↔ a = b := by
  unfold cmpV
  constructor
  · intro h
    split at h
    · cases h
    · split at h
      · assumption
      · cases h
  · rintro rfl; simp [ltV_irr]
def cmpR : List Val → List Val → Int
  | [], [] => 0
  | [], _ :: _ => -1
  | _ :: _, [] => 1
  | a :: l, b :: m => if cmpV a b = 0 then cmpR l m else cmpV a b
theorem cmpR_0 : ∀ (l m : List Val), cmpR l m = 0 ↔ l = m
  | [], [] => by simp [cmpR]
  | [], _ :: _ => by simp [cmpR]
  | _ :: _, [] => by simp [cmpR]
  | a :: l, b :: m => by
    rw [cmpR]
    by_cases h : cmpV a b = 0
    · rw [if_pos h, cmpR_0 l m]
      rw [cmpV_0] at h
      simp [h]
    · rw [if_neg h]
      rw [cmpV_0] at h
      simp [cmpV_0, h]
theorem cmpR_take : ∀ (k : Nat) (l m : List Val), l.take k = m.take k → k ≤ l.length → k ≤ m.length → cmpR l m = cmpR (l.drop k) (m.drop k)
  | 0, l, m, _, _, _ => by simp
  | k + 1, [], m, _, h, _ => by simp at h
  | k + 1, _ :: _, [], _, _, h => by simp at h
  | k + 1, a :: l, b :: m, h, h1, h2 => by
    simp at h
    rw [cmpR, if_pos ((cmpV_0 a b).2 h.1)]
    simp only [List.drop_succ_cons]
    exact cmpR_take k l m h.2 (by simpa using h1) (by simpa using h2)
theorem cmpR_at {l m : List Val} {k : Nat} (h : l.take k = m.take k) (h1 : k < l.length) (h2 : k < m.length) (hne : cmpV l[k] m[k] ≠ 0) : cmpR l m = cmpV l[k] m[k] := by
  rw [cmpR_take k l m h (by omega) (by omega), List.drop_eq_getElem_cons h1, List.drop_eq_getElem_cons h2, cmpR, if_neg hne]
theorem cmpR_end {l m : List Val} {k : Nat} (h : l.take k = m.take k) (h1 : k ≤ l.length) (h2 : k ≤ m.length) (he : k = l.length ∨ k = m.length) : cmpR l m = if l.length < m.length then -1 else if m.length < l.length then 1 else 0 := by
  rw [cmpR_take k l m h h1 h2]
  rcases he with rfl | rfl
  · rw [List.drop_length]
    rcases Nat.lt_or_ge l.length m.length with hlt | hge
    · rw [if_pos hlt, List.drop_eq_getElem_cons hlt]; rfl
    · rw [if_neg (by omega), if_neg (by omega), List.drop_of_length_le (by omega)]; rfl
  · rw [show m.drop m.length = [] from List.drop_length]
    rcases Nat.lt_or_ge m.length l.length with hlt | hge
    · rw [if_neg (by omega), if_pos hlt, List.drop_eq_getElem_cons hlt]; rfl
    · rw [if_neg (by omega), if_neg (by omega), List.drop_of_length_le (by omega)]; rfl
theorem take_step {α : Type} {l m : List α} {k : Nat} (h : k < l.length) (h' : k < m.length) (e : l.take k = m.take k) (e' : l[k] = m[k]) : l.take (k + 1) = m.take (k + 1) := by
  rw [take_snoc h, take_snoc h', e, e']
end Go.Proofs.YtlphpbcafplnbaaGreat
set_option linter.unusedSimpArgs false
set_option linter.unusedVariables false
namespace Go.Proofs.YtlphpbcafplnbaaGreat
open Go.VL Go.RowKit
end Go.Proofs.YtlphpbcafplnbaaGreat
set_option linter.unusedSimpArgs false
set_option linter.unusedVariables false
namespace Go.Proofs.YtlphpbcafplnbaaGreat
open Go.VL Go.RowKit
def Rows1 (l : List Fact) : Prop := ∀ f ∈ l, f.row.length ≤ 4294967296
end Go.Proofs.YtlphpbcafplnbaaGreat
set_option linter.unusedSimpArgs false
set_option linter.unusedVariables false
namespace Go.Proofs.YtlphpbcafplnbaaGreat
open Go.VL Go.RowKit
def keep (g : Nat → Bool) (l : List Fact) : Nat → List Fact
  | 0 => []
  | k + 1 => keep g l k ++ (if g k then [] else match l[k]? with | some f => [f] | none => [])
def goneE (ended : List Int) (i : Nat) : Bool := ended.any fun e => e == (i : Int)
def owned (f : Fact) : Fact := ⟨false, f.row, f.p⟩
end Go.Proofs.YtlphpbcafplnbaaGreat
set_option linter.unusedSimpArgs false
set_option linter.unusedVariables false
namespace Go.Proofs.YtlphpbcafplnbaaGreat
open Go.VL Go.RowKit
structure Col where
  name : List UInt8
  kind : Int
def Col.cells (c : Col) : List C := [str c.name, i64 c.kind]
@[simp] theorem Col.len (c : Col) : c.cells.length = 2 := rfl
def keyc (k : List UInt8) : List C := [str k]
@[simp] theorem keyc_len (k : List UInt8) : (keyc k).length = 1 := rfl
structure Tab where
  id : Int
  name : List UInt8
  nc : Bool
  cols : List Col
  nk : Bool
  keys : List (List UInt8)
  ix : Bool
def Tab.cells (t : Tab) : List C := [i64 t.id, str t.name, .sl t.nc (t.cols.map Col.cells), .sl t.nk (t.keys.map keyc), bln t.ix]
def kindsK (r : List Val) (c : List Col) (k : Nat) : Prop := ∀ j, (h : j < r.length) → (h' : j < c.length) → j < k → r[j].kind = c[j].kind
noncomputable instance (r : List Val) (c : List Col) (k : Nat) : Decidable (kindsK r c k) := Classical.propDecidable _
end Go.Proofs.YtlphpbcafplnbaaGreat
set_option linter.unusedSimpArgs false
set_option linter.unusedVariables false
namespace Go.Proofs.YtlphpbcafplnbaaGreat
open Go.VL Go.RowKit
def icell (k : Int) : List C := [i64 k]
@[simp] theorem icell_len (k : Int) : (icell k).length = 1 := rfl
end Go.Proofs.YtlphpbcafplnbaaGreat
set_option linter.unusedSimpArgs false
set_option linter.unusedVariables false
namespace Go.Proofs.YtlphpbcafplnbaaGreat
open Go.VL Go.RowKit
end Go.Proofs.YtlphpbcafplnbaaGreat
set_option linter.unusedSimpArgs false
set_option linter.unusedVariables false
namespace Go.Proofs.YtlphpbcafplnbaaGreat
open Go.VL Go.RowKit
end Go.Proofs.YtlphpbcafplnbaaGreat
set_option linter.unusedSimpArgs false
set_option linter.unusedVariables false
namespace Go.Proofs.YtlphpbcafplnbaaGreat
open Go.VL Go.RowKit
def goneRow (n : Nat) (e : List Int) : List (List C) := (List.range n).map fun i => [bln (goneE e i)]
@[simp] theorem goneRow_len (n : Nat) (e : List Int) : (goneRow n e).length = n := by simp [goneRow]
@[simp] theorem goneRow_get (n : Nat) (e : List Int) (i : Nat) (h : i < (goneRow n e).length) : (goneRow n e)[i] = [bln (goneE e i)] := by simp [goneRow]
structure KI where
  k : Nat
  nl : Bool
  sz : Nat
def KI.Ok (i : KI) (row : List Fact) : Prop := i.nl = row.isEmpty ∧ i.sz = if i.nl then 0 else 3
theorem KI.same {k k' : Nat} {nl : Bool} {sz : Nat} {row : List Fact} (h : KI.Ok ⟨k, nl, sz⟩ row) : KI.Ok ⟨k', nl, sz⟩ row := h
theorem KI.next {k : Nat} {row : List Fact} {f : Fact} : KI.Ok ⟨k, false, 3⟩ (row ++ [f]) := ⟨by cases row <;> rfl, rfl⟩
def ownedL (l : List Fact) : List (List C) := l.map fun f => (owned f).cells
@[simp] theorem ownedL_len (l : List Fact) : (ownedL l).length = l.length := by simp [ownedL]
end Go.Proofs.YtlphpbcafplnbaaGreat
set_option linter.unusedSimpArgs false
set_option linter.unusedVariables false
namespace Go.Proofs.YtlphpbcafplnbaaGreat
open Go.VL Go.RowKit
end Go.Proofs.YtlphpbcafplnbaaGreat
