/-
  A logic on data over the model's walk, part 26: strings and bytes.
-/
import Derived.Test.YtgodbpamppcfnaaV22
set_option linter.unusedSimpArgs false
set_option linter.unusedVariables false
namespace Go.VL
open Go.RowKit

abbrev i64 (n : Int) : C := .v (.int .i64 n)
abbrev u64 (n : Int) : C := .v (.int .u64 n)
abbrev bln (b : Bool) : C := .v (.bool b)
abbrev str (l : List UInt8) : C := .v (.string ⟨l.toArray⟩)
@[simp] theorem app_str (a b : Array UInt8) : ByteArray.mk a ++ ByteArray.mk b = ByteArray.mk (a ++ b) := by
  apply ByteArray.ext
  simp
@[simp] theorem size_str (l : List UInt8) : (ByteArray.mk l.toArray).size = l.length := rfl
@[simp] theorem sub_str (l : List UInt8) (a b : Nat) : (ByteArray.mk l.toArray).extract a b = ByteArray.mk ((l.take b).drop a).toArray := by
  apply ByteArray.ext
  simp [List.drop_take]
@[simp] theorem str_beq (a b : List UInt8) : ((ByteArray.mk a.toArray) == (ByteArray.mk b.toArray)) = (a == b) := by
  show (a.toArray == b.toArray) = (a == b)
  simp
@[simp] theorem str_bne (a b : List UInt8) : ((ByteArray.mk a.toArray) != (ByteArray.mk b.toArray)) = (a != b) := by
  simp [bne]
@[simp] theorem str_nil (b : List UInt8) : ((ByteArray.mk b.toArray) == (ByteArray.mk #[])) = (b == []) := str_beq b []
@[simp] theorem str_nil' (b : List UInt8) : ((ByteArray.mk b.toArray) != (ByteArray.mk #[])) = (b != []) := str_bne b []
def u8c (b : UInt8) : List C := [.v (.int .u8 b.toNat)]
@[simp] theorem len_u8c (b : UInt8) : (u8c b).length = 1 := rfl
theorem bytesOf_map (l : List UInt8) : bytesOf (l.map u8c) = some l := by
  induction l with
  | nil => rfl
  | cons b l ih =>
    have hb : (b.toNat : Int) < 256 := by have := b.toNat_lt; omega
    simp [bytesOf, ih, u8c, byteOf, hb]
@[simp] theorem bytesOf_map' (l : List UInt8) : bytesOf (l.map u8c) = some l := bytesOf_map l
@[simp] theorem bytesOf_one (b : UInt8) : bytesOf [[.v (.int .u8 b.toNat)]] = some [b] := bytesOf_map [b]
@[simp] theorem bytesOf_nil : bytesOf [] = some [] := rfl

/-- the place of the first, or -1 -/
def idxI {α : Type} (p : α → Bool) (l : List α) : Int :=
  match l.findIdx? p with
  | some i => i
  | none => -1
theorem idxI_at {α : Type} {p : α → Bool} {l : List α} {k : Nat} (hk : k < l.length) (hp : p l[k] = true) (hb : ∀ j, (hj : j < k) → p (l[j]'(by omega)) = false) : idxI p l = k := by
  unfold idxI
  have : l.findIdx? p = some k := by
    rw [List.findIdx?_eq_some_iff_getElem]
    exact ⟨hk, hp, fun j hj => by simp [hb j hj]⟩
  rw [this]
theorem idxI_none {α : Type} {p : α → Bool} {l : List α} (h : ∀ j, (hj : j < l.length) → p l[j] = false) : idxI p l = -1 := by
  unfold idxI
  have : l.findIdx? p = none := by
    rw [List.findIdx?_eq_none_iff]
    intro x hx
    obtain ⟨j, hj, rfl⟩ := List.mem_iff_getElem.1 hx
    simp [h j hj]
  rw [this]
end Go.VL
