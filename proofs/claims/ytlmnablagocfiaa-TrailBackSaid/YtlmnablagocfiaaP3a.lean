/- Contracts of functions of the seat, proved in a logic on data over the model (part P3a). -/
import Derived.Test.YtlmnablagocfiaaP2
namespace Go.Proofs.Ytlmnablagocfiaa
open Go.VL Go.RowKit

/-- an entry -/
structure Ent where
  kind : Int
  txn : Int
  page : Int
  slot : Int
  stamp : Int
  nil : Bool
  data : List UInt8
/-- an entry of the program -/
def Ent.cells (e : Ent) : List C := [i64 e.kind, i64 e.txn, i64 e.page, i64 e.slot, i64 e.stamp, .sl e.nil (e.data.map u8c)]
/-- an entry of the document -/
def Ent.rcells (e : Ent) : List C := [i64 e.kind, i64 e.txn, i64 e.page, i64 e.slot, i64 e.stamp, str e.data]

/-- what Check answers -/
def ck (e : Ent) : Int :=
  if e.kind < 1 ∨ 3 < e.kind then 21
  else if e.txn < 1 ∨ ¬ (0 ≤ e.page ∧ e.page ≤ 65535 ∧ 0 ≤ e.slot ∧ e.slot ≤ 255) ∨ e.stamp < 0 ∨ 1099511627776 < e.stamp then 1
  else if e.kind = 3 ∧ (e.page ≠ 0 ∨ e.slot ≠ 0) then 1
  else if e.kind ≠ 3 ∧ e.stamp ≠ 0 then 1
  else if e.kind ≠ 1 ∧ 0 < e.data.length then 1
  else if 200 < e.data.length then 2
  else 0

@[simp] theorem str_beq (a b : List UInt8) : ((ByteArray.mk a.toArray) == (ByteArray.mk b.toArray)) = (a == b) := by
  show (a.toArray == b.toArray) = (a == b)
  simp
@[simp] theorem str_bne (a b : List UInt8) : ((ByteArray.mk a.toArray) != (ByteArray.mk b.toArray)) = (a != b) := by
  simp [bne]
@[simp] theorem str_nil (b : List UInt8) : ((ByteArray.mk b.toArray) == (ByteArray.mk #[])) = (b == []) := str_beq b []
@[simp] theorem str_nil' (b : List UInt8) : ((ByteArray.mk b.toArray) != (ByteArray.mk #[])) = (b != []) := str_bne b []

end Go.Proofs.Ytlmnablagocfiaa
