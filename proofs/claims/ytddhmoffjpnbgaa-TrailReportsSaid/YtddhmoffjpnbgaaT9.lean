/- Contracts of functions of the seat, proved in a logic on data over the model (part T9). -/
import Derived.Test.YtddhmoffjpnbgaaT8
set_option linter.unusedSimpArgs false
set_option linter.unusedVariables false
namespace Go.Proofs.Ytddhmoffjpnbgaa
open Go.VL Go.RowKit
/-- an entry of the document -/
def Ent.rcells (e : Ent) : List C := [i64 e.kind, i64 e.txn, i64 e.page, i64 e.slot, i64 e.stamp, str e.data]

/-- what Check answers -/
def ck (e : Ent) : Int :=
  if e.kind < 1 ∨ 3 < e.kind then 21
  else if e.txn < 1 ∨ ¬ (0 ≤ e.page ∧ e.page ≤ 65535 ∧ 0 ≤ e.slot ∧ e.slot ≤ 255) ∨ e.stamp < 0 ∨ 1099511627776 < e.stamp then 1
  else if e.kind = 3 ∧ (e.page ≠ 0 ∨ e.slot ≠ 0) then 1
  else if e.kind ≠ 3 ∧ e.stamp ≠ 0 then 1
  else if e.kind ≠ 1 ∧ 0 < e.data.length then 1
  else if 200 < e.data.length then 2
  else 0

@[simp] theorem str_beq (a b : List UInt8) : ((ByteArray.mk a.toArray) == (ByteArray.mk b.toArray)) = (a == b) := by
  show (a.toArray == b.toArray) = (a == b)
  simp
@[simp] theorem str_bne (a b : List UInt8) : ((ByteArray.mk a.toArray) != (ByteArray.mk b.toArray)) = (a != b) := by
  simp [bne]
@[simp] theorem str_nil (b : List UInt8) : ((ByteArray.mk b.toArray) == (ByteArray.mk #[])) = (b == []) := str_beq b []
@[simp] theorem str_nil' (b : List UInt8) : ((ByteArray.mk b.toArray) != (ByteArray.mk #[])) = (b != []) := str_bne b []

set_option maxRecDepth 4000 in
set_option maxHeartbeats 4000000 in
theorem check_spec (e : Ent) : Con Try.prog 30 [.agg e.cells] [.c (i64 (ck e))] := by
  refine spec_of Try.func30 rfl (by kernel_rfl) (by simp [Try.f30]) (fun w0 K0 => vc_ok _ _ _ (by kernel_rfl) ?_)
  simp only [Try.f30]
  simp -dsimp [Ent.cells]
  repeat' first
    | refine VIf.mk (fun h => ?_) (fun h => ?_)
    | refine And.intro (by grind) ?_
    | (simp -dsimp; done)
    | simp -dsimp
  all_goals (unfold ck; grind)

end Go.Proofs.Ytddhmoffjpnbgaa
