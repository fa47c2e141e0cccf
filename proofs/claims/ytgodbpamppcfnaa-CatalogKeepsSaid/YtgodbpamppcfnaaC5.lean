/- Contracts of functions of the seat, proved in a logic on data over the model (part C5). -/
import Derived.Test.YtgodbpamppcfnaaC4
import Derived.Test.YtgodbpamppcfnaaVC
set_option linter.unusedSimpArgs false
set_option linter.unusedVariables false
namespace Go.Proofs.Ytgodbpamppcfnaa
open Go.VL Go.RowKit

theorem kinds_at (nl nw : Bool) (xs ys : List (List C)) (l : List Val) (ws : List Int) (hx : xs = l.map Val.cells) (hy : ys = ws.map icell) (hl : l.length ≤ 140737488355328) (h0 : 0 < ws.length) (h1 : ws.length ≤ 4) :
    Con Try.prog 29 [.c (.sl nl xs), .c (.sl nw ys)] [.c (bln (kindsOk l ws))] := by rw [hx, hy]; exact kinds_spec nl nw l ws hl h0 h1

def noTab : Tab := ⟨0, [], true, [], true, [], false⟩
def colsOf (r : List Val) (n : Nat) : List Col := (List.range n).map fun i => ⟨r[2 * i]!.text, r[2 * i + 1]!.int⟩
@[simp] theorem colsOf_len (r : List Val) (n : Nat) : (colsOf r n).length = n := by simp [colsOf]
def keysOf (r : List Val) (n : Nat) : List (List UInt8) := (r.drop (2 * n)).map Val.text
def headOff (a b c d : Val) : Bool := !(kindsOk [a, b, c, d] [1, 2, 1, 1]) || decide (a.int < 1) || decide (16 < a.int) || decide (c.int < 0) || decide (1 < c.int) || decide (d.int < 0) || decide (8 < d.int)
def tabOf (a b c d : Val) (r : List Val) : Tab :=
  ⟨a.int, b.text, d.int == 0, colsOf r d.int.toNat, (r.drop (2 * d.int.toNat)).isEmpty, keysOf r d.int.toNat, c.int == 1⟩
def readOf : List Val → Tab × Int
  | a :: b :: c :: d :: r =>
    if headOff a b c d then (noTab, 31)
    else if r.length < 2 * d.int.toNat ∨ kindsOk (r.take (2 * d.int.toNat)) [2, 1] = false ∨ kindsOk (r.drop (2 * d.int.toNat)) [2] = false then (noTab, 31)
    else if chk (tabOf a b c d r) ≠ 0 then (noTab, 31) else (tabOf a b c d r, 0)
  | _ => (noTab, 31)

set_option maxRecDepth 4000 in
set_option maxHeartbeats 8000000 in
theorem read_short (nl : Bool) (row : List Val) (hl : row.length < 4) :
    Con Try.prog 10 [.c (.sl nl (row.map Val.cells))] [.ag noTab.cells, .c (i64 31)] := by
  refine spec_of Try.func10 rfl (by kernel_rfl) (by simp [Try.f10]) (fun w0 K0 => vc_ok _ _ _ (by kernel_rfl) ?_)
  simp only [Try.f10]
  match row, hl with
  | [], _ =>
    simp -dsimp
    refine VG.mk [.c (bln false)] _ (fun h => by simp at h) rfl ?_
    simp -dsimp [noTab, Tab.cells]
  | [a], _ =>
    simp -dsimp [Val.cells]
    refine VG.mk [.c (bln false)] _ (fun h => by simp at h) rfl ?_
    simp -dsimp [noTab, Tab.cells]
  | [a, b], _ =>
    simp -dsimp [Val.cells]
    refine VG.mk [.c (bln false)] _ (fun h => by simp at h) rfl ?_
    simp -dsimp [noTab, Tab.cells]
  | [a, b, c], _ =>
    simp -dsimp [Val.cells]
    refine VG.mk [.c (bln false)] _ (fun h => by simp at h) rfl ?_
    simp -dsimp [noTab, Tab.cells]

end Go.Proofs.Ytgodbpamppcfnaa
