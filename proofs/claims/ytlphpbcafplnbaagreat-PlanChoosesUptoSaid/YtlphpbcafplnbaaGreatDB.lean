/- Contracts of functions of the seat, proved in a logic on data over the model (part DB). -/
import Derived.Test.YtlphpbcafplnbaaGreatDA
import Derived.Test.YtlphpbcafplnbaaGreatQA
import Derived.Test.YtlphpbcafplnbaaGreatVE
set_option linter.unusedSimpArgs false
set_option linter.unusedVariables false
namespace Go.Proofs.YtlphpbcafplnbaaGreat
open Go.VL Go.RowKit
structure Part where
  at_ : Nat
  p : Per
  rests : List Fact
def Part.cells (x : Part) : List C := [i64 x.at_, i64 x.p.f, i64 x.p.t, .sl x.rests.isEmpty (facts x.rests)]
@[simp] theorem Part.len (x : Part) : x.cells.length = 4 := rfl
def partCs (l : List Part) : List (List C) := l.map Part.cells
@[simp] theorem partCs_len (l : List Part) : (partCs l).length = l.length := by simp [partCs]
@[simp] theorem partCs_get (l : List Part) (k : Nat) (h : k < (partCs l).length) : (partCs l)[k] = (l[k]'(by simpa using h)).cells := by simp [partCs]
def PI (i : KI) (row : List Part) : Prop := i.nl = row.isEmpty ∧ i.sz = if i.nl then 0 else 4
theorem PI.next {k : Nat} {row : List Part} {f : Part} : PI ⟨k, false, 4⟩ (row ++ [f]) := ⟨by cases row <;> rfl, rfl⟩
structure DI where
  k : Nat
  n1 : Bool
  s1 : Nat
  n2 : Bool
  s2 : Nat
end Go.Proofs.YtlphpbcafplnbaaGreat
set_option linter.unusedSimpArgs false
set_option linter.unusedVariables false
namespace Go.Proofs.YtlphpbcafplnbaaGreat
open Go.VL Go.RowKit
end Go.Proofs.YtlphpbcafplnbaaGreat
