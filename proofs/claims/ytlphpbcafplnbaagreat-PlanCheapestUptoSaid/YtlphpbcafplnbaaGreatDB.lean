/- Contracts: which facts a change is about; deleting (no conditions). -/
import Derived.Test.YtlphpbcafplnbaaGreatDA
import Derived.Test.YtlphpbcafplnbaaGreatQA
import Derived.Test.YtlphpbcafplnbaaGreatVE
set_option linter.unusedSimpArgs false
set_option linter.unusedVariables false
namespace Go.Proofs.YtlphpbcafplnbaaGreat
open Go.VL Go.RowKit

structure Part where
  at_ : Nat
  p : Per
  rests : List Fact
def Part.cells (x : Part) : List C := [i64 x.at_, i64 x.p.f, i64 x.p.t, .sl x.rests.isEmpty (facts x.rests)]
@[simp] theorem Part.len (x : Part) : x.cells.length = 4 := rfl
/-- what of a fact lies outside -/
def restsOf (sortP : List Per → List Per) (f : Fact) (p : Per) : List Fact := (minusL sortP f.p [p]).map fun q => ⟨false, f.row, q⟩
def partOf (sortP : List Per → List Per) (i : Nat) (f : Fact) (p : Per) : Part := ⟨i, lap f.p p, restsOf sortP f p⟩
def partsK (sortP : List Per → List Per) (l : List Fact) (p : Per) : Nat → List Part
  | 0 => []
  | k + 1 => partsK sortP l p k ++ (match l[k]? with | some f => if lapOk f.p p then [partOf sortP k f p] else [] | none => [])
theorem partsK_yes {sortP : List Per → List Per} {l : List Fact} {p : Per} {k : Nat} (h : k < l.length) (hg : lapOk l[k].p p = true) : partsK sortP l p (k + 1) = partsK sortP l p k ++ [partOf sortP k l[k] p] := by
  rw [partsK, List.getElem?_eq_getElem h]; simp [hg]
theorem partsK_no {sortP : List Per → List Per} {l : List Fact} {p : Per} {k : Nat} (h : k < l.length) (hg : lapOk l[k].p p = false) : partsK sortP l p (k + 1) = partsK sortP l p k := by
  rw [partsK, List.getElem?_eq_getElem h]; simp [hg]
theorem partsK_len (sortP : List Per → List Per) (l : List Fact) (p : Per) : ∀ k, (partsK sortP l p k).length ≤ k
  | 0 => by simp [partsK]
  | k + 1 => by
    have := partsK_len sortP l p k
    rw [partsK, List.length_append]
    split
    · split <;> simp <;> omega
    · simp; omega
def partCs (l : List Part) : List (List C) := l.map Part.cells
@[simp] theorem partCs_len (l : List Part) : (partCs l).length = l.length := by simp [partCs]
@[simp] theorem partCs_get (l : List Part) (k : Nat) (h : k < (partCs l).length) : (partCs l)[k] = (l[k]'(by simpa using h)).cells := by simp [partCs]
theorem partCs_snoc (l : List Part) (x : Part) : partCs (l ++ [x]) = partCs l ++ [x.cells] := by simp [partCs]
def PI (i : KI) (row : List Part) : Prop := i.nl = row.isEmpty ∧ i.sz = if i.nl then 0 else 4
theorem PI.next {k : Nat} {row : List Part} {f : Part} : PI ⟨k, false, 4⟩ (row ++ [f]) := ⟨by cases row <;> rfl, rfl⟩

def delE (sortP : List Per → List Per) (l : List Fact) (p : Per) : List Int := (partsK sortP l p l.length).map fun x => (x.at_ : Int)
def delA (sortP : List Per → List Per) (l : List Fact) (p : Per) : List Fact := (partsK sortP l p l.length).flatMap Part.rests
structure DI where
  k : Nat
  n1 : Bool
  s1 : Nat
  n2 : Bool
  s2 : Nat
def flatR (l : List Part) (k : Nat) : List Fact := (l.take k).flatMap Part.rests
theorem flat_snoc {l : List Part} {k : Nat} (h : k < l.length) : flatR l (k + 1) = flatR l k ++ l[k].rests := by
  unfold flatR; rw [take_snoc h, List.flatMap_append]; simp
theorem partsK_rests {sortP : List Per → List Per} (hs : Sorts sortP) (l : List Fact) (p : Per) : ∀ k, ∀ x ∈ partsK sortP l p k, x.rests.length ≤ 2
  | 0, x, h => by simp [partsK] at h
  | k + 1, x, h => by
    rw [partsK, List.mem_append] at h
    rcases h with h | h
    · exact partsK_rests hs l p k x h
    · split at h
      · split at h
        · simp at h
          subst h
          have := minusL_len hs (by assumption : Fact).p [p]
          simp [partOf, restsOf] at this ⊢
          omega
        · simp at h
      · simp at h
theorem flat_len (l : List Part) (h : ∀ x ∈ l, x.rests.length ≤ 2) : (l.flatMap Part.rests).length ≤ 2 * l.length := by
  induction l with
  | nil => simp
  | cons x l ih =>
    have h1 := h x (by simp)
    have h2 := ih (fun y hy => h y (by simp [hy]))
    simp at h2 ⊢
    omega

end Go.Proofs.YtlphpbcafplnbaaGreat
/- Contract: awake. -/
set_option linter.unusedSimpArgs false
set_option linter.unusedVariables false
namespace Go.Proofs.YtlphpbcafplnbaaGreat
open Go.VL Go.RowKit

def row2 (n : Int) : List Val := [⟨1, n, []⟩, ⟨2, 0, []⟩]
def fact2 (n f t : Int) : Fact := ⟨false, row2 n, ⟨f, t⟩⟩
def table2 : Tab := ⟨1, [84], false, [⟨[65], 1⟩, ⟨[66], 2⟩], true, [], false⟩

theorem minus_03 {sortP : List Per → List Per} (hs : Sorts sortP) : minusL sortP ⟨0, 9⟩ [⟨3, 5⟩] = [⟨0, 3⟩, ⟨5, 9⟩] := by
  have e : unionL sortP [⟨3, 5⟩] = [⟨3, 5⟩] := by
    unfold unionL
    have : sortP [⟨3, 5⟩] = [⟨3, 5⟩] := List.perm_singleton.1 (hs.perm [⟨3, 5⟩])
    rw [show [(⟨3, 5⟩ : Per)].filter right = [⟨3, 5⟩] from by decide, this]
    decide
  unfold minusL
  rw [e]
  decide
theorem del_awake {sortP : List Per → List Per} (hs : Sorts sortP) : delE sortP [fact2 1 0 9] ⟨3, 5⟩ = [0] ∧ delA sortP [fact2 1 0 9] ⟨3, 5⟩ = [fact2 1 0 3, fact2 1 5 9] := by
  have e : partsK sortP [fact2 1 0 9] ⟨3, 5⟩ 1 = [partOf sortP 0 (fact2 1 0 9) ⟨3, 5⟩] := partsK_yes (k := 0) (by decide) (by decide)
  unfold delE delA
  rw [show [fact2 1 0 9].length = 1 from rfl, e]
  refine ⟨rfl, ?_⟩
  simp only [List.flatMap_cons, List.flatMap_nil, List.append_nil, partOf, restsOf]
  rw [show (fact2 1 0 9).p = ⟨0, 9⟩ from rfl, minus_03 hs]
  rfl
theorem clash_awake : clashR [fact2 1 0 5, fact2 1 4 9] [0] = some (0, 1) := by decide
theorem fits_awake : fitsOf table2 (fact2 1 0 5) = 0 := by
  unfold fitsOf
  rw [if_neg (by decide), if_pos, if_neg (by decide)]
  · decide
  · intro j h h' _
    have : j = 0 ∨ j = 1 := by have : j < 2 := h; omega
    rcases this with rfl | rfl <;> rfl

end Go.Proofs.YtlphpbcafplnbaaGreat
