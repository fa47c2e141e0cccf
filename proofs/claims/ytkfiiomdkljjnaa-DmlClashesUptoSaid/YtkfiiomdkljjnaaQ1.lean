/- Contracts of functions of the seat, proved in a logic on data over the model (part Q1). -/
import Derived.Test.YtkfiiomdkljjnaaAD
set_option linter.unusedSimpArgs false
set_option linter.unusedVariables false
namespace Go.Proofs.Ytkfiiomdkljjnaa
open Go.VL Go.RowKit

/-- a period's two ends -/
structure Per where
  f : Int
  t : Int
deriving DecidableEq
instance : Inhabited Per := ⟨⟨0, 0⟩⟩
def Per.cells (p : Per) : List C := [i64 p.f, i64 p.t]
@[simp] theorem Per.len (p : Per) : p.cells.length = 2 := rfl
def right (p : Per) : Bool := decide (0 ≤ p.f) && decide (p.f < p.t) && decide (p.t ≤ 1099511627776)
def has (p : Per) (t : Int) : Bool := decide (p.f ≤ t) && decide (t < p.t)
def checkOf (p : Per) : Int := if right p then 0 else 40
theorem right_iff (p : Per) : right p = true ↔ 0 ≤ p.f ∧ p.f < p.t ∧ p.t ≤ 1099511627776 := by
  unfold right; simp [and_assoc]
theorem has_iff (p : Per) (t : Int) : has p t = true ↔ p.f ≤ t ∧ t < p.t := by
  unfold has; simp
@[simp] theorem checkOf_ok (p : Per) : checkOf p = 0 ↔ right p = true := by unfold checkOf; split <;> simp_all

set_option maxRecDepth 4000 in
set_option maxHeartbeats 4000000 in
theorem check_spec (p : Per) : Con Try.prog 37 [.agg p.cells] [.c (i64 (checkOf p))] := by
  refine spec_of Try.func37 rfl (by kernel_rfl) (by simp [Try.f37]) (fun w0 K0 => vc_ok _ _ _ (by kernel_rfl) ?_)
  simp only [Try.f37]
  simp -dsimp [Per.cells]
  refine VIf.mk (fun h => ?_) (fun h => ?_)
  · simp -dsimp
    have : right p = false := by
      rw [Bool.eq_false_iff, ne_eq, right_iff]; simp at h; omega
    simp [checkOf, this]
  · simp -dsimp
    have : right p = true := by
      rw [right_iff]; simp at h; omega
    simp [checkOf, this]

set_option maxRecDepth 4000 in
set_option maxHeartbeats 4000000 in
theorem has_spec (p : Per) (t : Int) : Con Try.prog 52 [.agg p.cells, .c (i64 t)] [.c (bln (has p t))] := by
  refine spec_of Try.func52 rfl (by kernel_rfl) (by simp [Try.f52]) (fun w0 K0 => vc_ok _ _ _ (by kernel_rfl) ?_)
  simp only [Try.f52]
  simp -dsimp [Per.cells]
  rfl

set_option maxRecDepth 4000 in
set_option maxHeartbeats 4000000 in
theorem refRight_spec (p : Per) : Con Try.prog 25 [.agg p.cells] [.c (bln (right p))] := by
  refine spec_of Try.func25 rfl (by kernel_rfl) (by simp [Try.f25]) (fun w0 K0 => vc_ok _ _ _ (by kernel_rfl) ?_)
  simp only [Try.f25]
  simp -dsimp [Per.cells]
  rfl

set_option maxRecDepth 4000 in
set_option maxHeartbeats 4000000 in
theorem refHas_spec (p : Per) (t : Int) : Con Try.prog 26 [.agg p.cells, .c (i64 t)] [.c (bln (has p t))] := by
  refine spec_of Try.func26 rfl (by kernel_rfl) (by simp [Try.f26]) (fun w0 K0 => vc_ok _ _ _ (by kernel_rfl) ?_)
  simp only [Try.f26]
  simp -dsimp [Per.cells]
  rfl

set_option maxRecDepth 4000 in
set_option maxHeartbeats 4000000 in
theorem isNaN_spec (x : Int) : Con Try.prog 103 [.c (i64 x)] [.c (bln false)] := by
  refine spec_of Try.func103 rfl (by kernel_rfl) (by simp [Try.f103]) (fun w0 K0 => vc_ok _ _ _ (by kernel_rfl) ?_)
  simp only [Try.f103]
  simp -dsimp

def cmpI (x y : Int) : Int := if x < y then -1 else if y < x then 1 else 0
set_option maxRecDepth 4000 in
set_option maxHeartbeats 4000000 in
theorem compare_spec (x y : Int) : Con Try.prog 81 [.c (i64 x), .c (i64 y)] [.c (i64 (cmpI x y))] := by
  refine spec_of Try.func81 rfl (by kernel_rfl) (by simp [Try.f81]) (fun w0 K0 => vc_ok _ _ _ (by kernel_rfl) ?_)
  simp only [Try.f81]
  simp -dsimp
  refine VC.mk _ (isNaN_spec x) ?_
  simp -dsimp
  refine VC.mk _ (isNaN_spec y) ?_
  simp -dsimp
  refine VIf.mk (fun h => ?_) (fun h => ?_)
  · simp -dsimp
    simp at h
    simp [cmpI, h]
  · simp -dsimp
    simp at h
    refine VIf.mk (fun h2 => ?_) (fun h2 => ?_)
    · simp -dsimp
      simp at h2
      simp [cmpI, h2]; omega
    · simp -dsimp
      simp at h2
      simp [cmpI]; omega

set_option maxRecDepth 4000 in
set_option maxHeartbeats 4000000 in
theorem bad_spec (p : Per) : Con Try.prog 84 [.agg p.cells] [.c (bln (!right p))] := by
  refine spec_of Try.func84 rfl (by kernel_rfl) (by simp [Try.f84]) (fun w0 K0 => vc_ok _ _ _ (by kernel_rfl) ?_)
  simp only [Try.f84]
  simp -dsimp [Per.cells]
  refine VC.mk _ (check_spec p) ?_
  simp -dsimp
  simp only [checkOf]
  cases right p <;> simp

set_option maxRecDepth 4000 in
set_option maxHeartbeats 4000000 in
theorem byFrom_spec (p q : Per) : Con Try.prog 86 [.agg p.cells, .agg q.cells] [.c (i64 (cmpI p.f q.f))] := by
  refine spec_of Try.func86 rfl (by kernel_rfl) (by simp [Try.f86]) (fun w0 K0 => vc_ok _ _ _ (by kernel_rfl) ?_)
  simp only [Try.f86]
  simp -dsimp [Per.cells]
  refine VC.mk _ (compare_spec p.f q.f) ?_
  simp -dsimp

theorem take_snoc {α : Type} {l : List α} {k : Nat} (h : k < l.length) : l.take (k + 1) = l.take k ++ [l[k]] := by
  rw [List.take_add_one, List.getElem?_eq_getElem h]; rfl
theorem any_snoc {α : Type} (p : α → Bool) {l : List α} {k : Nat} (h : k < l.length) : (l.take (k + 1)).any p = ((l.take k).any p || p l[k]) := by
  rw [take_snoc h, List.any_append]; simp

/-- is an instant within one of them? -/
def someP (l : List Per) (t : Int) : Bool := l.any fun p => right p && has p t

end Go.Proofs.Ytkfiiomdkljjnaa
