/- Contracts of functions of the seat, proved in a logic on data over the model (part Q1). -/
import Derived.Test.YtdpjdmgdngjjnaaAP
set_option linter.unusedSimpArgs false
set_option linter.unusedVariables false
namespace Go.Proofs.Ytdpjdmgdngjjnaa
open Go.VL Go.RowKit

/-- a period's two ends -/
structure Per where
  f : Int
  t : Int
deriving DecidableEq
instance : Inhabited Per := ⟨⟨0, 0⟩⟩
def Per.cells (p : Per) : List C := [i64 p.f, i64 p.t]
@[simp] theorem Per.len (p : Per) : p.cells.length = 2 := rfl
def right (p : Per) : Bool := decide (0 ≤ p.f) && decide (p.f < p.t) && decide (p.t ≤ 1099511627776)
def has (p : Per) (t : Int) : Bool := decide (p.f ≤ t) && decide (t < p.t)
def checkOf (p : Per) : Int := if right p then 0 else 40
theorem right_iff (p : Per) : right p = true ↔ 0 ≤ p.f ∧ p.f < p.t ∧ p.t ≤ 1099511627776 := by
  unfold right; simp [and_assoc]
theorem has_iff (p : Per) (t : Int) : has p t = true ↔ p.f ≤ t ∧ t < p.t := by
  unfold has; simp
@[simp] theorem checkOf_ok (p : Per) : checkOf p = 0 ↔ right p = true := by unfold checkOf; split <;> simp_all

set_option maxRecDepth 4000 in
set_option maxHeartbeats 4000000 in
theorem check_spec (p : Per) : Con Try.prog 15 [.agg p.cells] [.c (i64 (checkOf p))] := by
  refine spec_of Try.func15 rfl (by kernel_rfl) (by simp [Try.f15]) (fun w0 K0 => vc_ok _ _ _ (by kernel_rfl) ?_)
  simp only [Try.f15]
  simp -dsimp [Per.cells]
  refine VIf.mk (fun h => ?_) (fun h => ?_)
  · simp -dsimp
    have : right p = false := by
      rw [Bool.eq_false_iff, ne_eq, right_iff]; simp at h; omega
    simp [checkOf, this]
  · simp -dsimp
    have : right p = true := by
      rw [right_iff]; simp at h; omega
    simp [checkOf, this]

set_option maxRecDepth 4000 in
set_option maxHeartbeats 4000000 in
theorem has_spec (p : Per) (t : Int) : Con Try.prog 16 [.agg p.cells, .c (i64 t)] [.c (bln (has p t))] := by
  refine spec_of Try.func16 rfl (by kernel_rfl) (by simp [Try.f16]) (fun w0 K0 => vc_ok _ _ _ (by kernel_rfl) ?_)
  simp only [Try.f16]
  simp -dsimp [Per.cells]
  rfl

set_option maxRecDepth 4000 in
set_option maxHeartbeats 4000000 in
theorem refRight_spec (p : Per) : Con Try.prog 21 [.agg p.cells] [.c (bln (right p))] := by
  refine spec_of Try.func21 rfl (by kernel_rfl) (by simp [Try.f21]) (fun w0 K0 => vc_ok _ _ _ (by kernel_rfl) ?_)
  simp only [Try.f21]
  simp -dsimp [Per.cells]
  rfl

set_option maxRecDepth 4000 in
set_option maxHeartbeats 4000000 in
theorem refHas_spec (p : Per) (t : Int) : Con Try.prog 22 [.agg p.cells, .c (i64 t)] [.c (bln (has p t))] := by
  refine spec_of Try.func22 rfl (by kernel_rfl) (by simp [Try.f22]) (fun w0 K0 => vc_ok _ _ _ (by kernel_rfl) ?_)
  simp only [Try.f22]
  simp -dsimp [Per.cells]
  rfl

set_option maxRecDepth 4000 in
set_option maxHeartbeats 4000000 in
theorem isNaN_spec (x : Int) : Con Try.prog 39 [.c (i64 x)] [.c (bln false)] := by
  refine spec_of Try.func39 rfl (by kernel_rfl) (by simp [Try.f39]) (fun w0 K0 => vc_ok _ _ _ (by kernel_rfl) ?_)
  simp only [Try.f39]
  simp -dsimp

def cmpI (x y : Int) : Int := if x < y then -1 else if y < x then 1 else 0
set_option maxRecDepth 4000 in
set_option maxHeartbeats 4000000 in
theorem compare_spec (x y : Int) : Con Try.prog 32 [.c (i64 x), .c (i64 y)] [.c (i64 (cmpI x y))] := by
  refine spec_of Try.func32 rfl (by kernel_rfl) (by simp [Try.f32]) (fun w0 K0 => vc_ok _ _ _ (by kernel_rfl) ?_)
  simp only [Try.f32]
  simp -dsimp
  refine VC.mk _ (isNaN_spec x) ?_
  simp -dsimp
  refine VC.mk _ (isNaN_spec y) ?_
  simp -dsimp
  refine VIf.mk (fun h => ?_) (fun h => ?_)
  · simp -dsimp
    simp at h
    simp [cmpI, h]
  · simp -dsimp
    simp at h
    refine VIf.mk (fun h2 => ?_) (fun h2 => ?_)
    · simp -dsimp
      simp at h2
      simp [cmpI, h2]; omega
    · simp -dsimp
      simp at h2
      simp [cmpI]; omega

set_option maxRecDepth 4000 in
set_option maxHeartbeats 4000000 in
theorem bad_spec (p : Per) : Con Try.prog 29 [.agg p.cells] [.c (bln (!right p))] := by
  refine spec_of Try.func29 rfl (by kernel_rfl) (by simp [Try.f29]) (fun w0 K0 => vc_ok _ _ _ (by kernel_rfl) ?_)
  simp only [Try.f29]
  simp -dsimp [Per.cells]
  refine VC.mk _ (check_spec p) ?_
  simp -dsimp
  simp only [checkOf]
  cases right p <;> simp

set_option maxRecDepth 4000 in
set_option maxHeartbeats 4000000 in
theorem byFrom_spec (p q : Per) : Con Try.prog 31 [.agg p.cells, .agg q.cells] [.c (i64 (cmpI p.f q.f))] := by
  refine spec_of Try.func31 rfl (by kernel_rfl) (by simp [Try.f31]) (fun w0 K0 => vc_ok _ _ _ (by kernel_rfl) ?_)
  simp only [Try.f31]
  simp -dsimp [Per.cells]
  refine VC.mk _ (compare_spec p.f q.f) ?_
  simp -dsimp

theorem take_snoc {α : Type} {l : List α} {k : Nat} (h : k < l.length) : l.take (k + 1) = l.take k ++ [l[k]] := by
  rw [List.take_add_one, List.getElem?_eq_getElem h]; rfl
theorem any_snoc {α : Type} (p : α → Bool) {l : List α} {k : Nat} (h : k < l.length) : (l.take (k + 1)).any p = ((l.take k).any p || p l[k]) := by
  rw [take_snoc h, List.any_append]; simp

/-- is an instant within one of them? -/
def someP (l : List Per) (t : Int) : Bool := l.any fun p => right p && has p t

set_option maxRecDepth 4000 in
set_option maxHeartbeats 4000000 in
theorem some_spec (nil : Bool) (l : List Per) (t : Int) (hl : l.length ≤ 140737488355328) : Con Try.prog 41 [.c (.sl nil (l.map Per.cells)), .c (i64 t)] [.c (bln (someP l t))] := by
  refine spec_of Try.func41 rfl (by kernel_rfl) (by simp [Try.f41]) (fun w0 K0 => vc_ok _ _ _ (by kernel_rfl) ?_)
  simp only [Try.f41]
  simp -dsimp
  refine VL.loop (fun k : Nat => ⟨[(5, .c (i64 k)), (0, .c (.sl nil (l.map Per.cells))), (1, .c (i64 t))], []⟩) (fun k => k ≤ l.length ∧ someP (l.take k) t = false) (fun k => l.length - k) 0 (by kernel_rfl) (by simp [someP]) (by simp [St.le]) ?_
  intro k ⟨hk, hbef⟩
  simp -dsimp
  refine VIf.mk (fun h => ?_) (fun h => ?_)
  · have hlt : k < l.length := by simpa using h
    have hw : IntKind.i64.wrap ((k : Int) + 1) = (k : Int) + 1 := IntWalk.i64_in _ (by omega)
    simp -dsimp [hlt, Per.cells]
    refine VC.mk _ (refRight_spec l[k]) ?_
    simp -dsimp
    have hg : (Option.map Per.cells l[k]?).getD [] = l[k].cells := by rw [List.getElem?_eq_getElem hlt]; rfl
    refine ⟨fun _ => ⟨hlt, by rw [hg]; rfl⟩, fun _ => by rw [hg]; exact Nat.le_refl 2, ?_⟩
    refine VG.mk [.c (bln (has l[k] t))] _ (fun _ => by rw [hg]; exact refHas_spec l[k] t) rfl ?_
    simp -dsimp
    refine VIf.mk (fun h2 => ?_) (fun h2 => ?_)
    · simp -dsimp
      unfold someP
      have : (l.any fun p => right p && has p t) = true := List.any_eq_true.2 ⟨l[k], List.getElem_mem hlt, h2⟩
      exact this
    · simp -dsimp [hw]
      refine ⟨k + 1, ⟨by omega, ?_⟩, ?_, by omega⟩
      · unfold someP at hbef ⊢
        rw [any_snoc _ hlt, hbef]; exact h2
      · simp [St.le]
  · simp at h
    obtain rfl : k = l.length := by omega
    simp -dsimp
    rw [← hbef, List.take_length]

end Go.Proofs.Ytdpjdmgdngjjnaa
