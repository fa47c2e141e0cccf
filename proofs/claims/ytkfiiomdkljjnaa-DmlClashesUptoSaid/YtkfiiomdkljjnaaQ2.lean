/- Contracts of functions of the seat, proved in a logic on data over the model (part Q2). -/
import Derived.Test.YtkfiiomdkljjnaaQ1
set_option linter.unusedSimpArgs false
set_option linter.unusedVariables false
namespace Go.Proofs.Ytkfiiomdkljjnaa
open Go.VL Go.RowKit

theorem check_at (cs : List C) (p : Per) (h : cs = p.cells) : Con Try.prog 37 [.agg cs] [.c (i64 (checkOf p))] := by rw [h]; exact check_spec p
theorem has_at (cs : List C) (p : Per) (t : Int) (h : cs = p.cells) : Con Try.prog 52 [.agg cs, .c (i64 t)] [.c (bln (has p t))] := by rw [h]; exact has_spec p t
theorem refRight_at (cs : List C) (p : Per) (h : cs = p.cells) : Con Try.prog 25 [.agg cs] [.c (bln (right p))] := by rw [h]; exact refRight_spec p

def lapP (a b : Per) : Per := ⟨max a.f b.f, min a.t b.t⟩
def lapOk (a b : Per) : Bool := right a && right b && right (lapP a b)
def lap (a b : Per) : Per := if lapOk a b then lapP a b else ⟨0, 0⟩

set_option maxRecDepth 4000 in
set_option maxHeartbeats 4000000 in
theorem overlap_spec (a b : Per) : Con Try.prog 33 [.agg a.cells, .agg b.cells] [.ag (lap a b).cells, .c (bln (lapOk a b))] := by
  refine spec_of Try.func33 rfl (by kernel_rfl) (by simp [Try.f33]) (fun w0 K0 => vc_ok _ _ _ (by kernel_rfl) ?_)
  simp only [Try.f33]
  simp -dsimp [Per.cells]
  refine VC.mk _ (check_at _ a rfl) ?_
  simp -dsimp
  refine VG.mk [.c (i64 (checkOf b))] _ (fun _ => check_at _ b rfl) rfl ?_
  simp -dsimp
  refine VG.mk [.c (i64 (checkOf (lapP a b)))] _ (fun _ => check_at _ (lapP a b) rfl) rfl ?_
  simp -dsimp
  refine VIf.mk (fun h => ?_) (fun h => ?_)
  · simp -dsimp
    have ho : lapOk a b = false := by
      unfold lapOk
      simp at h
      cases ha : right a <;> cases hb : right b <;> simp_all
    simp [lap, ho, Per.cells]
  · simp -dsimp
    have ho : lapOk a b = true := by
      unfold lapOk
      simp at h
      simp [h]
    simp [lap, ho, Per.cells, lapP]

/-- how two periods stand to each other: the number, the error -/
def relOf (a b : Per) : Int × Int :=
  if right a && right b then
    (if a.t < b.f then 1 else if a.t = b.f then 2 else if b.t < a.f then 13 else if b.t = a.f then 12 else
      if a.f < b.f then (if a.t < b.t then 3 else if a.t = b.t then 8 else 9)
      else if a.f = b.f then (if a.t < b.t then 4 else if a.t = b.t then 7 else 10)
      else (if a.t < b.t then 5 else if a.t = b.t then 6 else 11), 0)
  else (0, 40)

def relT (x y : Int) : Int :=
  if x = -1 then (if y = -1 then 3 else if y = 0 then 8 else 9)
  else if x = 0 then (if y = -1 then 4 else if y = 0 then 7 else 10)
  else (if y = -1 then 5 else if y = 0 then 6 else 11)
@[simp] theorem wr0 : IntKind.i64.wrap 0 = 0 := by decide
@[simp] theorem wr1 : IntKind.i64.wrap 1 = 1 := by decide
@[simp] theorem wr2 : IntKind.i64.wrap 2 = 2 := by decide
theorem tri (x y : Int) : (cmpI x y = -1 ∧ x < y) ∨ (cmpI x y = 0 ∧ x = y) ∨ (cmpI x y = 1 ∧ y < x) := by
  unfold cmpI; split
  · exact .inl ⟨rfl, by assumption⟩
  · split
    · exact .inr (.inr ⟨rfl, by assumption⟩)
    · exact .inr (.inl ⟨rfl, by omega⟩)
theorem cmpI_3 (x y : Int) : cmpI x y = -1 ∨ cmpI x y = 0 ∨ cmpI x y = 1 := by
  unfold cmpI; split
  · exact .inl rfl
  · split
    · exact .inr (.inr rfl)
    · exact .inr (.inl rfl)
/-- the rising, as few as can be -/
def canonK (l : List Per) (k : Nat) : Bool := (List.range k).all fun i => right (l[i]!) && (i == 0 || decide ((l[i - 1]!).t < (l[i]!).f))

theorem canonK_succ (l : List Per) {k : Nat} (h : k < l.length) : canonK l (k + 1) = (canonK l k && (right l[k] && (k == 0 || decide ((l[k - 1]'(by omega)).t < l[k].f)))) := by
  unfold canonK
  rw [List.range_succ, List.all_append]
  simp [List.getElem?_eq_getElem h, List.getElem?_eq_getElem (show k - 1 < l.length by omega)]

end Go.Proofs.Ytkfiiomdkljjnaa
