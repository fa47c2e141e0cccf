/- Contracts of functions of the seat, proved in a logic on data over the model (part Q2). -/
import Derived.Test.YtdpjdmgdngjjnaaQ1
set_option linter.unusedSimpArgs false
set_option linter.unusedVariables false
namespace Go.Proofs.Ytdpjdmgdngjjnaa
open Go.VL Go.RowKit

theorem check_at (cs : List C) (p : Per) (h : cs = p.cells) : Con Try.prog 15 [.agg cs] [.c (i64 (checkOf p))] := by rw [h]; exact check_spec p
theorem has_at (cs : List C) (p : Per) (t : Int) (h : cs = p.cells) : Con Try.prog 16 [.agg cs, .c (i64 t)] [.c (bln (has p t))] := by rw [h]; exact has_spec p t
theorem refRight_at (cs : List C) (p : Per) (h : cs = p.cells) : Con Try.prog 21 [.agg cs] [.c (bln (right p))] := by rw [h]; exact refRight_spec p

def lapP (a b : Per) : Per := ⟨max a.f b.f, min a.t b.t⟩
def lapOk (a b : Per) : Bool := right a && right b && right (lapP a b)
def lap (a b : Per) : Per := if lapOk a b then lapP a b else ⟨0, 0⟩

set_option maxRecDepth 4000 in
set_option maxHeartbeats 4000000 in
theorem overlap_spec (a b : Per) : Con Try.prog 18 [.agg a.cells, .agg b.cells] [.ag (lap a b).cells, .c (bln (lapOk a b))] := by
  refine spec_of Try.func18 rfl (by kernel_rfl) (by simp [Try.f18]) (fun w0 K0 => vc_ok _ _ _ (by kernel_rfl) ?_)
  simp only [Try.f18]
  simp -dsimp [Per.cells]
  refine VC.mk _ (check_at _ a rfl) ?_
  simp -dsimp
  refine VG.mk [.c (i64 (checkOf b))] _ (fun _ => check_at _ b rfl) rfl ?_
  simp -dsimp
  refine VG.mk [.c (i64 (checkOf (lapP a b)))] _ (fun _ => check_at _ (lapP a b) rfl) rfl ?_
  simp -dsimp
  refine VIf.mk (fun h => ?_) (fun h => ?_)
  · simp -dsimp
    have ho : lapOk a b = false := by
      unfold lapOk
      simp at h
      cases ha : right a <;> cases hb : right b <;> simp_all
    simp [lap, ho, Per.cells]
  · simp -dsimp
    have ho : lapOk a b = true := by
      unfold lapOk
      simp at h
      simp [h]
    simp [lap, ho, Per.cells, lapP]

/-- how two periods stand to each other: the number, the error -/
def relOf (a b : Per) : Int × Int :=
  if right a && right b then
    (if a.t < b.f then 1 else if a.t = b.f then 2 else if b.t < a.f then 13 else if b.t = a.f then 12 else
      if a.f < b.f then (if a.t < b.t then 3 else if a.t = b.t then 8 else 9)
      else if a.f = b.f then (if a.t < b.t then 4 else if a.t = b.t then 7 else 10)
      else (if a.t < b.t then 5 else if a.t = b.t then 6 else 11), 0)
  else (0, 40)

def relT (x y : Int) : Int :=
  if x = -1 then (if y = -1 then 3 else if y = 0 then 8 else 9)
  else if x = 0 then (if y = -1 then 4 else if y = 0 then 7 else 10)
  else (if y = -1 then 5 else if y = 0 then 6 else 11)
@[simp] theorem wr0 : IntKind.i64.wrap 0 = 0 := by decide
@[simp] theorem wr1 : IntKind.i64.wrap 1 = 1 := by decide
@[simp] theorem wr2 : IntKind.i64.wrap 2 = 2 := by decide
theorem tri (x y : Int) : (cmpI x y = -1 ∧ x < y) ∨ (cmpI x y = 0 ∧ x = y) ∨ (cmpI x y = 1 ∧ y < x) := by
  unfold cmpI; split
  · exact .inl ⟨rfl, by assumption⟩
  · split
    · exact .inr (.inr ⟨rfl, by assumption⟩)
    · exact .inr (.inl ⟨rfl, by omega⟩)
theorem cmpI_3 (x y : Int) : cmpI x y = -1 ∨ cmpI x y = 0 ∨ cmpI x y = 1 := by
  unfold cmpI; split
  · exact .inl rfl
  · split
    · exact .inr (.inr rfl)
    · exact .inr (.inl rfl)
set_option maxRecDepth 4000 in
set_option maxHeartbeats 8000000 in
theorem relate_spec (a b : Per) : Con Try.prog 19 [.agg a.cells, .agg b.cells] [.c (i64 (relOf a b).1), .c (i64 (relOf a b).2)] := by
  refine spec_of Try.func19 rfl (by kernel_rfl) (by simp [Try.f19]) (fun w0 K0 => vc_ok _ _ _ (by kernel_rfl) ?_)
  simp only [Try.f19]
  simp -dsimp [Per.cells]
  refine VC.mk _ (check_at _ a rfl) ?_
  simp -dsimp
  refine VG.mk [.c (i64 (checkOf b))] _ (fun _ => check_at _ b rfl) rfl ?_
  simp -dsimp
  refine VIf.mk (fun h => ?_) (fun h => ?_)
  · simp -dsimp
    have hr : (right a && right b) = false := by simp at h; rw [Bool.and_eq_false_iff]; exact h
    simp [relOf, hr]
  · have hr : (right a && right b) = true := by simp at h; simp [h]
    simp -dsimp
    refine VIf.mk (fun h1 => ?_) (fun h1 => ?_)
    · simp at h1
      simp -dsimp
      simp [relOf, hr, h1]
    simp at h1
    simp -dsimp
    refine VIf.mk (fun h2 => ?_) (fun h2 => ?_)
    · simp at h2
      simp -dsimp
      simp [relOf, hr, h2]
    simp at h2
    simp -dsimp
    refine VIf.mk (fun h3 => ?_) (fun h3 => ?_)
    · simp at h3
      simp -dsimp
      simp [relOf, hr, h2, h3]; omega
    simp at h3
    simp -dsimp
    refine VIf.mk (fun h4 => ?_) (fun h4 => ?_)
    · simp at h4
      simp -dsimp
      simp [relOf, hr, h2, h4]; omega
    simp at h4
    simp -dsimp
    refine VL.draw (by kernel_rfl) [(0, false), (1, false), (0, false), (4, false), (15, false), (31, false), (0, false), (64, false), (0, false), (256, false), (991, false), (2015, false), (63, false), (8191, true), (16383, true), (32767, true), (65535, true)] (by kernel_rfl) ?_
    have e1 : relOf a b = (relT (cmpI a.f b.f) (cmpI a.t b.t), 0) := by
      simp only [relOf, hr, if_true]
      rw [if_neg (by omega), if_neg h2, if_neg (by omega), if_neg h4]
      refine congrArg (·, (0 : Int)) ?_
      rcases tri a.f b.f with ⟨c5, h5⟩ | ⟨c5, h5⟩ | ⟨c5, h5⟩ <;> rcases tri a.t b.t with ⟨c6, h6⟩ | ⟨c6, h6⟩ | ⟨c6, h6⟩ <;> rw [c5, c6] <;> repeat' split
      all_goals first | omega | rfl
    rw [e1]
    have c1 := cmpI_3 a.f b.f
    have c2 := cmpI_3 a.t b.t
    have d1 := compare_spec a.f b.f
    have d2 := compare_spec a.t b.t
    generalize cmpI a.f b.f = x at *
    generalize cmpI a.t b.t = y at *
    rcases c1 with rfl | rfl | rfl <;> rcases c2 with rfl | rfl | rfl <;> (
      simp -dsimp
      refine VCE.mk _ d1 ?_
      simp -dsimp
      refine VCE.mk _ d2 ?_
      simp -dsimp [relT])

/-- the rising, as few as can be -/
def canonK (l : List Per) (k : Nat) : Bool := (List.range k).all fun i => right (l[i]!) && (i == 0 || decide ((l[i - 1]!).t < (l[i]!).f))

theorem canonK_succ (l : List Per) {k : Nat} (h : k < l.length) : canonK l (k + 1) = (canonK l k && (right l[k] && (k == 0 || decide ((l[k - 1]'(by omega)).t < l[k].f)))) := by
  unfold canonK
  rw [List.range_succ, List.all_append]
  simp [List.getElem?_eq_getElem h, List.getElem?_eq_getElem (show k - 1 < l.length by omega)]

set_option maxRecDepth 4000 in
set_option maxHeartbeats 4000000 in
theorem in_spec (nil : Bool) (l : List Per) (t : Int) (hl : l.length ≤ 140737488355328) : Con Try.prog 17 [.c (.sl nil (l.map Per.cells)), .c (i64 t)] [.c (bln (l.any fun p => has p t)), .c (bln (canonK l l.length))] := by
  refine spec_of Try.func17 rfl (by kernel_rfl) (by simp [Try.f17]) (fun w0 K0 => vc_ok _ _ _ (by kernel_rfl) ?_)
  simp only [Try.f17]
  simp -dsimp
  refine VL.loop (fun k : Nat => ⟨[(12, .c (i64 k)), (11, .c (i64 l.length)), (10, .c (.sl nil (l.map Per.cells))), (6, .c (bln ((l.take k).any fun p => has p t))), (7, .c (bln (canonK l k))), (0, .c (.sl nil (l.map Per.cells))), (1, .c (i64 t))], []⟩) (fun k => k ≤ l.length) (fun k => l.length - k) 0 (by kernel_rfl) (by simp) (by simp [St.le, canonK]) ?_
  intro k hk
  simp -dsimp
  refine VIf.mk (fun h => ?_) (fun h => ?_)
  · have hlt : k < l.length := by simpa using h
    have hw : IntKind.i64.wrap ((k : Int) + 1) = (k : Int) + 1 := IntWalk.i64_in _ (by omega)
    simp -dsimp [hlt, Per.cells]
    refine VG.mk [.c (bln (has l[k] t))] _ (fun _ => has_at _ l[k] t rfl) rfl ?_
    simp -dsimp
    refine VL.draw (by kernel_rfl) [(0, true), (1, true), (3, true), (7, true), (15, true), (31, true), (63, true), (127, true), (255, true), (511, true), (1023, false), (1023, false), (3071, false), (8191, false), (16383, false), (32767, false), (1023, false), (66559, false), (262143, true), (524287, true), (1048575, true), (2097151, true)] (by kernel_rfl) ?_
    simp -dsimp
    refine VG.mk [.c (i64 (checkOf l[k]))] _ (fun _ => check_at _ l[k] rfl) rfl ?_
    have hany := any_snoc (fun p => has p t) hlt
    have hcan := canonK_succ l hlt
    have hT : (IntKind.i64.wrap ((k : Int) - 1)).toNat = k - 1 := by rw [IntWalk.i64_in _ (by omega)]; omega
    have hP : ¬ k = 0 → 0 ≤ IntKind.i64.wrap ((k : Int) - 1) := fun h => by rw [IntWalk.i64_in _ (by omega)]; omega
    have hlt2 : k - 1 < l.length := by omega
    have hg : l[k - 1]? = some l[k - 1] := List.getElem?_eq_getElem hlt2
    simp -dsimp [hw, hT, hg, hlt2, Per.cells]
    refine ⟨fun _ _ h0 => hP h0, fun h1 h2 => ⟨⟨h1, h2⟩, fun h3 => ⟨⟨h1, h2⟩, h3⟩⟩, k + 1, by omega, ?_, by omega⟩
    have e0 : (((k : Int)) == 0) = (k == 0) := by rw [Bool.eq_iff_iff]; simp
    have e1 : (checkOf l[k] == 0) = right l[k] := by unfold checkOf; cases right l[k] <;> rfl
    simp only [hany, hcan, e0, e1]
    simp [St.le]
    rw [Bool.and_assoc]
  · simp at h
    obtain rfl : k = l.length := by omega
    simp -dsimp
end Go.Proofs.Ytdpjdmgdngjjnaa
