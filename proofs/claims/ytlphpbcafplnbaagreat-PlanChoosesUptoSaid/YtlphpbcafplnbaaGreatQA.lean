/- Contracts of functions of the seat, proved in a logic on data over the model (part QA). -/
import Derived.Test.YtlphpbcafplnbaaGreatAD
set_option linter.unusedSimpArgs false
set_option linter.unusedVariables false
namespace Go.Proofs.YtlphpbcafplnbaaGreat
open Go.VL Go.RowKit
structure Per where
  f : Int
  t : Int
deriving DecidableEq
instance : Inhabited Per := ⟨⟨0, 0⟩⟩
def Per.cells (p : Per) : List C := [i64 p.f, i64 p.t]
@[simp] theorem Per.len (p : Per) : p.cells.length = 2 := rfl
def right (p : Per) : Bool := decide (0 ≤ p.f) && decide (p.f < p.t) && decide (p.t ≤ 1099511627776)
def has (p : Per) (t : Int) : Bool := decide (p.f ≤ t) && decide (t < p.t)
def checkOf (p : Per) : Int := if right p then 0 else 40
theorem right_iff (p : Per) : right p = true ↔ 0 ≤ p.f ∧ p.f < p.t ∧ p.t ≤ 1099511627776 := by
  unfold right; simp [and_assoc]
theorem has_iff (p : Per) (t : Int) : has p t = true ↔ p.f ≤ t ∧ t < p.t := by
  unfold has; simp
@[simp] theorem checkOf_ok (p : Per) : checkOf p = 0 ↔ right p = true := by unfold checkOf; split <;> simp_all
set_option maxRecDepth 4000 in
set_option maxHeartbeats 4000000 in
theorem check_spec (p : Per) : Con Tryz.prog 108 [.agg p.cells] [.c (i64 (checkOf p))] := by
  refine spec_of Tryz.func108 rfl (by kernel_rfl) (by simp [Tryz.f108]) (fun w0 K0 => vc_ok _ _ _ (by kernel_rfl) ?_)
  simp only [Tryz.f108]
  simp -dsimp [Per.cells]
  refine VIf.mk (fun h => ?_) (fun h => ?_)
  · simp -dsimp
    have : right p = false := by
      rw [Bool.eq_false_iff, ne_eq, right_iff]; simp at h; omega
    simp [checkOf, this]
  · simp -dsimp
    have : right p = true := by
      rw [right_iff]; simp at h; omega
    simp [checkOf, this]
set_option maxRecDepth 4000 in
set_option maxHeartbeats 4000000 in
theorem has_spec (p : Per) (t : Int) : Con Tryz.prog 114 [.agg p.cells, .c (i64 t)] [.c (bln (has p t))] := by
  refine spec_of Tryz.func114 rfl (by kernel_rfl) (by simp [Tryz.f114]) (fun w0 K0 => vc_ok _ _ _ (by kernel_rfl) ?_)
  simp only [Tryz.f114]
  simp -dsimp [Per.cells]
  rfl
set_option maxRecDepth 4000 in
set_option maxHeartbeats 4000000 in
theorem isNaN_spec (x : Int) : Con Tryz.prog 93 [.c (i64 x)] [.c (bln false)] := by
  refine spec_of Tryz.func93 rfl (by kernel_rfl) (by simp [Tryz.f93]) (fun w0 K0 => vc_ok _ _ _ (by kernel_rfl) ?_)
  simp only [Tryz.f93]
  simp -dsimp
def cmpI (x y : Int) : Int := if x < y then -1 else if y < x then 1 else 0
set_option maxRecDepth 4000 in
set_option maxHeartbeats 4000000 in
theorem compare_spec (x y : Int) : Con Tryz.prog 58 [.c (i64 x), .c (i64 y)] [.c (i64 (cmpI x y))] := by
  refine spec_of Tryz.func58 rfl (by kernel_rfl) (by simp [Tryz.f58]) (fun w0 K0 => vc_ok _ _ _ (by kernel_rfl) ?_)
  simp only [Tryz.f58]
  simp -dsimp
  refine VC.mk _ (isNaN_spec x) ?_
  simp -dsimp
  refine VC.mk _ (isNaN_spec y) ?_
  simp -dsimp
  refine VIf.mk (fun h => ?_) (fun h => ?_)
  · simp -dsimp
    simp at h
    simp [cmpI, h]
  · simp -dsimp
    simp at h
    refine VIf.mk (fun h2 => ?_) (fun h2 => ?_)
    · simp -dsimp
      simp at h2
      simp [cmpI, h2]; omega
    · simp -dsimp
      simp at h2
      simp [cmpI]; omega
set_option maxRecDepth 4000 in
set_option maxHeartbeats 4000000 in
theorem bad_spec (p : Per) : Con Tryz.prog 130 [.agg p.cells] [.c (bln (!right p))] := by
  refine spec_of Tryz.func130 rfl (by kernel_rfl) (by simp [Tryz.f130]) (fun w0 K0 => vc_ok _ _ _ (by kernel_rfl) ?_)
  simp only [Tryz.f130]
  simp -dsimp [Per.cells]
  refine VC.mk _ (check_spec p) ?_
  simp -dsimp
  simp only [checkOf]
  cases right p <;> simp
theorem take_snoc {α : Type} {l : List α} {k : Nat} (h : k < l.length) : l.take (k + 1) = l.take k ++ [l[k]] := by
  rw [List.take_add_one, List.getElem?_eq_getElem h]; rfl
def someP (l : List Per) (t : Int) : Bool := l.any fun p => right p && has p t
end Go.Proofs.YtlphpbcafplnbaaGreat
set_option linter.unusedSimpArgs false
set_option linter.unusedVariables false
namespace Go.Proofs.YtlphpbcafplnbaaGreat
open Go.VL Go.RowKit
theorem check_at (cs : List C) (p : Per) (h : cs = p.cells) : Con Tryz.prog 108 [.agg cs] [.c (i64 (checkOf p))] := by rw [h]; exact check_spec p
theorem has_at (cs : List C) (p : Per) (t : Int) (h : cs = p.cells) : Con Tryz.prog 114 [.agg cs, .c (i64 t)] [.c (bln (has p t))] := by rw [h]; exact has_spec p t
def lapP (a b : Per) : Per := ⟨max a.f b.f, min a.t b.t⟩
def lapOk (a b : Per) : Bool := right a && right b && right (lapP a b)
def lap (a b : Per) : Per := if lapOk a b then lapP a b else ⟨0, 0⟩
set_option maxRecDepth 4000 in
set_option maxHeartbeats 4000000 in
theorem overlap_spec (a b : Per) : Con Tryz.prog 217 [.agg a.cells, .agg b.cells] [.ag (lap a b).cells, .c (bln (lapOk a b))] := by
  refine spec_of Tryz.func217 rfl (by kernel_rfl) (by simp [Tryz.f217]) (fun w0 K0 => vc_ok _ _ _ (by kernel_rfl) ?_)
  simp only [Tryz.f217]
  simp -dsimp [Per.cells]
  refine VC.mk _ (check_at _ a rfl) ?_
  simp -dsimp
  refine VG.mk [.c (i64 (checkOf b))] _ (fun _ => check_at _ b rfl) rfl ?_
  simp -dsimp
  refine VG.mk [.c (i64 (checkOf (lapP a b)))] _ (fun _ => check_at _ (lapP a b) rfl) rfl ?_
  simp -dsimp
  refine VIf.mk (fun h => ?_) (fun h => ?_)
  · simp -dsimp
    have ho : lapOk a b = false := by
      unfold lapOk
      simp at h
      cases ha : right a <;> cases hb : right b <;> simp_all
    simp [lap, ho, Per.cells]
  · simp -dsimp
    have ho : lapOk a b = true := by
      unfold lapOk
      simp at h
      simp [h]
    simp [lap, ho, Per.cells, lapP]
@[simp] theorem wr0 : IntKind.i64.wrap 0 = 0 := by decide
@[simp] theorem wr1 : IntKind.i64.wrap 1 = 1 := by decide
@[simp] theorem wr2 : IntKind.i64.wrap 2 = 2 := by decide
end Go.Proofs.YtlphpbcafplnbaaGreat
set_option linter.unusedSimpArgs false
set_option linter.unusedVariables false
namespace Go.Proofs.YtlphpbcafplnbaaGreat
open Go.VL Go.RowKit
set_option maxRecDepth 4000 in
set_option maxHeartbeats 4000000 in
theorem idx_spec (nil : Bool) (l : List Per) (hl : l.length ≤ 140737488355328) :
    Con Tryz.prog 148 [.c (.sl nil (l.map Per.cells)), .c (.fn 130 [])] [.c (i64 (match l.findIdx? (fun p => !right p) with | some k => (k : Int) | none => -1))] := by
  refine spec_of Tryz.func148 rfl (by kernel_rfl) (by simp [Tryz.f148]) (fun w0 K0 => vc_ok _ _ _ (by kernel_rfl) ?_)
  simp only [Tryz.f148]
  simp -dsimp
  refine VL.loop (fun k : Nat => ⟨[(8, .c (i64 k)), (7, .c (i64 l.length)), (0, .c (.sl nil (l.map Per.cells))), (1, .c (.fn 130 []))], []⟩) (fun k => k ≤ l.length ∧ ∀ j, (hj : j < k) → (hl : j < l.length) → right l[j] = true) (fun k => l.length - k) 0 (by kernel_rfl) (by simp) (by simp [St.le]) ?_
  intro k ⟨hk, hbef⟩
  simp -dsimp
  refine VIf.mk (fun h => ?_) (fun h => ?_)
  · have hlt : k < l.length := by simpa using h
    have hw : IntKind.i64.wrap ((k : Int) + 1) = (k : Int) + 1 := IntWalk.i64_in _ (by omega)
    simp -dsimp [hlt, Per.cells]
    refine VC.mk _ (bad_spec l[k]) ?_
    simp -dsimp
    refine VIf.mk (fun h2 => ?_) (fun h2 => ?_)
    · simp -dsimp
      have : l.findIdx? (fun p => !right p) = some k := by
        rw [List.findIdx?_eq_some_iff_getElem]
        exact ⟨hlt, h2, fun j hj => by rw [hbef j hj (by omega)]; simp⟩
      rw [this]
    · simp -dsimp [hw]
      refine ⟨k + 1, ⟨by omega, fun j hj hl => ?_⟩, ?_, by omega⟩
      · by_cases e : j = k
        · subst e; simpa using h2
        · exact hbef j (by omega) hl
      · simp [St.le]
  · simp at h
    simp -dsimp
    have : l.findIdx? (fun p => !right p) = none := by
      rw [List.findIdx?_eq_none_iff]
      intro p hp
      obtain ⟨j, hj, rfl⟩ := List.getElem_of_mem hp
      simp [hbef j (by omega) hj]
    rw [this]
end Go.Proofs.YtlphpbcafplnbaaGreat
set_option linter.unusedSimpArgs false
set_option linter.unusedVariables false
namespace Go.Proofs.YtlphpbcafplnbaaGreat
open Go.VL Go.RowKit
def idxBad (l : List Per) : Int := match l.findIdx? (fun p => !right p) with | some k => (k : Int) | none => -1
def rowB (i : Nat) (l : List Per) : List (Nat × Res) := [(i, .arr false 2 (l.map Per.cells) 0)]
set_option maxRecDepth 4000 in
set_option maxHeartbeats 4000000 in
theorem idxB_spec (l : List Per) (hl : l.length ≤ 140737488355328) :
    ConB Tryz.prog 148 [.own 1 l.length, .c (.fn 130 [])] (rowB 1 l) [.c (i64 (idxBad l))] [.own 1 l.length, .c (.fn 130 [])] (rowB 1 l) := by
  refine spec_ofB 2 Tryz.func148 rfl (by kernel_rfl) (by simp [Tryz.f148]) (by simp [rowB]) rfl (fun w0 K0 uf => vc_ok _ _ _ (by kernel_rfl) ?_)
  simp only [Tryz.f148]
  simp -dsimp [initB, initEnv, pinsOf, rowB]
  refine VL.loop (fun k : Nat => ⟨[(8, .c (i64 k)), (7, .c (i64 l.length)), (0, .own 1 l.length), (1, .c (.fn 130 []))], [(1, some (.arr false 2 (l.map Per.cells) 0)), (2, some (.pin (uf 0) (.own 1 l.length))), (3, some (.pin (uf 1) (.c (.fn 130 []))))]⟩) (fun k => k ≤ l.length ∧ ∀ j, (hj : j < k) → (hl : j < l.length) → right l[j] = true) (fun k => l.length - k) 0 (by kernel_rfl) (by simp) (by simp [St.le]) ?_
  intro k ⟨hk, hbef⟩
  simp -dsimp
  refine VIf.mk (fun h => ?_) (fun h => ?_)
  · have hlt : k < l.length := by simpa using h
    have hw : IntKind.i64.wrap ((k : Int) + 1) = (k : Int) + 1 := IntWalk.i64_in _ (by omega)
    simp -dsimp [hlt, Per.cells]
    refine VC.mk _ (bad_spec l[k]) ?_
    simp -dsimp
    refine VIf.mk (fun h2 => ?_) (fun h2 => ?_)
    · simp -dsimp
      have : l.findIdx? (fun p => !right p) = some k := by
        rw [List.findIdx?_eq_some_iff_getElem]
        exact ⟨hlt, h2, fun j hj => by rw [hbef j hj (by omega)]; simp⟩
      simp [resEnd, idxBad, this, rowB]
    · simp -dsimp [hw]
      refine ⟨k + 1, ⟨by omega, fun j hj hl => ?_⟩, ?_, by omega⟩
      · by_cases e : j = k
        · subst e; simpa using h2
        · exact hbef j (by omega) hl
      · simp [St.le]
  · simp at h
    simp -dsimp
    have : l.findIdx? (fun p => !right p) = none := by
      rw [List.findIdx?_eq_none_iff]
      intro p hp
      obtain ⟨j, hj, rfl⟩ := List.getElem_of_mem hp
      simp [hbef j (by omega) hj]
    simp [resEnd, idxBad, this, rowB]
structure DS where
  i : Nat
  j : Nat
  row : List Per
structure DS.Ok (l : List Per) (s : DS) : Prop where
  len : s.row.length = l.length
  le : s.i < s.j
  lj : s.j ≤ l.length
  pre : s.row.take s.i = (l.take s.j).filter right
  rest : ∀ k, s.j ≤ k → s.row[k]? = l[k]?
theorem DS.skip {l : List Per} {i j : Nat} {row : List Per} (h : DS.Ok l ⟨i, j, row⟩) (hj : j < l.length) (hb : right l[j] = false) : DS.Ok l ⟨i, j + 1, row⟩ := by
  obtain ⟨h1, h2, h3, h4, h5⟩ := h
  simp only at h1 h2 h3 h4 h5
  refine ⟨h1, by simp only; omega, hj, ?_, fun k hk => h5 k (by simp only at hk; omega)⟩
  simp only
  rw [take_snoc hj, List.filter_append, h4]
  simp [hb]
theorem DS.keep {l : List Per} {i j : Nat} {row : List Per} (h : DS.Ok l ⟨i, j, row⟩) (hj : j < l.length) (hb : right l[j] = true) : DS.Ok l ⟨i + 1, j + 1, row.set i l[j]⟩ := by
  obtain ⟨h1, h2, h3, h4, h5⟩ := h
  simp only at h1 h2 h3 h4 h5
  refine ⟨by simp [h1], by simp only; omega, hj, ?_, fun k hk => ?_⟩
  · simp only
    rw [take_snoc hj, List.filter_append, ← h4, take_snoc (by simp; omega)]
    simp [hb, List.take_set]
    exact List.set_eq_of_length_le (by simp; omega)
  · simp only at hk
    simp only
    rw [List.getElem?_set_ne (by omega)]
    exact h5 k (by omega)
set_option maxRecDepth 4000 in
set_option maxHeartbeats 8000000 in
theorem del_spec (l : List Per) (hl : l.length ≤ 140737488355328) :
    ConB Tryz.prog 129 [.own 1 l.length, .c (.fn 130 [])] (rowB 1 l) [.own 1 (l.filter right).length] [if l.findIdx? (fun p => !right p) = none then .own 1 l.length else .un, .c (.fn 130 [])] (rowB 1 (l.filter right)) := by
  refine spec_ofB 2 Tryz.func129 rfl (by kernel_rfl) (by simp [Tryz.f129]) (by simp [rowB]) rfl (fun w0 K0 uf => vc_ok _ _ _ (by kernel_rfl) ?_)
  simp only [Tryz.f129]
  simp -dsimp [initB, initEnv, pinsOf, rowB]
  refine VCL.lend (rowB 1 l) (rowB 1 l) [.own 1 l.length, .c (.fn 130 [])] _ _ id [] ⟨idxB_spec l hl, ?_, ?_, ?_, ?_, ?_, ?_, ?_⟩ ?_
  · simp [renSs, renS]
  · simp [rowB, renR]
  · simp [rowB]
  · simp [rowB]
  · simp [rowB, Res.nam, S.nams, S.nam]
  · simp [rowB, S.nams, S.nam]
  · simp [rowB, lk, keptP]
    exact ⟨2, _, ⟨rfl, rfl⟩, _, ⟨rfl, rfl⟩, by simp, by simp⟩
  simp -dsimp [rowB, retS, renSs, renS]
  cases hf : l.findIdx? (fun p => !right p) with
  | none =>
    have hall : l.filter right = l := by
      rw [List.filter_eq_self]
      rw [List.findIdx?_eq_none_iff] at hf
      intro p hp
      simpa using hf p hp
    simp -dsimp [idxBad, hf]
    simp [resEnd, rowB, hall]
  | some k0 =>
    rw [List.findIdx?_eq_some_iff_getElem] at hf
    obtain ⟨hk0, hb0, hg0⟩ := hf
    have e1 : idxBad l = k0 := by
      unfold idxBad
      have : l.findIdx? (fun p => !right p) = some k0 := List.findIdx?_eq_some_iff_getElem.2 ⟨hk0, hb0, hg0⟩
      rw [this]
    have hw0 : IntKind.i64.wrap ((k0 : Int) + 1) = (k0 : Int) + 1 := IntWalk.i64_in _ (by omega)
    have hneg : ((k0 : Int) == -1) = false := by simp
    simp -dsimp [e1, hneg, hw0]
    refine VL.loop (fun s : DS => ⟨[(5, .c (i64 s.i)), (6, .c (i64 s.j)), (0, .own 1 l.length), (1, .c (.fn 130 []))], [(1, some (.arr false 2 (s.row.map Per.cells) 0)), (2, some (.pin (uf 0) (.own 1 l.length))), (3, some (.pin (uf 1) (.c (.fn 130 []))))]⟩) (DS.Ok l) (fun s => l.length - s.j) ⟨k0, k0 + 1, l⟩ (by kernel_rfl) ?_ (by simp [St.le]) ?_
    · refine ⟨rfl, by simp, hk0, ?_, fun _ _ => rfl⟩
      simp only
      rw [take_snoc hk0, List.filter_append]
      have : List.filter right [l[k0]] = [] := by simp at hb0; simp [hb0]
      rw [this, List.append_nil, eq_comm, List.filter_eq_self]
      intro p hp
      obtain ⟨j, hj, rfl⟩ := List.getElem_of_mem hp
      simp at hj
      have := hg0 j (by omega)
      simpa using this
    intro ⟨i, j, row⟩ hs
    obtain ⟨h1, h2, h3, h4, h5⟩ := hs
    simp only at h1 h2 h3 h4 h5
    simp -dsimp [h1]
    refine VIf.mk (fun h => ?_) (fun h => ?_)
    · have hlt : j < l.length := by simpa using h
      have hltr : j < row.length := by omega
      have hw : IntKind.i64.wrap ((j : Int) + 1) = (j : Int) + 1 := IntWalk.i64_in _ (by omega)
      have hwi : IntKind.i64.wrap ((i : Int) + 1) = (i : Int) + 1 := IntWalk.i64_in _ (by omega)
      have hrj : row[j] = l[j] := by
        have := h5 j (Nat.le_refl _)
        rw [List.getElem?_eq_getElem hltr, List.getElem?_eq_getElem hlt] at this
        exact Option.some.inj this
      simp -dsimp [hlt, hltr, hrj, Per.cells]
      refine ⟨h1, VC.mk _ (bad_spec l[j]) ?_⟩
      simp -dsimp
      refine VIf.mk (fun h6 => ?_) (fun h6 => ?_)
      · simp -dsimp [hw, hwi]
        refine ⟨⟨by omega, h1⟩, h1, by omega, ⟨i + 1, j + 1, row.set i l[j]⟩, DS.keep ⟨h1, h2, h3, h4, h5⟩ hlt h6, ?_, by simp; omega⟩
        have hir : i < row.length := by omega
        simp [St.le, List.map_set, Per.cells, List.getElem?_eq_getElem hir]
      · simp -dsimp [hw]
        refine ⟨⟨i, j + 1, row⟩, ?_, ?_, by simp; omega⟩
        · exact DS.skip ⟨h1, h2, h3, h4, h5⟩ hlt h6
        · simp [St.le]
    · simp at h
      simp -dsimp
      refine VSL.own ?_
      simp -dsimp
      refine ⟨by omega, h1, by omega, VSL.own ?_⟩
      simp -dsimp
      obtain rfl : j = l.length := by omega
      rw [List.take_length] at h4
      have hi : i = (l.filter right).length := by rw [← h4, List.length_take]; omega
      refine ⟨by omega, by omega, hi, ?_⟩
      have hm : min i row.length = i := by omega
      simp [resEnd, rowB, hm, ← h4, List.take_take, ← List.map_take]
      trace_state
end Go.Proofs.YtlphpbcafplnbaaGreat
set_option linter.unusedSimpArgs false
set_option linter.unusedVariables false
namespace Go.Proofs.YtlphpbcafplnbaaGreat
open Go.VL Go.RowKit
set_option maxRecDepth 4000 in
set_option maxHeartbeats 4000000 in
theorem clone_spec (l : List Per) (hl : l.length ≤ 8796093022208) : Con Tryz.prog 113 [.c (.sl false (l.map Per.cells))] [.fr false 2 (l.map Per.cells) 0] := by
  refine spec_of Tryz.func113 rfl (by kernel_rfl) (by simp [Tryz.f113]) (fun w0 K0 => vc_ok _ _ _ (by kernel_rfl) ?_)
  simp only [Tryz.f113]
  simp -dsimp
  omega
set_option maxRecDepth 4000 in
set_option maxHeartbeats 4000000 in
theorem clone_nil : Con Tryz.prog 113 [.c (.sl true [])] [.fr true 0 [] 0] := by
  refine spec_of Tryz.func113 rfl (by kernel_rfl) (by simp [Tryz.f113]) (fun w0 K0 => vc_ok _ _ _ (by kernel_rfl) ?_)
  simp only [Tryz.f113]
  simp -dsimp
set_option maxRecDepth 4000 in
set_option maxHeartbeats 4000000 in
theorem del_nil : Con Tryz.prog 129 [.c (.sl true []), .c (.fn 130 [])] [.c (.sl true [])] := by
  refine spec_of Tryz.func129 rfl (by kernel_rfl) (by simp [Tryz.f129]) (fun w0 K0 => vc_ok _ _ _ (by kernel_rfl) ?_)
  simp only [Tryz.f129]
  simp -dsimp
  refine VC.mk _ (idx_spec true [] (by simp)) ?_
  simp -dsimp
end Go.Proofs.YtlphpbcafplnbaaGreat
set_option linter.unusedSimpArgs false
set_option linter.unusedVariables false
namespace Go.Proofs.YtlphpbcafplnbaaGreat
open Go.VL Go.RowKit
def addP (out : List Per) (p : Per) : List Per :=
  if 0 < out.length ∧ p.f ≤ (out[out.length - 1]!).t then out.set (out.length - 1) ⟨(out[out.length - 1]!).f, max (out[out.length - 1]!).t p.t⟩ else out ++ [p]
def sumP (s : List Per) : List Per := s.foldl addP []
theorem sumP_snoc (s : List Per) {k : Nat} (h : k < s.length) : sumP (s.take (k + 1)) = addP (sumP (s.take k)) s[k] := by
  unfold sumP; rw [take_snoc h, List.foldl_append]; rfl
theorem addP_len (out : List Per) (p : Per) : (addP out p).length ≤ out.length + 1 := by
  unfold addP; split <;> simp
theorem sumP_len (s : List Per) : ∀ k, k ≤ s.length → (sumP (s.take k)).length ≤ k
  | 0, _ => by simp [sumP]
  | k + 1, h => by
    rw [sumP_snoc s h]
    have := addP_len (sumP (s.take k)) s[k]
    have := sumP_len s k (by omega)
    omega
structure Sorts (sortP : List Per → List Per) : Prop where
  len : ∀ l, (sortP l).length = l.length
  perm : ∀ l, (sortP l).Perm l
  sorted : ∀ l, (sortP l).Pairwise fun x y => x.f ≤ y.f
  con : ∀ l, l.length ≤ 140737488355328 → ConB Tryz.prog 131 [.own 1 l.length, .c (.fn 132 [])] (rowB 1 l) [] [.own 1 l.length, .c (.fn 132 [])] (rowB 1 (sortP l))
  nil : Con Tryz.prog 131 [.c (.sl true []), .c (.fn 132 [])] []
theorem defC : (default : C) = i64 0 := rfl
structure UI where
  k : Nat
  nl : Bool
  sz : Nat
set_option maxRecDepth 4000 in
set_option maxHeartbeats 8000000 in
theorem union_nil {sortP : List Per → List Per} (hs : Sorts sortP) : Con Tryz.prog 111 [.c (.sl true [])] [.fr true 0 [] 0] := by
  refine spec_of Tryz.func111 rfl (by kernel_rfl) (by simp [Tryz.f111]) (fun w0 K0 => vc_ok _ _ _ (by kernel_rfl) ?_)
  simp only [Tryz.f111]
  simp -dsimp
  refine VC.mk _ clone_nil ?_
  simp -dsimp
  refine VCL.snap ?_
  simp -dsimp
  refine VC.mk _ del_nil ?_
  simp -dsimp
  refine VC.mk _ hs.nil ?_
  simp -dsimp
  refine VL.loop (fun _ : Unit => ⟨[(15, .c (i64 0)), (14, .c (i64 0)), (4, .own 256 0)], [(256, some (.arr true 0 [] 0))]⟩) (fun _ => True) (fun _ => 0) () (by kernel_rfl) trivial (by simp [St.le]) ?_
  intro _ _
  simp -dsimp
set_option maxRecDepth 4000 in
set_option maxHeartbeats 8000000 in
theorem union_some {sortP : List Per → List Per} (hs : Sorts sortP) (l : List Per) (hl : l.length ≤ 8796093021952) : Con Tryz.prog 111 [.c (.sl false (l.map Per.cells))] [.fr (sumP (sortP (l.filter right))).isEmpty (if (sumP (sortP (l.filter right))).isEmpty then 0 else 2) ((sumP (sortP (l.filter right))).map Per.cells) 0] := by
  refine spec_of Tryz.func111 rfl (by kernel_rfl) (by simp [Tryz.f111]) (fun w0 K0 => vc_ok _ _ _ (by kernel_rfl) ?_)
  simp only [Tryz.f111]
  simp -dsimp
  refine VC.mk _ (clone_spec l (by omega)) ?_
  simp -dsimp
  refine VCL.lend (rowB 1 l) (rowB 1 (l.filter right)) [.own 1 l.length, .c (.fn 130 [])] _ _ (fun _ => 576) [576] ⟨del_spec l (by omega), ?_, ?_, ?_, ?_, ?_, ?_, ?_⟩ ?_
  · simp [renSs, renS]
  · simp [rowB, renR]
  · simp [rowB]
  · simp [rowB]
  · simp [rowB, Res.nam]
  · simp [rowB, S.nams, S.nam]
  · simp [rowB]
  simp -dsimp [rowB, retS, renSs, renS]
  have hfl : (l.filter right).length ≤ l.length := List.length_filter_le _ _
  have hcs := hs.con (l.filter right) (by omega)
  have hlen := hs.len (l.filter right)
  generalize l.filter right = fl at *
  generalize sortP fl = s at *
  refine VCL.lend (rowB 1 fl) (rowB 1 s) [.own 1 fl.length, .c (.fn 132 [])] _ _ (fun _ => 576) [] ⟨hcs, ?_, ?_, ?_, ?_, ?_, ?_, ?_⟩ ?_
  · simp [renSs, renS]
  · simp [rowB, renR]
  · simp [rowB]
  · simp [rowB]
  · simp [rowB, Res.nam]
  · simp [S.nams]
  · simp [rowB, lk, keptP]
    exact ⟨2, _, ⟨rfl, rfl⟩, _, ⟨rfl, rfl⟩, by simp, by simp [hlen]⟩
  simp -dsimp [rowB, retS, renSs]
  refine ⟨hlen, ?_⟩
  have hsl : s.length ≤ 8796093021952 := by omega
  rw [← hlen]
  clear hcs hfl hlen
  refine VL.loop (fun i : UI => ⟨[(15, .c (i64 i.k)), (14, .c (i64 s.length)), (13, .own 576 s.length), (4, .own 256 (sumP (s.take i.k)).length)],
      [(256, some (.arr i.nl i.sz ((sumP (s.take i.k)).map Per.cells) 0)), (576, some (.arr false 2 (s.map Per.cells) 0))]⟩)
    (fun i => i.k ≤ s.length ∧ i.nl = (sumP (s.take i.k)).isEmpty ∧ i.sz = if i.nl then 0 else 2) (fun i => s.length - i.k) ⟨0, true, 0⟩ (by kernel_rfl) (by simp [sumP]) (by simp [St.le, sumP]) ?_
  intro ⟨k, nl, sz⟩ ⟨hk, hnl, hsz⟩
  simp only at hk hnl hsz
  have hol := sumP_len s k hk
  have hsu := fun h : k < s.length => sumP_snoc s h
  have hsu2 := fun h : k < s.length => addP_len (sumP (s.take k)) s[k]
  generalize ho : sumP (s.take k) = out at *
  simp -dsimp
  refine VIf.mk (fun h => ?_) (fun h => ?_)
  · have hlt : k < s.length := by simpa using h
    have hw : IntKind.i64.wrap ((k : Int) + 1) = (k : Int) + 1 := IntWalk.i64_in _ (by omega)
    simp -dsimp [hlt, Per.cells]
    refine VL.draw (by kernel_rfl) [(0, true), (1, true), (3, true), (7, false), (15, false), (7, false), (7, false), (71, false), (231, false), (487, false), (999, false), (2047, true), (4095, true)] (by kernel_rfl) ?_
    match out, hnl, hol, hsu hlt with
    | [], hnl, hol, hsu =>
      obtain rfl : nl = true := hnl
      obtain rfl : sz = 0 := hsz
      simp -dsimp [hw, maxLen, defC]
      refine ⟨⟨k + 1, false, 2⟩, ⟨hlt, ?_, rfl⟩, ?_, by simp; omega⟩
      · simp [hsu, addP]
      · simp [St.le, hsu, addP, Per.cells]
    | x :: r, hnl, hol, hsu =>
      obtain rfl : nl = false := hnl
      obtain rfl : sz = 2 := hsz
      generalize hout : x :: r = out at *
      have hne : 0 < out.length := by rw [← hout]; simp
      have hT : IntKind.i64.wrap ((out.length : Int) - 1) = ((out.length - 1 : Nat) : Int) := by rw [IntWalk.i64_in _ (by omega)]; omega
      have hl1 : out.length - 1 < out.length := by omega
      have hg : (Option.map Per.cells out[out.length - 1]?).getD [] = out[out.length - 1].cells := by rw [List.getElem?_eq_getElem hl1]; rfl
      have hlast : out[out.length - 1]! = out[out.length - 1] := getElem!_pos out _ hl1
      simp -dsimp [hw, hne, hl1, hT, Per.cells]
      refine VIf.mk (fun hle => ?_) (fun hle => ?_)
      · have hle' : s[k].f ≤ out[out.length - 1].t := by simpa using hle
        simp -dsimp
        refine VL.draw (by kernel_rfl) [(0, false), (0, false), (2, false), (0, false), (0, false), (16, false), (56, false), (120, false), (248, false), (0, false), (512, false), (2040, false), (4095, true), (8191, true), (16383, true)] (by kernel_rfl) ?_
        simp -dsimp [hw, hne, hl1, hT, Per.cells]
        have e : addP out s[k] = out.set (out.length - 1) ⟨out[out.length - 1].f, max out[out.length - 1].t s[k].t⟩ := by
          unfold addP; rw [hlast, if_pos ⟨hne, hle'⟩]
        rw [e] at hsu
        refine ⟨⟨k + 1, false, 2⟩, ⟨hlt, ?_, rfl⟩, ?_, by simp; omega⟩
        · rw [hsu]; rw [eq_comm, List.isEmpty_eq_false_iff]; intro e2
          have := congrArg List.length e2
          rw [List.length_set] at this
          simp at this
          simp [this] at hne
        · simp [St.le, hsu, List.map_set, Per.cells]
      · have hle' : ¬ s[k].f ≤ out[out.length - 1].t := by simpa using hle
        simp -dsimp [hw, maxLen]
        have e : addP out s[k] = out ++ [s[k]] := by
          unfold addP; rw [hlast, if_neg (fun h => hle' h.2)]
        rw [e] at hsu
        refine ⟨by omega, ⟨k + 1, false, 2⟩, ⟨hlt, ?_, rfl⟩, ?_, by simp; omega⟩
        · rw [hsu]; simp
        · simp [St.le, hsu, Per.cells]
  · simp at h
    obtain rfl : k = s.length := by omega
    rw [List.take_length] at ho
    subst ho
    simp -dsimp
    refine ⟨hnl, ?_⟩
    rw [hsz, hnl]
    cases sumP s <;> simp
end Go.Proofs.YtlphpbcafplnbaaGreat
set_option linter.unusedSimpArgs false
set_option linter.unusedVariables false
namespace Go.Proofs.YtlphpbcafplnbaaGreat
open Go.VL Go.RowKit
def unionL (sortP : List Per → List Per) (l : List Per) : List Per := sumP (sortP (l.filter right))
def esz (m : List Per) : Nat := if m.isEmpty then 0 else 2
theorem union_spec {sortP : List Per → List Per} (hs : Sorts sortP) (nl : Bool) (l : List Per) (hn : nl = true → l = []) (hl : l.length ≤ 8796093021952) :
    Con Tryz.prog 111 [.c (.sl nl (l.map Per.cells))] [.fr (unionL sortP l).isEmpty (esz (unionL sortP l)) ((unionL sortP l).map Per.cells) 0] := by
  cases nl with
  | false => exact union_some hs l hl
  | true =>
    obtain rfl := hn rfl
    have h := union_nil hs
    have e : unionL sortP [] = [] := by
      unfold unionL
      have : (sortP ([].filter right)) = [] := by
        have := hs.len []
        simpa using this
      rw [this]; rfl
    rw [e]
    exact h
theorem takeWhile_at {α : Type} (q : α → Bool) : ∀ (u : List α) (k : Nat), k ≤ u.length → (∀ j, (h : j < u.length) → j < k → q u[j] = true) → (∀ h : k < u.length, q u[k] = false) → u.takeWhile q = u.take k
  | [], k, _, _, _ => by simp
  | x :: u, 0, _, _, h => by
    have := h (by simp)
    simp at this
    simp [this]
  | x :: u, k + 1, hk, h1, h2 => by
    have := h1 0 (by simp) (by omega)
    simp at this
    rw [List.takeWhile_cons, this]
    simp only [if_true, List.take_succ_cons]
    rw [takeWhile_at q u k (by simp at hk; omega) (fun j h hj => by have := h1 (j + 1) (by simp; omega) (by omega); simpa using this) (fun h => by have := h2 (by simp; omega); simpa using this)]
end Go.Proofs.YtlphpbcafplnbaaGreat
set_option linter.unusedSimpArgs false
set_option linter.unusedVariables false
namespace Go.Proofs.YtlphpbcafplnbaaGreat
open Go.VL Go.RowKit
structure Canon (l : List Per) : Prop where
  ok : ∀ p ∈ l, right p = true
  apart : l.Pairwise fun p q => p.t < q.f
def inL (l : List Per) (t : Int) : Bool := l.any fun p => has p t
theorem inL_iff (l : List Per) (t : Int) : inL l t = true ↔ ∃ p ∈ l, p.f ≤ t ∧ t < p.t := by
  unfold inL; rw [List.any_eq_true]
  constructor
  · rintro ⟨p, h1, h2⟩; exact ⟨p, h1, (has_iff p t).1 h2⟩
  · rintro ⟨p, h1, h2⟩; exact ⟨p, h1, (has_iff p t).2 h2⟩
theorem inL_nil (t : Int) : inL [] t = false := rfl
theorem inL_cons (p : Per) (l : List Per) (t : Int) : inL (p :: l) t = (has p t || inL l t) := rfl
theorem inL_append (l m : List Per) (t : Int) : inL (l ++ m) t = (inL l t || inL m t) := by unfold inL; rw [List.any_append]
theorem Canon.nil : Canon [] := ⟨by simp, by simp⟩
theorem Canon.tail {p : Per} {l : List Per} (h : Canon (p :: l)) : Canon l := ⟨fun q hq => h.ok q (by simp [hq]), (List.pairwise_cons.1 h.apart).2⟩
theorem Canon.head {p : Per} {l : List Per} (h : Canon (p :: l)) {t : Int} (ht : inL l t = true) : p.t < t := by
  obtain ⟨q, hq, h1, _⟩ := (inL_iff l t).1 ht
  have := (List.pairwise_cons.1 h.apart).1 q hq
  omega
theorem Canon.ext : ∀ {l m : List Per}, Canon l → Canon m → (∀ t, inL l t = inL m t) → l = m
  | [], [], _, _, _ => rfl
  | [], q :: m, _, hm, h => by
    have h1 := h q.f
    have hq := (right_iff q).1 (hm.ok q (by simp))
    rw [inL_cons, (has_iff q q.f).2 ⟨by omega, by omega⟩, inL_nil] at h1
    simp at h1
  | p :: l, [], hl, _, h => by
    have h1 := h p.f
    have hp := (right_iff p).1 (hl.ok p (by simp))
    rw [inL_cons, (has_iff p p.f).2 ⟨by omega, by omega⟩, inL_nil] at h1
    simp at h1
  | p :: l, q :: m, hl, hm, h => by
    have hp := (right_iff p).1 (hl.ok p (by simp))
    have hq := (right_iff q).1 (hm.ok q (by simp))
    have low : ∀ {p : Per} {l : List Per} {t : Int}, Canon (p :: l) → inL (p :: l) t = true → p.f ≤ t := by
      intro p l t hc ht
      have hp := (right_iff p).1 (hc.ok p (by simp))
      rw [inL_cons, Bool.or_eq_true, has_iff] at ht
      rcases ht with ht | ht
      · exact ht.1
      · have := hc.head ht; omega
    have first : ∀ {p : Per} {l : List Per}, Canon (p :: l) → inL (p :: l) p.f = true := by
      intro p l hc
      have hp := (right_iff p).1 (hc.ok p (by simp))
      rw [inL_cons, (has_iff p p.f).2 ⟨by omega, by omega⟩]; rfl
    have e1 : p.f = q.f := by
      have a := low hm (by rw [← h]; exact first hl)
      have b := low hl (by rw [h]; exact first hm)
      omega
    have stop : ∀ {p : Per} {l : List Per}, Canon (p :: l) → inL (p :: l) p.t = false := by
      intro p l hc
      rw [Bool.eq_false_iff]
      intro ht
      rw [inL_cons, Bool.or_eq_true, has_iff] at ht
      rcases ht with ht | ht
      · omega
      · have := hc.head ht; omega
    have e2 : p.t = q.t := by
      rcases Int.lt_trichotomy p.t q.t with hlt | heq | hgt
      · have a := stop hl
        rw [h, inL_cons, (has_iff q p.t).2 ⟨by omega, hlt⟩] at a
        simp at a
      · exact heq
      · have a := stop hm
        rw [← h, inL_cons, (has_iff p q.t).2 ⟨by omega, hgt⟩] at a
        simp at a
    have e : p = q := by cases p; cases q; simp at e1 e2; simp [e1, e2]
    subst e
    refine congrArg (p :: ·) (Canon.ext hl.tail hm.tail fun t => ?_)
    have ht := h t
    rw [inL_cons, inL_cons] at ht
    cases hh : has p t with
    | false => simpa [hh] using ht
    | true =>
      have hht := (has_iff p t).1 hh
      have a : inL l t = false := by
        rw [Bool.eq_false_iff]; intro hx; have := hl.head hx; omega
      have b : inL m t = false := by
        rw [Bool.eq_false_iff]; intro hx; have := hm.head hx; omega
      rw [a, b]
theorem Canon.snoc {l : List Per} {p : Per} (h : Canon l) (hp : right p = true) (hb : ∀ q ∈ l, q.t < p.f) : Canon (l ++ [p]) := by
  refine ⟨fun q hq => ?_, ?_⟩
  · rcases List.mem_append.1 hq with h1 | h1
    · exact h.ok q h1
    · simp at h1; subst h1; exact hp
  · rw [List.pairwise_append]
    exact ⟨h.apart, by simp, fun q hq r hr => by simp at hr; subst hr; exact hb q hq⟩
theorem Canon.init {l : List Per} {p : Per} (h : Canon (l ++ [p])) : Canon l ∧ right p = true ∧ ∀ q ∈ l, q.t < p.f := by
  refine ⟨⟨fun q hq => h.ok q (by simp [hq]), (List.pairwise_append.1 h.apart).1⟩, h.ok p (by simp), fun q hq => (List.pairwise_append.1 h.apart).2.2 q hq p (by simp)⟩
theorem addP_nil (p : Per) : addP [] p = [p] := by simp [addP]
theorem addP_snoc (l : List Per) (q p : Per) : addP (l ++ [q]) p = if p.f ≤ q.t then l ++ [⟨q.f, max q.t p.t⟩] else l ++ [q] ++ [p] := by
  have e : (l ++ [q])[(l ++ [q]).length - 1]! = q := by simp
  unfold addP
  rw [e]
  by_cases h : p.f ≤ q.t
  · rw [if_pos ⟨by simp, h⟩, if_pos h]
    simp [List.set_append]
  · rw [if_neg (fun x => h x.2), if_neg h]
theorem addP_ok {out : List Per} {p : Per} (h : Canon out) (hp : right p = true) (hf : ∀ q ∈ out, q.f ≤ p.f) :
    Canon (addP out p) ∧ (∀ t, inL (addP out p) t = (inL out t || has p t)) ∧ ∀ q ∈ addP out p, q.f ≤ p.f := by
  rcases List.eq_nil_or_concat out with rfl | ⟨l, q, rfl⟩
  · rw [addP_nil]
    refine ⟨⟨by simpa using hp, by simp⟩, fun t => by simp [inL], by simp⟩
  · rw [List.concat_eq_append] at *
    obtain ⟨h1, h2, h3⟩ := h.init
    have hqf := hf q (by simp)
    have hq := (right_iff q).1 h2
    have hpp := (right_iff p).1 hp
    rw [addP_snoc]
    by_cases hle : p.f ≤ q.t
    · rw [if_pos hle]
      refine ⟨h1.snoc ?_ h3, fun t => ?_, fun r hr => ?_⟩
      · rw [right_iff]; simp only; omega
      · rw [inL_append, inL_append, Bool.or_assoc]
        congr 1
        rw [Bool.eq_iff_iff]
        simp only [inL_cons, inL_nil, Bool.or_false, Bool.or_eq_true, has_iff]
        omega
      · rcases List.mem_append.1 hr with h4 | h4
        · exact hf r (by simp [h4])
        · simp at h4; subst h4; exact hqf
    · rw [if_neg hle]
      refine ⟨h.snoc hp fun r hr => ?_, fun t => ?_, fun r hr => ?_⟩
      · rcases List.mem_append.1 hr with h4 | h4
        · have := h3 r h4; omega
        · simp at h4; subst h4; omega
      · rw [inL_append]; simp [inL]
      · rcases List.mem_append.1 hr with h4 | h4
        · exact hf r h4
        · simp at h4; subst h4; omega
theorem sumP_ok (s : List Per) (hs : s.Pairwise fun x y => x.f ≤ y.f) (hr : ∀ p ∈ s, right p = true) : ∀ k, k ≤ s.length →
    Canon (sumP (s.take k)) ∧ (∀ t, inL (sumP (s.take k)) t = inL (s.take k) t) ∧ ∀ q ∈ sumP (s.take k), ∀ p ∈ s.drop k, q.f ≤ p.f
  | 0, _ => ⟨by simp [sumP, Canon.nil], fun t => by simp [sumP], by simp [sumP]⟩
  | k + 1, h => by
    obtain ⟨h1, h2, h3⟩ := sumP_ok s hs hr k (by omega)
    have hk : k < s.length := by omega
    rw [sumP_snoc s hk]
    have hd : s.drop k = s[k] :: s.drop (k + 1) := List.drop_eq_getElem_cons hk
    obtain ⟨a1, a2, a3⟩ := addP_ok h1 (hr _ (List.getElem_mem hk)) (fun q hq => h3 q hq s[k] (hd ▸ List.mem_cons_self))
    refine ⟨a1, fun t => ?_, fun q hq p hp => ?_⟩
    · rw [a2, h2, take_snoc hk, inL_append]; simp [inL]
    · have b1 := a3 q hq
      have b2 : (s.drop k).Pairwise fun x y => x.f ≤ y.f := hs.sublist (List.drop_sublist _ _)
      rw [hd] at b2
      have := (List.pairwise_cons.1 b2).1 p hp
      omega
theorem unionL_ok {sortP : List Per → List Per} (hs : Sorts sortP) (l : List Per) : Canon (unionL sortP l) ∧ ∀ t, inL (unionL sortP l) t = someP l t := by
  have hp := hs.perm (l.filter right)
  have h := sumP_ok (sortP (l.filter right)) (hs.sorted _) (fun p hx => by have := hp.mem_iff.1 hx; simp at this; exact this.2) (sortP (l.filter right)).length (Nat.le_refl _)
  rw [List.take_length] at h
  refine ⟨h.1, fun t => ?_⟩
  unfold unionL
  rw [h.2.1 t]
  unfold inL someP
  rw [Bool.eq_iff_iff, List.any_eq_true, List.any_eq_true]
  constructor
  · rintro ⟨p, h1, h2⟩
    have := hp.mem_iff.1 h1
    simp at this
    exact ⟨p, this.1, by simp [this.2, h2]⟩
  · rintro ⟨p, h1, h2⟩
    simp at h2
    exact ⟨p, hp.mem_iff.2 (by simp [h1, h2.1]), h2.2⟩
end Go.Proofs.YtlphpbcafplnbaaGreat
set_option linter.unusedSimpArgs false
set_option linter.unusedVariables false
namespace Go.Proofs.YtlphpbcafplnbaaGreat
open Go.VL Go.RowKit
end Go.Proofs.YtlphpbcafplnbaaGreat
