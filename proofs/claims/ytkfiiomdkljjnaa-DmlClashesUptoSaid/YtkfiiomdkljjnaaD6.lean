/- Contracts: the first two facts that are alike at once. -/
import Derived.Test.YtkfiiomdkljjnaaD5
set_option linter.unusedSimpArgs false
set_option linter.unusedVariables false
namespace Go.Proofs.Ytkfiiomdkljjnaa
open Go.VL Go.RowKit

def clashRow (l : List Fact) (keys : List Int) (i : Nat) : Nat → Option (Nat × Nat)
  | 0 => none
  | m + 1 => match clashRow l keys i m with
    | some r => some r
    | none => if clashes l[m]! l[i]! keys then some (m, i) else none
def clashUp (l : List Fact) (keys : List Int) : Nat → Option (Nat × Nat)
  | 0 => none
  | n + 1 => match clashUp l keys n with
    | some r => some r
    | none => clashRow l keys n n
def clashR (l : List Fact) (keys : List Int) : Option (Nat × Nat) := clashUp l keys l.length
def clashI (l : List Fact) (keys : List Int) : Int := match clashR l keys with | some r => r.1 | none => 0
def clashJ (l : List Fact) (keys : List Int) : Int := match clashR l keys with | some r => r.2 | none => 0
theorem clashRow_mono {l : List Fact} {keys : List Int} {i j : Nat} {r : Nat × Nat} (h : clashRow l keys i j = some r) : ∀ m, clashRow l keys i (j + m) = some r
  | 0 => h
  | m + 1 => by rw [← Nat.add_assoc, clashRow, clashRow_mono h m]
theorem clashUp_mono {l : List Fact} {keys : List Int} {j : Nat} {r : Nat × Nat} (h : clashUp l keys j = some r) : ∀ m, clashUp l keys (j + m) = some r
  | 0 => h
  | m + 1 => by rw [← Nat.add_assoc, clashUp, clashUp_mono h m]
theorem clashRow_no {l : List Fact} {keys : List Int} {i j : Nat} (h : clashRow l keys i j = none) (hc : clashes l[j]! l[i]! keys = false) : clashRow l keys i (j + 1) = none := by
  rw [clashRow, h]; show (if clashes l[j]! l[i]! keys then some (j, i) else none) = none; rw [hc]; rfl
theorem clashR_yes {l : List Fact} {keys : List Int} {i j : Nat} (hi : i < l.length) (hj : j < i) (hu : clashUp l keys i = none) (h : clashRow l keys i j = none) (hc : clashes l[j]! l[i]! keys = true) : clashR l keys = some (j, i) := by
  have h1 : clashRow l keys i (j + 1) = some (j, i) := by rw [clashRow, h]; show (if clashes l[j]! l[i]! keys then some (j, i) else none) = some (j, i); rw [hc]; rfl
  have h2 := clashRow_mono h1 (i - (j + 1))
  rw [show j + 1 + (i - (j + 1)) = i from by omega] at h2
  have h3 : clashUp l keys (i + 1) = some (j, i) := by rw [clashUp, hu]; exact h2
  have h4 := clashUp_mono h3 (l.length - (i + 1))
  rw [show i + 1 + (l.length - (i + 1)) = l.length from by omega] at h4
  exact h4

set_option maxRecDepth 4000 in
set_option maxHeartbeats 16000000 in
theorem clash_spec (nl nk : Bool) (l : List Fact) (keys : List Int) (hl : l.length ≤ 140737488355328) (hr : Rows1 l) (hk : keys.length ≤ 140737488355328) :
    Con Try.prog 10 [.c (.sl nl (facts l)), .c (.sl nk (keys.map icell))] [.c (i64 (clashI l keys)), .c (i64 (clashJ l keys)), .c (bln (clashR l keys).isSome)] := by
  refine spec_of Try.func10 rfl (by kernel_rfl) (by simp [Try.f10]) (fun w0 K0 => vc_ok _ _ _ (by kernel_rfl) ?_)
  simp only [Try.f10]
  simp -dsimp
  refine VL.loop (fun i : Nat => ⟨[(15, .c (i64 i)), (14, .c (i64 l.length)), (13, .c (.sl nl (facts l))), (0, .c (.sl nl (facts l))), (7, .c (.fn 32 [.dp [.sl nk (keys.map icell)]]))], []⟩)
    (fun i => i ≤ l.length ∧ clashUp l keys i = none) (fun i => l.length - i) 0 (by kernel_rfl) ⟨by simp, rfl⟩ (by simp [St.le]) ?_
  intro i ⟨hi, hup⟩
  by_cases h1 : i < l.length
  · have hw : IntKind.i64.wrap ((i : Int) + 1) = (i : Int) + 1 := IntWalk.i64_in _ (by omega)
    have hmin : min i l.length = i := by omega
    simp -dsimp [h1]
    refine ⟨by omega, ?_⟩
    refine VL.loop (fun j : Nat => ⟨[(22, .c (i64 j)), (21, .c (i64 i)), (8, .c (i64 i)), (15, .c (i64 i)), (14, .c (i64 l.length)), (13, .c (.sl nl (facts l))), (0, .c (.sl nl (facts l))), (7, .c (.fn 32 [.dp [.sl nk (keys.map icell)]]))], []⟩)
      (fun j => j ≤ i ∧ clashRow l keys i j = none) (fun j => i - j) 0 (by kernel_rfl) ⟨by simp, rfl⟩ (by simp [St.le, hmin]) ?_
    intro j ⟨hj, hrow⟩
    by_cases h2 : j < i
    · have hw2 : IntKind.i64.wrap ((j : Int) + 1) = (j : Int) + 1 := IntWalk.i64_in _ (by omega)
      have h3 : j < l.length := by omega
      simp -dsimp [h1, h2, h3]
      refine VL.draw (by kernel_rfl) [(0, false), (0, false), (3, false), (7, false), (15, false), (0, false), (0, false), (96, false), (224, false), (480, false), (1023, false), (2047, false), (4095, false), (4095, false), (0, false), (24575, false), (65535, true)] (by kernel_rfl) ?_
      simp -dsimp [h1, h3, Fact.cells]
      refine VCE.mk _ (overlap_spec l[j].p l[i].p) ?_
      simp -dsimp
      refine ⟨by simp [Value.cells], ?_⟩
      refine VL.draw (by kernel_rfl) [(0, true), (1, true), (3, false), (3, false), (3, false), (27, false), (59, false), (123, false), (3, false), (3, false), (771, false), (1795, false), (3843, false), (8191, true), (16383, true)] (by kernel_rfl) ?_
      simp -dsimp [h1, h3, Fact.cells]
      have hrj := hr l[j] (List.getElem_mem h3)
      have hri := hr l[i] (List.getElem_mem h1)
      refine VG.mk [.c (bln (alike l[j].row l[i].row keys))] _ (fun _ => alike_spec _ _ _ l[j].row l[i].row keys (by omega) (by omega) hk) rfl ?_
      simp -dsimp
      have hc : clashes l[j]! l[i]! keys = (lapOk l[j].p l[i].p && alike l[j].row l[i].row keys) := by
        rw [getElem!_pos l j h3, getElem!_pos l i h1]; rfl
      refine VIf.mk (fun h => ?_) (fun h => ?_)
      · rw [← hc] at h
        have e := clashR_yes h1 h2 hup hrow h
        simp -dsimp
        simp [clashI, clashJ, e]
      · rw [← hc] at h
        simp -dsimp [hw2]
        refine ⟨j + 1, ⟨by omega, clashRow_no hrow h⟩, ?_, by omega⟩
        simp [St.le]
    · obtain rfl : j = i := by omega
      simp -dsimp [hw]
      refine ⟨j + 1, ⟨by omega, ?_⟩, ?_, by omega⟩
      · rw [clashUp, hup]; exact hrow
      · simp [St.le]
  · obtain rfl : i = l.length := by omega
    simp -dsimp
    unfold clashI clashJ clashR
    rw [hup]
    simp
end Go.Proofs.Ytkfiiomdkljjnaa
