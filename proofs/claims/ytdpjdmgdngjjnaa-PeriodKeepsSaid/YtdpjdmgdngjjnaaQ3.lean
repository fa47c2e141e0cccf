/- Contracts of functions of the seat, proved in a logic on data over the model (part Q3). -/
import Derived.Test.YtdpjdmgdngjjnaaQ2
set_option linter.unusedSimpArgs false
set_option linter.unusedVariables false
namespace Go.Proofs.Ytdpjdmgdngjjnaa
open Go.VL Go.RowKit

set_option maxRecDepth 4000 in
set_option maxHeartbeats 4000000 in
theorem same_spec (na nb : Bool) (l m : List Per) (hl : l.length ≤ 140737488355328) : Con Try.prog 14 [.c (.sl na (l.map Per.cells)), .c (.sl nb (m.map Per.cells))] [.c (bln (decide (l = m)))] := by
  refine spec_of Try.func14 rfl (by kernel_rfl) (by simp [Try.f14]) (fun w0 K0 => vc_ok _ _ _ (by kernel_rfl) ?_)
  simp only [Try.f14]
  simp -dsimp
  refine VIf.mk (fun h => ?_) (fun h => ?_)
  · simp -dsimp
    rintro rfl; simp at h
  have hlen : l.length = m.length := by simp at h; omega
  simp -dsimp
  refine VL.loop (fun k : Nat => ⟨[(5, .c (i64 k)), (0, .c (.sl na (l.map Per.cells))), (1, .c (.sl nb (m.map Per.cells)))], []⟩) (fun k => k ≤ l.length ∧ l.take k = m.take k) (fun k => l.length - k) 0 (by kernel_rfl) (by simp) (by simp [St.le]) ?_
  intro k ⟨hk, hbef⟩
  simp -dsimp
  refine VIf.mk (fun h => ?_) (fun h => ?_)
  · have hlt : k < l.length := by simpa using h
    have hlt2 : k < m.length := by omega
    have hw : IntKind.i64.wrap ((k : Int) + 1) = (k : Int) + 1 := IntWalk.i64_in _ (by omega)
    simp -dsimp
    refine VL.draw (by kernel_rfl) [(0, false), (0, false), (3, false), (7, false), (0, false), (0, false), (48, false), (112, false), (255, true)] (by kernel_rfl) ?_
    simp -dsimp [hlt, hlt2, Per.cells]
    refine VIf.mk (fun h2 => ?_) (fun h2 => ?_)
    · simp -dsimp
      rintro rfl
      simp at h2
    · simp -dsimp [hw]
      refine ⟨k + 1, ⟨by omega, ?_⟩, ?_, by omega⟩
      · rw [take_snoc hlt, take_snoc hlt2, hbef]
        congr 2
        simp at h2
        cases hp : l[k]; cases hq : m[k]; simp [hp, hq] at h2; simp [h2]
      · simp [St.le]
  · simp at h
    obtain rfl : k = l.length := by omega
    simp -dsimp
    rw [List.take_length, hlen, List.take_length] at hbef
    exact hbef

set_option maxRecDepth 4000 in
set_option maxHeartbeats 8000000 in
theorem refRelate_spec (a b : Per) : Con Try.prog 20 [.agg a.cells, .agg b.cells] [.c (i64 (relOf a b).1), .c (i64 (relOf a b).2)] := by
  refine spec_of Try.func20 rfl (by kernel_rfl) (by simp [Try.f20]) (fun w0 K0 => vc_ok _ _ _ (by kernel_rfl) ?_)
  simp only [Try.f20]
  simp -dsimp [Per.cells]
  refine VC.mk _ (refRight_at _ a rfl) ?_
  simp -dsimp
  refine VG.mk [.c (bln (right b))] _ (fun _ => refRight_at _ b rfl) rfl ?_
  simp -dsimp
  refine VIf.mk (fun h => ?_) (fun h => ?_)
  · simp -dsimp
    have hr : (right a && right b) = false := by simp at h; rw [Bool.and_eq_false_iff]; exact h
    simp [relOf, hr]
  have hr : (right a && right b) = true := by simp at h; simp [h]
  repeat' (simp -dsimp; refine VIf.mk (fun h => ?_) (fun h => ?_))
  all_goals (
    simp -dsimp
    simp only [decide_eq_true_eq, decide_eq_false_iff_not, beq_iff_eq, beq_eq_false_iff_ne, ne_eq] at *
    simp only [relOf, hr, if_true]
    repeat' split
    all_goals first | omega | exact ⟨rfl, trivial⟩)

set_option maxRecDepth 4000 in
set_option maxHeartbeats 4000000 in
theorem idx_spec (nil : Bool) (l : List Per) (hl : l.length ≤ 140737488355328) :
    Con Try.prog 36 [.c (.sl nil (l.map Per.cells)), .c (.fn 29 [])] [.c (i64 (match l.findIdx? (fun p => !right p) with | some k => (k : Int) | none => -1))] := by
  refine spec_of Try.func36 rfl (by kernel_rfl) (by simp [Try.f36]) (fun w0 K0 => vc_ok _ _ _ (by kernel_rfl) ?_)
  simp only [Try.f36]
  simp -dsimp
  refine VL.loop (fun k : Nat => ⟨[(8, .c (i64 k)), (7, .c (i64 l.length)), (0, .c (.sl nil (l.map Per.cells))), (1, .c (.fn 29 []))], []⟩) (fun k => k ≤ l.length ∧ ∀ j, (hj : j < k) → (hl : j < l.length) → right l[j] = true) (fun k => l.length - k) 0 (by kernel_rfl) (by simp) (by simp [St.le]) ?_
  intro k ⟨hk, hbef⟩
  simp -dsimp
  refine VIf.mk (fun h => ?_) (fun h => ?_)
  · have hlt : k < l.length := by simpa using h
    have hw : IntKind.i64.wrap ((k : Int) + 1) = (k : Int) + 1 := IntWalk.i64_in _ (by omega)
    simp -dsimp [hlt, Per.cells]
    refine VC.mk _ (bad_spec l[k]) ?_
    simp -dsimp
    refine VIf.mk (fun h2 => ?_) (fun h2 => ?_)
    · simp -dsimp
      have : l.findIdx? (fun p => !right p) = some k := by
        rw [List.findIdx?_eq_some_iff_getElem]
        exact ⟨hlt, h2, fun j hj => by rw [hbef j hj (by omega)]; simp⟩
      rw [this]
    · simp -dsimp [hw]
      refine ⟨k + 1, ⟨by omega, fun j hj hl => ?_⟩, ?_, by omega⟩
      · by_cases e : j = k
        · subst e; simpa using h2
        · exact hbef j (by omega) hl
      · simp [St.le]
  · simp at h
    simp -dsimp
    have : l.findIdx? (fun p => !right p) = none := by
      rw [List.findIdx?_eq_none_iff]
      intro p hp
      obtain ⟨j, hj, rfl⟩ := List.getElem_of_mem hp
      simp [hbef j (by omega) hj]
    rw [this]
end Go.Proofs.Ytdpjdmgdngjjnaa
