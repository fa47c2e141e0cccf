/- Contracts: the document's One, Compare, Same; the same facts. -/
import Derived.Test.YtkfiiomdkljjnaaD0
import Derived.Test.YtkfiiomdkljjnaaV33
set_option linter.unusedSimpArgs false
set_option linter.unusedVariables false
namespace Go.Proofs.Ytkfiiomdkljjnaa
open Go.VL Go.RowKit

set_option maxRecDepth 4000 in
set_option maxHeartbeats 8000000 in
theorem refOne_spec (a b : Val) : Con Try.prog 65 [.agg a.cells, .agg b.cells] [.c (i64 (cmpV a b))] := by
  refine spec_of Try.func65 rfl (by kernel_rfl) (by simp [Try.f65]) (fun w0 K0 => vc_ok _ _ _ (by kernel_rfl) ?_)
  simp only [Try.f65]
  simp -dsimp [Val.cells]
  refine ⟨by grind, by grind, by grind, VIf.mk (fun h => ?_) (fun h => ?_)⟩
  · simp -dsimp
    have : ltV a b = true := by unfold ltV; simpa using h
    simp [cmpV, this]
  · have hl : ltV a b = false := by
      rw [Bool.eq_false_iff]; intro e; unfold ltV at e; rw [Bool.eq_false_iff] at h; exact h (by simpa using e)
    simp -dsimp
    refine VIf.mk (fun h2 => ?_) (fun h2 => ?_)
    · simp -dsimp
      have : a = b := by cases a; cases b; simp at h2; simp [h2]
      subst this
      simp [cmpV, hl]
    · simp -dsimp
      have : ¬ a = b := by rintro rfl; simp at h2
      simp [cmpV, hl, this]
theorem refOne_at (cs ds : List C) (a b : Val) (h : cs = a.cells) (h' : ds = b.cells) : Con Try.prog 65 [.agg cs, .agg ds] [.c (i64 (cmpV a b))] := by rw [h, h']; exact refOne_spec a b

set_option maxRecDepth 4000 in
set_option maxHeartbeats 8000000 in
theorem refCompare_spec (na nb : Bool) (l m : List Val) (hl : l.length ≤ 140737488355328) : Con Try.prog 53 [.c (.sl na (vals l)), .c (.sl nb (vals m))] [.c (i64 (cmpR l m))] := by
  refine spec_of Try.func53 rfl (by kernel_rfl) (by simp [Try.f53]) (fun w0 K0 => vc_ok _ _ _ (by kernel_rfl) ?_)
  simp only [Try.f53]
  simp -dsimp
  refine VL.loop (fun k : Nat => ⟨[(5, .c (i64 k)), (0, .c (.sl na (vals l))), (1, .c (.sl nb (vals m)))], []⟩) (fun k => k ≤ l.length ∧ k ≤ m.length ∧ l.take k = m.take k) (fun k => l.length - k) 0 (by kernel_rfl) (by simp) (by simp [St.le]) ?_
  intro k ⟨hk, hk', heq⟩
  have hw : IntKind.i64.wrap ((k : Int) + 1) = (k : Int) + 1 := IntWalk.i64_in _ (by omega)
  by_cases hlt : k < l.length ∧ k < m.length
  · obtain ⟨h1, h2⟩ := hlt
    simp -dsimp [h1, h2]
    refine VL.draw (by kernel_rfl) [(0, false), (0, false), (3, false), (7, false), (0, false), (0, false), (48, false), (112, false), (255, true), (511, true)] (by kernel_rfl) ?_
    simp -dsimp [h1, h2]
    refine VC.mk _ (refOne_at _ _ l[k] m[k] rfl rfl) ?_
    simp -dsimp
    refine VIf.mk (fun h => ?_) (fun h => ?_)
    · simp at h
      simp -dsimp
      exact (cmpR_at heq h1 h2 h).symm
    · simp at h
      simp -dsimp [hw]
      refine ⟨k + 1, ⟨by omega, by omega, take_step h1 h2 heq ((cmpV_0 _ _).1 h)⟩, ?_, by omega⟩
      simp [St.le]
  · have hend := cmpR_end heq hk hk' (by omega)
    by_cases h1 : k < l.length
    · have h2 : ¬ k < m.length := fun h => hlt ⟨h1, h⟩
      simp -dsimp [h1, h2]
      refine VIf.mk (fun h3 => ?_) (fun h3 => ?_)
      · simp at h3; omega
      · simp -dsimp
        refine VIf.mk (fun h4 => ?_) (fun h4 => ?_)
        · simp -dsimp
          simp at h4
          rw [hend, if_neg (by omega), if_pos (by omega)]
        · simp at h4; omega
    · simp -dsimp [h1]
      refine VIf.mk (fun h3 => ?_) (fun h3 => ?_)
      · simp -dsimp
        simp at h3
        rw [hend, if_pos (by omega)]
      · simp -dsimp
        simp at h3
        refine VIf.mk (fun h4 => ?_) (fun h4 => ?_)
        · simp at h4; omega
        · simp -dsimp
          simp at h4
          rw [hend, if_neg (by omega), if_neg (by omega)]
end Go.Proofs.Ytkfiiomdkljjnaa
