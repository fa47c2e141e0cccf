/- Contracts: the same rows and facts; copies; which values and facts are right. -/
import Derived.Test.YtkfiiomdkljjnaaD1
set_option linter.unusedSimpArgs false
set_option linter.unusedVariables false
namespace Go.Proofs.Ytkfiiomdkljjnaa
open Go.VL Go.RowKit

set_option maxRecDepth 4000 in
set_option maxHeartbeats 8000000 in
theorem refSame_spec (na nb : Bool) (l m : List Val) (hl : l.length ≤ 140737488355328) : Con Try.prog 35 [.c (.sl na (vals l)), .c (.sl nb (vals m))] [.c (bln (decide (l = m)))] := by
  refine spec_of Try.func35 rfl (by kernel_rfl) (by simp [Try.f35]) (fun w0 K0 => vc_ok _ _ _ (by kernel_rfl) ?_)
  simp only [Try.f35]
  simp -dsimp
  refine VG.mk [.c (i64 (cmpR l m))] _ (fun _ => refCompare_spec na nb l m hl) rfl ?_
  simp -dsimp
  have h0 := cmpR_0 l m
  rw [Bool.eq_iff_iff]
  by_cases h : l = m
  · subst h; simp [h0]
  · have : ¬ cmpR l m = 0 := fun e => h (h0.1 e)
    simp [h, this]
theorem refSame_at (na nb : Bool) (xs ys : List (List C)) (l m : List Val) (h : xs = vals l) (h' : ys = vals m) (hl : l.length ≤ 140737488355328) : Con Try.prog 35 [.c (.sl na xs), .c (.sl nb ys)] [.c (bln (decide (l = m)))] := by
  rw [h, h']; exact refSame_spec na nb l m hl

/-- rows that a machine can hold -/
def Rows1 (l : List Fact) : Prop := ∀ f ∈ l, f.row.length ≤ 4294967296
theorem strips_step {l m : List Fact} {k : Nat} (h : k < l.length) (h' : k < m.length) (e : strips (l.take k) = strips (m.take k)) (e' : l[k].strip = m[k].strip) : strips (l.take (k + 1)) = strips (m.take (k + 1)) := by
  unfold strips at *
  rw [take_snoc h, take_snoc h', List.map_append, List.map_append, e]
  simp [e']

set_option maxRecDepth 4000 in
set_option maxHeartbeats 8000000 in
theorem sameF_spec (na nb : Bool) (l m : List Fact) (hl : l.length ≤ 140737488355328) (hr : Rows1 l) : Con Try.prog 12 [.c (.sl na (facts l)), .c (.sl nb (facts m))] [.c (bln (decide (strips l = strips m)))] := by
  refine spec_of Try.func12 rfl (by kernel_rfl) (by simp [Try.f12]) (fun w0 K0 => vc_ok _ _ _ (by kernel_rfl) ?_)
  simp only [Try.f12]
  simp -dsimp
  refine VIf.mk (fun h => ?_) (fun h => ?_)
  · simp -dsimp
    intro e
    have := congrArg List.length e
    simp [strips] at this
    simp [this] at h
  have hlen : l.length = m.length := by simp at h; omega
  simp -dsimp
  refine VL.loop (fun k : Nat => ⟨[(5, .c (i64 k)), (0, .c (.sl na (facts l))), (1, .c (.sl nb (facts m)))], []⟩) (fun k => k ≤ l.length ∧ strips (l.take k) = strips (m.take k)) (fun k => l.length - k) 0 (by kernel_rfl) (by simp) (by simp [St.le]) ?_
  intro k ⟨hk, heq⟩
  by_cases h1 : k < l.length
  · have h2 : k < m.length := by omega
    have hw : IntKind.i64.wrap ((k : Int) + 1) = (k : Int) + 1 := IntWalk.i64_in _ (by omega)
    have hrk := hr l[k] (List.getElem_mem h1)
    have hp : ∀ p q : Per, (!(p.f == q.f && p.t == q.t)) = !decide (p = q) := by
      intro p q; cases p; cases q; rw [Bool.eq_iff_iff]; simp
    simp -dsimp [h1, h2]
    refine VL.draw (by kernel_rfl) [(0, false), (0, false), (3, false), (7, false), (15, false), (0, false), (0, false), (96, false), (224, false), (480, false), (1023, true), (2047, true), (4095, false), (4095, false), (16383, false), (32767, false), (65535, false), (4095, false), (4095, false), (397311, false), (921599, false), (1970175, false), (4194303, true), (8388607, true), (16777215, true)] (by kernel_rfl) ?_
    simp -dsimp [h1, h2, Fact.cells]
    refine VG.mk [.c (bln (decide (l[k].row = m[k].row)))] _ (fun _ => refSame_spec _ _ _ _ (by omega)) rfl ?_
    simp -dsimp
    refine VIf.mk (fun h => ?_) (fun h => ?_)
    · simp -dsimp
      intro e
      have e2 : l[k].strip = m[k].strip := by
        have a1 : (strips l)[k]? = some l[k].strip := by simp [strips, h1]
        have a2 : (strips m)[k]? = some m[k].strip := by simp [strips, h2]
        rw [e, a2] at a1
        exact (Option.some.inj a1).symm
      simp [Fact.strip] at e2
      simp [e2] at h
    · simp -dsimp [hw]
      refine ⟨k + 1, ⟨by omega, strips_step h1 h2 heq ?_⟩, ?_, by omega⟩
      · simp at h
        unfold Fact.strip
        obtain ⟨⟨a1, a2⟩, a3⟩ := h
        have : l[k].p = m[k].p := by
          cases hx : l[k].p; cases hy : m[k].p; rw [hx, hy] at a1 a2; simp at a1 a2; simp [a1, a2]
        rw [this, a3]
      · simp [St.le]
  · obtain rfl : k = l.length := by omega
    simp -dsimp
    rw [List.take_length, hlen, List.take_length] at heq
    exact heq

set_option maxRecDepth 4000 in
set_option maxHeartbeats 8000000 in
theorem copied_spec (nl : Bool) (l : List Val) (hl : l.length ≤ 4294967296) : Con Try.prog 31 [.c (.sl nl (vals l))] [.fr false 3 (vals l) 0] := by
  refine spec_of Try.func31 rfl (by kernel_rfl) (by simp [Try.f31]) (fun w0 K0 => vc_ok _ _ _ (by kernel_rfl) ?_)
  simp only [Try.f31]
  simp -dsimp [maxLen]
  omega

set_option maxRecDepth 4000 in
set_option maxHeartbeats 8000000 in
theorem copy_spec (nl : Bool) (l : List Val) (hl : l.length ≤ 4294967296) : Con Try.prog 44 [.c (.sl nl (vals l))] [.fr false 3 (vals l) 0] := by
  refine spec_of Try.func44 rfl (by kernel_rfl) (by simp [Try.f44]) (fun w0 K0 => vc_ok _ _ _ (by kernel_rfl) ?_)
  simp only [Try.f44]
  simp -dsimp [maxLen]
  omega

set_option maxRecDepth 4000 in
set_option maxHeartbeats 8000000 in
theorem checkV_spec (nl : Bool) (l : List Val) (hl : l.length ≤ 140737488355328) : Con Try.prog 36 [.c (.sl nl (vals l))] [.c (i64 (badR l))] := by
  refine spec_of Try.func36 rfl (by kernel_rfl) (by simp [Try.f36]) (fun w0 K0 => vc_ok _ _ _ (by kernel_rfl) ?_)
  simp only [Try.f36]
  simp -dsimp
  refine VL.loop (fun k : Nat => ⟨[(7, .c (i64 k)), (6, .c (i64 l.length)), (5, .c (.sl nl (vals l)))], []⟩) (fun k => k ≤ l.length ∧ badR (l.take k) = 0) (fun k => l.length - k) 0 (by kernel_rfl) (by simp [badR]) (by simp [St.le]) ?_
  intro k ⟨hk, hbef⟩
  by_cases h1 : k < l.length
  · have hw : IntKind.i64.wrap ((k : Int) + 1) = (k : Int) + 1 := IntWalk.i64_in _ (by omega)
    have hat := badR_at l h1 hbef
    have hst := badR_stop l h1 hbef
    simp -dsimp [h1, Val.cells]
    refine VIf.mk (fun h => ?_) (fun h => ?_)
    · have hv : badV l[k] = 0 := by unfold badV; simp at h; simp [h]
      rw [hv] at hat
      simp -dsimp [h, hw]
      refine ⟨k + 1, ⟨by omega, hat⟩, ?_, by omega⟩
      simp [St.le]
    · simp at h
      simp -dsimp [hw]
      refine VIf.mk (fun h2 => ?_) (fun h2 => ?_)
      · have hv : badV l[k] = 0 := by unfold badV; simp at h2; rw [if_pos]; right; exact ⟨h2.1.1, h2.1.2, by omega⟩
        rw [hv] at hat
        simp -dsimp [h2, hw]
        refine ⟨k + 1, ⟨by omega, hat⟩, ?_, by omega⟩
        simp [St.le]
      · simp -dsimp [h2, hw]
        simp at h2
        refine VIf.mk (fun h3 => ?_) (fun h3 => ?_)
        · simp at h3
          have hv : badV l[k] = 2 := by
            unfold badV; rw [if_neg, if_pos h3]
            rintro (⟨a, b⟩ | ⟨a, b, c⟩)
            · exact h a b
            · have := h2 a b; omega
          rw [hv] at hst
          simp -dsimp
          exact (hst (by decide)).symm
        · simp at h3
          have hv : badV l[k] = 21 := by
            unfold badV; rw [if_neg, if_neg (fun e => h3 e.1 e.2)]
            rintro (⟨a, b⟩ | ⟨a, b, c⟩)
            · exact h a b
            · exact h3 a b
          rw [hv] at hst
          simp -dsimp
          exact (hst (by decide)).symm
  · obtain rfl : k = l.length := by omega
    simp -dsimp
    rw [List.take_length] at hbef
    exact hbef.symm

set_option maxRecDepth 4000 in
set_option maxHeartbeats 8000000 in
theorem refCheckV_spec (nl : Bool) (l : List Val) (hl : l.length ≤ 140737488355328) : Con Try.prog 38 [.c (.sl nl (vals l))] [.c (i64 (badR l))] := by
  refine spec_of Try.func38 rfl (by kernel_rfl) (by simp [Try.f38]) (fun w0 K0 => vc_ok _ _ _ (by kernel_rfl) ?_)
  simp only [Try.f38]
  simp -dsimp
  refine VL.loop (fun k : Nat => ⟨[(3, .c (i64 k)), (0, .c (.sl nl (vals l)))], []⟩) (fun k => k ≤ l.length ∧ badR (l.take k) = 0) (fun k => l.length - k) 0 (by kernel_rfl) (by simp [badR]) (by simp [St.le]) ?_
  intro k ⟨hk, hbef⟩
  by_cases h1 : k < l.length
  · have hw : IntKind.i64.wrap ((k : Int) + 1) = (k : Int) + 1 := IntWalk.i64_in _ (by omega)
    have hat := badR_at l h1 hbef
    have hst := badR_stop l h1 hbef
    simp -dsimp [h1, Val.cells]
    refine ⟨by grind, by grind, by grind, by grind, VIf.mk (fun h => ?_) (fun h => ?_)⟩
    · have hv : badV l[k] = 21 := by
        unfold badV
        simp at h
        rw [if_neg, if_neg]
        · grind
        · grind
      rw [hv] at hst
      simp -dsimp
      exact (hst (by decide)).symm
    · simp at h
      simp -dsimp
      refine VIf.mk (fun h2 => ?_) (fun h2 => ?_)
      · have hv : badV l[k] = 2 := by
          unfold badV
          simp at h2
          rw [if_neg, if_pos]
          · grind
          · grind
        rw [hv] at hst
        simp -dsimp
        exact (hst (by decide)).symm
      · have hv : badV l[k] = 0 := by
          unfold badV
          simp at h2
          rw [if_pos]
          grind
        rw [hv] at hat
        simp -dsimp [hw]
        refine ⟨k + 1, ⟨by omega, hat⟩, ?_, by omega⟩
        simp [St.le]
  · obtain rfl : k = l.length := by omega
    simp -dsimp
    rw [List.take_length] at hbef
    exact hbef.symm
end Go.Proofs.Ytkfiiomdkljjnaa
