/- Contracts: who is alike in the keys. -/
import Derived.Test.YtkfiiomdkljjnaaD4
set_option linter.unusedSimpArgs false
set_option linter.unusedVariables false
namespace Go.Proofs.Ytkfiiomdkljjnaa
open Go.VL Go.RowKit

def icell (k : Int) : List C := [i64 k]
@[simp] theorem icell_len (k : Int) : (icell k).length = 1 := rfl
theorem all_snoc {α : Type} (p : α → Bool) {l : List α} {k : Nat} (h : k < l.length) : (l.take (k + 1)).all p = ((l.take k).all p && p l[k]) := by
  rw [take_snoc h, List.all_append]; simp
theorem all_stop {α : Type} (p : α → Bool) {l : List α} {k : Nat} (h : k < l.length) (hp : p l[k] = false) : l.all p = false := by
  rw [List.all_eq_false]
  exact ⟨l[k], List.getElem_mem h, by simp [hp]⟩
theorem alikeK_in (a b : List Val) (n : Nat) (h : n < a.length) (h' : n < b.length) : alikeK a b (n : Int) = decide (a[n] = b[n]) := by
  unfold alikeK
  rw [Bool.eq_iff_iff]
  simp [h, h']

set_option maxRecDepth 4000 in
set_option maxHeartbeats 16000000 in
theorem alike_spec (na nb nk : Bool) (a b : List Val) (keys : List Int) (ha : a.length ≤ 140737488355328) (hb : b.length ≤ 140737488355328) (hk : keys.length ≤ 140737488355328) :
    Con Try.prog 32 [.c (.sl na (vals a)), .c (.sl nb (vals b)), .c (.dp [.sl nk (keys.map icell)])] [.c (bln (alike a b keys))] := by
  refine spec_of Try.func32 rfl (by kernel_rfl) (by simp [Try.f32]) (fun w0 K0 => vc_ok _ _ _ (by kernel_rfl) ?_)
  simp only [Try.f32]
  simp -dsimp
  refine VL.loop (fun k : Nat => ⟨[(10, .c (i64 k)), (9, .c (i64 keys.length)), (8, .c (.sl nk (keys.map icell))), (0, .c (.sl na (vals a))), (1, .c (.sl nb (vals b))), (2, .c (.dp [.sl nk (keys.map icell)]))], []⟩)
    (fun k => k ≤ keys.length ∧ (keys.take k).all (alikeK a b) = true) (fun k => keys.length - k) 0 (by kernel_rfl) ⟨by simp, rfl⟩ (by simp [St.le]) ?_
  intro k ⟨hk2, hall⟩
  by_cases h1 : k < keys.length
  · have hw : IntKind.i64.wrap ((k : Int) + 1) = (k : Int) + 1 := IntWalk.i64_in _ (by omega)
    have hsn := all_snoc (alikeK a b) h1
    have hst := all_stop (alikeK a b) h1
    rw [hall, Bool.true_and] at hsn
    simp -dsimp [h1, icell]
    generalize keys[k] = x at hsn hst ⊢
    by_cases hx : x < 0
    · have hf : alikeK a b x = false := by unfold alikeK; simp; omega
      refine VL.draw (by kernel_rfl) [(0, true), (1, true), (3, true), (7, false), (7, false), (23, false), (63, true), (127, true), (255, true), (511, false), (511, false), (1535, false), (4095, true), (8191, true), (16383, true), (32767, false), (32767, false), (131071, false), (262143, false), (32767, false), (32767, false), (1605631, false), (3702783, false), (8388607, true), (16777215, true)] (by kernel_rfl) ?_
      simp -dsimp [hx]
      unfold alike; rw [hst hf]; rfl
    · obtain ⟨n, rfl⟩ := Int.eq_ofNat_of_zero_le (by omega : 0 ≤ x)
      have hn0 : ((n : Int) < 0) = False := by simp
      refine VL.draw (by kernel_rfl) [(0, true), (1, true), (3, true), (7, false), (7, false), (23, false), (63, true), (127, true), (255, true), (511, false), (511, false), (1535, false), (4095, true), (8191, true), (16383, true), (32767, false), (32767, false), (131071, false), (262143, false), (32767, false), (32767, false), (1605631, false), (3702783, false), (8388607, true), (16777215, true)] (by kernel_rfl) ?_
      by_cases hna : n < a.length
      · have e1 : ((a.length : Int) ≤ (n : Int)) = False := by simp; omega
        by_cases hnb : n < b.length
        · have e2 : ((b.length : Int) ≤ (n : Int)) = False := by simp; omega
          simp -dsimp [hn0, e1, e2, hna, hnb, Val.cells]
          have hin := alikeK_in a b n hna hnb
          refine VIf.mk (fun h => ?_) (fun h => ?_)
          · simp -dsimp
            have hf : alikeK a b (n : Int) = false := by
              rw [hin, decide_eq_false_iff_not]; intro e; rw [e] at h; simp at h
            unfold alike; rw [hst hf]; rfl
          · simp -dsimp [hw]
            have hf : alikeK a b (n : Int) = true := by
              rw [hin, decide_eq_true_iff]
              simp at h
              cases hx : a[n]; cases hy : b[n]; rw [hx, hy] at h; simp at h; simp [h]
            refine ⟨k + 1, ⟨by omega, by have e := hsn.trans hf; simpa using e⟩, ?_, by omega⟩
            simp [St.le, icell]
        · have e2 : ((b.length : Int) ≤ (n : Int)) = True := by simp; omega
          have hf : alikeK a b (n : Int) = false := by unfold alikeK; simp; omega
          simp -dsimp [hn0, e1, e2, hna, hnb]
          unfold alike; rw [hst hf]; rfl
      · have e1 : ((a.length : Int) ≤ (n : Int)) = True := by simp; omega
        have hf : alikeK a b (n : Int) = false := by unfold alikeK; simp; omega
        simp -dsimp [hn0, e1, hna]
        unfold alike; rw [hst hf]; rfl
  · obtain rfl : k = keys.length := by omega
    simp -dsimp
    rw [List.take_length] at hall
    unfold alike
    rw [hall, Bool.true_and]
set_option maxRecDepth 4000 in
set_option maxHeartbeats 16000000 in
theorem refAlike_spec (na nb nk : Bool) (a b : List Val) (keys : List Int) (ha : a.length ≤ 140737488355328) (hb : b.length ≤ 140737488355328) (hk : keys.length ≤ 140737488355328) :
    Con Try.prog 34 [.c (.sl na (vals a)), .c (.sl nb (vals b)), .c (.sl nk (keys.map icell))] [.c (bln (alike a b keys))] := by
  refine spec_of Try.func34 rfl (by kernel_rfl) (by simp [Try.f34]) (fun w0 K0 => vc_ok _ _ _ (by kernel_rfl) ?_)
  simp only [Try.f34]
  simp -dsimp
  refine VL.loop (fun k : Nat => ⟨[(7, .c (i64 k)), (0, .c (.sl na (vals a))), (1, .c (.sl nb (vals b))), (2, .c (.sl nk (keys.map icell)))], []⟩)
    (fun k => k ≤ keys.length ∧ (keys.take k).all (alikeK a b) = true) (fun k => keys.length - k) 0 (by kernel_rfl) ⟨by simp, rfl⟩ (by simp [St.le]) ?_
  intro k ⟨hk2, hall⟩
  by_cases h1 : k < keys.length
  · have hw : IntKind.i64.wrap ((k : Int) + 1) = (k : Int) + 1 := IntWalk.i64_in _ (by omega)
    have hsn := all_snoc (alikeK a b) h1
    have hst := all_stop (alikeK a b) h1
    rw [hall, Bool.true_and] at hsn
    simp -dsimp [h1, icell]
    generalize keys[k] = x at hsn hst ⊢
    by_cases hx : x < 0
    · have hf : alikeK a b x = false := by unfold alikeK; simp; omega
      refine VL.draw (by kernel_rfl) [(0, true), (1, true), (3, true), (7, false), (7, false), (23, false), (63, true), (127, true), (255, true), (511, false), (511, false), (1535, false), (4095, true), (8191, true), (16383, true), (32767, false), (32767, false), (131071, false), (262143, false), (32767, false), (32767, false), (1605631, false), (3702783, false), (8388607, true), (16777215, true)] (by kernel_rfl) ?_
      simp -dsimp [hx]
      unfold alike; rw [hst hf]; rfl
    · obtain ⟨n, rfl⟩ := Int.eq_ofNat_of_zero_le (by omega : 0 ≤ x)
      have hn0 : ((n : Int) < 0) = False := by simp
      refine VL.draw (by kernel_rfl) [(0, true), (1, true), (3, true), (7, false), (7, false), (23, false), (63, true), (127, true), (255, true), (511, false), (511, false), (1535, false), (4095, true), (8191, true), (16383, true), (32767, false), (32767, false), (131071, false), (262143, false), (32767, false), (32767, false), (1605631, false), (3702783, false), (8388607, true), (16777215, true)] (by kernel_rfl) ?_
      by_cases hna : n < a.length
      · have e1 : ((a.length : Int) ≤ (n : Int)) = False := by simp; omega
        by_cases hnb : n < b.length
        · have e2 : ((b.length : Int) ≤ (n : Int)) = False := by simp; omega
          simp -dsimp [hn0, e1, e2, hna, hnb, Val.cells]
          have hin := alikeK_in a b n hna hnb
          refine VIf.mk (fun h => ?_) (fun h => ?_)
          · simp -dsimp
            have hf : alikeK a b (n : Int) = false := by
              rw [hin, decide_eq_false_iff_not]; intro e; rw [e] at h; simp at h
            unfold alike; rw [hst hf]; rfl
          · simp -dsimp [hw]
            have hf : alikeK a b (n : Int) = true := by
              rw [hin, decide_eq_true_iff]
              simp at h
              cases hx : a[n]; cases hy : b[n]; rw [hx, hy] at h; simp at h; simp [h]
            refine ⟨k + 1, ⟨by omega, by have e := hsn.trans hf; simpa using e⟩, ?_, by omega⟩
            simp [St.le, icell]
        · have e2 : ((b.length : Int) ≤ (n : Int)) = True := by simp; omega
          have hf : alikeK a b (n : Int) = false := by unfold alikeK; simp; omega
          simp -dsimp [hn0, e1, e2, hna, hnb]
          unfold alike; rw [hst hf]; rfl
      · have e1 : ((a.length : Int) ≤ (n : Int)) = True := by simp; omega
        have hf : alikeK a b (n : Int) = false := by unfold alikeK; simp; omega
        simp -dsimp [hn0, e1, hna]
        unfold alike; rw [hst hf]; rfl
  · obtain rfl : k = keys.length := by omega
    simp -dsimp
    rw [List.take_length] at hall
    unfold alike
    rw [hall, Bool.true_and]
end Go.Proofs.Ytkfiiomdkljjnaa
