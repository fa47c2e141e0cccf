/- Contracts of functions of the seat, proved in a logic on data over the model (part Q16). -/
import Derived.Test.YtdpjdmgdngjjnaaQ13
import Derived.Test.YtdpjdmgdngjjnaaV31
import Derived.Test.YtdpjdmgdngjjnaaV33
set_option linter.unusedSimpArgs false
set_option linter.unusedVariables false
namespace Go.Proofs.Ytdpjdmgdngjjnaa
open Go.VL Go.RowKit

theorem overlap_at (cs ds : List C) (a b : Per) (h : cs = a.cells) (h' : ds = b.cells) : Con Try.prog 18 [.agg cs, .agg ds] [.ag (lap a b).cells, .c (bln (lapOk a b))] := by
  rw [h, h']; exact overlap_spec a b
theorem refRelate_at (cs ds : List C) (a b : Per) (h : cs = a.cells) (h' : ds = b.cells) : Con Try.prog 20 [.agg cs, .agg ds] [.c (i64 (relOf a b).1), .c (i64 (relOf a b).2)] := by
  rw [h, h']; exact refRelate_spec a b
theorem refHas_at (cs : List C) (p : Per) (t : Int) (h : cs = p.cells) : Con Try.prog 22 [.agg cs, .c (i64 t)] [.c (bln (has p t))] := by rw [h]; exact refHas_spec p t

theorem lap_iff (a b : Per) (ha : right a = true) (hb : right b = true) : lapOk a b = true ↔ 2 < relN a b ∧ relN a b < 12 := by
  have h1 := (right_iff a).1 ha
  have h2 := (right_iff b).1 hb
  have e : lapOk a b = true ↔ max a.f b.f < min a.t b.t := by
    unfold lapOk lapP
    rw [ha, hb, Bool.true_and, Bool.true_and, right_iff]
    simp only
    omega
  rw [e]
  unfold relN
  repeat' split
  all_goals omega

set_option maxRecDepth 4000 in
set_option maxHeartbeats 16000000 in
theorem relates_spec {sortP : List Per → List Per} (hs : Sorts sortP) (a b : Per) (t : Int) : Con Try.prog 8 [.agg a.cells, .agg b.cells, .c (i64 t)] [.c (bln true)] := by
  refine spec_of Try.func8 rfl (by kernel_rfl) (by simp [Try.f8]) (fun w0 K0 => vc_ok _ _ _ (by kernel_rfl) ?_)
  simp only [Try.f8]
  simp -dsimp [Per.cells]
  have r0 := relate_at [i64 1, i64 5] [i64 3, i64 9] ⟨1, 5⟩ ⟨3, 9⟩ rfl rfl
  rw [show relOf ⟨1, 5⟩ ⟨3, 9⟩ = (3, 0) from by decide] at r0
  refine VC.mk _ r0 ?_
  simp -dsimp
  refine VG.mk [.c (bln true)] _ (fun _ => awake_spec hs) rfl ?_
  simp -dsimp
  have e0 : ∀ p : Per, (checkOf p == 0) = right p := fun p => by unfold checkOf; cases right p <;> rfl
  cases hr : right a && right b with
  | false =>
    have r1 := relate_at [i64 a.f, i64 a.t] [i64 b.f, i64 b.t] a b rfl rfl
    have r2 := refRelate_at [i64 a.f, i64 a.t] [i64 b.f, i64 b.t] a b rfl rfl
    rw [relOf_eq, hr] at r1 r2
    have hlo : lapOk a b = false := by unfold lapOk; rw [hr]; rfl
    have hl := overlap_at [i64 a.f, i64 a.t] [i64 b.f, i64 b.t] a b rfl rfl
    rw [lap, hlo] at hl
    refine VC.mk _ r1 ?_
    simp -dsimp
    refine VC.mk _ r2 ?_
    simp -dsimp
    refine VL.to ⟨[(9, .c (i64 0)), (10, .c (i64 40)), (11, .c (i64 0)), (12, .c (i64 40)), (2, .c (i64 t)), (3, .ptr 192 0), (4, .ptr 256 0)], [(192, some (.box false [.c (i64 a.f), .c (i64 a.t)])), (256, some (.box false [.c (i64 b.f), .c (i64 b.t)]))]⟩ (by simp [St.le]) ?_
    refine VL.draw (by kernel_rfl) [(0, false), (0, false), (3, true), (7, true), (15, false), (15, false), (63, true), (127, true), (255, true), (511, false), (1023, false), (2047, false), (511, false), (6143, false), (16383, true), (32767, true), (65535, true), (131071, false), (131071, false), (524287, false), (131071, false), (131071, false), (4194303, true), (8388607, true), (16777215, true)] (by kernel_rfl) ?_
    simp -dsimp
    refine VG.mk [.c (i64 (checkOf a))] _ (fun _ => check_at _ a rfl) rfl ?_
    simp -dsimp [e0]
    refine VG.mk [.c (bln (right a))] _ (fun _ => refRight_at _ a rfl) rfl ?_
    simp -dsimp [e0]
    refine VG.mk [.c (bln (has a t))] _ (fun _ => has_at _ a t rfl) rfl ?_
    simp -dsimp
    refine VG.mk [.c (bln (has a t))] _ (fun _ => refHas_at _ a t rfl) rfl ?_
    simp -dsimp
    refine VC.mk _ hl ?_
    simp -dsimp [Per.cells]
  | true =>
    have hrb := hr
    simp only [Bool.and_eq_true] at hrb
    have r1 := relate_at [i64 a.f, i64 a.t] [i64 b.f, i64 b.t] a b rfl rfl
    have r2 := refRelate_at [i64 a.f, i64 a.t] [i64 b.f, i64 b.t] a b rfl rfl
    rw [relOf_eq, hr] at r1 r2
    have hl := overlap_at [i64 a.f, i64 a.t] [i64 b.f, i64 b.t] a b rfl rfl
    have hli := lap_iff a b hrb.1 hrb.2
    refine VC.mk _ r1 ?_
    simp -dsimp
    refine VC.mk _ r2 ?_
    simp -dsimp
    generalize relN a b = n at *
    refine VL.to ⟨[(9, .c (i64 n)), (10, .c (i64 0)), (11, .c (i64 n)), (12, .c (i64 0)), (2, .c (i64 t)), (3, .ptr 192 0), (4, .ptr 256 0)], [(192, some (.box false [.c (i64 a.f), .c (i64 a.t)])), (256, some (.box false [.c (i64 b.f), .c (i64 b.t)]))]⟩ (by simp [St.le]) ?_
    refine VL.draw (by kernel_rfl) [(0, false), (0, false), (3, true), (7, true), (15, false), (15, false), (63, true), (127, true), (255, true), (511, false), (1023, false), (2047, false), (511, false), (6143, false), (16383, true), (32767, true), (65535, true), (131071, false), (131071, false), (524287, false), (131071, false), (131071, false), (4194303, true), (8388607, true), (16777215, true)] (by kernel_rfl) ?_
    simp -dsimp
    refine VG.mk [.c (i64 (checkOf a))] _ (fun _ => check_at _ a rfl) rfl ?_
    simp -dsimp
    refine VG.mk [.c (bln (right a))] _ (fun _ => refRight_at _ a rfl) rfl ?_
    simp -dsimp [e0]
    refine VG.mk [.c (bln (has a t))] _ (fun _ => has_at _ a t rfl) rfl ?_
    simp -dsimp
    refine VG.mk [.c (bln (has a t))] _ (fun _ => refHas_at _ a t rfl) rfl ?_
    simp -dsimp
    refine VC.mk _ hl ?_
    cases hlo : lapOk a b with
    | false =>
      have hn : n ≤ 2 ∨ 12 ≤ n := by
        have := mt hli.2 (by simp [hlo])
        omega
      have hl2 : lap a b = ⟨0, 0⟩ := by simp [lap, hlo]
      simp -dsimp [hl2, Per.cells]
      refine VIf.mk (fun _ => ?_) (fun h => ?_)
      · simp -dsimp
      · exfalso
        simp at h
        omega
    | true =>
      have hn := hli.1 hlo
      have hl2 : lap a b = ⟨max a.f b.f, min a.t b.t⟩ := by simp [lap, hlo, lapP]
      simp -dsimp [hl2, Per.cells]
      refine VIf.mk (fun h => ?_) (fun h => ?_)
      · exfalso
        simp at h
        omega
      · simp -dsimp
end Go.Proofs.Ytdpjdmgdngjjnaa
