/- Contracts of functions of the seat, proved in a logic on data over the model (part Q13). -/
import Derived.Test.YtdpjdmgdngjjnaaQ9
set_option linter.unusedSimpArgs false
set_option linter.unusedVariables false
namespace Go.Proofs.Ytdpjdmgdngjjnaa
open Go.VL Go.RowKit

/-- how two that are right stand to each other -/
def relN (a b : Per) : Int :=
  if a.t < b.f then 1 else if a.t = b.f then 2 else if b.t < a.f then 13 else if b.t = a.f then 12 else
      if a.f < b.f then (if a.t < b.t then 3 else if a.t = b.t then 8 else 9)
      else if a.f = b.f then (if a.t < b.t then 4 else if a.t = b.t then 7 else 10)
      else (if a.t < b.t then 5 else if a.t = b.t then 6 else 11)
theorem relOf_eq (a b : Per) : relOf a b = if right a && right b then (relN a b, 0) else (0, 40) := rfl
theorem relN_turn (a b : Per) (ha : a.f < a.t) (hb : b.f < b.t) : relN a b + relN b a = 14 := by
  unfold relN
  repeat' split
  all_goals omega
theorem relN_1 (a b : Per) : relN a b = 1 ↔ a.t < b.f := by
  unfold relN
  repeat' split
  all_goals omega
theorem relN_7 (a b : Per) (h : relN a b = 7) : a.f = b.f ∧ a.t = b.t := by
  unfold relN at h
  repeat' split at h
  all_goals omega
theorem relN_r (a b : Per) : 1 ≤ relN a b ∧ relN a b ≤ 13 := by
  unfold relN
  repeat' split
  all_goals omega
theorem relate_at (cs ds : List C) (a b : Per) (h : cs = a.cells) (h' : ds = b.cells) : Con Try.prog 19 [.agg cs, .agg ds] [.c (i64 (relOf a b).1), .c (i64 (relOf a b).2)] := by
  rw [h, h']; exact relate_spec a b

set_option maxRecDepth 4000 in
set_option maxHeartbeats 16000000 in
theorem turns_spec {sortP : List Per → List Per} (hs : Sorts sortP) (a b c : Per) : Con Try.prog 6 [.agg a.cells, .agg b.cells, .agg c.cells] [.c (bln true)] := by
  refine spec_of Try.func6 rfl (by kernel_rfl) (by simp [Try.f6]) (fun w0 K0 => vc_ok _ _ _ (by kernel_rfl) ?_)
  simp only [Try.f6]
  simp -dsimp [Per.cells]
  refine VC.mk _ (awake_spec hs) ?_
  simp -dsimp
  have hab := relate_at _ _ a b rfl rfl
  have hba := relate_at _ _ b a rfl rfl
  have hbc := relate_at _ _ b c rfl rfl
  have hac := relate_at _ _ a c rfl rfl
  rw [relOf_eq] at hab hba hbc hac
  simp only [Per.cells] at hab hba hbc hac
  cases hra : right a && right b with
  | false =>
    have hrb : (right b && right a) = false := by rw [Bool.and_comm]; exact hra
    rw [hra] at hab
    rw [hrb] at hba
    refine VC.mk _ hab ?_
    simp -dsimp
    refine VC.mk _ hba ?_
    simp -dsimp
  | true =>
    have hrb : (right b && right a) = true := by rw [Bool.and_comm]; exact hra
    rw [hra] at hab
    rw [hrb] at hba
    simp only [Bool.and_eq_true] at hra
    have h1 := (right_iff a).1 hra.1
    have h2 := (right_iff b).1 hra.2
    have hsum := relN_turn a b (by omega) (by omega)
    have hseven := relN_7 a b
    have e1 := relN_1 a b
    have e2 := relN_1 b c
    have e3 := relN_1 a c
    have w14 : IntKind.i64.wrap 14 = 14 := by decide
    rw [hra.2] at hbc
    rw [hra.1] at hac
    refine VC.mk _ hab ?_
    simp -dsimp
    refine VC.mk _ hba ?_
    simp -dsimp
    cases hrc : right c with
    | false =>
      rw [hrc] at hbc hac
      refine VC.mk _ hbc ?_
      simp -dsimp
      refine VC.mk _ hac ?_
      simp -dsimp [hsum, w14]
      by_cases h7 : relN a b = 7
      · exact .inr (hseven h7)
      · exact .inl h7
    | true =>
      rw [hrc] at hbc hac
      have h3 := (right_iff c).1 hrc
      refine VC.mk _ hbc ?_
      simp -dsimp
      refine VC.mk _ hac ?_
      simp -dsimp [hsum, w14]
      have k1 : (¬relN a b = 1 ∨ ¬relN b c = 1) ∨ relN a c = 1 := by
        rw [e1, e2, e3]; omega
      have k2 : ¬relN a b = 7 ∨ a.f = b.f ∧ a.t = b.t := by
        by_cases h7 : relN a b = 7
        · exact .inr (hseven h7)
        · exact .inl h7
      exact ⟨fun _ => ⟨k1, fun h => ⟨k1, h⟩⟩, k1, k2⟩
end Go.Proofs.Ytdpjdmgdngjjnaa
