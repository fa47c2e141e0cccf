/- Contracts of functions of the seat, proved in a logic on data over the model (part P5). -/
import Derived.Test.YtlmnablagocfiaaP3b
import Derived.Test.YtlmnablagocfiaaP3c
namespace Go.Proofs.Ytlmnablagocfiaa
open Go.VL Go.RowKit

def zeroE : Ent := ⟨0, 0, 0, 0, 0, true, []⟩
/-- the entry of bytes -/
def mkE (k : UInt8) (r : List UInt8) : Ent :=
  if k.toNat = 3 then ⟨3, IntKind.i64.wrap (getB (r.take 8)), 0, 0, IntKind.i64.wrap (getB ((r.drop 8).take 8)), true, []⟩
  else ⟨k.toNat, IntKind.i64.wrap (getB (r.take 8)), getB ((r.drop 8).take 2), (r.getD 10 0).toNat, 0, false, r.drop 11⟩
def need (k : UInt8) : Nat := if k.toNat = 3 then 17 else 12
def dec : List UInt8 → Ent × Int
  | [] => (zeroE, 20)
  | k :: r =>
    if k.toNat < 1 ∨ 3 < k.toNat then (zeroE, 21)
    else if r.length + 1 < need k then (zeroE, 20)
    else if k.toNat ≠ 1 ∧ need k < r.length + 1 then (zeroE, 23)
    else if ck (mkE k r) = 0 then (mkE k r, 0) else (zeroE, ck (mkE k r))

theorem dec_21 {k : UInt8} {r : List UInt8} (h : k.toNat < 1 ∨ 3 < k.toNat) : dec (k :: r) = (zeroE, 21) := by rw [dec, if_pos h]
theorem dec_20 {k : UInt8} {r : List UInt8} (h : ¬ (k.toNat < 1 ∨ 3 < k.toNat)) (h2 : r.length + 1 < need k) : dec (k :: r) = (zeroE, 20) := by
  rw [dec, if_neg h, if_pos h2]
theorem dec_23 {k : UInt8} {r : List UInt8} (h : ¬ (k.toNat < 1 ∨ 3 < k.toNat)) (h2 : ¬ r.length + 1 < need k) (h3 : k.toNat ≠ 1 ∧ need k < r.length + 1) : dec (k :: r) = (zeroE, 23) := by
  rw [dec, if_neg h, if_neg h2, if_pos h3]
theorem dec_e {k : UInt8} {r : List UInt8} (h : ¬ (k.toNat < 1 ∨ 3 < k.toNat)) (h2 : ¬ r.length + 1 < need k) (h3 : ¬ (k.toNat ≠ 1 ∧ need k < r.length + 1)) : dec (k :: r) = if ck (mkE k r) = 0 then (mkE k r, 0) else (zeroE, ck (mkE k r)) := by
  rw [dec, if_neg h, if_neg h2, if_neg h3]

theorem get2 (nil : Bool) (xs : List (List C)) (bs : List UInt8) (hx : xs = bs.map u8c) (hm : bs.length ≤ 8) : Con Try.prog 15 [.c (.sl nil xs)] [.c (u64 (getB bs))] := by
  rw [hx]; exact get_spec nil bs hm
theorem clone2 (xs : List (List C)) (bs : List UInt8) (hx : xs = bs.map u8c) (hm : bs.length ≤ 140737488355328) : Con Try.prog 16 [.c (.sl false xs)] [.fr false 1 (bs.map u8c) 0] := by
  rw [hx]; exact clone_spec bs hm

set_option maxRecDepth 4000 in
set_option maxHeartbeats 4000000 in
theorem decode_nil (nil : Bool) : Con Try.prog 9 [.c (.sl nil [])] [.ag zeroE.cells, .c (i64 20)] := by
  refine spec_of Try.func9 rfl (by kernel_rfl) (by simp [Try.f9]) (fun w0 K0 => vc_ok _ _ _ (by kernel_rfl) ?_)
  simp only [Try.f9]
  simp -dsimp [zeroE, Ent.cells]

set_option maxRecDepth 4000 in
set_option maxHeartbeats 4000000 in
theorem decode_cons (k : UInt8) (r : List UInt8) (hl : r.length + 1 ≤ 140737488355328) : Con Try.prog 9 [.c (.sl false ((k :: r).map u8c))] [.ag (dec (k :: r)).1.cells, .c (i64 (dec (k :: r)).2)] := by
  refine spec_of Try.func9 rfl (by kernel_rfl) (by simp [Try.f9]) (fun w0 K0 => vc_ok _ _ _ (by kernel_rfl) ?_)
  simp only [Try.f9]
  have hk8 := k.toNat_lt
  have hne : ((r.length : Int) + 1 == 0) = false := by simp; omega
  have w0k : IntKind.i64.wrap (k.toNat : Int) = (k.toNat : Int) := IntWalk.i64_in _ (by omega)
  simp -dsimp [u8c, hne, w0k]
  refine VIf.mk (fun h1 => ?_) (fun h1 => ?_)
  · have h1' : k.toNat < 1 ∨ 3 < k.toNat := by simp at h1; omega
    simp -dsimp [dec_21 h1', zeroE, Ent.cells]
  have h1' : ¬ (k.toNat < 1 ∨ 3 < k.toNat) := by simp at h1; omega
  by_cases hk : k.toNat = 3
  · have hk' : ((k.toNat : Int) == 3) = true := by simp; omega
    have hn : need k = 17 := by simp [need, hk]
    simp -dsimp [hk']
    refine VIf.mk (fun h2 => ?_) (fun h2 => ?_)
    · have h2' : r.length + 1 < need k := by simp at h2; omega
      simp -dsimp [dec_20 h1' h2', zeroE, Ent.cells]
    have h2' : ¬ r.length + 1 < need k := by simp at h2; omega
    simp -dsimp
    refine VIf.mk (fun h3 => ?_) (fun h3 => ?_)
    · have h3' : k.toNat ≠ 1 ∧ need k < r.length + 1 := by simp at h3; omega
      simp -dsimp [dec_23 h1' h2' h3', zeroE, Ent.cells]
    have h3' : ¬ (k.toNat ≠ 1 ∧ need k < r.length + 1) := by simp at h3; omega
    rw [dec_e h1' h2' h3']
    simp -dsimp
    refine ⟨by omega, ?_⟩
    refine VC.mk _ (get2 _ _ (r.take 8) (by simp) (by simp; omega)) ?_
    simp -dsimp [hk']
    refine ⟨by omega, ?_⟩
    refine VC.mk _ (get2 _ _ ((r.drop 8).take 8) (by simp [List.drop_take]) (by simp; omega)) ?_
    simp -dsimp
    have hm : mkE k r = ⟨k.toNat, IntKind.i64.wrap (getB (r.take 8)), 0, 0, IntKind.i64.wrap (getB ((r.drop 8).take 8)), true, []⟩ := by simp [mkE, hk]
    refine VC.mk _ (by simpa [hm, Ent.cells] using check_spec (mkE k r)) ?_
    rw [← hm]
    simp -dsimp
    refine VIf.mk (fun h4 => ?_) (fun h4 => ?_)
    · have h4' : ¬ ck (mkE k r) = 0 := by simpa using h4
      simp -dsimp [h4', zeroE, Ent.cells]
    · have h4' : ck (mkE k r) = 0 := by simpa using h4
      simp -dsimp [h4']
      simp [hm, Ent.cells]
  · have hk' : ((k.toNat : Int) == 3) = false := by simp; omega
    have hn : need k = 12 := by simp [need, hk]
    simp -dsimp [hk']
    refine VIf.mk (fun h2 => ?_) (fun h2 => ?_)
    · have h2' : r.length + 1 < need k := by simp at h2; omega
      simp -dsimp [dec_20 h1' h2', zeroE, Ent.cells]
    have h2' : ¬ r.length + 1 < need k := by simp at h2; omega
    simp -dsimp
    refine VIf.mk (fun h3 => ?_) (fun h3 => ?_)
    · have h3' : k.toNat ≠ 1 ∧ need k < r.length + 1 := by simp at h3; omega
      simp -dsimp [dec_23 h1' h2' h3', zeroE, Ent.cells]
    have h3' : ¬ (k.toNat ≠ 1 ∧ need k < r.length + 1) := by simp at h3; omega
    rw [dec_e h1' h2' h3']
    simp -dsimp
    refine ⟨by omega, ?_⟩
    refine VC.mk _ (get2 _ _ (r.take 8) (by simp) (by simp; omega)) ?_
    simp -dsimp [hk']
    obtain ⟨b, hb⟩ : ∃ b, r[10]? = some b := ⟨r[10]'(by omega), by simp⟩
    have hb8 := b.toNat_lt
    have wb : IntKind.i64.wrap (b.toNat : Int) = (b.toNat : Int) := IntWalk.i64_in _ (by omega)
    refine VL.draw (by kernel_rfl) [(0, false), (1, false), (3, false), (7, false), (0, false), (16, false), (48, false), (112, false), (15, false), (271, false), (1023, true), (2047, true)] (by kernel_rfl) ?_
    simp -dsimp
    refine ⟨by omega, ?_⟩
    refine VCE.mk _ (get2 _ _ ((r.drop 8).take 2) (by simp [List.drop_take]) (by simp; omega)) ?_
    simp -dsimp [hb, wb, u8c]
    refine ⟨by omega, by omega, ?_⟩
    refine VC.mk _ (clone2 _ (r.drop 11) (by rw [List.take_of_length_le (by simp)]; simp) (by simp; omega)) ?_
    simp -dsimp
    have hm : mkE k r = ⟨k.toNat, IntKind.i64.wrap (getB (r.take 8)), IntKind.i64.wrap (getB ((r.drop 8).take 2)), b.toNat, 0, false, r.drop 11⟩ := by
      have h2 := getB_lt ((r.drop 8).take 2)
      rw [show ((r.drop 8).take 2).length = 2 by simp; omega] at h2
      rw [IntWalk.i64_in (getB ((r.drop 8).take 2)) (by omega)]
      simp [mkE, hk, hb]
    refine VC.mk _ (by simpa [hm, Ent.cells] using check_spec (mkE k r)) ?_
    rw [← hm]
    simp -dsimp
    refine VIf.mk (fun h4 => ?_) (fun h4 => ?_)
    · have h4' : ¬ ck (mkE k r) = 0 := by simpa using h4
      simp -dsimp [h4', zeroE, Ent.cells]
    · have h4' : ck (mkE k r) = 0 := by simpa using h4
      simp -dsimp [h4']
      simp [hm, Ent.cells]
end Go.Proofs.Ytlmnablagocfiaa
