/- Contracts of functions of the seat, proved in a logic on data over the model (part P6). -/
import Derived.Test.YtlmnablagocfiaaP5
namespace Go.Proofs.Ytlmnablagocfiaa
open Go.VL Go.RowKit

set_option maxRecDepth 4000 in
set_option maxHeartbeats 4000000 in
theorem rdecode_nil : Con Try.prog 10 [.c (str [])] [.ag zeroE.rcells, .c (i64 20)] := by
  refine spec_of Try.func10 rfl (by kernel_rfl) (by simp [Try.f10]) (fun w0 K0 => vc_ok _ _ _ (by kernel_rfl) ?_)
  simp only [Try.f10]
  simp -dsimp [zeroE, Ent.rcells]

theorem rget2 (s : ByteArray) (bs : List UInt8) (hx : s = ⟨bs.toArray⟩) (hm : bs.length ≤ 8) : Con Try.prog 17 [.c (.v (.string s))] [.c (u64 (getB bs))] := by
  rw [hx]; exact rget_spec bs hm
@[simp] theorem sub_str (l : List UInt8) (a b : Nat) : (ByteArray.mk l.toArray).extract a b = ByteArray.mk ((l.take b).drop a).toArray := by
  apply ByteArray.ext
  simp [List.drop_take]

set_option maxRecDepth 4000 in
set_option maxHeartbeats 4000000 in
theorem rdecode_cons (k : UInt8) (r : List UInt8) : Con Try.prog 10 [.c (str (k :: r))] [.ag (dec (k :: r)).1.rcells, .c (i64 (dec (k :: r)).2)] := by
  refine spec_of Try.func10 rfl (by kernel_rfl) (by simp [Try.f10]) (fun w0 K0 => vc_ok _ _ _ (by kernel_rfl) ?_)
  simp only [Try.f10]
  have hk8 := k.toNat_lt
  have w0k : IntKind.i64.wrap (k.toNat : Int) = (k.toNat : Int) := IntWalk.i64_in _ (by omega)
  simp -dsimp [w0k]
  refine VIf.mk (fun h1 => ?_) (fun h1 => ?_)
  · have h1' : k.toNat < 1 ∨ 3 < k.toNat := by simp at h1; omega
    simp -dsimp [dec_21 h1', zeroE, Ent.rcells]
  have h1' : ¬ (k.toNat < 1 ∨ 3 < k.toNat) := by simp at h1; omega
  by_cases hk : k.toNat = 3
  · have hk' : ((k.toNat : Int) == 3) = true := by simp; omega
    have hn : need k = 17 := by simp [need, hk]
    simp -dsimp [hk']
    refine VIf.mk (fun h2 => ?_) (fun h2 => ?_)
    · have h2' : r.length + 1 < need k := by simp at h2; omega
      simp -dsimp [dec_20 h1' h2', zeroE, Ent.rcells]
    have h2' : ¬ r.length + 1 < need k := by simp at h2; omega
    simp -dsimp
    refine VIf.mk (fun h3 => ?_) (fun h3 => ?_)
    · have h3' : k.toNat ≠ 1 ∧ need k < r.length + 1 := by simp at h3; omega
      simp -dsimp [dec_23 h1' h2' h3', zeroE, Ent.rcells]
    have h3' : ¬ (k.toNat ≠ 1 ∧ need k < r.length + 1) := by simp at h3; omega
    rw [dec_e h1' h2' h3']
    simp -dsimp
    refine ⟨by omega, ?_⟩
    refine VC.mk _ (rget2 _ (r.take 8) (by simp) (by simp; omega)) ?_
    simp -dsimp [hk']
    refine ⟨by omega, ?_⟩
    refine VC.mk _ (rget2 _ ((r.drop 8).take 8) (by simp [List.drop_take]) (by simp; omega)) ?_
    simp -dsimp
    have hm : mkE k r = ⟨k.toNat, IntKind.i64.wrap (getB (r.take 8)), 0, 0, IntKind.i64.wrap (getB ((r.drop 8).take 8)), true, []⟩ := by simp [mkE, hk]
    refine VC.mk _ (by simpa [hm, Ent.rcells] using rcheck_spec (mkE k r)) ?_
    rw [← hm]
    simp -dsimp
    refine VIf.mk (fun h4 => ?_) (fun h4 => ?_)
    · have h4' : ¬ ck (mkE k r) = 0 := by simpa using h4
      simp -dsimp [h4', zeroE, Ent.rcells]
    · have h4' : ck (mkE k r) = 0 := by simpa using h4
      simp -dsimp [h4']
      simp [hm, Ent.rcells]
  · have hk' : ((k.toNat : Int) == 3) = false := by simp; omega
    have hn : need k = 12 := by simp [need, hk]
    simp -dsimp [hk']
    refine VIf.mk (fun h2 => ?_) (fun h2 => ?_)
    · have h2' : r.length + 1 < need k := by simp at h2; omega
      simp -dsimp [dec_20 h1' h2', zeroE, Ent.rcells]
    have h2' : ¬ r.length + 1 < need k := by simp at h2; omega
    simp -dsimp
    refine VIf.mk (fun h3 => ?_) (fun h3 => ?_)
    · have h3' : k.toNat ≠ 1 ∧ need k < r.length + 1 := by simp at h3; omega
      simp -dsimp [dec_23 h1' h2' h3', zeroE, Ent.rcells]
    have h3' : ¬ (k.toNat ≠ 1 ∧ need k < r.length + 1) := by simp at h3; omega
    rw [dec_e h1' h2' h3']
    simp -dsimp
    refine ⟨by omega, ?_⟩
    refine VC.mk _ (rget2 _ (r.take 8) (by simp) (by simp; omega)) ?_
    simp -dsimp [hk']
    obtain ⟨b, hb⟩ : ∃ b, r[10]? = some b := ⟨r[10]'(by omega), by simp⟩
    have hb8 := b.toNat_lt
    have wb : IntKind.i64.wrap (b.toNat : Int) = (b.toNat : Int) := IntWalk.i64_in _ (by omega)
    refine ⟨by omega, ?_⟩
    refine VC.mk _ (rget2 _ ((r.drop 8).take 2) (by simp [List.drop_take]) (by simp; omega)) ?_
    simp -dsimp [hb, wb]
    refine ⟨by omega, by omega, ?_⟩
    have hm : mkE k r = ⟨k.toNat, IntKind.i64.wrap (getB (r.take 8)), IntKind.i64.wrap (getB ((r.drop 8).take 2)), b.toNat, 0, false, r.drop 11⟩ := by
      have h2 := getB_lt ((r.drop 8).take 2)
      rw [show ((r.drop 8).take 2).length = 2 by simp; omega] at h2
      rw [IntWalk.i64_in (getB ((r.drop 8).take 2)) (by omega)]
      simp [mkE, hk, hb]
    refine VC.mk _ (by simpa [hm, Ent.rcells] using rcheck_spec (mkE k r)) ?_
    rw [← hm]
    simp -dsimp
    refine VIf.mk (fun h4 => ?_) (fun h4 => ?_)
    · have h4' : ¬ ck (mkE k r) = 0 := by simpa using h4
      simp -dsimp [h4', zeroE, Ent.rcells]
    · have h4' : ck (mkE k r) = 0 := by simpa using h4
      simp -dsimp [h4']
      simp [hm, Ent.rcells]
end Go.Proofs.Ytlmnablagocfiaa
