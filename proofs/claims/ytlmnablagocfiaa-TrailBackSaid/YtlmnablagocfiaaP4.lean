/- Contracts of functions of the seat, proved in a logic on data over the model (part P4). -/
import Derived.Test.YtlmnablagocfiaaP3b
import Derived.Test.YtlmnablagocfiaaP3c
namespace Go.Proofs.Ytlmnablagocfiaa
open Go.VL Go.RowKit

/-- the bytes of an entry -/
def enc (e : Ent) : List UInt8 :=
  byteAt e.kind.toNat 0 :: (putB e.txn.toNat 8 ++ if e.kind = 3 then putB e.stamp.toNat 8 else putB e.page.toNat 2 ++ byteAt e.slot.toNat 0 :: e.data)

theorem ck_ok {e : Ent} (h : ck e = 0) : 1 ≤ e.kind ∧ e.kind ≤ 3 ∧ 1 ≤ e.txn ∧ 0 ≤ e.page ∧ e.page ≤ 65535 ∧ 0 ≤ e.slot ∧ e.slot ≤ 255 ∧ 0 ≤ e.stamp ∧ e.stamp ≤ 1099511627776 ∧ (e.kind = 3 → e.page = 0 ∧ e.slot = 0) ∧ (e.kind ≠ 3 → e.stamp = 0) ∧ (e.kind ≠ 1 → e.data = []) ∧ e.data.length ≤ 200 := by
  have hd : e.data = [] ↔ e.data.length = 0 := by simp
  unfold ck at h
  simp only [hd]
  repeat' split at h
  all_goals omega
theorem ck_or (e : Ent) : ck e = 0 ∨ ck e = 1 ∨ ck e = 2 ∨ ck e = 21 := by
  unfold ck
  repeat' split
  all_goals omega

theorem put2 (nil : Bool) (l : List UInt8) (n : Int) (m : Int) (hm0 : 0 ≤ m) (hm : m ≤ 8) (hn : 0 ≤ n) (hl : l.length ≤ 1000) : Con Try.prog 12 [.c (.sl nil (l.map u8c)), .c (u64 n), .c (i64 m)] [.fr false 1 ((l ++ putB n.toNat m.toNat).map u8c) 0] := by
  have h := put_spec nil l n.toNat m.toNat (by omega) (by omega)
  rwa [Int.toNat_of_nonneg hn, Int.toNat_of_nonneg hm0] at h
theorem num2 (n : Int) (m : Int) (hm0 : 0 ≤ m) (hm : m ≤ 8) (hn : 0 ≤ n) (hn2 : n ≤ 18446744073709551615) : Con Try.prog 14 [.c (u64 n), .c (i64 m)] [.c (str (putB n.toNat m.toNat))] := by
  have h := num_spec n.toNat m.toNat (by omega) (by omega)
  rwa [Int.toNat_of_nonneg hn, Int.toNat_of_nonneg hm0] at h
theorem u8w (n : Int) (h : 0 ≤ n) : IntKind.u8.wrap n = ((byteAt n.toNat 0).toNat : Int) := by
  rw [← u8_at]
  simp [Int.toNat_of_nonneg h]

set_option maxRecDepth 4000 in
set_option maxHeartbeats 4000000 in
theorem encode_bad (e : Ent) (h : ck e ≠ 0) : Con Try.prog 6 [.agg e.cells] [.fr true 0 [] 0, .c (i64 (ck e))] := by
  refine spec_of Try.func6 rfl (by kernel_rfl) (by simp [Try.f6]) (fun w0 K0 => vc_ok _ _ _ (by kernel_rfl) ?_)
  simp only [Try.f6]
  simp -dsimp [Ent.cells]
  refine VC.mk _ (check_spec e) ?_
  have hb : (ck e != 0) = true := by simp [h]
  simp -dsimp [hb]

set_option maxRecDepth 4000 in
set_option maxHeartbeats 4000000 in
theorem rencode_bad (e : Ent) (h : ck e ≠ 0) : Con Try.prog 7 [.agg e.rcells] [.c (str []), .c (i64 (ck e))] := by
  refine spec_of Try.func7 rfl (by kernel_rfl) (by simp [Try.f7]) (fun w0 K0 => vc_ok _ _ _ (by kernel_rfl) ?_)
  simp only [Try.f7]
  simp -dsimp [Ent.rcells]
  refine VC.mk _ (rcheck_spec e) ?_
  have hb : (ck e != 0) = true := by simp [h]
  simp -dsimp [hb]

set_option maxRecDepth 4000 in
set_option maxHeartbeats 4000000 in
theorem encode_ok (e : Ent) (ht : e.txn ≤ 9223372036854775807) (h : ck e = 0) : Con Try.prog 6 [.agg e.cells] [.fr false 1 ((enc e).map u8c) 0, .c (i64 0)] := by
  obtain ⟨h1, h2, h3, h4, h5, h6, h7, h8, h9, h10, h11, h12, h13⟩ := ck_ok h
  refine spec_of Try.func6 rfl (by kernel_rfl) (by simp [Try.f6]) (fun w0 K0 => vc_ok _ _ _ (by kernel_rfl) ?_)
  simp only [Try.f6]
  simp -dsimp [Ent.cells]
  have w1 := u8w e.kind (by omega)
  have w2 : IntKind.u64.wrap e.txn = e.txn := IntWalk.u64_in _ (by omega)
  have w3 : IntKind.u64.wrap e.stamp = e.stamp := IntWalk.u64_in _ (by omega)
  have w4 : IntKind.u64.wrap e.page = e.page := IntWalk.u64_in _ (by omega)
  have w5 := u8w e.slot (by omega)
  refine VC.mk _ (check_spec e) ?_
  simp -dsimp [h, w1, w2, maxLen]
  refine VC.mk _ (put2 false [byteAt e.kind.toNat 0] e.txn 8 (by omega) (by omega) (by omega) (by simp)) ?_
  simp -dsimp
  refine VIf.mk (fun hk => ?_) (fun hk => ?_)
  · simp at hk
    simp -dsimp [w3]
    refine VC.mk _ (put2 false (byteAt e.kind.toNat 0 :: putB e.txn.toNat 8) e.stamp 8 (by omega) (by omega) (by omega) (by simp [len_putB])) ?_
    simp -dsimp
    simp [enc, hk, len_putB]
  · simp at hk
    refine VL.snap 5 ?_
    simp -dsimp
    refine VL.draw (by kernel_rfl) [(0, false), (0, false), (2, false), (6, false), (15, false), (0, false), (32, false), (96, false), (224, false), (511, true), (1023, true)] (by kernel_rfl) ?_
    simp -dsimp [w4]
    refine VCE.mk _ (put2 false (byteAt e.kind.toNat 0 :: putB e.txn.toNat 8) e.page 2 (by omega) (by omega) (by omega) (by simp [len_putB])) ?_
    simp -dsimp [w5]
    simp [enc, hk, len_putB, maxLen, u8c]
    omega

theorem putB_one (n : Nat) : putB n 1 = [byteAt n 0] := rfl
set_option maxRecDepth 4000 in
set_option maxHeartbeats 4000000 in
theorem rencode_ok (e : Ent) (ht : e.txn ≤ 9223372036854775807) (h : ck e = 0) : Con Try.prog 7 [.agg e.rcells] [.c (str (enc e)), .c (i64 0)] := by
  obtain ⟨h1, h2, h3, h4, h5, h6, h7, h8, h9, h10, h11, h12, h13⟩ := ck_ok h
  refine spec_of Try.func7 rfl (by kernel_rfl) (by simp [Try.f7]) (fun w0 K0 => vc_ok _ _ _ (by kernel_rfl) ?_)
  simp only [Try.f7]
  simp -dsimp [Ent.rcells]
  have w1 : IntKind.u64.wrap e.kind = e.kind := IntWalk.u64_in _ (by omega)
  have w2 : IntKind.u64.wrap e.txn = e.txn := IntWalk.u64_in _ (by omega)
  have w3 : IntKind.u64.wrap e.stamp = e.stamp := IntWalk.u64_in _ (by omega)
  have w4 : IntKind.u64.wrap e.page = e.page := IntWalk.u64_in _ (by omega)
  have w5 : IntKind.u64.wrap e.slot = e.slot := IntWalk.u64_in _ (by omega)
  refine VC.mk _ (rcheck_spec e) ?_
  simp -dsimp [h]
  refine VL.draw (by kernel_rfl) [(0, false), (1, false), (3, false), (7, false), (0, false), (16, false), (48, false), (127, true), (255, true), (511, true)] (by kernel_rfl) ?_
  simp -dsimp [w1]
  refine VCE.mk _ (num2 e.kind 1 (by omega) (by omega) (by omega) (by omega)) ?_
  simp -dsimp [w2]
  refine VC.mk _ (num2 e.txn 8 (by omega) (by omega) (by omega) (by omega)) ?_
  simp -dsimp [len_putB, maxLen]
  refine VIf.mk (fun hk => ?_) (fun hk => ?_)
  · simp at hk
    simp -dsimp [w3]
    refine VC.mk _ (num2 e.stamp 8 (by omega) (by omega) (by omega) (by omega)) ?_
    simp -dsimp [len_putB, putB_one, maxLen]
    simp [enc, hk]
  · simp at hk
    refine VL.draw (by kernel_rfl) [(0, false), (0, false), (2, false), (6, false), (14, false), (31, false), (0, false), (64, false), (192, false), (478, false), (1023, false), (0, false), (2048, false), (8191, true), (16383, true), (32767, true)] (by kernel_rfl) ?_
    simp -dsimp [w4]
    refine VCE.mk _ (num2 e.page 2 (by omega) (by omega) (by omega) (by omega)) ?_
    simp -dsimp [w5, len_putB, maxLen]
    refine VCE.mk _ (num2 e.slot 1 (by omega) (by omega) (by omega) (by omega)) ?_
    simp -dsimp [len_putB, maxLen]
    exact ⟨by omega, by simp [enc, hk, putB_one]⟩
end Go.Proofs.Ytlmnablagocfiaa
