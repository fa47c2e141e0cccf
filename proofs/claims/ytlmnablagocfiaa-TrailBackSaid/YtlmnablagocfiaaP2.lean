/- Contracts of functions of the seat, proved in a logic on data over the model (part P2). -/
import Derived.Test.YtlmnablagocfiaaP1
namespace Go.Proofs.Ytlmnablagocfiaa
open Go.VL Go.RowKit

set_option maxRecDepth 4000 in
set_option maxHeartbeats 4000000 in
theorem clone_spec (l : List UInt8) (hl : l.length ≤ 140737488355328) : Con Try.prog 16 [.c (.sl false (l.map u8c))] [.fr false 1 (l.map u8c) 0] := by
  refine spec_of Try.func16 rfl (by kernel_rfl) (by simp [Try.f16]) (fun w0 K0 => vc_ok _ _ _ (by kernel_rfl) ?_)
  simp only [Try.f16]
  simp -dsimp [hl]

set_option maxRecDepth 4000 in
set_option maxHeartbeats 4000000 in
theorem rget_spec (bs : List UInt8) (hm : bs.length ≤ 8) : Con Try.prog 17 [.c (str bs)] [.c (u64 (getB bs))] := by
  refine spec_of Try.func17 rfl (by kernel_rfl) (by simp [Try.f17]) (fun w0 K0 => vc_ok _ _ _ (by kernel_rfl) ?_)
  simp only [Try.f17]
  simp -dsimp
  refine VL.loop (fun k : Nat => ⟨[(4, .c (i64 k)), (0, .c (str bs)), (3, .c (u64 (getB (bs.take k))))], []⟩) (fun k => k ≤ bs.length) (fun k => bs.length - k) 0 (by kernel_rfl) (by simp) (by simp [St.le, getB]) ?_
  intro k hk
  simp -dsimp
  refine VIf.mk (fun h => ?_) (fun h => ?_)
  · have hlt : k < bs.length := by simpa using h
    have hb : bs[k]? = some bs[k] := by simp [hlt]
    have hw : IntKind.i64.wrap ((k : Int) + 1) = (k : Int) + 1 := IntWalk.i64_in _ (by omega)
    simp -dsimp [hw, hlt]
    have e2 : getB (bs.take k) < 256 ^ 7 := Nat.lt_of_lt_of_le (getB_lt _) (Nat.pow_le_pow_right (by decide) (by simp; omega))
    have hb' := bs[k].toNat_lt
    have e3 : IntKind.u64.wrap (IntKind.u64.wrap ((getB (bs.take k) : Int) * 256) + IntKind.u64.wrap (bs[k].toNat : Int)) = ((getB (bs.take (k + 1)) : Nat) : Int) := by
      rw [List.take_add_one, hb, IntWalk.u64_in (_ * 256) (by omega), IntWalk.u64_in (bs[k].toNat : Int) (by omega), IntWalk.u64_in _ (by omega)]
      show _ = ((getB (bs.take k ++ [bs[k]]) : Nat) : Int)
      rw [getB_snoc]
      omega
    rw [e3]
    refine ⟨k + 1, by omega, ?_, by omega⟩
    simp [St.le]
  · simp at h
    have e : bs.take k = bs := List.take_of_length_le (by omega)
    simp -dsimp [e]

set_option maxRecDepth 4000 in
set_option maxHeartbeats 4000000 in
theorem num_spec (n m : Nat) (hm : m ≤ 8) (hn : n < 18446744073709551616) : Con Try.prog 14 [.c (u64 n), .c (i64 m)] [.c (str (putB n m))] := by
  refine spec_of Try.func14 rfl (by kernel_rfl) (by simp [Try.f14]) (fun w0 K0 => vc_ok _ _ _ (by kernel_rfl) ?_)
  simp only [Try.f14]
  simp -dsimp
  refine VL.loop (ι := Nat × Nat) (fun i => ⟨[(6, .c (i64 i.1)), (1, .c (i64 m)), (0, .c (u64 i.2)), (5, .c (str (putB n i.1)))], []⟩) (fun i => i.1 ≤ m ∧ i.2 = n / 256 ^ i.1) (fun i => m - i.1) (0, n) (by kernel_rfl) (by simp) (by simp [St.le, putB]) ?_
  intro ⟨k, q⟩ ⟨hk, hq⟩
  simp at hk hq
  simp -dsimp
  refine VIf.mk (fun h => ?_) (fun h => ?_)
  · have hlt : k < m := by simp at h; omega
    have hw : IntKind.i64.wrap ((k : Int) + 1) = (k : Int) + 1 := IntWalk.i64_in _ (by omega)
    have hq2 : q ≤ n := by rw [hq]; exact Nat.div_le_self _ _
    have t1 : (q : Int).tmod 256 = (q : Int) % 256 := Int.tmod_eq_emod_of_nonneg (by omega)
    have e1 : IntKind.u8.wrap ((q : Int) % 256) = ((byteAt n k).toNat : Int) := by
      rw [IntWalk.u8_in _ (by omega)]
      simp [byteAt, Nat.shiftRight_eq_div_pow, Nat.pow_mul, ← hq]
    have e2 : IntKind.u64.wrap ((q : Int) / 256) = ((q / 256 : Nat) : Int) := by
      rw [IntWalk.u64_in _ (by omega)]; omega
    simp -dsimp [hw, hlt, t1, e1, e2, maxLen, len_putB]
    refine ⟨by omega, k + 1, q / 256, ⟨by omega, by rw [hq, Nat.div_div_eq_div_mul, Nat.pow_succ]⟩, ?_, by omega⟩
    simp [St.le, putB]
  · simp at h
    obtain rfl : k = m := by omega
    simp -dsimp
end Go.Proofs.Ytlmnablagocfiaa
