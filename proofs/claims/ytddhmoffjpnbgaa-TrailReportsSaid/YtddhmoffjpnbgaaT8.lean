/- Contracts of functions of the seat, proved in a logic on data over the model (part T8). -/
import Derived.Test.YtddhmoffjpnbgaaT7b
set_option linter.unusedSimpArgs false
set_option linter.unusedVariables false
namespace Go.Proofs.Ytddhmoffjpnbgaa
open Go.VL Go.RowKit

abbrev u64 (n : Int) : C := .v (.int .u64 n)
@[simp] theorem app_str (a b : Array UInt8) : ByteArray.mk a ++ ByteArray.mk b = ByteArray.mk (a ++ b) := by
  apply ByteArray.ext
  simp
@[simp] theorem size_str (l : List UInt8) : (ByteArray.mk l.toArray).size = l.length := rfl
def byteAt (n : Nat) (i : Nat) : UInt8 := UInt8.ofNat (n >>> (8 * i))
def putB (n : Nat) : Nat → List UInt8
  | 0 => []
  | k + 1 => byteAt n k :: putB n k

theorem len_putB (n k : Nat) : (putB n k).length = k := by
  induction k with
  | zero => rfl
  | succ k ih => simp [putB, ih]
theorem u8_at (n k : Nat) : IntKind.u8.wrap ((n : Int).fdiv (2 ^ (8 * k))) = ((byteAt n k).toNat : Int) := by
  have e : ((n : Int).fdiv (2 ^ (8 * k))) = ((n / 2 ^ (8 * k) : Nat) : Int) := by
    rw [Int.natCast_ediv, Int.fdiv_eq_ediv_of_nonneg _ (Int.le_of_lt (Int.pow_pos (by decide)))]
    simp
  rw [e]
  simp [byteAt, IntKind.wrap, IntKind.bits, Nat.shiftRight_eq_div_pow]
  intro h; cases h
@[simp] theorem len_u8c (b : UInt8) : (u8c b).length = 1 := rfl

set_option maxRecDepth 4000 in
set_option maxHeartbeats 4000000 in
theorem put_spec (nil : Bool) (l : List UInt8) (n : Nat) (m : Nat) (hm : m ≤ 8) (hl : l.length + 8 ≤ 140737488355328) : Con Try.prog 31 [.c (.sl nil (l.map u8c)), .c (u64 n), .c (i64 m)] [.fr false 1 ((l ++ putB n m).map u8c) 0] := by
  refine spec_of Try.func31 rfl (by kernel_rfl) (by simp [Try.f31]) (fun w0 K0 => vc_ok _ _ _ (by kernel_rfl) ?_)
  simp only [Try.f31]
  simp -dsimp
  refine ⟨by omega, ?_⟩
  refine VL.loop (ι := List UInt8 × Nat) (fun i => ⟨[(8, .c (i64 (i.2 - 1))), (7, .own 576 i.1.length), (1, .c (u64 n))], [(576, some (.arr false 1 (i.1.map u8c) 0))]⟩) (fun i => i.1 ++ putB n i.2 = l ++ putB n m ∧ i.2 ≤ 8) (fun i => i.2) (l, m) (by kernel_rfl) (by simp [hm]) ?_ ?_
  · simp [St.le]
    rw [IntWalk.i64_in _ (by omega)]; omega
  intro ⟨acc, k⟩ ⟨hk, hk8⟩
  simp -dsimp
  refine VIf.mk (fun h => ?_) (fun h => ?_)
  · obtain ⟨k, rfl⟩ : ∃ j, k = j + 1 := ⟨k - 1, by simp at h; omega⟩
    simp at h hk8
    have e1 : IntKind.i64.wrap (8 * (k : Int)) = 8 * (k : Int) := IntWalk.i64_in _ (by omega)
    have e2 : IntKind.i64.wrap ((k : Int) - 1) = (k : Int) - 1 := IntWalk.i64_in _ (by omega)
    have e4 : IntKind.u64.bits = 64 := rfl
    have e5 : min ((8 : Int) * k).toNat 64 = 8 * k := by omega
    have e6 := u8_at n k
    have e7 : acc.length + 1 ≤ l.length + 8 := by
      have := congrArg List.length hk
      simp [putB] at this
      have := len_putB n m
      omega
    simp -dsimp [e1, e2, e4, e5, e6, maxLen]
    refine ⟨by omega, by omega, acc ++ [byteAt n k], k, ⟨by simpa [putB] using hk, by omega⟩, ?_, by omega⟩
    simp [St.le, u8c]
  · obtain rfl : k = 0 := by simp at h; omega
    simp [putB] at hk
    simp -dsimp [hk, len_putB]

/-- the number of bytes, the highest first -/
def getB (bs : List UInt8) : Nat := bs.foldl (fun n b => n * 256 + b.toNat) 0
theorem getB_snoc (l : List UInt8) (b : UInt8) : getB (l ++ [b]) = getB l * 256 + b.toNat := by simp [getB]
theorem getB_lt' (l : List UInt8) : ∀ n, (l.foldl (fun n b => n * 256 + b.toNat) n) < (n + 1) * 256 ^ l.length := by
  induction l with
  | nil => intro n; simp
  | cons b l ih =>
    intro n
    have := b.toNat_lt
    have h := ih (n * 256 + b.toNat)
    simp only [List.foldl_cons, List.length_cons, Nat.pow_succ]
    refine Nat.lt_of_lt_of_le h ?_
    rw [Nat.mul_comm (256 ^ l.length) 256, ← Nat.mul_assoc]
    exact Nat.mul_le_mul_right _ (by omega)
theorem getB_lt (l : List UInt8) : getB l < 256 ^ l.length := by simpa [getB] using getB_lt' l 0
theorem or_step (n : Nat) (b : UInt8) (h : n < 256 ^ 7) : bits .or .u64 (IntKind.u64.wrap ((n : Int) * 2 ^ 8)) (IntKind.u64.wrap (b.toNat : Int)) = ((n * 256 + b.toNat : Nat) : Int) := by
  have hb := b.toNat_lt
  have e1 : IntKind.u64.wrap ((n : Int) * 2 ^ 8) = ((n * 256 : Nat) : Int) := by rw [IntWalk.u64_in _ (by omega)]; omega
  have e2 : IntKind.u64.wrap (b.toNat : Int) = (b.toNat : Int) := by rw [IntWalk.u64_in _ (by omega)]
  rw [e1, e2]
  have e3 : (n * 256) ||| b.toNat = n * 256 + b.toNat := by
    have := Nat.shiftLeft_add_eq_or_of_lt (i := 8) (b := b.toNat) (by omega) n
    rw [Nat.shiftLeft_eq] at this
    exact this.symm
  have e4 : (BitVec.ofInt IntKind.u64.bits ((n * 256 : Nat) : Int)).toNat = n * 256 := by simp [IntKind.bits]; omega
  have e5 : (BitVec.ofInt IntKind.u64.bits (b.toNat : Int)).toNat = b.toNat := by simp [IntKind.bits]
  unfold bits
  show IntKind.u64.wrap ((BitVec.ofInt IntKind.u64.bits ((n * 256 : Nat) : Int) ||| BitVec.ofInt IntKind.u64.bits (b.toNat : Int)).toNat : Int) = _
  rw [BitVec.toNat_or, e4, e5]
  rw [e3, IntWalk.u64_in _ (by omega)]

set_option maxRecDepth 4000 in
set_option maxHeartbeats 4000000 in
theorem get_spec (nil : Bool) (bs : List UInt8) (hm : bs.length ≤ 8) : Con Try.prog 32 [.c (.sl nil (bs.map u8c))] [.c (u64 (getB bs))] := by
  refine spec_of Try.func32 rfl (by kernel_rfl) (by simp [Try.f32]) (fun w0 K0 => vc_ok _ _ _ (by kernel_rfl) ?_)
  simp only [Try.f32]
  simp -dsimp
  refine VL.loop (fun k : Nat => ⟨[(8, .c (i64 k)), (7, .c (i64 bs.length)), (6, .c (.sl nil (bs.map u8c))), (3, .c (u64 (getB (bs.take k))))], []⟩) (fun k => k ≤ bs.length) (fun k => bs.length - k) 0 (by kernel_rfl) (by simp) (by simp [St.le, getB]) ?_
  intro k hk
  simp -dsimp
  refine VIf.mk (fun h => ?_) (fun h => ?_)
  · have hlt : k < bs.length := by simpa using h
    have hb : bs[k]? = some bs[k] := by simp [hlt]
    have hw : IntKind.i64.wrap ((k : Int) + 1) = (k : Int) + 1 := IntWalk.i64_in _ (by omega)
    simp -dsimp [hw, u8c, hlt]
    have e1 : min 8 IntKind.u64.bits = 8 := rfl
    have e2 : getB (bs.take k) < 256 ^ 7 := Nat.lt_of_lt_of_le (getB_lt _) (Nat.pow_le_pow_right (by decide) (by simp; omega))
    rw [e1, or_step _ _ e2]
    refine ⟨k + 1, by omega, ?_, by omega⟩
    have e3 : bs.take (k + 1) = bs.take k ++ [bs[k]] := by rw [List.take_add_one, hb]; rfl
    rw [e3, getB_snoc]
    simp [St.le]
  · simp at h
    have e : bs.take k = bs := List.take_of_length_le (by omega)
    simp -dsimp [e]
theorem bytesOf_map (l : List UInt8) : bytesOf (l.map u8c) = some l := by
  induction l with
  | nil => rfl
  | cons b l ih =>
    have hb : (b.toNat : Int) < 256 := by have := b.toNat_lt; omega
    simp [bytesOf, ih, u8c, Go.VL.byteOf, hb]
@[simp] theorem bytesOf_map' (l : List UInt8) : bytesOf (l.map u8c) = some l := bytesOf_map l
@[simp] theorem bytesOf_one (b : UInt8) : bytesOf [[.v (.int .u8 b.toNat)]] = some [b] := bytesOf_map [b]
end Go.Proofs.Ytddhmoffjpnbgaa
