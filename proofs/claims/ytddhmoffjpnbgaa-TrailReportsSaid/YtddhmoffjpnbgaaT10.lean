/- Contracts of functions of the seat, proved in a logic on data over the model (part T10). -/
import Derived.Test.YtddhmoffjpnbgaaT9
set_option linter.unusedSimpArgs false
set_option linter.unusedVariables false
namespace Go.Proofs.Ytddhmoffjpnbgaa
open Go.VL Go.RowKit

theorem put2 (nil : Bool) (l : List UInt8) (n : Int) (m : Int) (hm0 : 0 ≤ m) (hm : m ≤ 8) (hn : 0 ≤ n) (hl : l.length ≤ 1000) : Con Try.prog 31 [.c (.sl nil (l.map u8c)), .c (u64 n), .c (i64 m)] [.fr false 1 ((l ++ putB n.toNat m.toNat).map u8c) 0] := by
  have h := put_spec nil l n.toNat m.toNat (by omega) (by omega)
  rwa [Int.toNat_of_nonneg hn, Int.toNat_of_nonneg hm0] at h
theorem get2 (nil : Bool) (xs : List (List C)) (bs : List UInt8) (hx : xs = bs.map u8c) (hm : bs.length ≤ 8) : Con Try.prog 32 [.c (.sl nil xs)] [.c (u64 (getB bs))] := by
  rw [hx]; exact get_spec nil bs hm

def awk : Ent := ⟨3, 3, 0, 0, 7, true, []⟩
def awkB : List UInt8 := [3, 0, 0, 0, 0, 0, 0, 0, 3, 0, 0, 0, 0, 0, 0, 0, 7]
theorem awk_ck : ck awk = 0 := by decide
theorem awk1 : [(3 : UInt8)] ++ putB 3 8 = [3, 0, 0, 0, 0, 0, 0, 0, 3] := by decide
theorem awk2 : [(3 : UInt8), 0, 0, 0, 0, 0, 0, 0, 3] ++ putB 7 8 = awkB := by decide

set_option maxRecDepth 4000 in
set_option maxHeartbeats 4000000 in
theorem plain_spec (e : Ent) : Con Try.prog 8 [.agg e.cells] [.ag e.rcells] := by
  refine spec_of Try.func8 rfl (by kernel_rfl) (by simp [Try.f8]) (fun w0 K0 => vc_ok _ _ _ (by kernel_rfl) ?_)
  simp only [Try.f8]
  simp -dsimp [Ent.cells, Ent.rcells]

set_option maxRecDepth 4000 in
set_option maxHeartbeats 4000000 in
theorem encode_awk : Con Try.prog 19 [.agg awk.cells] [.fr false 1 (awkB.map u8c) 0, .c (i64 0)] := by
  refine spec_of Try.func19 rfl (by kernel_rfl) (by simp [Try.f19]) (fun w0 K0 => vc_ok _ _ _ (by kernel_rfl) ?_)
  simp only [Try.f19]
  simp -dsimp [Ent.cells, awk]
  refine VC.mk _ (check_spec awk) ?_
  have w1 : IntKind.u8.wrap 3 = 3 := by decide
  have w2 : IntKind.u64.wrap 3 = 3 := by decide
  have w3 : IntKind.u64.wrap 7 = 7 := by decide
  simp -dsimp [awk_ck, maxLen, w1, w2, w3]
  have h1 := put2 false [3] 3 8 (by omega) (by omega) (by omega) (by simp)
  have h2 := put2 false [3, 0, 0, 0, 0, 0, 0, 0, 3] 7 8 (by omega) (by omega) (by omega) (by simp)
  rw [show Int.toNat 3 = 3 from rfl, show Int.toNat 8 = 8 from rfl, awk1] at h1
  rw [show Int.toNat 7 = 7 from rfl, show Int.toNat 8 = 8 from rfl, awk2] at h2
  refine VCL.snap ?_
  simp -dsimp
  refine VC.mk _ h1 ?_
  simp -dsimp
  refine VCL.snap ?_
  simp -dsimp
  refine VC.mk _ h2 ?_
  simp -dsimp [awkB]

set_option maxRecDepth 4000 in
set_option maxHeartbeats 8000000 in
theorem decode_awk : Con Try.prog 20 [.c (.sl false (awkB.map u8c))] [.ag awk.cells, .c (i64 0)] := by
  refine spec_of Try.func20 rfl (by kernel_rfl) (by simp [Try.f20]) (fun w0 K0 => vc_ok _ _ _ (by kernel_rfl) ?_)
  simp only [Try.f20]
  have w1 : IntKind.i64.wrap 3 = 3 := by decide
  have w2 : IntKind.i64.wrap 7 = 7 := by decide
  simp -dsimp [u8c, awkB, w1]
  refine VC.mk _ (get2 _ _ [0, 0, 0, 0, 0, 0, 0, 3] (by simp [u8c]) (by simp)) ?_
  have g1 : getB [0, 0, 0, 0, 0, 0, 0, 3] = 3 := by decide
  have g2 : getB [0, 0, 0, 0, 0, 0, 0, 7] = 7 := by decide
  simp -dsimp [g1, w1]
  refine VC.mk _ (get2 _ _ [0, 0, 0, 0, 0, 0, 0, 7] (by simp [u8c]) (by simp)) ?_
  simp -dsimp [g2, w2]
  refine VC.mk _ (by simpa [awk, Ent.cells] using check_spec awk) ?_
  have := awk_ck
  unfold awk at this
  simp -dsimp [this, awk, Ent.cells]

set_option maxRecDepth 4000 in
set_option maxHeartbeats 4000000 in
theorem awake_spec : Con Try.prog 7 [] [.c (.v (.bool true))] := by
  refine spec_of Try.func7 rfl (by kernel_rfl) (by simp [Try.f7]) (fun w0 K0 => vc_ok _ _ _ (by kernel_rfl) ?_)
  simp only [Try.f7]
  simp -dsimp
  refine VC.mk _ (by simpa [awk, Ent.cells] using encode_awk) ?_
  simp -dsimp [awkB]
  refine VCL.snap ?_
  simp -dsimp
  refine VC.mk _ (by simpa [awkB] using decode_awk) ?_
  simp -dsimp [awk, Ent.cells]
end Go.Proofs.Ytddhmoffjpnbgaa
