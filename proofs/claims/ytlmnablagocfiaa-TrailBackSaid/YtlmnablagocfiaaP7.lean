/- Contracts of functions of the seat, proved in a logic on data over the model (part P7). -/
import Derived.Test.YtlmnablagocfiaaP4
import Derived.Test.YtlmnablagocfiaaP5
namespace Go.Proofs.Ytlmnablagocfiaa
open Go.VL Go.RowKit

set_option maxRecDepth 4000 in
set_option maxHeartbeats 4000000 in
theorem plain_spec (e : Ent) : Con Try.prog 8 [.agg e.cells] [.ag e.rcells] := by
  refine spec_of Try.func8 rfl (by kernel_rfl) (by simp [Try.f8]) (fun w0 K0 => vc_ok _ _ _ (by kernel_rfl) ?_)
  simp only [Try.f8]
  simp -dsimp [Ent.cells, Ent.rcells]

def awk : Ent := ⟨3, 3, 0, 0, 7, true, []⟩
theorem awk_ck : ck awk = 0 := by decide
theorem awk_enc : enc awk = [3, 0, 0, 0, 0, 0, 0, 0, 3, 0, 0, 0, 0, 0, 0, 0, 7] := by decide
theorem awk_dec : dec [3, 0, 0, 0, 0, 0, 0, 0, 3, 0, 0, 0, 0, 0, 0, 0, 7] = (awk, 0) := by kernel_rfl

set_option maxRecDepth 4000 in
set_option maxHeartbeats 4000000 in
theorem awake_spec : Con Try.prog 5 [] [.c (.v (.bool true))] := by
  have he := encode_ok awk (by decide) awk_ck
  have hd := decode_cons 3 [0, 0, 0, 0, 0, 0, 0, 3, 0, 0, 0, 0, 0, 0, 0, 7] (by decide)
  rw [awk_dec] at hd
  rw [awk_enc] at he
  refine spec_of Try.func5 rfl (by kernel_rfl) (by simp [Try.f5]) (fun w0 K0 => vc_ok _ _ _ (by kernel_rfl) ?_)
  simp only [Try.f5]
  simp -dsimp
  refine VC.mk _ he ?_
  simp -dsimp
  refine VC.mk _ hd ?_
  simp -dsimp [awk, Ent.cells]
end Go.Proofs.Ytlmnablagocfiaa
