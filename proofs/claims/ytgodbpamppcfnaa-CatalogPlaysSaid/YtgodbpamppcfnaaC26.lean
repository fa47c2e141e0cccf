/- Contracts of functions of the seat, proved in a logic on data over the model (part C26). -/
import Derived.Test.YtgodbpamppcfnaaC24
set_option linter.unusedSimpArgs false
set_option linter.unusedVariables false
namespace Go.Proofs.Ytgodbpamppcfnaa
open Go.VL Go.RowKit

def forkB (nl : Bool) (sz : Nat) (ts : List Tab) (fx : Nat) : List (Nat × Res) := catB nl sz ts fx ++ [(384, .box false [.own 192 ts.length]), (192, .arr ts.isEmpty (if ts.isEmpty then 0 else 5) (ts.map Tab.cells) 0)]

set_option maxRecDepth 4000 in
set_option maxHeartbeats 8000000 in
theorem fork_spec (nl : Bool) (sz : Nat) (ts : List Tab) (fx : Nat) (hnn : nl = true → ts = []) (hs : nl = false → sz = 5) (ho : ∀ t ∈ ts, t.Ok) (hl : ts.length ≤ 1000000) :
    ConB Try.prog 26 [.ptr 1 0] (catB nl sz ts fx) [.ptr 384 0] [.ptr 1 0] (forkB nl sz ts fx) := by
  refine spec_ofB 3 Try.func26 rfl (by kernel_rfl) (by simp [Try.f26]) (by simp [catB]) rfl (fun w0 K0 uf => vc_ok _ _ _ (by kernel_rfl) ?_)
  simp only [Try.f26]
  simp -dsimp [initB, initEnv, pinsOf, catB, vs_assign_ptr]
  refine VCL.lend (catB nl sz ts fx) (catB nl sz ts fx ++ [(192, .arr ts.isEmpty (if ts.isEmpty then 0 else 5) (ts.map Tab.cells) 0)]) [.ptr 1 0] _ _ id [2, 192] ⟨tables_spec nl sz ts fx hnn hs ho hl, ?_, ?_, ?_, ?_, ?_, ?_, ?_⟩ ?_
  · simp [renSs, renS]
  · simp [catB, renR, renSs, renS]
  · simp [catB]
  · simp [catB]
  · simp [catB, Res.nam, S.nams, S.nam]
  · simp [catB, S.nams, S.nam]
  · simp [catB, lk, keptP]
  simp -dsimp [catB, retS, renSs, renS, ft_B1_77]
  simp [forkB, catB, resEnd]
end Go.Proofs.Ytgodbpamppcfnaa
