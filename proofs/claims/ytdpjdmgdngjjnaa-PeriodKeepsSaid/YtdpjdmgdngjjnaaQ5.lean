/- Contracts of functions of the seat, proved in a logic on data over the model (part Q5). -/
import Derived.Test.YtdpjdmgdngjjnaaQ4
set_option linter.unusedSimpArgs false
set_option linter.unusedVariables false
namespace Go.Proofs.Ytdpjdmgdngjjnaa
open Go.VL Go.RowKit

set_option maxRecDepth 4000 in
set_option maxHeartbeats 4000000 in
theorem clone_spec (l : List Per) (hl : l.length ≤ 8796093022208) : Con Try.prog 28 [.c (.sl false (l.map Per.cells))] [.fr false 2 (l.map Per.cells) 0] := by
  refine spec_of Try.func28 rfl (by kernel_rfl) (by simp [Try.f28]) (fun w0 K0 => vc_ok _ _ _ (by kernel_rfl) ?_)
  simp only [Try.f28]
  simp -dsimp
  omega

set_option maxRecDepth 4000 in
set_option maxHeartbeats 4000000 in
theorem clone_nil : Con Try.prog 28 [.c (.sl true [])] [.fr true 0 [] 0] := by
  refine spec_of Try.func28 rfl (by kernel_rfl) (by simp [Try.f28]) (fun w0 K0 => vc_ok _ _ _ (by kernel_rfl) ?_)
  simp only [Try.f28]
  simp -dsimp

set_option maxRecDepth 4000 in
set_option maxHeartbeats 4000000 in
theorem del_nil : Con Try.prog 27 [.c (.sl true []), .c (.fn 29 [])] [.c (.sl true [])] := by
  refine spec_of Try.func27 rfl (by kernel_rfl) (by simp [Try.f27]) (fun w0 K0 => vc_ok _ _ _ (by kernel_rfl) ?_)
  simp only [Try.f27]
  simp -dsimp
  refine VC.mk _ (idx_spec true [] (by simp)) ?_
  simp -dsimp
end Go.Proofs.Ytdpjdmgdngjjnaa
