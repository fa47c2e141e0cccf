/- Contracts of functions of the seat, proved in a logic on data over the model (part C8). -/
import Derived.Test.YtgodbpamppcfnaaC7
set_option linter.unusedSimpArgs false
set_option linter.unusedVariables false
namespace Go.Proofs.Ytgodbpamppcfnaa
open Go.VL Go.RowKit

set_option maxRecDepth 4000 in
set_option maxHeartbeats 4000000 in
theorem cloneCol_spec (nl : Bool) (l : List Col) (hn : nl = true → l = []) (hl : l.length ≤ 5864062014805) : Con Try.prog 47 [.c (.sl nl (l.map Col.cells))] [.fr nl (if nl then 0 else 2) (l.map Col.cells) 0] := by
  refine spec_of Try.func47 rfl (by kernel_rfl) (by simp [Try.f47]) (fun w0 K0 => vc_ok _ _ _ (by kernel_rfl) ?_)
  simp only [Try.f47]
  cases nl with
  | true =>
    obtain rfl := hn rfl
    simp -dsimp
  | false =>
    simp -dsimp
    omega
set_option maxRecDepth 4000 in
set_option maxHeartbeats 4000000 in
theorem cloneStr_spec (nl : Bool) (l : List (List UInt8)) (hn : nl = true → l = []) (hl : l.length ≤ 8796093022208) : Con Try.prog 48 [.c (.sl nl (l.map keyc))] [.fr nl (if nl then 0 else 1) (l.map keyc) 0] := by
  refine spec_of Try.func48 rfl (by kernel_rfl) (by simp [Try.f48]) (fun w0 K0 => vc_ok _ _ _ (by kernel_rfl) ?_)
  simp only [Try.f48]
  cases nl with
  | true =>
    obtain rfl := hn rfl
    simp -dsimp
  | false =>
    simp -dsimp
    omega

set_option maxRecDepth 4000 in
set_option maxHeartbeats 4000000 in
theorem copied_spec (t : Tab) (hn : t.nc = true → t.cols = []) (hn' : t.nk = true → t.keys = []) (hl : t.cols.length ≤ 5864062014805) (hl' : t.keys.length ≤ 8796093022208) : Con Try.prog 41 [.agg t.cells] [.ag t.cells] := by
  refine spec_of Try.func41 rfl (by kernel_rfl) (by simp [Try.f41]) (fun w0 K0 => vc_ok _ _ _ (by kernel_rfl) ?_)
  simp only [Try.f41]
  simp -dsimp [Tab.cells]
  refine VL.draw (by kernel_rfl) [(0, false), (1, false), (3, false), (0, false), (8, false), (31, false), (31, false), (127, true), (255, true), (511, true)] (by kernel_rfl) ?_
  simp -dsimp
  refine VCE.mk _ (cloneCol_spec t.nc t.cols hn hl) ?_
  simp -dsimp
  refine VCE.mk _ (cloneStr_spec t.nk t.keys hn' hl') ?_
  simp -dsimp
  rfl
end Go.Proofs.Ytgodbpamppcfnaa
