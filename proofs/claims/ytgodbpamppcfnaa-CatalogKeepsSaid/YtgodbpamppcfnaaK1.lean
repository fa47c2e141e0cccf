/- Contracts of functions of the seat, proved in a logic on data over the model (part K1). -/
import Derived.Test.YtgodbpamppcfnaaC15
import Derived.Test.YtgodbpamppcfnaaC11
import Derived.Test.YtgodbpamppcfnaaC16
import Derived.Test.YtgodbpamppcfnaaC20
import Derived.Test.YtgodbpamppcfnaaVN6
import Derived.Test.YtgodbpamppcfnaaVN2
set_option linter.unusedSimpArgs false
set_option linter.unusedVariables false
namespace Go.Proofs.Ytgodbpamppcfnaa
open Go.VL Go.RowKit

/-- a table whose two rows are one's own -/
def Tab.own (A B : Nat) (t : Tab) : List S := [.c (i64 t.id), .c (str t.name), .own A t.cols.length, .own B t.keys.length, .c (bln t.ix)]
def zc (t : Tab) : Nat := if t.nc then 0 else 2
def zk (t : Tab) : Nat := if t.nk then 0 else 1
def Tab.rows (A B : Nat) (t : Tab) : List (Nat × Res) := [(A, .arr t.nc (zc t) (t.cols.map Col.cells) 0), (B, .arr t.nk (zk t) (t.keys.map keyc) 0)]

set_option maxRecDepth 4000 in
set_option maxHeartbeats 4000000 in
theorem copied_own (t : Tab) (ho : t.Ok) : ConB Try.prog 41 [.agg t.cells] [] [.st (t.own 320 512)] [.agg t.cells] (t.rows 320 512) := by
  refine spec_ofS 3 Try.func41 rfl (by kernel_rfl) (by simp [Try.f41]) (by simp) rfl (fun w0 K0 uf => vx_ok (H := fun id => id == 2) _ _ _ (by kernel_rfl) ?_)
  simp only [Try.f41]
  simp -dsimp [initB, initEnv, pinsOf, Tab.cells]
  refine VL.draw (by kernel_rfl) [(0, false), (1, false), (3, false), (0, false), (8, false), (31, false), (31, false), (127, true), (255, true), (511, true)] (by kernel_rfl) ?_
  simp -dsimp
  refine VCE.mk _ (cloneCol_spec t.nc t.cols ho.nc ho.lc) ?_
  simp -dsimp
  refine VCE.mk _ (cloneStr_spec t.nk t.keys ho.nk ho.lk) ?_
  simp -dsimp
  refine VL.hand (by kernel_rfl) ?_
  refine VRS.ldS (i := 64) (m := 5) (fz := false) (ss := t.own 320 512) (by simp) (by simp [Tab.own]) (by simp) rfl ?_
  refine VRS.fin ?_
  simp -dsimp [Tab.own]
  simp [resEnd, Tab.rows, zc, zk, Tab.cells]

set_option maxRecDepth 4000 in
set_option maxHeartbeats 4000000 in
theorem copyRef_own (t : Tab) (ho : t.Ok) : ConB Try.prog 22 [.agg t.cells] [] [.st (({ t with nc := false, nk := false } : Tab).own 192 512)] [.agg t.cells] (({ t with nc := false, nk := false } : Tab).rows 192 512) := by
  have h1 := ho.lc
  have h2 := ho.lk
  refine spec_ofS 3 Try.func22 rfl (by kernel_rfl) (by simp [Try.f22]) (by simp) rfl (fun w0 K0 uf => vx_ok (H := fun id => id == 3) _ _ _ (by kernel_rfl) ?_)
  simp only [Try.f22]
  simp -dsimp [initB, initEnv, pinsOf, Tab.cells]
  refine ⟨by omega, by omega, ?_⟩
  refine VL.hand (by kernel_rfl) ?_
  refine VRS.ldS (i := 64) (m := 5) (fz := false) (ss := ({ t with nc := false, nk := false } : Tab).own 192 512) (by simp) (by simp [Tab.own]) (by simp) rfl ?_
  refine VRS.fin ?_
  simp -dsimp [Tab.own]
  simp [resEnd, Tab.rows, zc, zk, Tab.cells]
end Go.Proofs.Ytgodbpamppcfnaa
