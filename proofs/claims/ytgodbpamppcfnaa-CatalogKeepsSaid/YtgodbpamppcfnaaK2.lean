/- Find and Tables of a catalog with one table: what they answer is new memory. -/
import Derived.Test.YtgodbpamppcfnaaK1
import Derived.Test.YtgodbpamppcfnaaVN7
set_option linter.unusedSimpArgs false
set_option linter.unusedVariables false
namespace Go.Proofs.Ytgodbpamppcfnaa
open Go.VL Go.RowKit

/-- a catalog with one table -/
def oneB (t : Tab) : List (Nat × Res) := [(1, .box false [.own 2 1]), (2, .arr false 5 [t.cells] 0)]

set_option maxRecDepth 4000 in
set_option maxHeartbeats 8000000 in
theorem find_own (t : Tab) (ho : t.Ok) : ConB Try.prog 24 [.ptr 1 0, .c (str t.name)] (oneB t) [.st (t.own 1408 1409), .c (i64 0)] [.ptr 1 0, .c (str t.name)] (oneB t ++ t.rows 1408 1409) := by
  refine spec_ofS 3 Try.func24 rfl (by kernel_rfl) (by simp [Try.f24]) (by simp [oneB]) rfl (fun w0 K0 uf => vc_ok _ _ _ (by kernel_rfl) ?_)
  simp only [Try.f24]
  simp -dsimp [initB, initEnv, pinsOf, oneB]
  refine VL.loop (fun _ : Unit => ⟨[(13, .c (i64 0)), (12, .c (i64 1)), (11, .own 2 1), (0, .ptr 1 0), (1, .c (str t.name)), (4, .ptr 256 0)],
    [(1, some (.box false [.own 2 1])), (2, some (.arr false 5 [t.cells] 0)), (3, some (.pin (uf 0) (.ptr 1 0))), (4, some (.pin (uf 1) (.c (str t.name)))),
     (256, some (.box false [.c (i64 0), .c (str []), .own 259 0, .own 260 0, .c (bln false)])), (260, some (.arr true 0 [] 0)), (259, some (.arr true 0 [] 0))]⟩)
    (fun _ => True) (fun _ => 0) () (by kernel_rfl) trivial (by simp [St.le]) ?_
  intro _ _
  simp -dsimp [Tab.cells]
  refine VC.lend [] (t.rows 320 512) [.agg t.cells] _ _ (fun i => if i = 320 then 1408 else 1409) [1408, 1409] ⟨copied_own t ho, ?_, ?_, ?_, ?_, ?_, ?_, ?_⟩ ?_
  · simp [renSs, renS, Tab.cells]
  · simp
  · simp [Tab.rows]
  · simp
  · simp [Tab.rows, Res.nam]
  · simp [Tab.rows, S.nams, S.nam, Tab.own]
  · simp [Tab.rows]
  simp -dsimp [Tab.rows, Tab.own, retS, renSs, renS, renR]
  simp [resEnd, oneB, Tab.cells]

def stT (t : Tab) (uf : Nat → Value) : Bool → St
  | false => ⟨[(11, .c (i64 0)), (10, .c (i64 1)), (9, .own 2 1), (3, .own 192 0), (0, .ptr 1 0)],
    [(1, some (.box false [.own 2 1])), (2, some (.arr false 5 [t.cells] 0)), (3, some (.pin (uf 0) (.ptr 1 0))), (192, some (.arr true 0 [] 0))]⟩
  | true => ⟨[(11, .c (i64 1)), (10, .c (i64 1)), (9, .own 2 1), (3, .mp 192), (0, .ptr 1 0)],
    [(1, some (.box false [.own 2 1])), (2, some (.arr false 5 [t.cells] 0)), (3, some (.pin (uf 0) (.ptr 1 0))), (192, some (.map (.rows false 5 [t.own 1088 1089]))), (1088, some (.arr t.nc (zc t) (t.cols.map Col.cells) 0)), (1089, some (.arr t.nk (zk t) (t.keys.map keyc) 0))]⟩

set_option maxRecDepth 4000 in
set_option maxHeartbeats 8000000 in
theorem tables_own (t : Tab) (ho : t.Ok) : ConB Try.prog 25 [.ptr 1 0] (oneB t) [.mp 192] [.ptr 1 0] (oneB t ++ [(192, .map (.rows false 5 [t.own 1088 1089]))] ++ t.rows 1088 1089) := by
  refine spec_ofS 3 Try.func25 rfl (by kernel_rfl) (by simp [Try.f25]) (by simp [oneB]) rfl (fun w0 K0 uf => vc_ok _ _ _ (by kernel_rfl) ?_)
  simp only [Try.f25]
  simp -dsimp [initB, initEnv, pinsOf, oneB]
  refine VL.loopX (fun id => id == 5) (stT t uf) (fun _ => True) (fun b => if b then 0 else 1) false (by kernel_rfl) trivial (by simp [St.le, stT]) ?_
  intro b _
  cases b with
  | false =>
    unfold stT
    simp -dsimp [Tab.cells]
    refine VL.hand (by kernel_rfl) ?_
    refine VRS.run 3 ?_
    simp -dsimp
    refine VC.lend [] (t.rows 320 512) [.agg t.cells] _ _ (fun i => if i = 320 then 1088 else 1089) [1088, 1089] ⟨copied_own t ho, ?_, ?_, ?_, ?_, ?_, ?_, ?_⟩ ?_
    · simp [renSs, renS, Tab.cells]
    · simp
    · simp [Tab.rows]
    · simp
    · simp [Tab.rows, Res.nam]
    · simp [Tab.rows, S.nams, S.nam, Tab.own]
    · simp [Tab.rows]
    simp -dsimp [Tab.rows, Tab.own, retS, renSs, renS, renR]
    refine VRS.bsM (s := 5) (el := 25) (ag := true) (z := (zeroOf Try.prog 25).getD undef) (t.own 1088 1089) (by simp [Tab.own]) Try.underlying56 (by simp) (by kernel_rfl) (by kernel_rfl) rfl (by decide) (by decide) (by simp [S.mens, S.men, Tab.own]) ?_
    simp -dsimp [Tab.own]
    refine VRS.appM 192 1152 0 0 5 80 [t.own 1088 1089] (by simp) (by simp) (by simp) (by simp [Tab.own]) (by simp) ⟨25, Try.underlying56⟩ (by simp) (by simp [S.mens, S.men, Tab.own]) (by decide) (by simp) ?_
    simp -dsimp [Tab.own]
    refine VRS.fin ?_
    simp -dsimp
    simp [St.le, stT, Tab.own]
    exact ⟨by decide, rfl⟩
  | true =>
    unfold stT
    simp -dsimp
    simp [resEnd, oneB, Tab.rows]
end Go.Proofs.Ytgodbpamppcfnaa
