/- plain and Same over structs with own rows. -/
import Derived.Test.YtgodbpamppcfnaaK3
import Derived.Test.YtgodbpamppcfnaaVN11
set_option linter.unusedSimpArgs false
set_option linter.unusedVariables false
namespace Go.Proofs.Ytgodbpamppcfnaa
open Go.VL Go.RowKit

set_option maxRecDepth 4000 in
set_option maxHeartbeats 4000000 in
theorem plain_own (t : Tab) : ConB Try.prog 14 [.st (t.own 3 4)] (t.rows 3 4) [.st (t.own 3 4)] [.st (t.own 3 4)] (t.rows 3 4) := by
  refine spec_ofS 5 Try.func14 rfl (by kernel_rfl) (by simp [Try.f14]) (by simp [Tab.rows]) rfl (fun w0 K0 uf => vx_ok (H := fun id => id == 1) _ _ _ (by kernel_rfl) ?_)
  simp only [Try.f14]
  simp -dsimp [initB, initEnv, pinsOf, Tab.own, Tab.rows]
  refine VL.hand (by kernel_rfl) ?_
  refine VRS.run 10 ?_
  simp -dsimp
  refine VRS.bld5 (i64 t.id) (str t.name) (bln t.ix) 3 t.cols.length 4 t.keys.length t.nc (zc t) (t.cols.map Col.cells) 0 t.nk (zk t) (t.keys.map keyc) 0 (fun v0 v1 v2 v3 v4 => by simp [pbuild, pfill]) (by simp) (by simp) (by simp) (by simp) (by simp) (by simp) (by simp) (by simp) (by simp) ?_
  refine VRS.fin ?_
  simp -dsimp
  refine ⟨rfl, by simp [resEnd, Tab.rows], rfl⟩
theorem plain_K (t : Tab) : ConK Try.prog 14 [.st (t.own 3 4)] (t.rows 3 4) [.st (t.own 3 4)] [.st (t.own 3 4)] (t.rows 3 4) := by
  refine (plain_own t).toK fun i r hi => ?_
  have := lk_mem hi
  simp [Tab.rows] at this
  rcases this with ⟨rfl, rfl⟩ | ⟨rfl, rfl⟩
  · exact ⟨t.cols.length, _, _, _, _, t.nc, zc t, t.cols.map Col.cells, 0, rfl, by simp, by simp [Tab.rows, lk, vlook], by simp, by simp [ownIn, ownIn0, Tab.own]⟩
  · exact ⟨t.keys.length, _, _, _, _, t.nk, zk t, t.keys.map keyc, 0, rfl, by simp, by simp [Tab.rows, lk, vlook], by simp, by simp [ownIn, ownIn0, Tab.own]⟩
theorem same_K (t u : Tab) (h1 : t.cols.length ≤ 140737488355328) (h2 : t.keys.length ≤ 140737488355328) : ConK Try.prog 13 [.st (t.own 3 4), .agg u.cells] (t.rows 3 4) [.c (bln (same t u))] [.st (t.own 3 4), .agg u.cells] (t.rows 3 4) := by
  have hB : ConB Try.prog 13 [.agg t.cells, .agg u.cells] [] [.c (bln (same t u))] [.agg t.cells, .agg u.cells] [] :=
    ConB.seenX (b := []) (by kernel_rfl) 0 (by simp) (by simp) (by simp [seenAs, seenA]) (by simp [flatR, flatC]) (same_spec t u h1 h2)
  have h := ConK.seenB (b := t.rows 3 4) (b1 := []) (as0 := [.st (t.own 3 4), .agg u.cells]) (ds := [.agg t.cells, .agg u.cells]) ?_ (by simp) ?_ (by simp) (by simp [flatS2, flatS1, flatC]) (by simp [S.nams, S.nam]) hB
  · rwa [List.append_nil] at h
  · intro p hp
    simp [Tab.rows] at hp
    rcases hp with rfl | rfl <;> rfl
  · simp [seenBs, seenB, seenAs, seenA, Tab.own, Tab.cells, Tab.rows, lk, vlook]
end Go.Proofs.Ytgodbpamppcfnaa
