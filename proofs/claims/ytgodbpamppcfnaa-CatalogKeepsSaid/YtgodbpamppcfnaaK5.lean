/- CatalogKeeps: the walk (begun). -/
import Derived.Test.YtgodbpamppcfnaaK4
import Derived.Test.YtgodbpamppcfnaaVN12
import Derived.Test.YtgodbpamppcfnaaC18
set_option linter.unusedSimpArgs false
set_option linter.unusedVariables false
namespace Go.Proofs.Ytgodbpamppcfnaa
open Go.VL Go.RowKit

def mine (t : Tab) : Tab := { t with nc := false, nk := false }
def tab0 (t : Tab) : Tab := ⟨1, t.name, false, t.cols, false, t.keys, false⟩
def wantT (t : Tab) : Tab := ⟨1, t.name, t.nc, t.cols, t.nk, t.keys, false⟩
theorem tab0_rows (A B : Nat) (t : Tab) : (tab0 t).rows A B = (mine t).rows A B := rfl

set_option maxRecDepth 4000 in
set_option maxHeartbeats 16000000 in
theorem keepsC_spec (t : Tab) (ho : t.Ok) : Con Try.prog 5 [.agg t.cells] [.c (bln true)] := by
  refine spec_of Try.func5 rfl (by kernel_rfl) (by simp [Try.f5]) (fun w0 K0 => vx_ok (H := fun id => id == 31) _ _ _ (by kernel_rfl) ?_)
  simp only [Try.f5]
  simp -dsimp [Tab.cells]
  refine VC.mk _ awake_spec ?_
  simp -dsimp
  refine VC.lend [] (catB true 0 [] 0) [] _ _ id [1, 2] ⟨new_spec, by simp [renSs], by simp, by simp [catB], by simp, by simp [catB, Res.nam, S.nams, S.nam], by simp [catB, S.nams, S.nam], by simp [catB]⟩ ?_
  simp -dsimp [catB, retS, renSs, renS, renR]
  have hpl := plain_spec t
  unfold Tab.cells at hpl
  refine VC.mk _ hpl ?_
  simp -dsimp
  refine VC.lend [] ((mine t).rows 192 512) [.agg t.cells] _ _ (fun i => if i = 192 then 1408 else 1409) [1408, 1409] ⟨copyRef_own t ho, by simp [renSs, renS, Tab.cells], by simp, by simp [Tab.rows], by simp, by simp [Tab.rows, Res.nam], by simp [Tab.rows, S.nams, S.nam, Tab.own, mine], by simp [Tab.rows]⟩ ?_
  simp -dsimp [Tab.rows, Tab.own, mine, zc, zk, retS, renSs, renS, renR]
  have hot : (tab0 t).Ok := ⟨by simp [tab0], by simp [tab0], ho.lc, ho.lk⟩
  by_cases he : creE [] (tab0 t) = 0
  · refine VCL.lend (catB true 0 [] 0 ++ (tab0 t).rows 3 4) (oneB (tab0 t) ++ (tab0 t).rows 3 4) [.ptr 1 0, .c (str t.name), .own 3 t.cols.length, .own 4 t.keys.length] _ _ (fun i => if i = 3 then 1408 else if i = 4 then 1409 else i) [2] ⟨create_yes (tab0 t) rfl rfl hot he, ?_, ?_, ?_, ?_, ?_, ?_, ?_⟩ ?_
    · simp [renSs, renS]
    · simp [catB, renR, renSs, renS, Tab.rows, tab0, zc, zk]
    · simp [oneB, Tab.rows]
    · simp [catB, oneB, Tab.rows]
    · simp [oneB, Tab.rows, Res.nam, S.nams, S.nam]
    · simp [S.nams, S.nam]
    · intro p hp
      simp [oneB, Tab.rows] at hp
      rcases hp with rfl | rfl | rfl | rfl
      · exact .inr ⟨.box false [.own 2 0], by simp [catB, lk, vlook], by simp [keptP]⟩
      · exact .inl (by simp)
      · refine .inr ⟨.arr false (zc (tab0 t)) (t.cols.map Col.cells) 0, by simp [catB, Tab.rows, lk, vlook, tab0], ?_⟩
        exact .inr (.inl ⟨rfl, rfl, rfl, _, _, _, _, _, _, _, rfl, rfl, by simp, by simp [tab0]⟩)
      · refine .inr ⟨.arr false (zk (tab0 t)) (t.keys.map keyc) 0, by simp [catB, Tab.rows, lk, vlook, tab0], ?_⟩
        exact .inr (.inr (.inl ⟨rfl, rfl, rfl, _, _, _, _, _, _, _, rfl, rfl, by simp, by simp [tab0]⟩))
    simp -dsimp [oneB, Tab.rows, tab0, zc, zk, retS, renSs, renS, renR]
    refine VL.to ⟨[(6, .c (i64 0)), (4, .ptr 256 0), (3, .ptr 1 0), (1, .ptr 64 0)],
      [(1, some (.box false [.own 2 1])), (2, some (.arr false 5 [(tab0 t).cells] 0)), (1408, some (.arr false 2 (t.cols.map Col.cells) 0)), (1409, some (.arr false 1 (t.keys.map keyc) 0)),
       (256, some (.box false ((mine t).own 1408 1409))), (64, some t.box)]⟩ (by simp [St.le, tab0, mine, Tab.own, Tab.box]) ?_
    have hse : same (mine t) t = true := by simp [same, mine]
    have hlc : (mine t).cols.length ≤ 140737488355328 := by have := ho.lc; show t.cols.length ≤ _; omega
    have hlk : (mine t).keys.length ≤ 140737488355328 := by have := ho.lk; show t.keys.length ≤ _; omega
    refine VL.anyTo ⟨[(38, .c (bln false)), (6, .c (i64 0)), (4, .ptr 256 0), (3, .ptr 1 0), (1, .ptr 64 0)],
      [(1, some (.box false [.own 2 1])), (2, some (.arr false 5 [(tab0 t).cells] 0)), (1408, some (.arr false 2 (t.cols.map Col.cells) 0)), (1409, some (.arr false 1 (t.keys.map keyc) 0)),
       (256, some (.box false ((mine t).own 1408 1409))), (64, some t.box)]⟩ (by kernel_rfl) ?_ ?_
    · refine VA.node [0, 1] (by kernel_rfl) (by simp) ?_
      intro i hi
      simp at hi
      rcases hi with rfl | rfl
      · -- the copy first
        refine VOp.ldS (i := 256) (m := 5) (fz := false) (ss := (mine t).own 1408 1409) rfl (by decide) (by simp) (by simp) (by simp) rfl ?_
        refine VA.node [1] (by kernel_rfl) (by simp) ?_
        intro i hi
        simp at hi
        subst hi
        refine VOp.run rfl (by kernel_rfl) ?_
        simp -dsimp [Tab.box]
        refine VA.node [2] (by kernel_rfl) (by simp) ?_
        intro i hi
        simp at hi
        subst hi
        refine VOp.run rfl (by kernel_rfl) ?_
        simp -dsimp
        refine VC.mk _ hpl ?_
        simp -dsimp
        refine VA.node [3] (by kernel_rfl) (by simp) ?_
        intro i hi
        simp at hi
        subst hi
        refine VOp.callK ((mine t).rows 3 4) ((mine t).rows 3 4) [.st ((mine t).own 3 4), .agg t.cells] [.c (bln (same (mine t) t))] [.st ((mine t).own 3 4), .agg t.cells] (fun i => if i = 3 then 1408 else 1409) [] rfl (by kernel_rfl) (by simp) ⟨same_K (mine t) t hlc hlk, ?_, ?_, ?_, ?_, ?_, ?_, ?_⟩ ?_
        · simp [renSs, renS, Tab.own, mine, Tab.cells]
        · simp [Tab.rows, renR, mine, zc, zk]
        · simp [Tab.rows]
        · simp [Tab.rows]
        · simp [Tab.rows, Res.nam]
        · simp [S.nams, S.nam]
        · intro p hp
          simp [Tab.rows] at hp
          rcases hp with rfl | rfl
          · exact .inr ⟨_, rfl, by simp [alikeR]⟩
          · exact .inr ⟨_, rfl, by simp [alikeR]⟩
        rw [hse]
        simp -dsimp [Tab.rows, mine, zc, zk, retS, renSs, renS, renR]
        refine VA.node [4] (by kernel_rfl) (by simp) ?_
        intro i hi
        simp at hi
        subst hi
        refine VOp.run rfl (by kernel_rfl) ?_
        simp -dsimp
        refine VA.fin (by kernel_rfl) ?_
        simp [St.le, mine, Tab.own, Tab.box]
      · -- the table first
        refine VOp.run rfl (by kernel_rfl) ?_
        simp -dsimp [Tab.box]
        refine VA.node [0, 2] (by kernel_rfl) (by simp) ?_
        intro i hi
        simp at hi
        rcases hi with rfl | rfl
        · skip
          refine VOp.ldS (i := 256) (m := 5) (fz := false) (ss := (mine t).own 1408 1409) rfl (by decide) (by simp) (by simp) (by simp) rfl ?_
          refine VA.node [2] (by kernel_rfl) (by simp) ?_
          intro i hi
          simp at hi
          subst hi
          refine VOp.run rfl (by kernel_rfl) ?_
          simp -dsimp
          refine VC.mk _ hpl ?_
          simp -dsimp
          refine VA.node [3] (by kernel_rfl) (by simp) ?_
          intro i hi
          simp at hi
          subst hi
          refine VOp.callK ((mine t).rows 3 4) ((mine t).rows 3 4) [.st ((mine t).own 3 4), .agg t.cells] [.c (bln (same (mine t) t))] [.st ((mine t).own 3 4), .agg t.cells] (fun i => if i = 3 then 1408 else 1409) [] rfl (by kernel_rfl) (by simp) ⟨same_K (mine t) t hlc hlk, ?_, ?_, ?_, ?_, ?_, ?_, ?_⟩ ?_
          · simp [renSs, renS, Tab.own, mine, Tab.cells]
          · simp [Tab.rows, renR, mine, zc, zk]
          · simp [Tab.rows]
          · simp [Tab.rows]
          · simp [Tab.rows, Res.nam]
          · simp [S.nams, S.nam]
          · intro p hp
            simp [Tab.rows] at hp
            rcases hp with rfl | rfl
            · exact .inr ⟨_, rfl, by simp [alikeR]⟩
            · exact .inr ⟨_, rfl, by simp [alikeR]⟩
          rw [hse]
          simp -dsimp [Tab.rows, mine, zc, zk, retS, renSs, renS, renR]
          refine VA.node [4] (by kernel_rfl) (by simp) ?_
          intro i hi
          simp at hi
          subst hi
          refine VOp.run rfl (by kernel_rfl) ?_
          simp -dsimp
          refine VA.fin (by kernel_rfl) ?_
          simp [St.le, mine, Tab.own, Tab.box]
        · skip
          refine VOp.run rfl (by kernel_rfl) ?_
          simp -dsimp
          refine VC.mk _ hpl ?_
          simp -dsimp
          refine VA.node [0] (by kernel_rfl) (by simp) ?_
          intro i hi
          simp at hi
          subst hi
          refine VOp.ldS (i := 256) (m := 5) (fz := false) (ss := (mine t).own 1408 1409) rfl (by decide) (by simp) (by simp) (by simp) rfl ?_
          refine VA.node [3] (by kernel_rfl) (by simp) ?_
          intro i hi
          simp at hi
          subst hi
          refine VOp.callK ((mine t).rows 3 4) ((mine t).rows 3 4) [.st ((mine t).own 3 4), .agg t.cells] [.c (bln (same (mine t) t))] [.st ((mine t).own 3 4), .agg t.cells] (fun i => if i = 3 then 1408 else 1409) [] rfl (by kernel_rfl) (by simp) ⟨same_K (mine t) t hlc hlk, ?_, ?_, ?_, ?_, ?_, ?_, ?_⟩ ?_
          · simp [renSs, renS, Tab.own, mine, Tab.cells]
          · simp [Tab.rows, renR, mine, zc, zk]
          · simp [Tab.rows]
          · simp [Tab.rows]
          · simp [Tab.rows, Res.nam]
          · simp [S.nams, S.nam]
          · intro p hp
            simp [Tab.rows] at hp
            rcases hp with rfl | rfl
            · exact .inr ⟨_, rfl, by simp [alikeR]⟩
            · exact .inr ⟨_, rfl, by simp [alikeR]⟩
          rw [hse]
          simp -dsimp [Tab.rows, mine, zc, zk, retS, renSs, renS, renR]
          refine VA.node [4] (by kernel_rfl) (by simp) ?_
          intro i hi
          simp at hi
          subst hi
          refine VOp.run rfl (by kernel_rfl) ?_
          simp -dsimp
          refine VA.fin (by kernel_rfl) ?_
          simp [St.le, mine, Tab.own, Tab.box]
    simp -dsimp [mine, Tab.own]
    refine VL.loop (fun q : Nat × List (List C) => ⟨[(42, .c (i64 q.1)), (41, .c (i64 t.cols.length)), (6, .c (i64 0)), (4, .ptr 256 0), (3, .ptr 1 0), (1, .ptr 64 0)],
        [(1, some (.box false [.own 2 1])), (2, some (.arr false 5 [(tab0 t).cells] 0)), (1408, some (.arr false 2 q.2 0)), (1409, some (.arr false 1 (t.keys.map keyc) 0)),
         (256, some (.box false ((mine t).own 1408 1409))), (64, some t.box)]⟩)
      (fun q => q.1 ≤ t.cols.length ∧ q.2.length = t.cols.length) (fun q => t.cols.length - q.1) (0, t.cols.map Col.cells) (by kernel_rfl) (by simp) (by simp [St.le, mine, Tab.own, Tab.box, tab0]) ?_
    rintro ⟨k, xs⟩ ⟨hk, hxs⟩
    simp only at hk hxs
    simp -dsimp [mine, Tab.own]
    refine VIf.mk (fun g => ?_) (fun g => ?_)
    · have hlt : k < t.cols.length := by simpa using g
      have hlt2 : k < xs.length := by omega
      have hw : IntKind.i64.wrap ((k : Int) + 1) = (k : Int) + 1 := IntWalk.i64_in _ (by have := ho.lc; omega)
      simp -dsimp [hlt, hlt2, hw, hxs]
      refine ⟨k + 1, xs.set k (C.v (.string ⟨#[83, 80, 79, 73, 76, 84]⟩) :: xs[k].tail), ⟨hlt, by simpa using hxs⟩, ?_, by omega⟩
      simp [St.le, mine, Tab.own, Tab.box, tab0]
    · simp -dsimp
      refine VL.loop (fun q : Nat × List (List C) => ⟨[(54, .c (i64 q.1)), (53, .c (i64 t.keys.length)), (6, .c (i64 0)), (4, .ptr 256 0), (3, .ptr 1 0), (1, .ptr 64 0)],
          [(1, some (.box false [.own 2 1])), (2, some (.arr false 5 [(tab0 t).cells] 0)), (1408, some (.arr false 2 xs 0)), (1409, some (.arr false 1 q.2 0)),
           (256, some (.box false ((mine t).own 1408 1409))), (64, some t.box)]⟩)
        (fun q => q.1 ≤ t.keys.length ∧ q.2.length = t.keys.length) (fun q => t.keys.length - q.1) (0, t.keys.map keyc) (by kernel_rfl) (by simp) (by simp [St.le, mine, Tab.own]) ?_
      rintro ⟨k2, ks⟩ ⟨hk2, hks⟩
      simp only at hk2 hks
      simp -dsimp [mine, Tab.own]
      refine VIf.mk (fun g => ?_) (fun g => ?_)
      · have hlt : k2 < t.keys.length := by simpa using g
        have hlt2 : k2 < ks.length := by omega
        have hw : IntKind.i64.wrap ((k2 : Int) + 1) = (k2 : Int) + 1 := IntWalk.i64_in _ (by have := ho.lk; omega)
        simp -dsimp [hlt, hlt2, hw, hks]
        refine ⟨k2 + 1, ks.set k2 (C.v (.string ⟨#[83, 80, 79, 73, 76, 84]⟩) :: ks[k2].tail), ⟨hlt, by simpa using hks⟩, ?_, by omega⟩
        simp [St.le, mine, Tab.own, Tab.box, tab0]
      · simp -dsimp [Tab.box]
        refine VCL.lend (oneB (tab0 t)) (oneB (tab0 t) ++ (tab0 t).rows 1408 1409) [.ptr 1 0, .c (str t.name)] _ _ (fun i => if i = 1408 then 2000 else if i = 1409 then 2001 else i) [2, 2000, 2001] ⟨find_own (tab0 t) hot, ?_, ?_, ?_, ?_, ?_, ?_, ?_⟩ ?_
        · simp [renSs, renS]
        · simp [oneB, renR, renSs, renS]
        · simp [oneB, Tab.rows]
        · simp [oneB]
        · simp [oneB, Tab.rows, Res.nam, S.nams, S.nam]
        · simp [oneB, Tab.rows, S.nams, S.nam, Tab.own]
        · intro p hp
          simp [oneB, Tab.rows] at hp
          rcases hp with rfl | rfl | rfl | rfl
          · exact .inr ⟨.box false [.own 2 1], by simp [oneB, lk, vlook], by simp [keptP]⟩
          · exact .inl (by simp)
          · exact .inl (by simp)
          · exact .inl (by simp)
        simp -dsimp [oneB, Tab.rows, Tab.own, tab0, zc, zk, retS, renSs, renS, renR]
        refine VC.mk _ hpl ?_
        simp -dsimp
        refine VL.to ⟨[(11, .ptr 704 0), (9, .ptr 576 0), (3, .ptr 1 0), (1, .ptr 64 0)],
          [(1, some (.box false [.own 2 1])), (2, some (.arr false 5 [(tab0 t).cells] 0)), (2000, some (.arr false 2 (t.cols.map Col.cells) 0)), (2001, some (.arr false 1 (t.keys.map keyc) 0)),
           (576, some (.box false ((tab0 t).own 2000 2001))), (704, some (.box false [.c (i64 1), .c (str t.name), .c (.sl t.nc (t.cols.map Col.cells)), .c (.sl t.nk (t.keys.map keyc)), .c (bln false)])), (64, some t.box)]⟩ (by simp [St.le, tab0, Tab.own, Tab.box, Tab.cells]) ?_
        have hsw : same (tab0 t) (wantT t) = true := by simp [same, tab0, wantT]
        refine VL.anyTo ⟨[(81, .c (bln false)), (11, .ptr 704 0), (9, .ptr 576 0), (3, .ptr 1 0), (1, .ptr 64 0)],
          [(1, some (.box false [.own 2 1])), (2, some (.arr false 5 [(tab0 t).cells] 0)), (2000, some (.arr false 2 (t.cols.map Col.cells) 0)), (2001, some (.arr false 1 (t.keys.map keyc) 0)),
           (576, some (.box false ((tab0 t).own 2000 2001))), (704, some (.box false [.c (i64 1), .c (str t.name), .c (.sl t.nc (t.cols.map Col.cells)), .c (.sl t.nk (t.keys.map keyc)), .c (bln false)])), (64, some t.box)]⟩ (by kernel_rfl) ?_ ?_
        · refine VA.node [0, 2] (by kernel_rfl) (by simp) ?_
          intro i hi
          simp at hi
          rcases hi with rfl | rfl
          · skip
            refine VOp.ldS (i := 576) (m := 5) (fz := false) (ss := (tab0 t).own 2000 2001) rfl (by decide) (by simp) (by simp) (by simp) rfl ?_
            refine VA.node [1, 2] (by kernel_rfl) (by simp) ?_
            intro i hi
            simp at hi
            rcases hi with rfl | rfl
            · skip
              refine VOp.callK ((tab0 t).rows 3 4) ((tab0 t).rows 3 4) [.st ((tab0 t).own 3 4)] [.st ((tab0 t).own 3 4)] [.st ((tab0 t).own 3 4)] (fun i => if i = 3 then 2000 else 2001) [] rfl (by kernel_rfl) (by simp) ⟨plain_K (tab0 t), ?_, ?_, ?_, ?_, ?_, ?_, ?_⟩ ?_
              · simp [renSs, renS, Tab.own, tab0, wantT, Tab.cells]
              · simp [Tab.rows, renR, tab0, zc, zk]
              · simp [Tab.rows]
              · simp [Tab.rows]
              · simp [Tab.rows, Res.nam]
              · simp [S.nams, S.nam, Tab.own, Tab.rows]
              · intro p hp
                simp [Tab.rows] at hp
                rcases hp with rfl | rfl
                · exact .inr ⟨_, rfl, by simp [alikeR]⟩
                · exact .inr ⟨_, rfl, by simp [alikeR]⟩
              simp -dsimp [Tab.rows, Tab.own, tab0, zc, zk, retS, renSs, renS, renR]
              refine VA.node [2] (by kernel_rfl) (by simp) ?_
              intro i hi
              simp at hi
              subst hi
              refine VOp.run rfl (by kernel_rfl) ?_
              simp -dsimp
              refine VA.node [3] (by kernel_rfl) (by simp) ?_
              intro i hi
              simp at hi
              subst hi
              refine VOp.callK ((tab0 t).rows 3 4) ((tab0 t).rows 3 4) [.st ((tab0 t).own 3 4), .agg (wantT t).cells] [.c (bln (same (tab0 t) (wantT t)))] [.st ((tab0 t).own 3 4), .agg (wantT t).cells] (fun i => if i = 3 then 2000 else 2001) [] rfl (by kernel_rfl) (by simp) ⟨same_K (tab0 t) (wantT t) hlc hlk, ?_, ?_, ?_, ?_, ?_, ?_, ?_⟩ ?_
              · simp [renSs, renS, Tab.own, tab0, wantT, Tab.cells]
              · simp [Tab.rows, renR, tab0, zc, zk]
              · simp [Tab.rows]
              · simp [Tab.rows]
              · simp [Tab.rows, Res.nam]
              · simp [S.nams, S.nam, Tab.own, Tab.rows]
              · intro p hp
                simp [Tab.rows] at hp
                rcases hp with rfl | rfl
                · exact .inr ⟨_, rfl, by simp [alikeR]⟩
                · exact .inr ⟨_, rfl, by simp [alikeR]⟩
              rw [hsw]
              simp -dsimp [Tab.rows, tab0, zc, zk, retS, renSs, renS, renR]
              refine VA.node [4] (by kernel_rfl) (by simp) ?_
              intro i hi
              simp at hi
              subst hi
              refine VOp.run rfl (by kernel_rfl) ?_
              simp -dsimp
              refine VA.fin (by kernel_rfl) ?_
              simp [St.le, tab0, Tab.own, Tab.box, Tab.cells]
            · skip
              refine VOp.run rfl (by kernel_rfl) ?_
              simp -dsimp
              refine VA.node [1] (by kernel_rfl) (by simp) ?_
              intro i hi
              simp at hi
              subst hi
              refine VOp.callK ((tab0 t).rows 3 4) ((tab0 t).rows 3 4) [.st ((tab0 t).own 3 4)] [.st ((tab0 t).own 3 4)] [.st ((tab0 t).own 3 4)] (fun i => if i = 3 then 2000 else 2001) [] rfl (by kernel_rfl) (by simp) ⟨plain_K (tab0 t), ?_, ?_, ?_, ?_, ?_, ?_, ?_⟩ ?_
              · simp [renSs, renS, Tab.own, tab0, wantT, Tab.cells]
              · simp [Tab.rows, renR, tab0, zc, zk]
              · simp [Tab.rows]
              · simp [Tab.rows]
              · simp [Tab.rows, Res.nam]
              · simp [S.nams, S.nam, Tab.own, Tab.rows]
              · intro p hp
                simp [Tab.rows] at hp
                rcases hp with rfl | rfl
                · exact .inr ⟨_, rfl, by simp [alikeR]⟩
                · exact .inr ⟨_, rfl, by simp [alikeR]⟩
              simp -dsimp [Tab.rows, Tab.own, tab0, zc, zk, retS, renSs, renS, renR]
              refine VA.node [3] (by kernel_rfl) (by simp) ?_
              intro i hi
              simp at hi
              subst hi
              refine VOp.callK ((tab0 t).rows 3 4) ((tab0 t).rows 3 4) [.st ((tab0 t).own 3 4), .agg (wantT t).cells] [.c (bln (same (tab0 t) (wantT t)))] [.st ((tab0 t).own 3 4), .agg (wantT t).cells] (fun i => if i = 3 then 2000 else 2001) [] rfl (by kernel_rfl) (by simp) ⟨same_K (tab0 t) (wantT t) hlc hlk, ?_, ?_, ?_, ?_, ?_, ?_, ?_⟩ ?_
              · simp [renSs, renS, Tab.own, tab0, wantT, Tab.cells]
              · simp [Tab.rows, renR, tab0, zc, zk]
              · simp [Tab.rows]
              · simp [Tab.rows]
              · simp [Tab.rows, Res.nam]
              · simp [S.nams, S.nam, Tab.own, Tab.rows]
              · intro p hp
                simp [Tab.rows] at hp
                rcases hp with rfl | rfl
                · exact .inr ⟨_, rfl, by simp [alikeR]⟩
                · exact .inr ⟨_, rfl, by simp [alikeR]⟩
              rw [hsw]
              simp -dsimp [Tab.rows, tab0, zc, zk, retS, renSs, renS, renR]
              refine VA.node [4] (by kernel_rfl) (by simp) ?_
              intro i hi
              simp at hi
              subst hi
              refine VOp.run rfl (by kernel_rfl) ?_
              simp -dsimp
              refine VA.fin (by kernel_rfl) ?_
              simp [St.le, tab0, Tab.own, Tab.box, Tab.cells]
          · skip
            refine VOp.run rfl (by kernel_rfl) ?_
            simp -dsimp
            refine VA.node [0] (by kernel_rfl) (by simp) ?_
            intro i hi
            simp at hi
            subst hi
            refine VOp.ldS (i := 576) (m := 5) (fz := false) (ss := (tab0 t).own 2000 2001) rfl (by decide) (by simp) (by simp) (by simp) rfl ?_
            refine VA.node [1] (by kernel_rfl) (by simp) ?_
            intro i hi
            simp at hi
            subst hi
            refine VOp.callK ((tab0 t).rows 3 4) ((tab0 t).rows 3 4) [.st ((tab0 t).own 3 4)] [.st ((tab0 t).own 3 4)] [.st ((tab0 t).own 3 4)] (fun i => if i = 3 then 2000 else 2001) [] rfl (by kernel_rfl) (by simp) ⟨plain_K (tab0 t), ?_, ?_, ?_, ?_, ?_, ?_, ?_⟩ ?_
            · simp [renSs, renS, Tab.own, tab0, wantT, Tab.cells]
            · simp [Tab.rows, renR, tab0, zc, zk]
            · simp [Tab.rows]
            · simp [Tab.rows]
            · simp [Tab.rows, Res.nam]
            · simp [S.nams, S.nam, Tab.own, Tab.rows]
            · intro p hp
              simp [Tab.rows] at hp
              rcases hp with rfl | rfl
              · exact .inr ⟨_, rfl, by simp [alikeR]⟩
              · exact .inr ⟨_, rfl, by simp [alikeR]⟩
            simp -dsimp [Tab.rows, Tab.own, tab0, zc, zk, retS, renSs, renS, renR]
            refine VA.node [3] (by kernel_rfl) (by simp) ?_
            intro i hi
            simp at hi
            subst hi
            refine VOp.callK ((tab0 t).rows 3 4) ((tab0 t).rows 3 4) [.st ((tab0 t).own 3 4), .agg (wantT t).cells] [.c (bln (same (tab0 t) (wantT t)))] [.st ((tab0 t).own 3 4), .agg (wantT t).cells] (fun i => if i = 3 then 2000 else 2001) [] rfl (by kernel_rfl) (by simp) ⟨same_K (tab0 t) (wantT t) hlc hlk, ?_, ?_, ?_, ?_, ?_, ?_, ?_⟩ ?_
            · simp [renSs, renS, Tab.own, tab0, wantT, Tab.cells]
            · simp [Tab.rows, renR, tab0, zc, zk]
            · simp [Tab.rows]
            · simp [Tab.rows]
            · simp [Tab.rows, Res.nam]
            · simp [S.nams, S.nam, Tab.own, Tab.rows]
            · intro p hp
              simp [Tab.rows] at hp
              rcases hp with rfl | rfl
              · exact .inr ⟨_, rfl, by simp [alikeR]⟩
              · exact .inr ⟨_, rfl, by simp [alikeR]⟩
            rw [hsw]
            simp -dsimp [Tab.rows, tab0, zc, zk, retS, renSs, renS, renR]
            refine VA.node [4] (by kernel_rfl) (by simp) ?_
            intro i hi
            simp at hi
            subst hi
            refine VOp.run rfl (by kernel_rfl) ?_
            simp -dsimp
            refine VA.fin (by kernel_rfl) ?_
            simp [St.le, tab0, Tab.own, Tab.box, Tab.cells]
        simp -dsimp [tab0, Tab.own]
        refine VL.loop (fun q : Nat × List (List C) => ⟨[(85, .c (i64 q.1)), (84, .c (i64 t.cols.length)), (11, .ptr 704 0), (9, .ptr 576 0), (3, .ptr 1 0), (1, .ptr 64 0)],
            [(1, some (.box false [.own 2 1])), (2, some (.arr false 5 [(tab0 t).cells] 0)), (2000, some (.arr false 2 q.2 0)), (2001, some (.arr false 1 (t.keys.map keyc) 0)),
             (576, some (.box false ((tab0 t).own 2000 2001))), (704, some (.box false [.c (i64 1), .c (str t.name), .c (.sl t.nc (t.cols.map Col.cells)), .c (.sl t.nk (t.keys.map keyc)), .c (bln false)])), (64, some t.box)]⟩)
          (fun q => q.1 ≤ t.cols.length ∧ q.2.length = t.cols.length) (fun q => t.cols.length - q.1) (0, t.cols.map Col.cells) (by kernel_rfl) (by simp) (by simp [St.le, Tab.own, tab0]) ?_
        rintro ⟨k3, xs3⟩ ⟨hk3, hxs3⟩
        simp only at hk3 hxs3
        simp -dsimp [tab0, Tab.own]
        refine VIf.mk (fun g => ?_) (fun g => ?_)
        · have hlt : k3 < t.cols.length := by simpa using g
          have hlt2 : k3 < xs3.length := by omega
          have hw : IntKind.i64.wrap ((k3 : Int) + 1) = (k3 : Int) + 1 := IntWalk.i64_in _ (by have := ho.lc; omega)
          simp -dsimp [hlt, hlt2, hw, hxs3]
          refine ⟨k3 + 1, xs3.set k3 (C.v (.string ⟨#[83, 80, 79, 73, 76, 84]⟩) :: xs3[k3].tail), ⟨hlt, by simpa using hxs3⟩, ?_, by omega⟩
          simp [St.le, Tab.own, Tab.box, tab0]
        · simp -dsimp [Tab.box]
          refine VCL.lend (oneB (tab0 t)) (oneB (tab0 t) ++ [(192, .map (.rows false 5 [(tab0 t).own 1088 1089]))] ++ (tab0 t).rows 1088 1089) [.ptr 1 0] _ _ (fun i => if i = 192 then 3000 else if i = 1088 then 3001 else if i = 1089 then 3002 else i) [2, 3000, 3001, 3002] ⟨tables_own (tab0 t) hot, ?_, ?_, ?_, ?_, ?_, ?_, ?_⟩ ?_
          · simp [renSs, renS]
          · simp [oneB, renR, renSs, renS, tab0]
          · simp [oneB, Tab.rows]
          · simp [oneB]
          · simp [oneB, Tab.rows, Res.nam, S.nams, S.nam, MB.cells, Tab.own]
          · simp [oneB, Tab.rows, S.nams, S.nam, Tab.own]
          · intro p hp
            simp [oneB, Tab.rows] at hp
            rcases hp with rfl | rfl | rfl | rfl | rfl
            · exact .inr ⟨.box false [.own 2 1], by simp [oneB, lk, vlook], by simp [keptP]⟩
            · exact .inl (by simp)
            · exact .inl (by simp)
            · exact .inl (by simp)
            · exact .inl (by simp)
          simp -dsimp [oneB, Tab.rows, Tab.own, tab0, zc, zk, retS, renSs, renS, renR, MB.map]
          refine VL.hand (by kernel_rfl) ?_
          refine VRS.run 1 ?_
          simp -dsimp
          refine VRS.ixM 3000 0 5 [(tab0 t).own 3001 3002] (by simp) (by simp) (by simp) (by simp [tab0, Tab.own]) (by simp) (by kernel_rfl) ?_
          refine VRS.fdM (off := 3) (agg := false) (n := 1) 3000 0 0 5 [(tab0 t).own 3001 3002] (by simp) (by simp [tab0, Tab.own]) (by simp) (by kernel_rfl) (by decide) ?_
          refine VRS.ldM (n := 1) 3000 0 3 5 [(tab0 t).own 3001 3002] ((tab0 t).own 3001 3002) (.own 3002 t.keys.length) (by simp) (by simp [tab0, Tab.own]) rfl (by simp [tab0, Tab.own]) (by kernel_rfl) ?_
          refine VRS.fin ?_
          simp -dsimp
          refine VL.loopX (fun id => id == 34) (fun q : Nat × List (List C) => ⟨[(101, .c (i64 q.1)), (100, .c (i64 t.keys.length)), (13, .mp 3000), (11, .ptr 704 0), (3, .ptr 1 0), (1, .ptr 64 0)],
              [(1, some (.box false [.own 2 1])), (2, some (.arr false 5 [(tab0 t).cells] 0)), (3000, some (.map (.rows false 5 [(tab0 t).own 3001 3002]))), (3002, some (.arr false 1 q.2 0)),
               (704, some (.box false [.c (i64 1), .c (str t.name), .c (.sl t.nc (t.cols.map Col.cells)), .c (.sl t.nk (t.keys.map keyc)), .c (bln false)])), (64, some t.box)]⟩)
            (fun q => q.1 ≤ t.keys.length ∧ q.2.length = t.keys.length) (fun q => t.keys.length - q.1) (0, t.keys.map keyc) (by kernel_rfl) (by simp) (by simp [St.le, Tab.own, tab0, Tab.box]) ?_
          rintro ⟨k4, ks4⟩ ⟨hk4, hks4⟩
          simp only at hk4 hks4
          simp -dsimp [tab0, Tab.own]
          refine VIf.mk (fun g => ?_) (fun g => ?_)
          · have hlt : k4 < t.keys.length := by simpa using g
            have hlt2 : k4 < ks4.length := by omega
            have hw : IntKind.i64.wrap ((k4 : Int) + 1) = (k4 : Int) + 1 := IntWalk.i64_in _ (by have := ho.lk; omega)
            simp -dsimp [hlt, hlt2]
            refine VL.hand (by kernel_rfl) ?_
            refine VRS.run 1 ?_
            simp -dsimp
            refine VRS.ixM 3000 0 5 [(tab0 t).own 3001 3002] (by simp) (by simp) (by simp) (by simp [tab0, Tab.own]) (by simp) (by kernel_rfl) ?_
            refine VRS.fdM (off := 3) (agg := false) (n := 1) 3000 0 0 5 [(tab0 t).own 3001 3002] (by simp) (by simp [tab0, Tab.own]) (by simp) (by kernel_rfl) (by decide) ?_
            refine VRS.ldM (n := 1) 3000 0 3 5 [(tab0 t).own 3001 3002] ((tab0 t).own 3001 3002) (.own 3002 t.keys.length) (by simp) (by simp [tab0, Tab.own]) rfl (by simp [tab0, Tab.own]) (by kernel_rfl) ?_
            refine VRS.fin ?_
            simp -dsimp [hlt, hlt2, hw, hks4]
            refine ⟨k4 + 1, ks4.set k4 (C.v (.string ⟨#[83, 80, 79, 73, 76, 84]⟩) :: ks4[k4].tail), ⟨hlt, by simpa using hks4⟩, ?_, by omega⟩
            simp [St.le, Tab.own, Tab.box, tab0]
          · simp -dsimp [Tab.box]
            refine VCL.lend (oneB (tab0 t)) (oneB (tab0 t) ++ (tab0 t).rows 1408 1409) [.ptr 1 0, .c (str t.name)] _ _ (fun i => if i = 1408 then 5000 else if i = 1409 then 5001 else i) [2, 5000, 5001] ⟨find_own (tab0 t) hot, ?_, ?_, ?_, ?_, ?_, ?_, ?_⟩ ?_
            · simp [renSs, renS]
            · simp [oneB, renR, renSs, renS, tab0]
            · simp [oneB, Tab.rows]
            · simp [oneB]
            · simp [oneB, Tab.rows, Res.nam, S.nams, S.nam]
            · simp [oneB, Tab.rows, S.nams, S.nam, Tab.own]
            · intro p hp
              simp [oneB, Tab.rows] at hp
              rcases hp with rfl | rfl | rfl | rfl
              · exact .inr ⟨.box false [.own 2 1], by simp [oneB, lk, vlook], by simp [keptP]⟩
              · exact .inl (by simp)
              · exact .inl (by simp)
              · exact .inl (by simp)
            simp -dsimp [oneB, Tab.rows, Tab.own, tab0, zc, zk, retS, renSs, renS, renR]
            refine VL.to ⟨[(15, .ptr 960 0), (11, .ptr 704 0), (3, .ptr 1 0), (1, .ptr 64 0)],
              [(1, some (.box false [.own 2 1])), (2, some (.arr false 5 [(tab0 t).cells] 0)), (5000, some (.arr false 2 (t.cols.map Col.cells) 0)), (5001, some (.arr false 1 (t.keys.map keyc) 0)),
               (960, some (.box false ((tab0 t).own 5000 5001))), (704, some (.box false [.c (i64 1), .c (str t.name), .c (.sl t.nc (t.cols.map Col.cells)), .c (.sl t.nk (t.keys.map keyc)), .c (bln false)])), (64, some t.box)]⟩ (by simp [St.le, tab0, Tab.own, Tab.box, Tab.cells]) ?_
            refine VL.anyTo ⟨[(2, .c (bln true))], []⟩ (by kernel_rfl) ?_ ?_
            · refine VA.node [0, 2] (by kernel_rfl) (by simp) ?_
              intro i hi
              simp at hi
              rcases hi with rfl | rfl
              · skip
                refine VOp.ldS (i := 960) (m := 5) (fz := false) (ss := (tab0 t).own 5000 5001) rfl (by decide) (by simp) (by simp) (by simp) rfl ?_
                refine VA.node [1, 2] (by kernel_rfl) (by simp) ?_
                intro i hi
                simp at hi
                rcases hi with rfl | rfl
                · skip
                  refine VOp.callK ((tab0 t).rows 3 4) ((tab0 t).rows 3 4) [.st ((tab0 t).own 3 4)] [.st ((tab0 t).own 3 4)] [.st ((tab0 t).own 3 4)] (fun i => if i = 3 then 5000 else 5001) [] rfl (by kernel_rfl) (by simp) ⟨plain_K (tab0 t), ?_, ?_, ?_, ?_, ?_, ?_, ?_⟩ ?_
                  · simp [renSs, renS, Tab.own, tab0, wantT, Tab.cells]
                  · simp [Tab.rows, renR, tab0, zc, zk]
                  · simp [Tab.rows]
                  · simp [Tab.rows]
                  · simp [Tab.rows, Res.nam]
                  · simp [S.nams, S.nam, Tab.own, Tab.rows]
                  · intro p hp
                    simp [Tab.rows] at hp
                    rcases hp with rfl | rfl
                    · exact .inr ⟨_, rfl, by simp [alikeR]⟩
                    · exact .inr ⟨_, rfl, by simp [alikeR]⟩
                  simp -dsimp [Tab.rows, Tab.own, tab0, zc, zk, retS, renSs, renS, renR]
                  refine VA.node [2] (by kernel_rfl) (by simp) ?_
                  intro i hi
                  simp at hi
                  subst hi
                  refine VOp.run rfl (by kernel_rfl) ?_
                  simp -dsimp
                  refine VA.node [3] (by kernel_rfl) (by simp) ?_
                  intro i hi
                  simp at hi
                  subst hi
                  refine VOp.callK ((tab0 t).rows 3 4) ((tab0 t).rows 3 4) [.st ((tab0 t).own 3 4), .agg (wantT t).cells] [.c (bln (same (tab0 t) (wantT t)))] [.st ((tab0 t).own 3 4), .agg (wantT t).cells] (fun i => if i = 3 then 5000 else 5001) [] rfl (by kernel_rfl) (by simp) ⟨same_K (tab0 t) (wantT t) hlc hlk, ?_, ?_, ?_, ?_, ?_, ?_, ?_⟩ ?_
                  · simp [renSs, renS, Tab.own, tab0, wantT, Tab.cells]
                  · simp [Tab.rows, renR, tab0, zc, zk]
                  · simp [Tab.rows]
                  · simp [Tab.rows]
                  · simp [Tab.rows, Res.nam]
                  · simp [S.nams, S.nam, Tab.own, Tab.rows]
                  · intro p hp
                    simp [Tab.rows] at hp
                    rcases hp with rfl | rfl
                    · exact .inr ⟨_, rfl, by simp [alikeR]⟩
                    · exact .inr ⟨_, rfl, by simp [alikeR]⟩
                  rw [hsw]
                  simp -dsimp [Tab.rows, tab0, zc, zk, retS, renSs, renS, renR]
                  refine VA.node [4] (by kernel_rfl) (by simp) ?_
                  intro i hi
                  simp at hi
                  subst hi
                  refine VOp.run rfl (by kernel_rfl) ?_
                  simp -dsimp
                  refine VA.fin (by kernel_rfl) ?_
                  simp [St.le, tab0, Tab.own, Tab.box, Tab.cells]
                · skip
                  refine VOp.run rfl (by kernel_rfl) ?_
                  simp -dsimp
                  refine VA.node [1] (by kernel_rfl) (by simp) ?_
                  intro i hi
                  simp at hi
                  subst hi
                  refine VOp.callK ((tab0 t).rows 3 4) ((tab0 t).rows 3 4) [.st ((tab0 t).own 3 4)] [.st ((tab0 t).own 3 4)] [.st ((tab0 t).own 3 4)] (fun i => if i = 3 then 5000 else 5001) [] rfl (by kernel_rfl) (by simp) ⟨plain_K (tab0 t), ?_, ?_, ?_, ?_, ?_, ?_, ?_⟩ ?_
                  · simp [renSs, renS, Tab.own, tab0, wantT, Tab.cells]
                  · simp [Tab.rows, renR, tab0, zc, zk]
                  · simp [Tab.rows]
                  · simp [Tab.rows]
                  · simp [Tab.rows, Res.nam]
                  · simp [S.nams, S.nam, Tab.own, Tab.rows]
                  · intro p hp
                    simp [Tab.rows] at hp
                    rcases hp with rfl | rfl
                    · exact .inr ⟨_, rfl, by simp [alikeR]⟩
                    · exact .inr ⟨_, rfl, by simp [alikeR]⟩
                  simp -dsimp [Tab.rows, Tab.own, tab0, zc, zk, retS, renSs, renS, renR]
                  refine VA.node [3] (by kernel_rfl) (by simp) ?_
                  intro i hi
                  simp at hi
                  subst hi
                  refine VOp.callK ((tab0 t).rows 3 4) ((tab0 t).rows 3 4) [.st ((tab0 t).own 3 4), .agg (wantT t).cells] [.c (bln (same (tab0 t) (wantT t)))] [.st ((tab0 t).own 3 4), .agg (wantT t).cells] (fun i => if i = 3 then 5000 else 5001) [] rfl (by kernel_rfl) (by simp) ⟨same_K (tab0 t) (wantT t) hlc hlk, ?_, ?_, ?_, ?_, ?_, ?_, ?_⟩ ?_
                  · simp [renSs, renS, Tab.own, tab0, wantT, Tab.cells]
                  · simp [Tab.rows, renR, tab0, zc, zk]
                  · simp [Tab.rows]
                  · simp [Tab.rows]
                  · simp [Tab.rows, Res.nam]
                  · simp [S.nams, S.nam, Tab.own, Tab.rows]
                  · intro p hp
                    simp [Tab.rows] at hp
                    rcases hp with rfl | rfl
                    · exact .inr ⟨_, rfl, by simp [alikeR]⟩
                    · exact .inr ⟨_, rfl, by simp [alikeR]⟩
                  rw [hsw]
                  simp -dsimp [Tab.rows, tab0, zc, zk, retS, renSs, renS, renR]
                  refine VA.node [4] (by kernel_rfl) (by simp) ?_
                  intro i hi
                  simp at hi
                  subst hi
                  refine VOp.run rfl (by kernel_rfl) ?_
                  simp -dsimp
                  refine VA.fin (by kernel_rfl) ?_
                  simp [St.le, tab0, Tab.own, Tab.box, Tab.cells]
              · skip
                refine VOp.run rfl (by kernel_rfl) ?_
                simp -dsimp
                refine VA.node [0] (by kernel_rfl) (by simp) ?_
                intro i hi
                simp at hi
                subst hi
                refine VOp.ldS (i := 960) (m := 5) (fz := false) (ss := (tab0 t).own 5000 5001) rfl (by decide) (by simp) (by simp) (by simp) rfl ?_
                refine VA.node [1] (by kernel_rfl) (by simp) ?_
                intro i hi
                simp at hi
                subst hi
                refine VOp.callK ((tab0 t).rows 3 4) ((tab0 t).rows 3 4) [.st ((tab0 t).own 3 4)] [.st ((tab0 t).own 3 4)] [.st ((tab0 t).own 3 4)] (fun i => if i = 3 then 5000 else 5001) [] rfl (by kernel_rfl) (by simp) ⟨plain_K (tab0 t), ?_, ?_, ?_, ?_, ?_, ?_, ?_⟩ ?_
                · simp [renSs, renS, Tab.own, tab0, wantT, Tab.cells]
                · simp [Tab.rows, renR, tab0, zc, zk]
                · simp [Tab.rows]
                · simp [Tab.rows]
                · simp [Tab.rows, Res.nam]
                · simp [S.nams, S.nam, Tab.own, Tab.rows]
                · intro p hp
                  simp [Tab.rows] at hp
                  rcases hp with rfl | rfl
                  · exact .inr ⟨_, rfl, by simp [alikeR]⟩
                  · exact .inr ⟨_, rfl, by simp [alikeR]⟩
                simp -dsimp [Tab.rows, Tab.own, tab0, zc, zk, retS, renSs, renS, renR]
                refine VA.node [3] (by kernel_rfl) (by simp) ?_
                intro i hi
                simp at hi
                subst hi
                refine VOp.callK ((tab0 t).rows 3 4) ((tab0 t).rows 3 4) [.st ((tab0 t).own 3 4), .agg (wantT t).cells] [.c (bln (same (tab0 t) (wantT t)))] [.st ((tab0 t).own 3 4), .agg (wantT t).cells] (fun i => if i = 3 then 5000 else 5001) [] rfl (by kernel_rfl) (by simp) ⟨same_K (tab0 t) (wantT t) hlc hlk, ?_, ?_, ?_, ?_, ?_, ?_, ?_⟩ ?_
                · simp [renSs, renS, Tab.own, tab0, wantT, Tab.cells]
                · simp [Tab.rows, renR, tab0, zc, zk]
                · simp [Tab.rows]
                · simp [Tab.rows]
                · simp [Tab.rows, Res.nam]
                · simp [S.nams, S.nam, Tab.own, Tab.rows]
                · intro p hp
                  simp [Tab.rows] at hp
                  rcases hp with rfl | rfl
                  · exact .inr ⟨_, rfl, by simp [alikeR]⟩
                  · exact .inr ⟨_, rfl, by simp [alikeR]⟩
                rw [hsw]
                simp -dsimp [Tab.rows, tab0, zc, zk, retS, renSs, renS, renR]
                refine VA.node [4] (by kernel_rfl) (by simp) ?_
                intro i hi
                simp at hi
                subst hi
                refine VOp.run rfl (by kernel_rfl) ?_
                simp -dsimp
                refine VA.fin (by kernel_rfl) ?_
                simp [St.le, tab0, Tab.own, Tab.box, Tab.cells]
            simp -dsimp
  · refine VCL.lend (catB true 0 [] 0 ++ (tab0 t).rows 3 4) (catB true 0 [] 0 ++ (tab0 t).rows 3 4) [.ptr 1 0, .c (str t.name), .own 3 t.cols.length, .own 4 t.keys.length] _ _ (fun i => if i = 3 then 1408 else if i = 4 then 1409 else i) [2] ⟨create_no (tab0 t) rfl rfl hot he, ?_, ?_, ?_, ?_, ?_, ?_, ?_⟩ ?_
    · simp [renSs, renS]
    · simp [catB, renR, renSs, renS, Tab.rows, tab0, zc, zk]
    · simp [catB, Tab.rows]
    · simp [catB, Tab.rows]
    · simp [catB, Tab.rows, Res.nam, S.nams, S.nam]
    · simp [S.nams, S.nam]
    · intro p hp
      simp [catB, Tab.rows] at hp
      rcases hp with rfl | rfl | rfl | rfl
      · exact .inr ⟨.box false [.own 2 0], by simp [catB, lk, vlook], by simp [keptP]⟩
      · exact .inl (by simp)
      · refine .inr ⟨.arr false (zc (tab0 t)) (t.cols.map Col.cells) 0, by simp [catB, Tab.rows, lk, vlook, tab0], ?_⟩
        exact .inr (.inl ⟨rfl, rfl, rfl, _, _, _, _, _, _, _, rfl, rfl, by simp, by simp [tab0]⟩)
      · refine .inr ⟨.arr false (zk (tab0 t)) (t.keys.map keyc) 0, by simp [catB, Tab.rows, lk, vlook, tab0], ?_⟩
        exact .inr (.inr (.inl ⟨rfl, rfl, rfl, _, _, _, _, _, _, _, rfl, rfl, by simp, by simp [tab0]⟩))
    simp -dsimp [catB, Tab.rows, tab0, zc, zk, retS, renSs, renS, renR]
    refine VL.to ⟨[(6, .c (i64 (creE [] (tab0 t)))), (4, .ptr 256 0), (3, .ptr 1 0), (1, .ptr 64 0)],
      [(1, some (.box false [.own 2 0])), (2, some (.arr true 0 [] 0)), (1408, some (.arr false 2 (t.cols.map Col.cells) 0)), (1409, some (.arr false 1 (t.keys.map keyc) 0)),
       (256, some (.box false ((mine t).own 1408 1409))), (64, some t.box)]⟩ (by simp [St.le, tab0, mine, Tab.own, Tab.box]) ?_
    have hse : same (mine t) t = true := by simp [same, mine]
    have hlc : (mine t).cols.length ≤ 140737488355328 := by have := ho.lc; show t.cols.length ≤ _; omega
    have hlk : (mine t).keys.length ≤ 140737488355328 := by have := ho.lk; show t.keys.length ≤ _; omega
    refine VL.anyTo ⟨[(38, .c (bln false)), (6, .c (i64 (creE [] (tab0 t)))), (4, .ptr 256 0), (3, .ptr 1 0), (1, .ptr 64 0)],
      [(1, some (.box false [.own 2 0])), (2, some (.arr true 0 [] 0)), (1408, some (.arr false 2 (t.cols.map Col.cells) 0)), (1409, some (.arr false 1 (t.keys.map keyc) 0)),
       (256, some (.box false ((mine t).own 1408 1409))), (64, some t.box)]⟩ (by kernel_rfl) ?_ ?_
    · refine VA.node [0, 1] (by kernel_rfl) (by simp) ?_
      intro i hi
      simp at hi
      rcases hi with rfl | rfl
      · -- the copy first
        refine VOp.ldS (i := 256) (m := 5) (fz := false) (ss := (mine t).own 1408 1409) rfl (by decide) (by simp) (by simp) (by simp) rfl ?_
        refine VA.node [1] (by kernel_rfl) (by simp) ?_
        intro i hi
        simp at hi
        subst hi
        refine VOp.run rfl (by kernel_rfl) ?_
        simp -dsimp [Tab.box]
        refine VA.node [2] (by kernel_rfl) (by simp) ?_
        intro i hi
        simp at hi
        subst hi
        refine VOp.run rfl (by kernel_rfl) ?_
        simp -dsimp
        refine VC.mk _ hpl ?_
        simp -dsimp
        refine VA.node [3] (by kernel_rfl) (by simp) ?_
        intro i hi
        simp at hi
        subst hi
        refine VOp.callK ((mine t).rows 3 4) ((mine t).rows 3 4) [.st ((mine t).own 3 4), .agg t.cells] [.c (bln (same (mine t) t))] [.st ((mine t).own 3 4), .agg t.cells] (fun i => if i = 3 then 1408 else 1409) [] rfl (by kernel_rfl) (by simp) ⟨same_K (mine t) t hlc hlk, ?_, ?_, ?_, ?_, ?_, ?_, ?_⟩ ?_
        · simp [renSs, renS, Tab.own, mine, Tab.cells]
        · simp [Tab.rows, renR, mine, zc, zk]
        · simp [Tab.rows]
        · simp [Tab.rows]
        · simp [Tab.rows, Res.nam]
        · simp [S.nams, S.nam]
        · intro p hp
          simp [Tab.rows] at hp
          rcases hp with rfl | rfl
          · exact .inr ⟨_, rfl, by simp [alikeR]⟩
          · exact .inr ⟨_, rfl, by simp [alikeR]⟩
        rw [hse]
        simp -dsimp [Tab.rows, mine, zc, zk, retS, renSs, renS, renR]
        refine VA.node [4] (by kernel_rfl) (by simp) ?_
        intro i hi
        simp at hi
        subst hi
        refine VOp.run rfl (by kernel_rfl) ?_
        simp -dsimp
        refine VA.fin (by kernel_rfl) ?_
        simp [St.le, mine, Tab.own, Tab.box]
      · -- the table first
        refine VOp.run rfl (by kernel_rfl) ?_
        simp -dsimp [Tab.box]
        refine VA.node [0, 2] (by kernel_rfl) (by simp) ?_
        intro i hi
        simp at hi
        rcases hi with rfl | rfl
        · skip
          refine VOp.ldS (i := 256) (m := 5) (fz := false) (ss := (mine t).own 1408 1409) rfl (by decide) (by simp) (by simp) (by simp) rfl ?_
          refine VA.node [2] (by kernel_rfl) (by simp) ?_
          intro i hi
          simp at hi
          subst hi
          refine VOp.run rfl (by kernel_rfl) ?_
          simp -dsimp
          refine VC.mk _ hpl ?_
          simp -dsimp
          refine VA.node [3] (by kernel_rfl) (by simp) ?_
          intro i hi
          simp at hi
          subst hi
          refine VOp.callK ((mine t).rows 3 4) ((mine t).rows 3 4) [.st ((mine t).own 3 4), .agg t.cells] [.c (bln (same (mine t) t))] [.st ((mine t).own 3 4), .agg t.cells] (fun i => if i = 3 then 1408 else 1409) [] rfl (by kernel_rfl) (by simp) ⟨same_K (mine t) t hlc hlk, ?_, ?_, ?_, ?_, ?_, ?_, ?_⟩ ?_
          · simp [renSs, renS, Tab.own, mine, Tab.cells]
          · simp [Tab.rows, renR, mine, zc, zk]
          · simp [Tab.rows]
          · simp [Tab.rows]
          · simp [Tab.rows, Res.nam]
          · simp [S.nams, S.nam]
          · intro p hp
            simp [Tab.rows] at hp
            rcases hp with rfl | rfl
            · exact .inr ⟨_, rfl, by simp [alikeR]⟩
            · exact .inr ⟨_, rfl, by simp [alikeR]⟩
          rw [hse]
          simp -dsimp [Tab.rows, mine, zc, zk, retS, renSs, renS, renR]
          refine VA.node [4] (by kernel_rfl) (by simp) ?_
          intro i hi
          simp at hi
          subst hi
          refine VOp.run rfl (by kernel_rfl) ?_
          simp -dsimp
          refine VA.fin (by kernel_rfl) ?_
          simp [St.le, mine, Tab.own, Tab.box]
        · skip
          refine VOp.run rfl (by kernel_rfl) ?_
          simp -dsimp
          refine VC.mk _ hpl ?_
          simp -dsimp
          refine VA.node [0] (by kernel_rfl) (by simp) ?_
          intro i hi
          simp at hi
          subst hi
          refine VOp.ldS (i := 256) (m := 5) (fz := false) (ss := (mine t).own 1408 1409) rfl (by decide) (by simp) (by simp) (by simp) rfl ?_
          refine VA.node [3] (by kernel_rfl) (by simp) ?_
          intro i hi
          simp at hi
          subst hi
          refine VOp.callK ((mine t).rows 3 4) ((mine t).rows 3 4) [.st ((mine t).own 3 4), .agg t.cells] [.c (bln (same (mine t) t))] [.st ((mine t).own 3 4), .agg t.cells] (fun i => if i = 3 then 1408 else 1409) [] rfl (by kernel_rfl) (by simp) ⟨same_K (mine t) t hlc hlk, ?_, ?_, ?_, ?_, ?_, ?_, ?_⟩ ?_
          · simp [renSs, renS, Tab.own, mine, Tab.cells]
          · simp [Tab.rows, renR, mine, zc, zk]
          · simp [Tab.rows]
          · simp [Tab.rows]
          · simp [Tab.rows, Res.nam]
          · simp [S.nams, S.nam]
          · intro p hp
            simp [Tab.rows] at hp
            rcases hp with rfl | rfl
            · exact .inr ⟨_, rfl, by simp [alikeR]⟩
            · exact .inr ⟨_, rfl, by simp [alikeR]⟩
          rw [hse]
          simp -dsimp [Tab.rows, mine, zc, zk, retS, renSs, renS, renR]
          refine VA.node [4] (by kernel_rfl) (by simp) ?_
          intro i hi
          simp at hi
          subst hi
          refine VOp.run rfl (by kernel_rfl) ?_
          simp -dsimp
          refine VA.fin (by kernel_rfl) ?_
          simp [St.le, mine, Tab.own, Tab.box]
    simp -dsimp [mine, Tab.own]
    refine VL.loop (fun q : Nat × List (List C) => ⟨[(42, .c (i64 q.1)), (41, .c (i64 t.cols.length)), (6, .c (i64 (creE [] (tab0 t)))), (4, .ptr 256 0), (3, .ptr 1 0), (1, .ptr 64 0)],
        [(1, some (.box false [.own 2 0])), (2, some (.arr true 0 [] 0)), (1408, some (.arr false 2 q.2 0)), (1409, some (.arr false 1 (t.keys.map keyc) 0)),
         (256, some (.box false ((mine t).own 1408 1409))), (64, some t.box)]⟩)
      (fun q => q.1 ≤ t.cols.length ∧ q.2.length = t.cols.length) (fun q => t.cols.length - q.1) (0, t.cols.map Col.cells) (by kernel_rfl) (by simp) (by simp [St.le, mine, Tab.own, Tab.box, tab0]) ?_
    rintro ⟨k, xs⟩ ⟨hk, hxs⟩
    simp only at hk hxs
    simp -dsimp [mine, Tab.own]
    refine VIf.mk (fun g => ?_) (fun g => ?_)
    · have hlt : k < t.cols.length := by simpa using g
      have hlt2 : k < xs.length := by omega
      have hw : IntKind.i64.wrap ((k : Int) + 1) = (k : Int) + 1 := IntWalk.i64_in _ (by have := ho.lc; omega)
      simp -dsimp [hlt, hlt2, hw, hxs]
      refine ⟨k + 1, xs.set k (C.v (.string ⟨#[83, 80, 79, 73, 76, 84]⟩) :: xs[k].tail), ⟨hlt, by simpa using hxs⟩, ?_, by omega⟩
      simp [St.le, mine, Tab.own, Tab.box, tab0]
    · simp -dsimp
      refine VL.loop (fun q : Nat × List (List C) => ⟨[(54, .c (i64 q.1)), (53, .c (i64 t.keys.length)), (6, .c (i64 (creE [] (tab0 t)))), (4, .ptr 256 0), (3, .ptr 1 0), (1, .ptr 64 0)],
          [(1, some (.box false [.own 2 0])), (2, some (.arr true 0 [] 0)), (1408, some (.arr false 2 xs 0)), (1409, some (.arr false 1 q.2 0)),
           (256, some (.box false ((mine t).own 1408 1409))), (64, some t.box)]⟩)
        (fun q => q.1 ≤ t.keys.length ∧ q.2.length = t.keys.length) (fun q => t.keys.length - q.1) (0, t.keys.map keyc) (by kernel_rfl) (by simp) (by simp [St.le, mine, Tab.own]) ?_
      rintro ⟨k2, ks⟩ ⟨hk2, hks⟩
      simp only at hk2 hks
      simp -dsimp [mine, Tab.own]
      refine VIf.mk (fun g => ?_) (fun g => ?_)
      · have hlt : k2 < t.keys.length := by simpa using g
        have hlt2 : k2 < ks.length := by omega
        have hw : IntKind.i64.wrap ((k2 : Int) + 1) = (k2 : Int) + 1 := IntWalk.i64_in _ (by have := ho.lk; omega)
        simp -dsimp [hlt, hlt2, hw, hks]
        refine ⟨k2 + 1, ks.set k2 (C.v (.string ⟨#[83, 80, 79, 73, 76, 84]⟩) :: ks[k2].tail), ⟨hlt, by simpa using hks⟩, ?_, by omega⟩
        simp [St.le, mine, Tab.own, Tab.box, tab0]
      · simp -dsimp [Tab.box]
        refine VCL.lend (catB true 0 [] 0) (catB true 0 [] 0) [.ptr 1 0, .c (str t.name)] _ _ id [2] ⟨find_spec true 0 [] 0 t.name (fun _ => rfl) (by simp) (by simp) (by simp), ?_, ?_, ?_, ?_, ?_, ?_, ?_⟩ ?_
        · simp [renSs, renS]
        · simp [catB, renR, renSs, renS]
        · simp [catB]
        · simp [catB]
        · simp [catB, Res.nam, S.nams, S.nam]
        · simp [catB, S.nams, S.nam]
        · intro p hp
          simp [catB] at hp
          rcases hp with rfl | rfl
          · exact .inr ⟨.box false [.own 2 0], by simp [catB, lk, vlook], by simp [keptP]⟩
          · exact .inl (by simp)
        have h160 : findE [] t.name = 160 := by simp [findE]
        simp -dsimp [catB, retS, renSs, renS, renR, h160, he, findT, noTab, Tab.cells]
        refine VIf.mk (fun _ => ?_) (fun g5 => ?_)
        · simp -dsimp
        · exact absurd (by simpa using g5) he
end Go.Proofs.Ytgodbpamppcfnaa
