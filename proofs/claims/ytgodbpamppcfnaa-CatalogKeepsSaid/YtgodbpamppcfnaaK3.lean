/- copied and Create over rows that are the caller's own. -/
import Derived.Test.YtgodbpamppcfnaaK2
import Derived.Test.YtgodbpamppcfnaaVN10
set_option linter.unusedSimpArgs false
set_option linter.unusedVariables false
namespace Go.Proofs.Ytgodbpamppcfnaa
open Go.VL Go.RowKit

theorem flat_rows (A B : Nat) (t : Tab) : ∀ p ∈ t.rows A B, flatArr p.2 = true := by
  intro p hp
  simp [Tab.rows] at hp
  rcases hp with rfl | rfl
  · simp [flatArr, Col.cells, flatC]
  · simp [flatArr, keyc, flatC]
theorem copied_st (t : Tab) (ho : t.Ok) : ConK Try.prog 41 [.st (t.own 3 4)] (t.rows 3 4) [.st (t.own 320 512)] [.st (t.own 3 4)] (t.rows 3 4 ++ t.rows 320 512) := by
  refine ConK.seenB (ds := [.agg t.cells]) ?_ ?_ ?_ (flat_rows 320 512 t) ?_ ?_ (copied_own t ho)
  · intro p hp
    simp [Tab.rows] at hp
    rcases hp with rfl | rfl <;> rfl
  · intro p hp
    simp [Tab.rows] at hp
    rcases hp with rfl | rfl <;> simp [Tab.rows]
  · simp [seenBs, seenB, seenAs, seenA, Tab.own, Tab.cells, Tab.rows, lk, vlook]
  · simp [flatS2, flatS1, flatC, Tab.own]
  · simp [S.nams, S.nam, Tab.own, Tab.rows]

def cre1 (t : Tab) : List (Nat × Res) := if creE [] t = 0 then [(1, .box false [.own 3392 1]), (3392, .arr false 5 [t.cells] 0)] else catB true 0 [] 0
theorem findE_nil (name : List UInt8) : findE [] name = 160 := rfl

set_option maxRecDepth 4000 in
set_option maxHeartbeats 8000000 in
theorem create_own (t : Tab) (hid : t.id = 1) (hix : t.ix = false) (hot : t.Ok) :
    ConB Try.prog 23 [.ptr 1 0, .c (str t.name), .own 3 t.cols.length, .own 4 t.keys.length] (catB true 0 [] 0 ++ t.rows 3 4) [.c (i64 (creN [] t)), .c (i64 (creE [] t))]
      [.ptr 1 0, .c (str t.name), .own 3 t.cols.length, .own 4 t.keys.length] (cre1 t ++ t.rows 3 4) := by
  refine spec_ofB 5 Try.func23 rfl (by kernel_rfl) (by simp [Try.f23]) (by simp [catB, Tab.rows]) rfl (fun w0 K0 uf => vx_ok (H := fun id => id == 1) _ _ _ (by kernel_rfl) ?_)
  simp only [Try.f23]
  have hw : IntKind.i64.wrap 1 = 1 := by decide
  simp -dsimp [initB, initEnv, pinsOf, catB, Tab.rows]
  refine VL.hand (by kernel_rfl) ?_
  refine VRS.run 9 ?_
  simp -dsimp [hw]
  refine VRS.bld4 (i64 1) (str t.name) 3 t.cols.length 4 t.keys.length t.nc (zc t) (t.cols.map Col.cells) 0 t.nk (zk t) (t.keys.map keyc) 0 (.bool false) (fun v0 v1 v2 v3 => by simp [pbuild, pfill]) (by simp) (by simp) (by simp) (by simp) (by simp) (by simp) (by simp) (by simp) ?_
  simp -dsimp
  refine VRS.callK (t.rows 3 4) (t.rows 3 4 ++ t.rows 320 512) [.st (t.own 3 4)] [.st (t.own 320 512)] [.st (t.own 3 4)] (fun i => if i = 320 then 1536 else if i = 512 then 1537 else i) [1536, 1537] (by simp) ⟨copied_st t hot, ?_, ?_, ?_, ?_, ?_, ?_, ?_⟩ ?_
  · simp [renSs, renS, Tab.own, hid, hix]
  · simp [Tab.rows, renR]
  · simp [Tab.rows]
  · simp [Tab.rows]
  · simp [Tab.rows, Res.nam]
  · simp [S.nams, S.nam, Tab.own, Tab.rows]
  · intro p hp
    simp [Tab.rows] at hp
    rcases hp with rfl | rfl | rfl | rfl
    · exact .inr ⟨.arr t.nc (zc t) (t.cols.map Col.cells) 0, by simp [Tab.rows, lk, vlook], by simp [alikeR]⟩
    · exact .inr ⟨.arr t.nk (zk t) (t.keys.map keyc) 0, by simp [Tab.rows, lk, vlook], by simp [alikeR]⟩
    · exact .inl (by simp)
    · exact .inl (by simp)
  simp -dsimp [Tab.rows, Tab.own, retS, renSs, renS, renR]
  refine VRS.snapS 24 [.c (i64 t.id), .c (str t.name), .own 1536 t.cols.length, .own 1537 t.keys.length, .c (bln t.ix)] t.cells (by simp) ?_
  simp -dsimp [Tab.cells]
  refine VRS.fin ?_
  simp -dsimp
  refine VC.mk _ (check_at _ t (by simp [Tab.cells]) (by have := hot.lc; omega) (by have := hot.lk; omega)) ?_
  simp -dsimp
  refine VIf.mk (fun h => ?_) (fun h => ?_)
  · have hc : chk t ≠ 0 := by simpa using h
    have e : creE [] t = chk t := by simp [creE, hc]
    simp [creN, cre1, e, hc, resEnd, catB, pinsEnd, Tab.rows]
  · have hc : chk t = 0 := by simpa using h
    refine VCL.lend (catB true 0 [] 0) (catB true 0 [] 0) [.ptr 1 0, .c (str t.name)] _ _ id [2] ⟨find_spec true 0 [] 0 t.name (fun _ => rfl) (fun h => by cases h) (by simp) (by simp), ?_, ?_, ?_, ?_, ?_, ?_, ?_⟩ ?_
    · simp [renSs, renS]
    · simp [catB, renR, renSs, renS]
    · simp [catB]
    · simp [catB]
    · simp [catB, Res.nam, S.nams, S.nam]
    · simp [S.nams, S.nam]
    · simp [catB, lk, keptP]
    simp -dsimp [catB, retS, renSs, renS, findE_nil]
    refine ⟨rfl, ?_⟩
    have e : creE [] t = 0 := by simp [creE, hc, findE_nil]
    refine VL.to ⟨[(0, .ptr 1 0), (10, .ptr 640 0)],
      [(1, some (.box false [.own 2 0])), (2, some (.arr true 0 [] 0)), (3, some (.arr t.nc (zc t) (t.cols.map Col.cells) 0)), (4, some (.arr t.nk (zk t) (t.keys.map keyc) 0)), (5, some (.pin (uf 0) (.ptr 1 0))), (6, some (.pin (uf 1) (.c (str t.name)))),
       (7, some (.pin (uf 2) (.own 3 t.cols.length))), (8, some (.pin (uf 3) (.own 4 t.keys.length))), (640, some t.box)]⟩ (by simp [St.le, Tab.box]) ?_
    refine VL.draw (by kernel_rfl) [(0, false), (0, false), (2, false), (6, false), (14, false), (0, false), (32, false), (126, false), (255, true), (511, true), (1023, true)] (by kernel_rfl) ?_
    simp -dsimp [maxLen, Tab.box]
    refine ⟨⟨by simp [creN, e], e.symm⟩, ?_⟩
    simp [cre1, e, resEnd, Tab.cells, Tab.rows]
/-- Create on an empty catalog, refused -/
theorem create_no (t : Tab) (hid : t.id = 1) (hix : t.ix = false) (hot : t.Ok) (he : creE [] t ≠ 0) :
    ConB Try.prog 23 [.ptr 1 0, .c (str t.name), .own 3 t.cols.length, .own 4 t.keys.length] (catB true 0 [] 0 ++ t.rows 3 4) [.c (i64 0), .c (i64 (creE [] t))]
      [.ptr 1 0, .c (str t.name), .own 3 t.cols.length, .own 4 t.keys.length] (catB true 0 [] 0 ++ t.rows 3 4) := by
  have h := create_own t hid hix hot
  rw [show cre1 t = catB true 0 [] 0 from if_neg he, show creN [] t = 0 from if_neg he] at h
  exact h
/-- Create on an empty catalog, done -/
theorem create_yes (t : Tab) (hid : t.id = 1) (hix : t.ix = false) (hot : t.Ok) (he : creE [] t = 0) :
    ConB Try.prog 23 [.ptr 1 0, .c (str t.name), .own 3 t.cols.length, .own 4 t.keys.length] (catB true 0 [] 0 ++ t.rows 3 4) [.c (i64 1), .c (i64 0)]
      [.ptr 1 0, .c (str t.name), .own 3 t.cols.length, .own 4 t.keys.length] (oneB t ++ t.rows 3 4) := by
  have h := create_own t hid hix hot
  rw [show cre1 t = [(1, .box false [.own 3392 1]), (3392, .arr false 5 [t.cells] 0)] from if_pos he, show creN [] t = 1 from (if_pos he).trans hid, he] at h
  refine h.swap 2 3392 (by simp [renSs, renS]) (by simp [renSs, renS, swp]) ?_
  simp [oneB, resEnd, someR, St.ren, renR, renSs, renS, swp, Tab.rows]
end Go.Proofs.Ytgodbpamppcfnaa
