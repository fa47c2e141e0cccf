/- What lies outside, by the program and by the document; which conditions and settings are bound. -/
import Derived.Test.YtkfiiomdkljjnaaGreatXG
import Derived.Test.YtkfiiomdkljjnaaGreatDB
set_option linter.unusedSimpArgs false
set_option linter.unusedVariables false
namespace Go.Proofs.YtkfiiomdkljjnaaGreat
open Go.VL Go.RowKit

theorem minus_one {sortP : List Per → List Per} (hs : Sorts sortP) {a p : Per} (h : lapOk a p = true) :
    minusL sortP a [p] = (if a.f < p.f then [⟨a.f, p.f⟩] else []) ++ (if p.t < a.t then [⟨p.t, a.t⟩] else []) := by
  have h0 := h
  unfold lapOk at h
  simp only [Bool.and_eq_true] at h
  obtain ⟨⟨ha, hp⟩, hl⟩ := h
  have e : unionL sortP [p] = [p] := by
    unfold unionL
    have : sortP [p] = [p] := List.perm_singleton.1 (hs.perm [p])
    rw [show [p].filter right = [p] from by simp [hp], this]
    rfl
  have hm : max a.f p.t = p.t := by
    unfold right lapP at hl
    simp only [Bool.and_eq_true, decide_eq_true_eq] at hl
    omega
  have ht : p.f < a.t := by
    unfold right lapP at hl
    simp only [Bool.and_eq_true, decide_eq_true_eq] at hl
    omega
  unfold minusL
  rw [if_pos ha, e]
  unfold minusP
  simp only [List.takeWhile_cons, ht, decide_true, if_true, List.takeWhile_nil]
  unfold subK subS
  simp only [List.foldl_cons, List.foldl_nil, hm]
  split <;> split <;> simp
theorem part_eq {sortP : List Per → List Per} (hs : Sorts sortP) {f : Fact} {p : Per} (h : lapOk f.p p = true) (i : Nat) : partOf sortP i f p = partR i f p := by
  unfold partOf partR restsOf restR lap
  rw [minus_one hs h, if_pos h]
  congr 1
  split <;> split <;> simp
theorem parts_eq {sortP : List Per → List Per} (hs : Sorts sortP) (ts : List Tm) (l : List Fact) (p : Per) : ∀ k, partsT sortP ts l p k = partsR ts l p k
  | 0 => rfl
  | k + 1 => by
    rw [partsT, partsR, parts_eq hs ts l p k]
    congr 1
    cases hk : l[k]? with
    | none => rfl
    | some f =>
      simp only
      by_cases hg : okP ts p f = true
      · rw [if_pos hg, if_pos hg]
        have : lapOk f.p p = true := by unfold okP at hg; simp at hg; exact hg.1
        rw [part_eq hs this]
      · rw [if_neg hg, if_neg hg]

/-! ### Conditions and settings -/
def bW1 (sc : List SCol) (e : Ex) : List (Ex × Tm) := match bindE sc e with | .ok t => [(e, t)] | .no _ => []
def bW (sc : List SCol) (es : List Ex) : Nat → List (Ex × Tm)
  | 0 => []
  | k + 1 => bW sc es k ++ (match es[k]? with | some e => bW1 sc e | none => [])
theorem bW_step {sc : List SCol} {es : List Ex} {k : Nat} (h : k < es.length) : bW sc es (k + 1) = bW sc es k ++ bW1 sc es[k] := by rw [bW, List.getElem?_eq_getElem h]
def bV1 (sc : List SCol) (pl : List Int) (i : Nat) (e : Ex) : List (Int × Ex × Tm) := match bindE sc e with | .ok t => (if i < pl.length then [(pl.getD i 0, e, t)] else []) | .no _ => []
def bV (sc : List SCol) (pl : List Int) (es : List Ex) : Nat → List (Int × Ex × Tm)
  | 0 => []
  | k + 1 => bV sc pl es k ++ (match es[k]? with | some e => bV1 sc pl k e | none => [])
theorem bV_step {sc : List SCol} {pl : List Int} {es : List Ex} {k : Nat} (h : k < es.length) : bV sc pl es (k + 1) = bV sc pl es k ++ bV1 sc pl k es[k] := by rw [bV, List.getElem?_eq_getElem h]
theorem bW_len (sc : List SCol) (es : List Ex) : ∀ k, (bW sc es k).length ≤ k
  | 0 => by simp [bW]
  | k + 1 => by
    have := bW_len sc es k
    rw [bW, List.length_append]
    split
    · unfold bW1; split <;> simp <;> omega
    · simp; omega
theorem bV_len (sc : List SCol) (pl : List Int) (es : List Ex) : ∀ k, (bV sc pl es k).length ≤ k
  | 0 => by simp [bV]
  | k + 1 => by
    have := bV_len sc pl es k
    rw [bV, List.length_append]
    split
    · unfold bV1
      split
      · split <;> simp <;> omega
      · simp; omega
    · simp; omega
def scT : List SCol := scopeOf [table2]
theorem scT_len : scT.length = 2 := rfl
def bTs (W : List (Ex × Tm)) : List Tm := W.map (·.2)
def bEs (W : List (Ex × Tm)) : List Ex := W.map (·.1)
def bUs (V : List (Int × Ex × Tm)) : List USet := V.map fun x => ⟨x.1, x.2.2⟩
def bRs (V : List (Int × Ex × Tm)) : List RSet := V.map fun x => ⟨x.1, x.2.1⟩
def ask (p : Per) (nw : Bool) (wh : List Ex) (np : Bool) (pl : List Int) (nv : Bool) (vs : List Ex) : List C := [i64 p.f, i64 p.t, .sl nw (exprs wh), .sl np (pl.map icell), .sl nv (exprs vs)]
/-- a row that grows: its cells -/
def gsz (n : Nat) {α : Type} (l : List α) : Nat := if l.isEmpty then 0 else n
theorem gsz_ok (n : Nat) {α : Type} (l : List α) (h : l.isEmpty = false) : gsz n l = n := by unfold gsz; rw [h]; rfl

end Go.Proofs.YtkfiiomdkljjnaaGreat
/- Contract: which conditions and settings are bound. -/
set_option linter.unusedSimpArgs false
set_option linter.unusedVariables false
namespace Go.Proofs.YtkfiiomdkljjnaaGreat
open Go.VL Go.RowKit

@[simp] theorem bTs_len (W : List (Ex × Tm)) : (bTs W).length = W.length := by simp [bTs]
@[simp] theorem bEs_len (W : List (Ex × Tm)) : (bEs W).length = W.length := by simp [bEs]
@[simp] theorem bUs_len (W : List (Int × Ex × Tm)) : (bUs W).length = W.length := by simp [bUs]
@[simp] theorem bRs_len (W : List (Int × Ex × Tm)) : (bRs W).length = W.length := by simp [bRs]
theorem scope1_spec : Con Tryz.prog 17 [.c (.sl false [table2.cells])] [.c (.sl false (scols scT))] := scope_spec false [table2] (by decide) (by decide)

set_option maxRecDepth 4000 in
set_option maxHeartbeats 64000000 in
theorem bound_spec (p : Per) (nw : Bool) (wh : List Ex) (np : Bool) (pl : List Int) (nv : Bool) (vs : List Ex) (hw : Ex.fits wh) (hv : Ex.fits vs) (hwl : wh.length ≤ 1000000000) (hvl : vs.length ≤ 1000000000) (hpl : pl.length ≤ 1000000000) :
    Con Tryz.prog 7 [.agg (ask p nw wh np pl nv vs)]
      [.c (.sl (bW scT wh wh.length).isEmpty (terms (bTs (bW scT wh wh.length)))), .c (.sl (bW scT wh wh.length).isEmpty (exprs (bEs (bW scT wh wh.length)))),
        .c (.sl (bV scT pl vs vs.length).isEmpty (usets (bUs (bV scT pl vs vs.length)))), .c (.sl (bV scT pl vs vs.length).isEmpty (rsets (bRs (bV scT pl vs vs.length))))] := by
  have hsc : scT.length ≤ 1000000000000 := by decide
  rw [Ex.fits_iff] at hw hv
  refine Con.frz (rs := [.fr (bW scT wh wh.length).isEmpty (gsz 7 (bW scT wh wh.length)) (terms (bTs (bW scT wh wh.length))) 0, .c (.sl (bW scT wh wh.length).isEmpty (exprs (bEs (bW scT wh wh.length)))),
        .c (.sl (bV scT pl vs vs.length).isEmpty (usets (bUs (bV scT pl vs vs.length)))), .c (.sl (bV scT pl vs vs.length).isEmpty (rsets (bRs (bV scT pl vs vs.length))))]) ?_ 0 rfl
  refine Con.frz (rs := [.fr (bW scT wh wh.length).isEmpty (gsz 7 (bW scT wh wh.length)) (terms (bTs (bW scT wh wh.length))) 0, .fr (bW scT wh wh.length).isEmpty (gsz 5 (bW scT wh wh.length)) (exprs (bEs (bW scT wh wh.length))) 0,
        .c (.sl (bV scT pl vs vs.length).isEmpty (usets (bUs (bV scT pl vs vs.length)))), .c (.sl (bV scT pl vs vs.length).isEmpty (rsets (bRs (bV scT pl vs vs.length))))]) ?_ 1 rfl
  refine Con.frz (rs := [.fr (bW scT wh wh.length).isEmpty (gsz 7 (bW scT wh wh.length)) (terms (bTs (bW scT wh wh.length))) 0, .fr (bW scT wh wh.length).isEmpty (gsz 5 (bW scT wh wh.length)) (exprs (bEs (bW scT wh wh.length))) 0,
        .fr (bV scT pl vs vs.length).isEmpty (gsz 8 (bV scT pl vs vs.length)) (usets (bUs (bV scT pl vs vs.length))) 0, .c (.sl (bV scT pl vs vs.length).isEmpty (rsets (bRs (bV scT pl vs vs.length))))]) ?_ 2 rfl
  refine Con.frz (rs := [.fr (bW scT wh wh.length).isEmpty (gsz 7 (bW scT wh wh.length)) (terms (bTs (bW scT wh wh.length))) 0, .fr (bW scT wh wh.length).isEmpty (gsz 5 (bW scT wh wh.length)) (exprs (bEs (bW scT wh wh.length))) 0,
        .fr (bV scT pl vs vs.length).isEmpty (gsz 8 (bV scT pl vs vs.length)) (usets (bUs (bV scT pl vs vs.length))) 0, .fr (bV scT pl vs vs.length).isEmpty (gsz 6 (bV scT pl vs vs.length)) (rsets (bRs (bV scT pl vs vs.length))) 0]) ?_ 3 rfl
  refine spec_of Tryz.func7 rfl (by kernel_rfl) (by simp [Tryz.f7]) (fun w0 K0 => vc_ok _ _ _ (by kernel_rfl) ?_)
  simp only [Tryz.f7]
  simp -dsimp [ask]
  refine VC.mk _ table_spec ?_
  simp -dsimp
  refine ⟨by decide, by decide, by decide, ?_⟩
  simp -dsimp
  refine ⟨by decide, VCL.snap ?_⟩
  simp -dsimp
  refine VC.mk _ scope1_spec ?_
  simp -dsimp
  refine VL.loop (fun k : Nat => ⟨[(25, .c (i64 k)), (24, .c (i64 wh.length)), (23, .c (.sl nw (exprs wh))), (6, .c (.sl false (scols scT))), (1, .ptr 64 0), (7, .own 448 (bW scT wh k).length), (8, .own 512 (bW scT wh k).length), (9, .own 576 0), (10, .own 640 0)],
      [(448, some (.arr (bW scT wh k).isEmpty (gsz 7 (bW scT wh k)) (terms (bTs (bW scT wh k))) 0)), (512, some (.arr (bW scT wh k).isEmpty (gsz 5 (bW scT wh k)) (exprs (bEs (bW scT wh k))) 0)), (576, some (.arr true 0 [] 0)), (640, some (.arr true 0 [] 0)),
        (64, some (.box false [.c (i64 p.f), .c (i64 p.t), .c (.sl nw (exprs wh)), .c (.sl np (pl.map icell)), .c (.sl nv (exprs vs))]))]⟩)
    (fun k => k ≤ wh.length) (fun k => wh.length - k) 0 (by kernel_rfl) (by simp) (by simp [St.le, bW, bTs, bEs, gsz]) ?_
  intro k hk
  have hbl := bW_len scT wh k
  have hg7 := gsz_ok 7 (bW scT wh k)
  have hg5 := gsz_ok 5 (bW scT wh k)
  simp -dsimp
  refine VIf.mk (fun h => ?_) (fun h => ?_)
  · have h1 : k < wh.length := by simpa using h
    have hww : IntKind.i64.wrap ((k : Int) + 1) = (k : Int) + 1 := IntWalk.i64_in _ (by omega)
    have hB := bind_all false scT hsc wh[k] (hw _ (List.getElem_mem h1))
    have hst := bW_step (sc := scT) h1
    unfold BindCon at hB
    obtain ⟨op', int', text', of', nl', args', ha⟩ : ∃ op' int' text' of' nl' args', wh[k] = Ex.mk op' int' text' of' nl' args' := by
      cases wh[k]; exact ⟨_, _, _, _, _, _, rfl⟩
    rw [ha, Ex.cells_mk] at hB
    simp -dsimp [h1, ha, Ex.cells_mk]
    refine VC.mk _ hB ?_
    rw [← ha]
    cases hbe : bindE scT wh[k] with
    | no c =>
      have hc0 : (c == 0) = false := by simpa using bindE_ne scT _ c hbe
      have h1w : bW1 scT wh[k] = [] := by unfold bW1; rw [hbe]
      rw [h1w, List.append_nil] at hst
      simp -dsimp [bdT, bdC, Tm.cells_mk, hc0, hww]
      refine ⟨k + 1, by omega, ?_, by omega⟩
      simp [St.le, hst]
    | ok t =>
      have h1w : bW1 scT wh[k] = [(wh[k], t)] := by unfold bW1; rw [hbe]
      rw [h1w] at hst
      obtain ⟨o2, k2, v2, p2, n2, a2⟩ := t
      simp -dsimp [bdT, bdC, Tm.cells_mk, hww]
      refine ⟨by decide, fun e => gsz_ok 7 _ (by simpa using e), by omega, by decide, fun e => gsz_ok 5 _ (by simpa using e), by omega, k + 1, by omega, ?_, by omega⟩
      have e1 : bTs (bW scT wh (k + 1)) = bTs (bW scT wh k) ++ [.mk o2 k2 v2 p2 n2 a2] := by rw [hst]; simp [bTs]
      have e2 : bEs (bW scT wh (k + 1)) = bEs (bW scT wh k) ++ [wh[k]] := by rw [hst]; simp [bEs]
      have e3 : (bW scT wh (k + 1)).isEmpty = false := by rw [hst]; simp
      have e4 : (bW scT wh (k + 1)).length = (bW scT wh k).length + 1 := by rw [hst]; simp
      have e5 : gsz 7 (bW scT wh (k + 1)) = 7 := gsz_ok 7 _ e3
      have e6 : gsz 5 (bW scT wh (k + 1)) = 5 := gsz_ok 5 _ e3
      simp only [e1, e2, e3, e4, e5, e6]
      simp [St.le, Tm.cells_mk, Ex.cells_mk, ha]
  · simp at h
    obtain rfl : k = wh.length := by omega
    generalize hW : bW scT wh wh.length = W at hbl hg7 hg5 ⊢
    simp -dsimp
    refine VL.loop (fun k : Nat => ⟨[(49, .c (i64 k)), (48, .c (i64 vs.length)), (47, .c (.sl nv (exprs vs))), (6, .c (.sl false (scols scT))), (1, .ptr 64 0), (7, .own 448 W.length), (8, .own 512 W.length), (9, .own 576 (bV scT pl vs k).length), (10, .own 640 (bV scT pl vs k).length)],
        [(448, some (.arr W.isEmpty (gsz 7 W) (terms (bTs W)) 0)), (512, some (.arr W.isEmpty (gsz 5 W) (exprs (bEs W)) 0)), (576, some (.arr (bV scT pl vs k).isEmpty (gsz 8 (bV scT pl vs k)) (usets (bUs (bV scT pl vs k))) 0)), (640, some (.arr (bV scT pl vs k).isEmpty (gsz 6 (bV scT pl vs k)) (rsets (bRs (bV scT pl vs k))) 0)),
          (64, some (.box false [.c (i64 p.f), .c (i64 p.t), .c (.sl nw (exprs wh)), .c (.sl np (pl.map icell)), .c (.sl nv (exprs vs))]))]⟩)
      (fun k => k ≤ vs.length) (fun k => vs.length - k) 0 (by kernel_rfl) (by simp) (by simp [St.le, bV, bUs, bRs, gsz]) ?_
    intro j hj
    have hbl2 := bV_len scT pl vs j
    simp -dsimp
    refine VIf.mk (fun h2 => ?_) (fun h2 => ?_)
    · have h1 : j < vs.length := by simpa using h2
      have hww : IntKind.i64.wrap ((j : Int) + 1) = (j : Int) + 1 := IntWalk.i64_in _ (by omega)
      have hB := bind_all false scT hsc vs[j] (hv _ (List.getElem_mem h1))
      have hst := bV_step (sc := scT) (pl := pl) h1
      unfold BindCon at hB
      obtain ⟨op', int', text', of', nl', args', ha⟩ : ∃ op' int' text' of' nl' args', vs[j] = Ex.mk op' int' text' of' nl' args' := by
        cases vs[j]; exact ⟨_, _, _, _, _, _, rfl⟩
      rw [ha, Ex.cells_mk] at hB
      simp -dsimp [h1, ha, Ex.cells_mk]
      refine VC.mk _ hB ?_
      rw [← ha]
      cases hbe : bindE scT vs[j] with
      | no c =>
        have hc0 : (c == 0) = false := by simpa using bindE_ne scT _ c hbe
        have h1w : bV1 scT pl j vs[j] = [] := by unfold bV1; rw [hbe]
        rw [h1w, List.append_nil] at hst
        simp -dsimp [bdT, bdC, Tm.cells_mk, hc0, hww]
        refine ⟨j + 1, by omega, ?_, by omega⟩
        simp [St.le, hst]
      | ok t =>
        obtain ⟨o2, k2, v2, p2, n2, a2⟩ := t
        by_cases h3 : j < pl.length
        · have h1w : bV1 scT pl j vs[j] = [(pl[j], vs[j], .mk o2 k2 v2 p2 n2 a2)] := by unfold bV1; rw [hbe]; simp [h3, List.getD]
          rw [h1w] at hst
          simp -dsimp [bdT, bdC, Tm.cells_mk, hww, h3]
          refine VL.draw (by kernel_rfl) [(0, false), (0, false), (2, false), (0, false), (14, false), (30, false), (0, false), (126, false), (254, false), (511, true), (1023, true)] (by kernel_rfl) ?_
          simp -dsimp [h3, icell]
          refine ⟨by decide, fun e => gsz_ok 8 _ (by simpa using e), by omega, ?_⟩
          refine VL.draw (by kernel_rfl) [(0, false), (0, false), (2, false), (0, false), (14, false), (30, false), (0, false), (126, false), (254, false), (511, true), (1023, true)] (by kernel_rfl) ?_
          simp -dsimp [h3, icell, Ex.cells_mk, ha, hww]
          refine ⟨by decide, fun e => gsz_ok 6 _ (by simpa using e), by omega, j + 1, by omega, ?_, by omega⟩
          have e1 : bUs (bV scT pl vs (j + 1)) = bUs (bV scT pl vs j) ++ [⟨pl[j], .mk o2 k2 v2 p2 n2 a2⟩] := by rw [hst]; simp [bUs]
          have e2 : bRs (bV scT pl vs (j + 1)) = bRs (bV scT pl vs j) ++ [⟨pl[j], vs[j]⟩] := by rw [hst]; simp [bRs]
          have e3 : (bV scT pl vs (j + 1)).isEmpty = false := by rw [hst]; simp
          have e4 : (bV scT pl vs (j + 1)).length = (bV scT pl vs j).length + 1 := by rw [hst]; simp
          have e5 : gsz 8 (bV scT pl vs (j + 1)) = 8 := gsz_ok 8 _ e3
          have e6 : gsz 6 (bV scT pl vs (j + 1)) = 6 := gsz_ok 6 _ e3
          simp only [e1, e2, e3, e4, e5, e6]
          simp [St.le, USet.cells, RSet.cells, Tm.cells_mk, Ex.cells_mk, ha]
        · have h1w : bV1 scT pl j vs[j] = [] := by unfold bV1; rw [hbe]; simp [h3]
          rw [h1w, List.append_nil] at hst
          simp -dsimp [bdT, bdC, Tm.cells_mk, hww, h3]
          refine ⟨j + 1, by omega, ?_, by omega⟩
          simp [St.le, hst]
    · simp at h2
      obtain rfl : j = vs.length := by omega
      generalize bV scT pl vs vs.length = V at hbl2 ⊢
      simp -dsimp
end Go.Proofs.YtkfiiomdkljjnaaGreat
