/- What lies outside, by the program and by the document; which conditions and settings are bound. -/
import Derived.Test.YtkfiiomdkljjnaaXG
import Derived.Test.YtkfiiomdkljjnaaDB
set_option linter.unusedSimpArgs false
set_option linter.unusedVariables false
namespace Go.Proofs.Ytkfiiomdkljjnaa
open Go.VL Go.RowKit

theorem minus_one {sortP : List Per → List Per} (hs : Sorts sortP) {a p : Per} (h : lapOk a p = true) :
    minusL sortP a [p] = (if a.f < p.f then [⟨a.f, p.f⟩] else []) ++ (if p.t < a.t then [⟨p.t, a.t⟩] else []) := by
  have h0 := h
  unfold lapOk at h
  simp only [Bool.and_eq_true] at h
  obtain ⟨⟨ha, hp⟩, hl⟩ := h
  have e : unionL sortP [p] = [p] := by
    unfold unionL
    have : sortP [p] = [p] := List.perm_singleton.1 (hs.perm [p])
    rw [show [p].filter right = [p] from by simp [hp], this]
    rfl
  have hm : max a.f p.t = p.t := by
    unfold right lapP at hl
    simp only [Bool.and_eq_true, decide_eq_true_eq] at hl
    omega
  have ht : p.f < a.t := by
    unfold right lapP at hl
    simp only [Bool.and_eq_true, decide_eq_true_eq] at hl
    omega
  unfold minusL
  rw [if_pos ha, e]
  unfold minusP
  simp only [List.takeWhile_cons, ht, decide_true, if_true, List.takeWhile_nil]
  unfold subK subS
  simp only [List.foldl_cons, List.foldl_nil, hm]
  split <;> split <;> simp
theorem part_eq {sortP : List Per → List Per} (hs : Sorts sortP) {f : Fact} {p : Per} (h : lapOk f.p p = true) (i : Nat) : partOf sortP i f p = partR i f p := by
  unfold partOf partR restsOf restR lap
  rw [minus_one hs h, if_pos h]
  congr 1
  split <;> split <;> simp
theorem parts_eq {sortP : List Per → List Per} (hs : Sorts sortP) (ts : List Tm) (l : List Fact) (p : Per) : ∀ k, partsT sortP ts l p k = partsR ts l p k
  | 0 => rfl
  | k + 1 => by
    rw [partsT, partsR, parts_eq hs ts l p k]
    congr 1
    cases hk : l[k]? with
    | none => rfl
    | some f =>
      simp only
      by_cases hg : okP ts p f = true
      · rw [if_pos hg, if_pos hg]
        have : lapOk f.p p = true := by unfold okP at hg; simp at hg; exact hg.1
        rw [part_eq hs this]
      · rw [if_neg hg, if_neg hg]

/-! ### Conditions and settings -/
def bW1 (sc : List SCol) (e : Ex) : List (Ex × Tm) := match bindE sc e with | .ok t => [(e, t)] | .no _ => []
def bW (sc : List SCol) (es : List Ex) : Nat → List (Ex × Tm)
  | 0 => []
  | k + 1 => bW sc es k ++ (match es[k]? with | some e => bW1 sc e | none => [])
theorem bW_step {sc : List SCol} {es : List Ex} {k : Nat} (h : k < es.length) : bW sc es (k + 1) = bW sc es k ++ bW1 sc es[k] := by rw [bW, List.getElem?_eq_getElem h]
def bV1 (sc : List SCol) (pl : List Int) (i : Nat) (e : Ex) : List (Int × Ex × Tm) := match bindE sc e with | .ok t => (if i < pl.length then [(pl.getD i 0, e, t)] else []) | .no _ => []
def bV (sc : List SCol) (pl : List Int) (es : List Ex) : Nat → List (Int × Ex × Tm)
  | 0 => []
  | k + 1 => bV sc pl es k ++ (match es[k]? with | some e => bV1 sc pl k e | none => [])
theorem bV_step {sc : List SCol} {pl : List Int} {es : List Ex} {k : Nat} (h : k < es.length) : bV sc pl es (k + 1) = bV sc pl es k ++ bV1 sc pl k es[k] := by rw [bV, List.getElem?_eq_getElem h]
theorem bW_len (sc : List SCol) (es : List Ex) : ∀ k, (bW sc es k).length ≤ k
  | 0 => by simp [bW]
  | k + 1 => by
    have := bW_len sc es k
    rw [bW, List.length_append]
    split
    · unfold bW1; split <;> simp <;> omega
    · simp; omega
theorem bV_len (sc : List SCol) (pl : List Int) (es : List Ex) : ∀ k, (bV sc pl es k).length ≤ k
  | 0 => by simp [bV]
  | k + 1 => by
    have := bV_len sc pl es k
    rw [bV, List.length_append]
    split
    · unfold bV1
      split
      · split <;> simp <;> omega
      · simp; omega
    · simp; omega
def scT : List SCol := scopeOf [table2]
theorem scT_len : scT.length = 2 := rfl
def bTs (W : List (Ex × Tm)) : List Tm := W.map (·.2)
def bEs (W : List (Ex × Tm)) : List Ex := W.map (·.1)
def bUs (V : List (Int × Ex × Tm)) : List USet := V.map fun x => ⟨x.1, x.2.2⟩
def bRs (V : List (Int × Ex × Tm)) : List RSet := V.map fun x => ⟨x.1, x.2.1⟩
def ask (p : Per) (nw : Bool) (wh : List Ex) (np : Bool) (pl : List Int) (nv : Bool) (vs : List Ex) : List C := [i64 p.f, i64 p.t, .sl nw (exprs wh), .sl np (pl.map icell), .sl nv (exprs vs)]
/-- a row that grows: its cells -/
def gsz (n : Nat) {α : Type} (l : List α) : Nat := if l.isEmpty then 0 else n
theorem gsz_ok (n : Nat) {α : Type} (l : List α) (h : l.isEmpty = false) : gsz n l = n := by unfold gsz; rw [h]; rfl

set_option maxRecDepth 4000 in
set_option maxHeartbeats 16000000 in
theorem scope0_spec : Con Try.prog 21 [] [.c (.sl false (scols scT))] := by
  have h := refScope_spec false [⟨0, [84], table2.nc, table2.cols, true, [], false⟩] (by decide) (by decide)
  refine spec_of Try.func21 rfl (by kernel_rfl) (by simp [Try.f21]) (fun w0 K0 => vc_ok _ _ _ (by kernel_rfl) ?_)
  simp only [Try.f21]
  simp -dsimp
  refine VC.mk _ table_spec ?_
  simp -dsimp [Tab.cells]
  refine ⟨by decide, VCL.snap ?_⟩
  simp -dsimp
  refine VC.mk _ h ?_
  simp -dsimp
  exact ⟨by decide, rfl⟩

set_option maxRecDepth 4000 in
set_option maxHeartbeats 16000000 in
theorem copyF_spec (nl : Bool) (l : List Fact) (hl : l.length ≤ 1000000000) (hr : Rows1 l) : Con Try.prog 18 [.c (.sl nl (facts l))] [.c (.sl false (facts (l.map owned)))] := by
  refine Con.frz (rs := [.fr false 3 (facts (l.map owned)) 0]) ?_ 0 rfl
  refine spec_of Try.func18 rfl (by kernel_rfl) (by simp [Try.f18]) (fun w0 K0 => vc_ok _ _ _ (by kernel_rfl) ?_)
  simp only [Try.f18]
  simp -dsimp [maxLen]
  refine ⟨by omega, ?_⟩
  refine VL.loop (fun k : Nat => ⟨[(4, .c (i64 k)), (0, .c (.sl nl (facts l))), (3, .own 448 k)], [(448, some (.arr false 3 (facts ((l.take k).map owned)) 0))]⟩)
    (fun k => k ≤ l.length) (fun k => l.length - k) 0 (by kernel_rfl) (by simp) (by simp [St.le, facts]) ?_
  intro k hk
  simp -dsimp
  refine VIf.mk (fun h => ?_) (fun h => ?_)
  · have h1 : k < l.length := by simpa using h
    have hw : IntKind.i64.wrap ((k : Int) + 1) = (k : Int) + 1 := IntWalk.i64_in _ (by omega)
    have hmin : min k l.length = k := by omega
    have hc := copy_frz l[k].nl l[k].row (by have := hr l[k] (List.getElem_mem h1); omega)
    simp -dsimp
    refine VL.draw (by kernel_rfl) [(0, false), (0, false), (0, false), (6, false), (14, false), (30, false), (62, false), (0, false), (0, false), (384, false), (896, false), (1920, false), (4094, false), (8190, false), (16383, true), (32767, true)] (by kernel_rfl) ?_
    simp -dsimp [h1, Fact.cells]
    refine VCE.mk _ hc ?_
    simp -dsimp [h1, Fact.cells, maxLen, hmin, hw]
    have hTk : List.take (k + 1) (List.map (Fact.cells ∘ owned) l) = List.take k (List.map (Fact.cells ∘ owned) l) ++ [(owned l[k]).cells] := by
      have := take_snoc (l := List.map (Fact.cells ∘ owned) l) (k := k) (by simpa using h1)
      simpa using this
    refine ⟨by omega, k + 1, by omega, ?_, by omega⟩
    simp [St.le, hTk, owned, Fact.cells]
  · simp at h
    obtain rfl : k = l.length := by omega
    simp -dsimp
    exact List.take_of_length_le (by simp)

set_option maxRecDepth 4000 in
set_option maxHeartbeats 16000000 in
theorem same_spec (n1 n2 n3 n4 : Bool) (E E' : List Int) (A A' : List Fact) (hE : E.length ≤ 1000000000000) (hA : A.length ≤ 140737488355328) (hr : Rows1 A) :
    Con Try.prog 22 [.agg [.sl n1 (E.map icell), .sl n2 (facts A)], .agg [.sl n3 (E'.map icell), .sl n4 (facts A')]] [.c (bln (decide (E = E') && decide (strips A = strips A')))] := by
  refine spec_of Try.func22 rfl (by kernel_rfl) (by simp [Try.f22]) (fun w0 K0 => vc_ok _ _ _ (by kernel_rfl) ?_)
  simp only [Try.f22]
  simp -dsimp
  refine VG.mk [.c (bln (decide (strips A = strips A')))] _ (fun _ => sameF_spec n2 n4 A A' hA hr) rfl ?_
  simp -dsimp
  refine VIf.mk (fun h => ?_) (fun h => ?_)
  · have hne : (decide (E = E') && decide (strips A = strips A')) = false := by
      by_cases e : E = E'
      · subst e; simp at h; simp [h]
      · simp [e]
    simp -dsimp
    simpa using hne
  · have h2 : E.length = E'.length ∧ strips A = strips A' := by
      simp at h; exact ⟨by omega, h.2⟩
    simp -dsimp
    refine VL.loop (fun k : Nat => ⟨[(24, .c (i64 k)), (23, .c (i64 E.length)), (2, .ptr 128 0), (3, .ptr 192 0)], [(128, some (.box false [.c (.sl n1 (E.map icell)), .c (.sl n2 (facts A))])), (192, some (.box false [.c (.sl n3 (E'.map icell)), .c (.sl n4 (facts A'))]))]⟩)
      (fun k => k ≤ E.length ∧ E.take k = E'.take k) (fun k => E.length - k) 0 (by kernel_rfl) (by simp) (by simp [St.le]) ?_
    intro k ⟨hk, hb⟩
    simp -dsimp
    refine VIf.mk (fun h3 => ?_) (fun h3 => ?_)
    · have h4 : k < E.length := by simpa using h3
      have h4' : k < E'.length := by omega
      have hw : IntKind.i64.wrap ((k : Int) + 1) = (k : Int) + 1 := IntWalk.i64_in _ (by omega)
      simp -dsimp
      refine VL.draw (by kernel_rfl) [(0, false), (1, false), (0, false), (7, false), (15, false), (0, false), (32, false), (0, false), (224, false), (480, false), (1023, true)] (by kernel_rfl) ?_
      simp -dsimp [h4, h4', icell]
      refine VIf.mk (fun h5 => ?_) (fun h5 => ?_)
      · have hne : E ≠ E' := fun e => by subst e; simp at h5
        simp -dsimp
        simp [hne]
      · have he : E[k] = E'[k] := by simpa using h5
        simp -dsimp [hw]
        refine ⟨k + 1, ⟨by omega, take_step h4 h4' hb he⟩, ?_, by omega⟩
        simp [St.le]
    · simp at h3
      obtain rfl : k = E.length := by omega
      have he : E = E' := by
        rw [List.take_length, h2.1, List.take_length] at hb
        exact hb
      simp -dsimp
      simp [he, h2.2]
end Go.Proofs.Ytkfiiomdkljjnaa
/- Contract: which conditions and settings are bound. -/
set_option linter.unusedSimpArgs false
set_option linter.unusedVariables false
namespace Go.Proofs.Ytkfiiomdkljjnaa
open Go.VL Go.RowKit

@[simp] theorem bTs_len (W : List (Ex × Tm)) : (bTs W).length = W.length := by simp [bTs]
@[simp] theorem bEs_len (W : List (Ex × Tm)) : (bEs W).length = W.length := by simp [bEs]
@[simp] theorem bUs_len (W : List (Int × Ex × Tm)) : (bUs W).length = W.length := by simp [bUs]
@[simp] theorem bRs_len (W : List (Int × Ex × Tm)) : (bRs W).length = W.length := by simp [bRs]
theorem scope1_spec : Con Try.prog 42 [.c (.sl false [table2.cells])] [.c (.sl false (scols scT))] := scope_spec false [table2] (by decide) (by decide)

set_option maxRecDepth 4000 in
set_option maxHeartbeats 64000000 in
theorem bound_spec (p : Per) (nw : Bool) (wh : List Ex) (np : Bool) (pl : List Int) (nv : Bool) (vs : List Ex) (hw : Ex.fits wh) (hv : Ex.fits vs) (hwl : wh.length ≤ 1000000000) (hvl : vs.length ≤ 1000000000) (hpl : pl.length ≤ 1000000000) :
    Con Try.prog 17 [.agg (ask p nw wh np pl nv vs)]
      [.c (.sl (bW scT wh wh.length).isEmpty (terms (bTs (bW scT wh wh.length)))), .c (.sl (bW scT wh wh.length).isEmpty (exprs (bEs (bW scT wh wh.length)))),
        .c (.sl (bV scT pl vs vs.length).isEmpty (usets (bUs (bV scT pl vs vs.length)))), .c (.sl (bV scT pl vs vs.length).isEmpty (rsets (bRs (bV scT pl vs vs.length))))] := by
  have hsc : scT.length ≤ 1000000000000 := by decide
  rw [Ex.fits_iff] at hw hv
  refine Con.frz (rs := [.fr (bW scT wh wh.length).isEmpty (gsz 7 (bW scT wh wh.length)) (terms (bTs (bW scT wh wh.length))) 0, .c (.sl (bW scT wh wh.length).isEmpty (exprs (bEs (bW scT wh wh.length)))),
        .c (.sl (bV scT pl vs vs.length).isEmpty (usets (bUs (bV scT pl vs vs.length)))), .c (.sl (bV scT pl vs vs.length).isEmpty (rsets (bRs (bV scT pl vs vs.length))))]) ?_ 0 rfl
  refine Con.frz (rs := [.fr (bW scT wh wh.length).isEmpty (gsz 7 (bW scT wh wh.length)) (terms (bTs (bW scT wh wh.length))) 0, .fr (bW scT wh wh.length).isEmpty (gsz 5 (bW scT wh wh.length)) (exprs (bEs (bW scT wh wh.length))) 0,
        .c (.sl (bV scT pl vs vs.length).isEmpty (usets (bUs (bV scT pl vs vs.length)))), .c (.sl (bV scT pl vs vs.length).isEmpty (rsets (bRs (bV scT pl vs vs.length))))]) ?_ 1 rfl
  refine Con.frz (rs := [.fr (bW scT wh wh.length).isEmpty (gsz 7 (bW scT wh wh.length)) (terms (bTs (bW scT wh wh.length))) 0, .fr (bW scT wh wh.length).isEmpty (gsz 5 (bW scT wh wh.length)) (exprs (bEs (bW scT wh wh.length))) 0,
        .fr (bV scT pl vs vs.length).isEmpty (gsz 8 (bV scT pl vs vs.length)) (usets (bUs (bV scT pl vs vs.length))) 0, .c (.sl (bV scT pl vs vs.length).isEmpty (rsets (bRs (bV scT pl vs vs.length))))]) ?_ 2 rfl
  refine Con.frz (rs := [.fr (bW scT wh wh.length).isEmpty (gsz 7 (bW scT wh wh.length)) (terms (bTs (bW scT wh wh.length))) 0, .fr (bW scT wh wh.length).isEmpty (gsz 5 (bW scT wh wh.length)) (exprs (bEs (bW scT wh wh.length))) 0,
        .fr (bV scT pl vs vs.length).isEmpty (gsz 8 (bV scT pl vs vs.length)) (usets (bUs (bV scT pl vs vs.length))) 0, .fr (bV scT pl vs vs.length).isEmpty (gsz 6 (bV scT pl vs vs.length)) (rsets (bRs (bV scT pl vs vs.length))) 0]) ?_ 3 rfl
  refine spec_of Try.func17 rfl (by kernel_rfl) (by simp [Try.f17]) (fun w0 K0 => vc_ok _ _ _ (by kernel_rfl) ?_)
  simp only [Try.f17]
  simp -dsimp [ask]
  refine VC.mk _ table_spec ?_
  simp -dsimp
  refine ⟨by decide, by decide, by decide, ?_⟩
  simp -dsimp
  refine ⟨by decide, VCL.snap ?_⟩
  simp -dsimp
  refine VC.mk _ scope1_spec ?_
  simp -dsimp
  refine VL.loop (fun k : Nat => ⟨[(25, .c (i64 k)), (24, .c (i64 wh.length)), (23, .c (.sl nw (exprs wh))), (6, .c (.sl false (scols scT))), (1, .ptr 64 0), (7, .own 448 (bW scT wh k).length), (8, .own 512 (bW scT wh k).length), (9, .own 576 0), (10, .own 640 0)],
      [(448, some (.arr (bW scT wh k).isEmpty (gsz 7 (bW scT wh k)) (terms (bTs (bW scT wh k))) 0)), (512, some (.arr (bW scT wh k).isEmpty (gsz 5 (bW scT wh k)) (exprs (bEs (bW scT wh k))) 0)), (576, some (.arr true 0 [] 0)), (640, some (.arr true 0 [] 0)),
        (64, some (.box false [.c (i64 p.f), .c (i64 p.t), .c (.sl nw (exprs wh)), .c (.sl np (pl.map icell)), .c (.sl nv (exprs vs))]))]⟩)
    (fun k => k ≤ wh.length) (fun k => wh.length - k) 0 (by kernel_rfl) (by simp) (by simp [St.le, bW, bTs, bEs, gsz]) ?_
  intro k hk
  have hbl := bW_len scT wh k
  have hg7 := gsz_ok 7 (bW scT wh k)
  have hg5 := gsz_ok 5 (bW scT wh k)
  simp -dsimp
  refine VIf.mk (fun h => ?_) (fun h => ?_)
  · have h1 : k < wh.length := by simpa using h
    have hww : IntKind.i64.wrap ((k : Int) + 1) = (k : Int) + 1 := IntWalk.i64_in _ (by omega)
    have hB := bind_all false scT hsc wh[k] (hw _ (List.getElem_mem h1))
    have hst := bW_step (sc := scT) h1
    unfold BindCon at hB
    obtain ⟨op', int', text', of', nl', args', ha⟩ : ∃ op' int' text' of' nl' args', wh[k] = Ex.mk op' int' text' of' nl' args' := by
      cases wh[k]; exact ⟨_, _, _, _, _, _, rfl⟩
    rw [ha, Ex.cells_mk] at hB
    simp -dsimp [h1, ha, Ex.cells_mk]
    refine VC.mk _ hB ?_
    rw [← ha]
    cases hbe : bindE scT wh[k] with
    | no c =>
      have hc0 : (c == 0) = false := by simpa using bindE_ne scT _ c hbe
      have h1w : bW1 scT wh[k] = [] := by unfold bW1; rw [hbe]
      rw [h1w, List.append_nil] at hst
      simp -dsimp [bdT, bdC, Tm.cells_mk, hc0, hww]
      refine ⟨k + 1, by omega, ?_, by omega⟩
      simp [St.le, hst]
    | ok t =>
      have h1w : bW1 scT wh[k] = [(wh[k], t)] := by unfold bW1; rw [hbe]
      rw [h1w] at hst
      obtain ⟨o2, k2, v2, p2, n2, a2⟩ := t
      simp -dsimp [bdT, bdC, Tm.cells_mk, hww]
      refine ⟨by decide, fun e => gsz_ok 7 _ (by simpa using e), by omega, by decide, fun e => gsz_ok 5 _ (by simpa using e), by omega, k + 1, by omega, ?_, by omega⟩
      have e1 : bTs (bW scT wh (k + 1)) = bTs (bW scT wh k) ++ [.mk o2 k2 v2 p2 n2 a2] := by rw [hst]; simp [bTs]
      have e2 : bEs (bW scT wh (k + 1)) = bEs (bW scT wh k) ++ [wh[k]] := by rw [hst]; simp [bEs]
      have e3 : (bW scT wh (k + 1)).isEmpty = false := by rw [hst]; simp
      have e4 : (bW scT wh (k + 1)).length = (bW scT wh k).length + 1 := by rw [hst]; simp
      have e5 : gsz 7 (bW scT wh (k + 1)) = 7 := gsz_ok 7 _ e3
      have e6 : gsz 5 (bW scT wh (k + 1)) = 5 := gsz_ok 5 _ e3
      simp only [e1, e2, e3, e4, e5, e6]
      simp [St.le, Tm.cells_mk, Ex.cells_mk, ha]
  · simp at h
    obtain rfl : k = wh.length := by omega
    generalize hW : bW scT wh wh.length = W at hbl hg7 hg5 ⊢
    simp -dsimp
    refine VL.loop (fun k : Nat => ⟨[(49, .c (i64 k)), (48, .c (i64 vs.length)), (47, .c (.sl nv (exprs vs))), (6, .c (.sl false (scols scT))), (1, .ptr 64 0), (7, .own 448 W.length), (8, .own 512 W.length), (9, .own 576 (bV scT pl vs k).length), (10, .own 640 (bV scT pl vs k).length)],
        [(448, some (.arr W.isEmpty (gsz 7 W) (terms (bTs W)) 0)), (512, some (.arr W.isEmpty (gsz 5 W) (exprs (bEs W)) 0)), (576, some (.arr (bV scT pl vs k).isEmpty (gsz 8 (bV scT pl vs k)) (usets (bUs (bV scT pl vs k))) 0)), (640, some (.arr (bV scT pl vs k).isEmpty (gsz 6 (bV scT pl vs k)) (rsets (bRs (bV scT pl vs k))) 0)),
          (64, some (.box false [.c (i64 p.f), .c (i64 p.t), .c (.sl nw (exprs wh)), .c (.sl np (pl.map icell)), .c (.sl nv (exprs vs))]))]⟩)
      (fun k => k ≤ vs.length) (fun k => vs.length - k) 0 (by kernel_rfl) (by simp) (by simp [St.le, bV, bUs, bRs, gsz]) ?_
    intro j hj
    have hbl2 := bV_len scT pl vs j
    simp -dsimp
    refine VIf.mk (fun h2 => ?_) (fun h2 => ?_)
    · have h1 : j < vs.length := by simpa using h2
      have hww : IntKind.i64.wrap ((j : Int) + 1) = (j : Int) + 1 := IntWalk.i64_in _ (by omega)
      have hB := bind_all false scT hsc vs[j] (hv _ (List.getElem_mem h1))
      have hst := bV_step (sc := scT) (pl := pl) h1
      unfold BindCon at hB
      obtain ⟨op', int', text', of', nl', args', ha⟩ : ∃ op' int' text' of' nl' args', vs[j] = Ex.mk op' int' text' of' nl' args' := by
        cases vs[j]; exact ⟨_, _, _, _, _, _, rfl⟩
      rw [ha, Ex.cells_mk] at hB
      simp -dsimp [h1, ha, Ex.cells_mk]
      refine VC.mk _ hB ?_
      rw [← ha]
      cases hbe : bindE scT vs[j] with
      | no c =>
        have hc0 : (c == 0) = false := by simpa using bindE_ne scT _ c hbe
        have h1w : bV1 scT pl j vs[j] = [] := by unfold bV1; rw [hbe]
        rw [h1w, List.append_nil] at hst
        simp -dsimp [bdT, bdC, Tm.cells_mk, hc0, hww]
        refine ⟨j + 1, by omega, ?_, by omega⟩
        simp [St.le, hst]
      | ok t =>
        obtain ⟨o2, k2, v2, p2, n2, a2⟩ := t
        by_cases h3 : j < pl.length
        · have h1w : bV1 scT pl j vs[j] = [(pl[j], vs[j], .mk o2 k2 v2 p2 n2 a2)] := by unfold bV1; rw [hbe]; simp [h3, List.getD]
          rw [h1w] at hst
          simp -dsimp [bdT, bdC, Tm.cells_mk, hww, h3]
          refine VL.draw (by kernel_rfl) [(0, false), (0, false), (2, false), (0, false), (14, false), (30, false), (0, false), (126, false), (254, false), (511, true), (1023, true)] (by kernel_rfl) ?_
          simp -dsimp [h3, icell]
          refine ⟨by decide, fun e => gsz_ok 8 _ (by simpa using e), by omega, ?_⟩
          refine VL.draw (by kernel_rfl) [(0, false), (0, false), (2, false), (0, false), (14, false), (30, false), (0, false), (126, false), (254, false), (511, true), (1023, true)] (by kernel_rfl) ?_
          simp -dsimp [h3, icell, Ex.cells_mk, ha, hww]
          refine ⟨by decide, fun e => gsz_ok 6 _ (by simpa using e), by omega, j + 1, by omega, ?_, by omega⟩
          have e1 : bUs (bV scT pl vs (j + 1)) = bUs (bV scT pl vs j) ++ [⟨pl[j], .mk o2 k2 v2 p2 n2 a2⟩] := by rw [hst]; simp [bUs]
          have e2 : bRs (bV scT pl vs (j + 1)) = bRs (bV scT pl vs j) ++ [⟨pl[j], vs[j]⟩] := by rw [hst]; simp [bRs]
          have e3 : (bV scT pl vs (j + 1)).isEmpty = false := by rw [hst]; simp
          have e4 : (bV scT pl vs (j + 1)).length = (bV scT pl vs j).length + 1 := by rw [hst]; simp
          have e5 : gsz 8 (bV scT pl vs (j + 1)) = 8 := gsz_ok 8 _ e3
          have e6 : gsz 6 (bV scT pl vs (j + 1)) = 6 := gsz_ok 6 _ e3
          simp only [e1, e2, e3, e4, e5, e6]
          simp [St.le, USet.cells, RSet.cells, Tm.cells_mk, Ex.cells_mk, ha]
        · have h1w : bV1 scT pl j vs[j] = [] := by unfold bV1; rw [hbe]; simp [h3]
          rw [h1w, List.append_nil] at hst
          simp -dsimp [bdT, bdC, Tm.cells_mk, hww, h3]
          refine ⟨j + 1, by omega, ?_, by omega⟩
          simp [St.le, hst]
    · simp at h2
      obtain rfl : j = vs.length := by omega
      generalize bV scT pl vs vs.length = V at hbl2 ⊢
      simp -dsimp
end Go.Proofs.Ytkfiiomdkljjnaa
/- Contract: DmlChanges. -/
set_option linter.unusedSimpArgs false
set_option linter.unusedVariables false
namespace Go.Proofs.Ytkfiiomdkljjnaa
open Go.VL Go.RowKit

theorem bW_mem {sc : List SCol} {es : List Ex} : ∀ k, ∀ x ∈ bW sc es k, x.1 ∈ es ∧ bindE sc x.1 = .ok x.2
  | 0, x, h => by simp [bW] at h
  | k + 1, x, h => by
    rw [bW, List.mem_append] at h
    rcases h with h | h
    · exact bW_mem k x h
    · split at h
      · rename_i e he
        unfold bW1 at h
        split at h
        · rename_i t ht
          simp at h; subst h
          exact ⟨List.mem_of_getElem? he, ht⟩
        · simp at h
      · simp at h
theorem bV_mem {sc : List SCol} {pl : List Int} {es : List Ex} : ∀ k, ∀ x ∈ bV sc pl es k, x.2.1 ∈ es ∧ bindE sc x.2.1 = .ok x.2.2
  | 0, x, h => by simp [bV] at h
  | k + 1, x, h => by
    rw [bV, List.mem_append] at h
    rcases h with h | h
    · exact bV_mem k x h
    · split at h
      · rename_i e he
        unfold bV1 at h
        split at h
        · rename_i t ht
          split at h
          · simp at h; subst h
            exact ⟨List.mem_of_getElem? he, ht⟩
          · simp at h
        · simp at h
      · simp at h
theorem bW_bound {es : List Ex} (hf : Ex.fits es) (k : Nat) : Bound scT (bEs (bW scT es k)) (bTs (bW scT es k)) := by
  rw [Ex.fits_iff] at hf
  refine ⟨by simp, fun i h h' => ?_⟩
  have hi : i < (bW scT es k).length := by simpa using h
  obtain ⟨h1, h2⟩ := bW_mem k _ (List.getElem_mem hi)
  simp only [bEs, bTs, List.getElem_map]
  exact ⟨hf _ h1, h2⟩
theorem bV_bound {pl : List Int} {es : List Ex} (hf : Ex.fits es) (k : Nat) : BoundS scT (bRs (bV scT pl es k)) (bUs (bV scT pl es k)) := by
  rw [Ex.fits_iff] at hf
  refine ⟨by simp, fun i h h' => ?_⟩
  have hi : i < (bV scT pl es k).length := by simpa using h
  obtain ⟨h1, h2⟩ := bV_mem k _ (List.getElem_mem hi)
  simp only [bRs, bUs, List.getElem_map]
  exact ⟨trivial, hf _ h1, h2⟩
theorem bW_tok {es : List Ex} (hf : Ex.fits es) (k : Nat) : TOk (bTs (bW scT es k)) := by
  rw [Ex.fits_iff] at hf
  intro t ht
  unfold bTs at ht
  obtain ⟨x, hx, rfl⟩ := List.mem_map.1 ht
  obtain ⟨h1, h2⟩ := bW_mem k _ hx
  exact bindE_ok scT _ _ (hf _ h1) h2
theorem bV_tok {pl : List Int} {es : List Ex} (hf : Ex.fits es) (k : Nat) : ∀ s ∈ bUs (bV scT pl es k), s.t.Ok := by
  rw [Ex.fits_iff] at hf
  intro s hs
  unfold bUs at hs
  obtain ⟨x, hx, rfl⟩ := List.mem_map.1 hs
  obtain ⟨h1, h2⟩ := bV_mem k _ hx
  exact bindE_ok scT _ _ (hf _ h1) h2

/-! facts in new memory: the same changes -/
theorem partsR_owned (ts : List Tm) (l : List Fact) (p : Per) : ∀ k, partsR ts (l.map owned) p k = partsR ts l p k
  | 0 => rfl
  | k + 1 => by
    rw [partsR, partsR, partsR_owned ts l p k, List.getElem?_map]
    congr 1
    cases l[k]? with
    | none => rfl
    | some f => rfl
theorem rowAt_owned (l : List Fact) (i : Nat) : rowAt (l.map owned) i = rowAt l i := by
  unfold rowAt
  simp only [List.getD, List.getElem?_map]
  cases l[i]? with
  | none => rfl
  | some f => rfl
theorem updR_owned (l : List Fact) (sets : List USet) : ∀ (L : List Part) (E : List Int) (A : List Fact), updR (l.map owned) sets L E A = updR l sets L E A
  | [], E, A => rfl
  | x :: r, E, A => by
    rw [updR, updR, rowAt_owned]
    cases setRow (rowAt l x.at_) sets (rowAt l x.at_) with
    | no c => rfl
    | ok row => exact updR_owned l sets r _ _
theorem setRow_len (row0 : List Val) : ∀ (l : List USet) (row row' : List Val), setRow row0 l row = .ok row' → row'.length = row.length
  | [], row, row', h => by rw [setRow] at h; cases h; rfl
  | s :: r, row, row', h => by
    rw [setRow] at h
    cases hs : setOne row0 s row with
    | no c => rw [hs] at h; cases h
    | ok row2 => rw [hs] at h; rw [setRow_len row0 r row2 row' h, setOne_len hs]
theorem restR_rows {f : Fact} {p : Per} : ∀ g ∈ restR f p, g.row = f.row := by
  intro g hg
  unfold restR at hg
  rw [List.mem_append] at hg
  rcases hg with hg | hg
  · split at hg
    · simp at hg; rw [hg]
    · simp at hg
  · split at hg
    · simp at hg; rw [hg]
    · simp at hg
theorem partsR_rows {ts : List Tm} {l : List Fact} {p : Per} (hr : Rows1 l) : ∀ k, ∀ x ∈ partsR ts l p k, Rows1 x.rests
  | 0, x, h => by simp [partsR] at h
  | k + 1, x, h => by
    rw [partsR, List.mem_append] at h
    rcases h with h | h
    · exact partsR_rows hr k x h
    · split at h
      · rename_i f hf
        split at h
        · simp at h; subst h
          intro g hg
          have := hr f (List.mem_of_getElem? hf)
          rw [restR_rows g hg]; exact this
        · simp at h
      · simp at h
theorem updR_rows {l : List Fact} {sets : List USet} (hr : Rows1 l) : ∀ (L : List Part) (E E' : List Int) (A A' : List Fact), (∀ x ∈ L, Rows1 x.rests) → Rows1 A → updR l sets L E A = .ok E' A' → Rows1 A'
  | [], E, E', A, A', _, hA, h => by rw [updR] at h; cases h; exact hA
  | x :: r, E, E', A, A', hL, hA, h => by
    rw [updR] at h
    cases hs : setRow (rowAt l x.at_) sets (rowAt l x.at_) with
    | no c => rw [hs] at h; cases h
    | ok row =>
      rw [hs] at h
      refine updR_rows hr r _ _ _ _ (fun y hy => hL y (by simp [hy])) ?_ h
      refine Rows1.app (Rows1.app hA (hL x (by simp))) ?_
      intro g hg
      simp at hg
      subst hg
      show row.length ≤ _
      rw [setRow_len _ _ _ _ hs]
      unfold rowAt
      cases hx : l[x.at_]? with
      | none => simp [List.getD, hx]; exact Nat.zero_le _
      | some f => simp [List.getD, hx]; exact hr f (List.mem_of_getElem? hx)

set_option maxRecDepth 4000 in
set_option maxHeartbeats 64000000 in
theorem changes_spec {sortP : List Per → List Per} (hs : Sorts sortP) (nl : Bool) (l : List Fact) (p : Per) (nw : Bool) (wh : List Ex) (np : Bool) (pl : List Int) (nv : Bool) (vs : List Ex)
    (hl : l.length ≤ 200000000) (hr : Rows1 l) (hrow : ∀ f ∈ l, VFit f.row) (hw : Ex.fits wh) (hv : Ex.fits vs) (hwl : wh.length ≤ 1000000000) (hvl : vs.length ≤ 1000000000) (hpl : pl.length ≤ 1000000000) :
    Con Try.prog 5 [.c (.sl nl (facts l)), .agg (ask p nw wh np pl nv vs)] [.c (bln true)] := by
  have hlo : (l.map owned).length ≤ 1000000000 := by simp; omega
  have hro : Rows1 (l.map owned) := hr.owned
  have hrowo : ∀ f ∈ l.map owned, VFit f.row := fun f hf => by
    obtain ⟨g, hg, rfl⟩ := List.mem_map.1 hf
    exact hrow g hg
  obtain ⟨W, hW⟩ : ∃ W, W = bW scT wh wh.length := ⟨_, rfl⟩
  obtain ⟨V, hV⟩ : ∃ V, V = bV scT pl vs vs.length := ⟨_, rfl⟩
  have hWl : W.length ≤ 1000000000 := by rw [hW]; exact Nat.le_trans (bW_len _ _ _) hwl
  have hVl : V.length ≤ 1000000000 := by rw [hV]; exact Nat.le_trans (bV_len _ _ _ _) hvl
  have hB := bound_spec p nw wh np pl nv vs hw hv hwl hvl hpl
  have hbw := bW_bound hw wh.length
  have hbv := bV_bound (pl := pl) hv vs.length
  have htw := bW_tok hw wh.length
  have htv := bV_tok (pl := pl) hv vs.length
  rw [← hW] at hB hbw htw
  rw [← hV] at hB hbv htv
  have hU := update_spec hs false W.isEmpty V.isEmpty (l.map owned) p (bTs W) (bUs V) hlo hro hrowo htw (by simpa using hWl) htv (by simpa using hVl)
  have hRU := refUpdate_spec nl W.isEmpty false V.isEmpty scT (by decide) l p (bEs W) (bTs W) hbw hrow hr (by omega) (by simpa using hWl) (bRs V) (bUs V) hbv (by simpa using hVl)
  have hD := deleteT_spec hs false W.isEmpty (l.map owned) p (bTs W) hlo hro hrowo htw (by simpa using hWl)
  have hRD := refDelete_spec nl W.isEmpty false scT (by decide) l p (bEs W) (bTs W) hbw hrow hr (by omega) (by simpa using hWl)
  have eU : updT sortP (bTs W) (bUs V) (l.map owned) p = updR l (bUs V) (partsR (bTs W) l p l.length) [] [] := by
    unfold updT
    rw [parts_eq hs, partsR_owned, updR_owned, List.length_map]
  have eE : delET sortP (bTs W) (l.map owned) p = pE (partsR (bTs W) l p l.length) := by
    unfold delET pE; rw [parts_eq hs, partsR_owned, List.length_map]
  have eA : delAT sortP (bTs W) (l.map owned) p = pA (partsR (bTs W) l p l.length) := by
    unfold delAT pA; rw [parts_eq hs, partsR_owned, List.length_map]
  rw [eU] at hU
  rw [eE, eA] at hD
  have hLl := partsR_len (bTs W) l p l.length
  have hLr := partsR_rests (bTs W) l p l.length
  have hLw := partsR_rows (ts := bTs W) (p := p) hr l.length
  generalize partsR (bTs W) l p l.length = L at hU hRU hD hRD hLl hLr hLw
  have hpAl := pA_len L hLr
  have hpEl : (pE L).length = L.length := by simp [pE]
  have hpAr : Rows1 (pA L) := fun f hf => by
    unfold pA at hf
    obtain ⟨x, hx, hf⟩ := List.mem_flatMap.1 hf
    exact hLw x hx f hf
  have hS1 := same_spec (pE L).isEmpty (pA L).isEmpty (pE L).isEmpty (pA L).isEmpty (pE L) (pE L) (pA L) (pA L) (by omega) (by omega) hpAr
  have hS2 : Con Try.prog 22 [.agg (urC (updR l (bUs V) L [] [])), .agg (urC (updR l (bUs V) L [] []))] [.c (bln true)] := by
    cases hu : updR l (bUs V) L [] [] with
    | no c =>
      have := same_spec true true true true [] [] [] [] (by simp) (by simp) (by intro f hf; simp at hf)
      simpa [urC] using this
    | ok E A =>
      have hlen := updR_len l (bUs V) L [] E [] A hLr hu
      have hrr := updR_rows hr L [] E [] A hLw (by intro f hf; simp at hf) hu
      simp at hlen
      have := same_spec E.isEmpty A.isEmpty E.isEmpty A.isEmpty E E A A (by omega) (by omega) hrr
      simpa [urC] using this
  have hS3 := sameF_spec false nl (l.map owned) l (by simp; omega) hro
  rw [strips_owned] at hS3
  simp only [decide_true, Bool.and_self] at hS1 hS3
  obtain ⟨u1, u2, huc⟩ : ∃ u1 u2, urC (updR l (bUs V) L [] []) = [u1, u2] := by
    cases updR l (bUs V) L [] [] <;> exact ⟨_, _, rfl⟩
  rw [huc] at hU hRU hS2
  generalize urE (updR l (bUs V) L [] []) = ue at hU hRU
  have hC := copyF_spec nl l (by omega) hr
  generalize l.map owned = X at hC hU hD hS3
  refine spec_of Try.func5 rfl (by kernel_rfl) (by simp [Try.f5]) (fun w0 K0 => vc_ok _ _ _ (by kernel_rfl) ?_)
  simp only [Try.f5]
  simp -dsimp [ask]
  refine VC.mk _ (awake_spec hs) ?_
  simp -dsimp
  refine VC.mk _ hB ?_
  simp -dsimp
  refine VC.mk _ hC ?_
  simp -dsimp
  refine VC.mk _ hU ?_
  simp -dsimp
  refine VL.draw (by kernel_rfl) [(0, false), (0, false), (2, false), (0, false), (0, false), (0, false), (63, false), (127, false), (255, false), (255, false), (0, false), (1535, false), (4095, true)] (by kernel_rfl) ?_
  simp -dsimp
  refine VCE.mk _ scope0_spec ?_
  simp -dsimp
  refine VCE.mk _ hRU ?_
  simp -dsimp
  refine ⟨by kernel_rfl, ?_⟩
  refine VL.draw (by kernel_rfl) [(0, false), (0, false), (2, false), (0, false), (15, false), (0, false), (0, false), (64, false), (0, false), (31, false), (1023, true), (2047, true), (4095, true), (8191, false), (8191, false), (32767, true), (65535, true), (131071, true), (262143, false), (262143, false), (1048575, true), (2097151, true), (4194303, true), (8388607, false), (8388607, false), (33554431, true), (67108863, true), (134217727, true)] (by kernel_rfl) ?_
  simp -dsimp
  refine VCE.mk _ hD ?_
  simp -dsimp
  refine VCE.mk _ scope0_spec ?_
  simp -dsimp
  refine VC.mk _ hRD ?_
  simp -dsimp [urC]
  refine VC.mk _ hS1 ?_
  simp -dsimp
  refine VG.mk [.c (bln true)] _ (fun _ => hS2) rfl ?_
  simp -dsimp
  refine VG.mk [.c (bln true)] _ (fun _ => hS3) rfl ?_
  simp -dsimp
end Go.Proofs.Ytkfiiomdkljjnaa
