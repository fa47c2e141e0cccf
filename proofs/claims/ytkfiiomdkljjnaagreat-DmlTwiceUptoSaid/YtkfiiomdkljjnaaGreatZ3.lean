/- Contract: DmlTwice. -/
import Derived.Test.YtkfiiomdkljjnaaGreatZ2
set_option linter.unusedSimpArgs false
set_option linter.unusedVariables false
namespace Go.Proofs.YtkfiiomdkljjnaaGreat
open Go.VL Go.RowKit

/-- what is gone, as it is collected -/
def goneK (l : List Fact) (E : List Int) (k : Nat) : List Fact := (E.take k).map (pick l)
theorem goneK_step {l : List Fact} {E : List Int} {k : Nat} (h : k < E.length) : goneK l E (k + 1) = goneK l E k ++ [pick l E[k]] := by
  unfold goneK; rw [take_snoc h, List.map_append]; rfl
theorem goneK_len (l : List Fact) (E : List Int) (k : Nat) : (goneK l E k).length ≤ E.length := by
  unfold goneK; rw [List.length_map, List.length_take]; omega

set_option maxRecDepth 4000 in
set_option maxHeartbeats 16000000 in
theorem twice_spec {sortP : List Per → List Per} (hs : Sorts sortP) (hi : SortsI) (hf : SortsF) (nl : Bool) (l : List Fact) (p : Per) (nw : Bool) (wh : List Ex) (np : Bool) (pl : List Int) (nv : Bool) (vs : List Ex)
    (hl : l.length ≤ 110000000) (hr : Rows1 l) (hrow : ∀ f ∈ l, VFit f.row) (hw : Ex.fits wh) (hv : Ex.fits vs) (hwl : wh.length ≤ 1000000000) (hvl : vs.length ≤ 1000000000) (hpl : pl.length ≤ 1000000000) :
    Con Tryz.prog 4 [.c (.sl nl (facts l)), .agg (ask p nw wh np pl nv vs)] [.c (bln true)] := by
  obtain ⟨W, hW⟩ : ∃ W, W = bW scT wh wh.length := ⟨_, rfl⟩
  obtain ⟨V, hV⟩ : ∃ V, V = bV scT pl vs vs.length := ⟨_, rfl⟩
  have hWl : W.length ≤ 1000000000 := by rw [hW]; exact Nat.le_trans (bW_len _ _ _) hwl
  have hB := bound_spec p nw wh np pl nv vs hw hv hwl hvl hpl
  have htw := bW_tok hw wh.length
  rw [← hW] at hB htw
  rw [← hV] at hB
  have hWb : (bTs W).length ≤ 1000000000 := by simpa using hWl
  have d0 := delR_spec hs nl W.isEmpty l p (bTs W) (by omega) hr hrow htw hWb
  have a0 := app_spec nl l p (bTs W) (by omega) hr
  have l0 := after_len (ts := bTs W) (l := l) (p := p)
  have r0 := after_rows (ts := bTs W) (l := l) (p := p) hr
  have f0 := after_fit (ts := bTs W) (l := l) (p := p) hrow
  have hag := again_none (ts := bTs W) (l := l) (p := p)
  have hE : ∀ e ∈ pE (partsR (bTs W) l p l.length), 0 ≤ e ∧ e < l.length := fun e he => pE_range he
  have hEl : (pE (partsR (bTs W) l p l.length)).length ≤ l.length := by
    have := partsR_len (bTs W) l p l.length
    simpa [pE] using this
  have hg := gone_eq (ts := bTs W) (l := l) (p := p)
  have htc := fun r t => twice_cnt (ts := bTs W) (l := l) (p := p) hs r t
  rw [← hg] at htc
  have z1 : ((afterD (bTs W) l p).map owned).length = (afterD (bTs W) l p).length := List.length_map _
  have heq := (normal_eq hs ((((afterD (bTs W) l p).map owned) ++ clipL sortP ((pE (partsR (bTs W) l p l.length)).map (pick l)) p).map owned) l).2 fun r t => by
    have co : ∀ l : List Fact, cnt (l.map owned) r t = cnt l r t := fun l => by unfold cnt; rw [List.filter_map, List.length_map]; rfl
    rw [co, cnt_append, co, ← cnt_append]
    exact htc r t
  generalize hH : (afterD (bTs W) l p).map owned = H at *
  have zb : (afterD (bTs W) l p).isEmpty = H.isEmpty := by rw [← hH]; simp
  rw [zb] at a0
  have d1 := delR_spec hs H.isEmpty W.isEmpty H p (bTs W) (by omega) r0 f0 htw hWb
  rw [hag] at d1
  have hgl : ((pE (partsR (bTs W) l p l.length)).map (pick l)).length ≤ l.length := by rw [List.length_map]; exact hEl
  have hgr : Rows1 ((pE (partsR (bTs W) l p l.length)).map (pick l)) := by
    rw [hg]; exact fun f hf => hr f (List.mem_filter.1 hf).1
  generalize pE (partsR (bTs W) l p l.length) = E at *
  generalize pA (partsR (bTs W) l p l.length) = A at *
  have kc := clip_con hs hi hf (E.map (pick l)).isEmpty (E.map (pick l)) p p.cells rfl (by omega) hgr
  have kl := clip_len hs (E.map (pick l)) p
  have kr := clip_rows1 (sortP := sortP) p hgr
  generalize clipL sortP (E.map (pick l)) p = Cl at *
  have a1 := apply_ok H.isEmpty true Cl.isEmpty H [] Cl (by omega) r0 (by simp) (by omega) kr (endsE_of .nil (fun _ h => absurd h (by simp)))
  rw [applyF_put] at a1
  have lB : ((H ++ Cl).map owned).length ≤ 4 * l.length := by rw [List.length_map, List.length_append]; omega
  have rB : Rows1 ((H ++ Cl).map owned) := fun f hf => by
    obtain ⟨g, hg, rfl⟩ := List.mem_map.1 hf
    rcases List.mem_append.1 hg with h | h
    · exact r0 g h
    · exact kr g h
  have nb := fun z => normal_con hs hi hf false z _ ((H ++ Cl).map owned) rfl (by omega) rB
  have nl2 := fun z => normal_con hs hi hf false z _ l rfl (by omega) hr
  have nbl := normal_len hs ((H ++ Cl).map owned)
  have nbr := normal_rows1 (sortP := sortP) rB
  have same := fun x y => sameF_true x y _ _ heq (by omega) nbr
  generalize normalL sortP ((H ++ Cl).map owned) = NB at *
  generalize normalL sortP l = NL at *
  generalize (H ++ Cl).isEmpty = eb at *
  generalize (H ++ Cl).map owned = B at *
  refine spec_of Tryz.func4 rfl (by kernel_rfl) (by simp [Tryz.f4]) (fun w0 K0 => vc_ok _ _ _ (by kernel_rfl) ?_)
  simp only [Tryz.f4]
  simp -dsimp [ask]
  refine VC.mk _ (awake_spec hs) ?_
  simp -dsimp
  refine VC.mk _ hB ?_
  simp -dsimp
  refine VC.mk _ d0 ?_
  simp -dsimp
  refine VC.mk _ a0 ?_
  simp -dsimp
  refine VC.mk _ d1 ?_
  simp -dsimp [pE, pA]
  refine VC.mk _ d0 ?_
  simp -dsimp
  refine VL.loop (fun k : Nat => ⟨[(62, .c (i64 k)), (61, .c (i64 E.length)), (60, .c (.sl E.isEmpty (E.map icell))), (9, .c (.sl H.isEmpty (facts H))), (0, .c (.sl nl (facts l))), (3, .ptr 192 0), (12, .own 768 (goneK l E k).length)],
      [(768, some (.arr (goneK l E k).isEmpty (gsz 3 (goneK l E k)) (facts (goneK l E k)) 0)), (192, some (.box false [.c (i64 p.f), .c (i64 p.t), .c (.sl nw (exprs wh)), .c (.sl np (pl.map icell)), .c (.sl nv (exprs vs))]))]⟩)
    (fun k => k ≤ E.length) (fun k => E.length - k) 0 (by kernel_rfl) (by simp) (by simp [St.le, goneK, gsz]) ?_
  intro k hk
  have hgk := goneK_len l E k
  simp -dsimp
  refine VIf.mk (fun h2 => ?_) (fun h2 => ?_)
  · have h3 : k < E.length := by simpa using h2
    have hww : IntKind.i64.wrap ((k : Int) + 1) = (k : Int) + 1 := IntWalk.i64_in _ (by omega)
    have hst := goneK_step (l := l) h3
    have hek := hE _ (List.getElem_mem h3)
    have h4 : E[k].toNat < l.length := by omega
    rw [pick_eq h4] at hst
    have hq : l[E[k].toNat]? = some l[E[k].toNat] := List.getElem?_eq_getElem h4
    have hg3 := gsz_ok 3 (goneK l E k)
    simp -dsimp [h3, icell, hq, h4, hek.1, Fact.cells]
    refine ⟨by decide, fun e => hg3 (by simpa using e), by omega, k + 1, by omega, ?_, by omega⟩
    rw [hst]
    simp [St.le, hww, Fact.cells, gsz]
  · simp at h2
    obtain rfl : k = E.length := by omega
    have e0 : goneK l E E.length = E.map (pick l) := by unfold goneK; rw [List.take_length]
    rw [e0]
    generalize E.map (pick l) = G at *
    simp -dsimp
    refine VCL.snap ?_
    simp -dsimp
    refine VC.mk _ kc ?_
    simp -dsimp
    refine VC.mk _ a1 ?_
    simp -dsimp
    refine ⟨by decide, VGL.call (args := [.tmp 88]) _ _ _ _ _ rfl rfl rfl ?_⟩
    simp -dsimp
    refine VCL.snap ?_
    simp -dsimp
    refine VC.mk _ (nb eb) ?_
    simp -dsimp
    refine ⟨by decide, VGL.call (args := [.tmp 91]) _ _ _ _ _ rfl rfl rfl ?_⟩
    simp -dsimp
    refine VCL.snap ?_
    simp -dsimp
    refine VC.mk _ (nl2 nl) ?_
    simp -dsimp
    refine VG.mk [.c (bln true)] _ (fun _ => same _ _) rfl ?_
    simp -dsimp
end Go.Proofs.YtkfiiomdkljjnaaGreat
