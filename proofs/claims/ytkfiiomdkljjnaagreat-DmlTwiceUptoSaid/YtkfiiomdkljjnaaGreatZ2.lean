/- Contract: DmlSplits. -/
import Derived.Test.YtkfiiomdkljjnaaGreatYA
set_option linter.unusedSimpArgs false
set_option linter.unusedVariables false
namespace Go.Proofs.YtkfiiomdkljjnaaGreat
open Go.VL Go.RowKit

theorem bW_mem {sc : List SCol} {es : List Ex} : ∀ k, ∀ x ∈ bW sc es k, x.1 ∈ es ∧ bindE sc x.1 = .ok x.2
  | 0, x, h => by simp [bW] at h
  | k + 1, x, h => by
    rw [bW, List.mem_append] at h
    rcases h with h | h
    · exact bW_mem k x h
    · split at h
      · rename_i e he
        unfold bW1 at h
        split at h
        · rename_i t ht
          simp at h; subst h
          exact ⟨List.mem_of_getElem? he, ht⟩
        · simp at h
      · simp at h
theorem bW_tok {es : List Ex} (hf : Ex.fits es) (k : Nat) : TOk (bTs (bW scT es k)) := by
  rw [Ex.fits_iff] at hf
  intro t ht
  unfold bTs at ht
  obtain ⟨x, hx, rfl⟩ := List.mem_map.1 ht
  obtain ⟨h1, h2⟩ := bW_mem k _ hx
  exact bindE_ok scT _ _ (hf _ h1) h2
theorem normal_con {sortP : List Per → List Per} (hs : Sorts sortP) (hi : SortsI) (hf : SortsF) (nl z : Bool) (xs : List (List C)) (l : List Fact) (h : xs = [[.sl z (facts l)]]) (hl : l.length ≤ 3518437208883) (hr : Rows1 l) :
    Con Tryz.prog 11 [.c (.sl nl xs)] [.c (.sl (normalL sortP l).isEmpty (facts (normalL sortP l)))] :=
  normal_one hs hi hf nl z xs l h hl hr (by have := normal_pre hs l; omega)
theorem clip_con {sortP : List Per → List Per} (hs : Sorts sortP) (hi : SortsI) (hf : SortsF) (nl : Bool) (l : List Fact) (p : Per) (cs : List C) (h : cs = p.cells) (hl : l.length ≤ 3518437208883) (hr : Rows1 l) :
    Con Tryz.prog 12 [.c (.sl nl (facts l)), .agg cs] [.c (.sl (clipL sortP l p).isEmpty (facts (clipL sortP l p)))] := by
  rw [h]
  exact clip_spec hs hi hf nl l p hl hr (by have := normal_pre hs (clipP p l); have := clipP_len p l; omega)
theorem sameF_true (na nb : Bool) (l m : List Fact) (h : l = m) (hl : l.length ≤ 140737488355328) (hr : Rows1 l) : Con Tryz.prog 10 [.c (.sl na (facts l)), .c (.sl nb (facts m))] [.c (bln true)] := by
  have := sameF_spec na nb l m hl hr
  rw [h] at this ⊢
  simpa using this
section
variable {ts : List Tm} {l : List Fact} {p : Per}
theorem after_len : (afterD ts l p).length ≤ 3 * l.length := by
  have h1 := keep_len (goneE (pE (partsR ts l p l.length))) l l.length
  have h2 := pA_len _ (partsR_rests ts l p l.length)
  have h3 := partsR_len ts l p l.length
  unfold afterD applyF
  rw [List.length_append]
  omega
theorem after_rows (hr : Rows1 l) : Rows1 ((afterD ts l p).map owned) := fun f hf => by
  obtain ⟨g, hg, rfl⟩ := List.mem_map.1 hf
  obtain ⟨x, hx, e⟩ := afterD_row g hg
  show g.row.length ≤ _
  rw [e]; exact hr x hx
theorem after_fit (hr : ∀ f ∈ l, VFit f.row) : ∀ f ∈ (afterD ts l p).map owned, VFit f.row := fun f hf => by
  obtain ⟨g, hg, rfl⟩ := List.mem_map.1 hf
  obtain ⟨x, hx, e⟩ := afterD_row g hg
  show VFit g.row
  rw [e]; exact hr x hx
end
theorem delR_spec {sortP : List Per → List Per} (hs : Sorts sortP) (nl nw : Bool) (l : List Fact) (p : Per) (ts : List Tm) (hl : l.length ≤ 1000000000) (hr : Rows1 l) (hrow : ∀ f ∈ l, VFit f.row) (hts : TOk ts) (htl : ts.length ≤ 1000000000) :
    Con Tryz.prog 9 [.c (.sl nl (facts l)), .agg p.cells, .c (.sl nw (terms ts))]
      [.ag [.sl (pE (partsR ts l p l.length)).isEmpty ((pE (partsR ts l p l.length)).map icell), .sl (pA (partsR ts l p l.length)).isEmpty (facts (pA (partsR ts l p l.length)))]] := by
  have h := deleteT_spec hs nl nw l p ts hl hr hrow hts htl
  have e1 : delET sortP ts l p = pE (partsR ts l p l.length) := by unfold delET pE; rw [parts_eq hs]
  have e2 : delAT sortP ts l p = pA (partsR ts l p l.length) := by unfold delAT pA; rw [parts_eq hs]
  rw [e1, e2] at h
  exact h
theorem app_spec (nl : Bool) (l : List Fact) (p : Per) (ts : List Tm) (hl : l.length ≤ 400000000) (hr : Rows1 l) :
    Con Tryz.prog 8 [.c (.sl nl (facts l)), .agg [.sl (pE (partsR ts l p l.length)).isEmpty ((pE (partsR ts l p l.length)).map icell), .sl (pA (partsR ts l p l.length)).isEmpty (facts (pA (partsR ts l p l.length)))]]
      [.c (.sl (afterD ts l p).isEmpty (facts ((afterD ts l p).map owned))), .c (i64 0)] := by
  have hLr := partsR_rests ts l p l.length
  have hLl := partsR_len ts l p l.length
  have hpAl := pA_len _ hLr
  have hpEl : (pE (partsR ts l p l.length)).length = (partsR ts l p l.length).length := by simp [pE]
  have hpAr : Rows1 (pA (partsR ts l p l.length)) := fun f hf => by
    rw [pA_eq] at hf
    obtain ⟨g, hg, hx⟩ := List.mem_flatMap.1 hf
    rw [rest_row hx]; exact hr g (List.mem_filter.1 hg).1
  exact apply_ok nl _ _ l _ _ (by omega) hr (by omega) (by omega) hpAr (endsE_of pE_rise (fun e he => pE_range he))

set_option maxRecDepth 4000 in
set_option maxHeartbeats 16000000 in
theorem splits_spec {sortP : List Per → List Per} (hs : Sorts sortP) (hi : SortsI) (hf : SortsF) (nl : Bool) (l : List Fact) (p : Per) (nw : Bool) (wh : List Ex) (np : Bool) (pl : List Int) (nv : Bool) (vs : List Ex) (c : Int)
    (hl : l.length ≤ 110000000) (hr : Rows1 l) (hrow : ∀ f ∈ l, VFit f.row) (hw : Ex.fits wh) (hv : Ex.fits vs) (hwl : wh.length ≤ 1000000000) (hvl : vs.length ≤ 1000000000) (hpl : pl.length ≤ 1000000000) :
    Con Tryz.prog 3 [.c (.sl nl (facts l)), .agg (ask p nw wh np pl nv vs), .c (i64 c)] [.c (bln true)] := by
  obtain ⟨W, hW⟩ : ∃ W, W = bW scT wh wh.length := ⟨_, rfl⟩
  obtain ⟨V, hV⟩ : ∃ V, V = bV scT pl vs vs.length := ⟨_, rfl⟩
  have hWl : W.length ≤ 1000000000 := by rw [hW]; exact Nat.le_trans (bW_len _ _ _) hwl
  have hB := bound_spec p nw wh np pl nv vs hw hv hwl hvl hpl
  have htw := bW_tok hw wh.length
  rw [← hW] at hB htw
  rw [← hV] at hB
  have hWb : (bTs W).length ≤ 1000000000 := by simpa using hWl
  have d0 := delR_spec hs nl W.isEmpty l p (bTs W) (by omega) hr hrow htw hWb
  have a0 := app_spec nl l p (bTs W) (by omega) hr
  have d1 := delR_spec hs nl W.isEmpty l ⟨p.f, c⟩ (bTs W) (by omega) hr hrow htw hWb
  have a1 := app_spec nl l ⟨p.f, c⟩ (bTs W) (by omega) hr
  have l1 := after_len (ts := bTs W) (l := l) (p := ⟨p.f, c⟩)
  have l0 := after_len (ts := bTs W) (l := l) (p := p)
  have r1 := after_rows (ts := bTs W) (l := l) (p := ⟨p.f, c⟩) hr
  have r0 := after_rows (ts := bTs W) (l := l) (p := p) hr
  have f1 := after_fit (ts := bTs W) (l := l) (p := ⟨p.f, c⟩) hrow
  have heq := fun (hp : right p = true) (h1 : p.f < c) (h2 : c < p.t) => (normal_eq hs ((afterD (bTs W) ((afterD (bTs W) l ⟨p.f, c⟩).map owned) ⟨c, p.t⟩).map owned) ((afterD (bTs W) l p).map owned)).2 fun r t => by
    have co : ∀ l : List Fact, cnt (l.map owned) r t = cnt l r t := fun l => by unfold cnt; rw [List.filter_map, List.length_map]; rfl
    rw [co, co]
    exact splits_cnt (ts := bTs W) (l := l) hp h1 h2 r t
  have z1 : ((afterD (bTs W) l ⟨p.f, c⟩).map owned).length = (afterD (bTs W) l ⟨p.f, c⟩).length := List.length_map _
  generalize hH : (afterD (bTs W) l ⟨p.f, c⟩).map owned = H at *
  have zb : (afterD (bTs W) l ⟨p.f, c⟩).isEmpty = H.isEmpty := by rw [← hH]; simp
  rw [zb] at a1
  have d2 := delR_spec hs H.isEmpty W.isEmpty H ⟨c, p.t⟩ (bTs W) (by omega) r1 f1 htw hWb
  have a2 := app_spec H.isEmpty H ⟨c, p.t⟩ (bTs W) (by omega) r1
  have l2 := after_len (ts := bTs W) (l := H) (p := ⟨c, p.t⟩)
  have r2 := after_rows (ts := bTs W) (l := H) (p := ⟨c, p.t⟩) r1
  have nb := fun z => normal_con hs hi hf false z _ ((afterD (bTs W) H ⟨c, p.t⟩).map owned) rfl (by rw [List.length_map]; omega) r2
  have nw2 := fun z => normal_con hs hi hf false z _ ((afterD (bTs W) l p).map owned) rfl (by rw [List.length_map]; omega) r0
  have nbl := normal_len hs ((afterD (bTs W) H ⟨c, p.t⟩).map owned)
  rw [List.length_map] at nbl
  have nbr := normal_rows1 (sortP := sortP) r2
  have same := fun x y (hp : right p = true) (h1 : p.f < c) (h2 : c < p.t) => sameF_true x y _ _ (heq hp h1 h2) (by omega) nbr
  generalize normalL sortP ((afterD (bTs W) H ⟨c, p.t⟩).map owned) = NB at *
  generalize normalL sortP ((afterD (bTs W) l p).map owned) = NW at *
  generalize (afterD (bTs W) H ⟨c, p.t⟩).isEmpty = eb at *
  generalize (afterD (bTs W) l p).isEmpty = ew at *
  generalize (afterD (bTs W) H ⟨c, p.t⟩).map owned = B at *
  generalize (afterD (bTs W) l p).map owned = D at *
  generalize pE (partsR (bTs W) l p l.length) = E0 at *
  generalize pA (partsR (bTs W) l p l.length) = A0 at *
  generalize pE (partsR (bTs W) l ⟨p.f, c⟩ l.length) = E1 at *
  generalize pA (partsR (bTs W) l ⟨p.f, c⟩ l.length) = A1 at *
  generalize pE (partsR (bTs W) H ⟨c, p.t⟩ H.length) = E2 at *
  generalize pA (partsR (bTs W) H ⟨c, p.t⟩ H.length) = A2 at *
  refine spec_of Tryz.func3 rfl (by kernel_rfl) (by simp [Tryz.f3]) (fun w0 K0 => vc_ok _ _ _ (by kernel_rfl) ?_)
  simp only [Tryz.f3]
  simp -dsimp [ask]
  refine VC.mk _ (awake_spec hs) ?_
  simp -dsimp
  refine VC.mk _ (refRight_spec p) ?_
  simp -dsimp
  refine VIf.mk (fun h => ?_) (fun h => ?_)
  · simp -dsimp
  · have hh : right p = true ∧ p.f < c ∧ c < p.t := by
      revert h
      cases right p <;> simp
    simp -dsimp
    refine VC.mk _ hB ?_
    simp -dsimp
    refine VC.mk _ d0 ?_
    simp -dsimp
    refine VC.mk _ a0 ?_
    simp -dsimp
    refine VL.draw (by kernel_rfl) [(0, false), (1, false), (3, false), (0, false), (15, false), (0, false), (0, false), (64, false), (192, false), (480, false), (0, false), (0, false), (3103, false), (8191, true)] (by kernel_rfl) ?_
    simp -dsimp
    refine ⟨by simp [Value.cells], ?_⟩
    refine VC.mk _ d1 ?_
    simp -dsimp
    refine VC.mk _ a1 ?_
    simp -dsimp
    refine VC.mk _ d2 ?_
    simp -dsimp
    refine VC.mk _ a2 ?_
    simp -dsimp
    refine ⟨by decide, VGL.call (args := [.tmp 96]) _ _ _ _ _ rfl rfl rfl ?_⟩
    simp -dsimp
    refine VCL.snap ?_
    simp -dsimp
    refine VC.mk _ (nb eb) ?_
    simp -dsimp
    refine ⟨by decide, VGL.call (args := [.tmp 99]) _ _ _ _ _ rfl rfl rfl ?_⟩
    simp -dsimp
    refine VCL.snap ?_
    simp -dsimp
    refine VC.mk _ (nw2 ew) ?_
    simp -dsimp
    refine VG.mk [.c (bln true)] _ (fun _ => same _ _ hh.1 hh.2.1 hh.2.2) rfl ?_
    simp -dsimp
end Go.Proofs.YtkfiiomdkljjnaaGreat
