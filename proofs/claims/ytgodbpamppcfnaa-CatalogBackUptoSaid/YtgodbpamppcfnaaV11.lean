/-
  A logic on data over the model's walk, part 11: one operation is met by the model's.
-/
import Derived.Test.YtgodbpamppcfnaaV10
set_option linter.unusedSimpArgs false
set_option linter.unusedVariables false
namespace Go.VL
open Go.RowKit

section
variable {P : Program} {w0 : World} {K0 : K0T} {nt : Nat} {st : St} {a : Act} {w : World} {g : G}

theorem blk_one {v : Value} {b : Nat} (h : blk v = some b) : v.oneCell' = true ∧ v.cells = #[v] := by
  unfold blk at h
  split at h
  · exact ⟨rfl, rfl⟩
  · exact ⟨rfl, rfl⟩
  · cases h

theorem cellsH_ok (h : T w0 K0 nt st a w g) {s : S} {cs : List S} {u : Value} (hc : cellsH st s = some cs) (hs : SR g w st.rs s u) : SRs g w st.rs cs u.cells.toList ∧ ∀ v ∈ u.cells.toList, v.oneCell' = true := by
  have one : u.oneCell' = true → u.cells = #[u] := fun h => by cases u <;> first | rfl | cases h
  have fin : ∀ s, SR g w st.rs s u → u.oneCell' = true → SRs g w st.rs [s] u.cells.toList ∧ ∀ v ∈ u.cells.toList, v.oneCell' = true := fun s hs h1 => by
    rw [one h1]
    refine ⟨by simp only [SRs]; exact ⟨u, [], rfl, hs, rfl⟩, fun v hv => ?_⟩
    simp at hv; subst hv; exact h1
  unfold cellsH at hc
  split at hc
  · cases hc
    have hs' := hs
    rw [SR] at hs'
    exact fin _ hs (CR.one hs')
  · rename_i cs'
    cases hc
    rw [SR] at hs
    obtain ⟨us, rfl, hv⟩ := hs
    have hv' := (VR_iff _ _).1 hv
    show SRs g w st.rs (cs'.map .c) us ∧ ∀ v ∈ us, v.oneCell' = true
    refine ⟨?_, fun v hm => ?_⟩
    · rw [SRs_iff]
      refine ⟨by simp [hv'.1], fun k s u e1 e2 => ?_⟩
      simp only [List.getElem?_map, Option.map_eq_some_iff] at e1
      obtain ⟨c, e1, rfl⟩ := e1
      rw [SR]
      exact hv'.2 k c u e1 e2
    · obtain ⟨k, hk, rfl⟩ := List.mem_iff_getElem.1 hm
      have hk' : k < cs'.length := by have := hv'.1; omega
      exact CR.one (hv'.2 k cs'[k] _ (by simp [hk']) (by simp))
  · rename_i ss
    cases hc
    rw [SR] at hs
    obtain ⟨us, rfl, h1, h2⟩ := hs
    exact ⟨by simpa [Value.cells] using h1, by simpa [Value.cells] using h2⟩
  · rename_i i o
    split at hc
    · rename_i fz ss hr
      cases hc
      have hs' := hs
      rw [SR] at hs'
      obtain ⟨b, _, rfl⟩ := hs' fz ss hr
      exact fin _ hs rfl
    · cases hc
  · rename_i i n
    split at hc
    · rename_i nil sz xs fx hr
      split at hc
      · rename_i hn
        cases hc
        have hs' := hs
        rw [SR] at hs'
        have hu := hs' nil sz xs fx hr hn
        refine fin _ hs ?_
        rcases h.res i _ hr with ⟨_, _, e, _⟩ | ⟨_, b, cap, cur, E, e, _⟩ <;> rw [hu, e] <;> rfl
      · cases hc
    · cases hc
  · cases hc

theorem SR.nilown (g : G) (w : World) {R : Nat → Option Res} {N : Nat} (hl : g.loc N = .slice none 0 0) : SR g w R (.own N 0) (.slice none 0 0) := by
  rw [SR]; intro _ _ _ _ _ _; exact hl.symm

theorem SR.keep {g g' : G} {R R' : Nat → Option Res} {N : Nat} (hk : g'.K = g.K) (hl : ∀ j, j ≠ N → g'.loc j = g.loc j) (hR : ∀ j, j ≠ N → R' j = (R j).map (Res.clr N)) {w' : World} (hw : Keeps g.K w g.K w') {s : S} {u : Value} (hm : s.men N = false) (h : SR g w R s u) : SR g' w' R' s u := by
  refine SR.mono (by rw [hk]; exact hw) s u (fun j hj => ?_) h
  have hji : j ≠ N := fun e => by subst e; rw [hj] at hm; cases hm
  refine ⟨fun fz ss' e => ?_, fun nil sz xs fx e => ?_⟩
  · rw [hR j hji] at e
    cases hs : R j with
    | none => simp [hs] at e
    | some r => cases r with
      | box fz0 ss0 => exact ⟨⟨fz0, ss0, rfl⟩, hl j hji⟩
      | arr _ _ _ _ => simp [hs, Res.clr] at e
      | pin _ _ => simp [hs, Res.clr] at e
  · rw [hR j hji] at e
    cases hs : R j with
    | none => simp [hs] at e
    | some r => cases r with
      | box fz0 ss0 => simp [hs, Res.clr] at e
      | arr nil0 sz0 xs0 fx0 =>
        simp [hs, Res.clr] at e
        obtain ⟨rfl, rfl, rfl, rfl⟩ := e
        exact ⟨⟨_, _, _, rfl, rfl⟩, hl j hji⟩
      | pin _ _ => simp [hs, Res.clr] at e

theorem rs_make (st : St) (N j : Nat) (r : Option Res) (h : j ≠ N) : ((st.clr N).setR N r).rs j = (st.rs j).map (Res.clr N) := by
  rw [St.rs_setR, if_neg (Ne.symm h), St.rs_clr]

theorem znils_ok (N : Nat) : ∀ (vs : List Value) (k : Nat) (st : St) (g : G), T w0 K0 nt st a w g → (∀ v ∈ vs, v.oneCell' = true) →
    ∃ g', T w0 K0 nt (znils N k vs st) a w g' ∧ SRs g' w (znils N k vs st).rs (zcells N k vs) vs ∧ g'.K = g.K ∧ (∀ s u, (∀ j, k ≤ j → s.men (N + j + 1) = false) → SR g w st.rs s u → SR g' w (znils N k vs st).rs s u)
  | [], k, st, g, h, _ => ⟨g, h, by simp [zcells, SRs], rfl, fun _ _ _ h => h⟩
  | v :: r, k, st, g, h, h1 => by
    by_cases hv : v = .slice none 0 0
    · subst hv
      obtain ⟨g1, k1, k2, k3, k4⟩ := h.nilR (N + k + 1)
      obtain ⟨g', m1, m2, m3, m4⟩ := znils_ok N r (k + 1) _ g1 k1 (fun v hv => h1 v (by simp [hv]))
      have e1 : znils N k (.slice none 0 0 :: r) st = znils N (k + 1) r ((st.clr (N + k + 1)).setR (N + k + 1) (some (.arr true 0 [] 0))) := by rw [znils]
      have e2 : zcells N k (.slice none 0 0 :: r) = .own (N + k + 1) 0 :: zcells N (k + 1) r := by rw [zcells]
      rw [e1, e2]
      refine ⟨g', m1, ?_, m3.trans k4, fun s u hm hs => m4 s u (fun j hj => hm j (by omega)) ?_⟩
      · rw [SRs]
        refine ⟨_, _, rfl, m4 _ _ (fun j hj => by simp [S.men]; omega) (SR.nilown g1 w k2), m2⟩
      · exact SR.keep k4 k3 (fun j hj => rs_make st _ j _ hj) (Keeps.refl _ _) (hm k (Nat.le_refl _)) hs
    · obtain ⟨g', m1, m2, m3, m4⟩ := znils_ok N r (k + 1) st g h (fun v hv => h1 v (by simp [hv]))
      have e1 : znils N k (v :: r) st = znils N (k + 1) r st := by
        rw [znils]; exact hv
      have e2 : zcells N k (v :: r) = .c (ofVal v) :: zcells N (k + 1) r := by
        rw [zcells]; exact hv
      rw [e1, e2]
      refine ⟨g', m1, ?_, m3, fun s u hm hs => m4 s u (fun j hj => hm j (by omega)) hs⟩
      rw [SRs]
      refine ⟨_, _, rfl, ?_, m2⟩
      rw [SR]
      exact CR_ofVal _ _ _ (h1 v (by simp))

theorem zcells_men (N : Nat) : ∀ (vs : List Value) (k : Nat), S.mens N (zcells N k vs) = false
  | [], k => by simp [zcells, S.mens]
  | v :: r, k => by
    by_cases hv : v = .slice none 0 0
    · subst hv
      have e2 : zcells N k (.slice none 0 0 :: r) = .own (N + k + 1) 0 :: zcells N (k + 1) r := by rw [zcells]
      rw [e2, S.mens, zcells_men N r (k + 1)]
      simp [S.men]
      omega
    · have e2 : zcells N k (v :: r) = .c (ofVal v) :: zcells N (k + 1) r := by
        rw [zcells]; exact hv
      rw [e2, S.mens, zcells_men N r (k + 1)]
      simp [S.men]

/-- what is made is put into its slot -/
theorem T.putp (h : T w0 K0 nt st a w g) {N t b : Nat} (ht : t < nt) (hl : g.loc N = .pointer (some ⟨b, 0, none⟩)) : T w0 K0 nt (st.put t (.ptr N 0)) (a.put (some t) (.pointer (some ⟨b, 0, none⟩))) w g :=
  h.put ht (by rw [SR]; intro _ _ _; exact ⟨b, hl, rfl⟩)

theorem T.puto (h : T w0 K0 nt st a w g) {N t n : Nat} {v : Value} (ht : t < nt) (hl : g.loc N = v) : T w0 K0 nt (st.put t (.own N n)) (a.put (some t) v) w g :=
  h.put ht (by rw [SR]; intro _ _ _ _ _ _; exact hl.symm)

variable {o : Oper} {K : St → Prop} {e : Operand → S} {next : Act → World → Prop} {Q : Exit → Act → World → Prop}

theorem valloc_ok (h : T w0 K0 nt st a w g) (hd : ∀ t, o.dst = some t → t < nt) {t : TypeId} (ho : o.op = .alloc t) (hv : valloc P o.dst st t K) (hn : ∀ st' a' w' g', K st' → T w0 K0 nt st' a' w' g' → next a' w') : o.wp P a w next Q := by
  unfold valloc at hv
  split at hv
  · rename_i x z hx hz
    obtain ⟨h1, hK⟩ := hv
    have h1' : ∀ v ∈ z.cells.toList, v.oneCell' = true := fun v hv => Array.all_eq_true_iff_forall_mem.1 h1 v (by simpa using hv)
    obtain ⟨g1, k1, k2, k3, k4⟩ := znils_ok (64 * x) z.cells.toList 0 st g h h1'
    obtain ⟨g2, m1, m2, m3, m4⟩ := k1.newbox (64 * x) _ _ t k2 h1' (zcells_men _ _ _)
    have hr : (execOp a.eval o).run P w = .ok (.value (.pointer (some ⟨w.heap.size, 0, none⟩))) (w.alloc (.cells z.cells.toList.toArray t)) := by
      simp [execOp, ho, Instr.alloc, run_zero hz, newVar, newRow]
    refine ow_value hr (hn _ _ _ g2 hK ?_)
    rw [hx]
    exact m1.putp (hd x hx) m2
  · exact hv.elim

theorem vbox_ok (h : T w0 K0 nt st a w g) (hd : ∀ t, o.dst = some t → t < nt) {t : TypeId} {x : Operand} (ho : o.op = .box t x) (he : SR g w st.rs (e x) (a.eval x)) (hv : vbox o.dst st (e x) K) (hn : ∀ st' a' w' g', K st' → T w0 K0 nt st' a' w' g' → next a' w') : o.wp P a w next Q := by
  unfold vbox at hv
  split at hv
  · rename_i y hy
    obtain ⟨s', st', g', k1, k2, k3, k4, k5, k6⟩ := vsnap_ok h he hv
    split at k1
    · rename_i cs hcs
      obtain ⟨hm, hK⟩ := k1
      obtain ⟨c1, c2⟩ := cellsH_ok k2 hcs k3
      obtain ⟨g2, m1, m2, m3, m4⟩ := k2.newbox (64 * y) _ _ t c1 c2 hm
      have hr : (execOp a.eval o).run P w = .ok (.value (.pointer (some ⟨w.heap.size, 0, none⟩))) (w.alloc (.cells (a.eval x).cells.toList.toArray t)) := by
        simp [execOp, ho, Instr.box, newVar, newRow]
      refine ow_value hr (hn _ _ _ g2 hK ?_)
      rw [hy]
      exact m1.putp (hd y hy) m2
    · exact k1.elim
  · exact hv.elim

theorem vstore_ok (h : T w0 K0 nt st a w g) (hdst : o.dst = none) {t : TypeId} {ad x : Operand} (ho : o.op = .store t ad x) (ha : SR g w st.rs (e ad) (a.eval ad)) (he : SR g w st.rs (e x) (a.eval x)) (hv : vstore P st t (e ad) (e x) K) (hn : ∀ st' a' w' g', K st' → T w0 K0 nt st' a' w' g' → next a' w') : o.wp P a w next Q := by
  have hrun : ∀ w', (Instr.storeAt t (a.eval ad) (a.eval x)).run P w = .ok () w' → (execOp a.eval o).run P w = .ok .skip w' := fun w' hr => by simp [execOp, ho, hr]
  unfold vstore at hv
  split at hv
  · rename_i i off hea
    split at hv
    · rename_i ss agg n cs hr ht hcs
      obtain ⟨h1, h2, hK⟩ := hv
      obtain ⟨c1, c2⟩ := cellsH_ok h hcs he
      rw [hea] at ha
      obtain ⟨w', r1, r2⟩ := h.store_box (P := P) hr ht ha c1 c2 h1 h2
      refine ow_skip (hrun w' r1) ?_
      rw [hdst]
      exact hn _ _ _ _ hK r2
    · exact hv.elim
  · rename_i i m j off hea
    obtain ⟨s', st', g', k1, k2, k3, k4, k5, k6⟩ := vsnap_ok h he hv
    split at k1
    · rename_i nil sz xs fx agg n cs hr ht hcs
      obtain ⟨h1, h2, h3, h4, h5, hK⟩ := k1
      rw [hea] at ha
      obtain ⟨w', r1, r2⟩ := k2.store_arr (P := P) hr ht (k4 _ _ ha) h2 h3 (cellsS_VR hcs k3) (cellsS_one hcs k3) h1 h4 h5
      refine ow_skip (hrun w' r1) ?_
      rw [hdst]
      exact hn _ _ _ _ hK r2
    · exact k1.elim
  · exact hv.elim

theorem vpure_ok (h : T w0 K0 nt st a w g) (hd : ∀ t, o.dst = some t → t < nt) (he : ∀ x ∈ o.op.operands.toList, SR g w st.rs (e x) (a.eval x)) (hv : vpure P o.dst st e o.op K) (hn : ∀ st' a' w' g', K st' → T w0 K0 nt st' a' w' g' → next a' w') : o.wp P a w next Q := by
  obtain ⟨h1, h2⟩ := hv
  obtain ⟨u, r1, r2⟩ := pev_ok h o e he h1
  exact ow_value r1 (hn _ _ _ _ h2 (h.putd hd r2))

end
end Go.VL
