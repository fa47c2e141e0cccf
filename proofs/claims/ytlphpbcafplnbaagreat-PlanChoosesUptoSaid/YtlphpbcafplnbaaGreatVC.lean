/- Contracts of functions of the seat, proved in a logic on data over the model (part VC). -/
import Derived.Test.YtlphpbcafplnbaaGreatVB
import Derived.Orders
import Derived.Laws.StructEq
import Derived.ChangeKeysEq
set_option linter.unusedSimpArgs false
set_option linter.unusedVariables false
namespace Go.VL
open Go.RowKit
mutual
def S.kn (R : Nat → Option Res) : S → Bool
  | .tup ss => S.kns R ss
  | .fnp f ss => S.kns R ss
  | .st ss => S.kns R ss
  | .own i _ => (R i).isSome
  | .ptr i _ => (R i).isSome
  | .ep i _ _ _ => (R i).isSome
  | .suf i _ _ => (R i).isSome
  | .mp i => (R i).isSome
  | .me i _ _ => (R i).isSome
  | .pre i _ _ => (R i).isSome
  | .g _ s => S.kn R s
  | _ => true
def S.kns (R : Nat → Option Res) : List S → Bool
  | [] => true
  | s :: r => S.kn R s && S.kns R r
end
mutual
theorem S.kn_men {R : Nat → Option Res} {i : Nat} : ∀ (s : S), s.kn R = true → s.men i = true → (R i).isSome = true
  | .c _, _, h => by simp [S.men] at h
  | .agg _, _, h => by simp [S.men] at h
  | .un, _, h => by simp [S.men] at h
  | .tup ss, h, hm => by rw [S.kn] at h; rw [S.men] at hm; exact S.kns_men ss h hm
  | .fnp f ss, h, hm => by rw [S.kn] at h; rw [S.men] at hm; exact S.kns_men ss h hm
  | .st ss, h, hm => by rw [S.kn] at h; rw [S.men] at hm; exact S.kns_men ss h hm
  | .own j _, h, hm => by rw [S.kn] at h; simp [S.men] at hm; subst hm; exact h
  | .ptr j _, h, hm => by rw [S.kn] at h; simp [S.men] at hm; subst hm; exact h
  | .ep j _ _ _, h, hm => by rw [S.kn] at h; simp [S.men] at hm; subst hm; exact h
  | .suf j _ _, h, hm => by rw [S.kn] at h; simp [S.men] at hm; subst hm; exact h
  | .mp j, h, hm => by rw [S.kn] at h; simp [S.men] at hm; subst hm; exact h
  | .pre j _ _, h, hm => by rw [S.kn] at h; simp [S.men] at hm; subst hm; exact h
  | .me j _ _, h, hm => by rw [S.kn] at h; simp [S.men] at hm; subst hm; exact h
  | .g _ s, h, hm => by rw [S.kn] at h; rw [S.men] at hm; exact S.kn_men s h hm
theorem S.kns_men {R : Nat → Option Res} {i : Nat} : ∀ (ss : List S), S.kns R ss = true → S.mens i ss = true → (R i).isSome = true
  | [], _, h => by simp [S.mens] at h
  | s :: r, h, hm => by
    rw [S.kns, Bool.and_eq_true] at h
    rw [S.mens, Bool.or_eq_true] at hm
    rcases hm with hm | hm
    · exact S.kn_men s h.1 hm
    · exact S.kns_men r h.2 hm
end
def RSub (R R' : Nat → Option Res) : Prop := ∀ i, R i = none ∨ R i = R' i
theorem RSub.eq {R R' : Nat → Option Res} (h : RSub R R') {i : Nat} {r : Res} (hi : R i = some r) : R' i = some r := by
  rcases h i with q | q
  · rw [q] at hi; cases hi
  · rw [← q]; exact hi
section
variable {P : Program} {w0 : World} {K0 : K0T} {nt : Nat} {st : St} {a : Act} {w : World} {g : G} {ops : Array Oper}
theorem SR.down {R R' : Nat → Option Res} (h : RSub R R') {s : S} {u : Value} (hs : SR g w R' s u) : SR g w R s u :=
  SR.mono (Keeps.refl _ _) s u (fun _ _ => ⟨fun fz ss e => ⟨⟨fz, ss, h.eq e⟩, rfl⟩, fun nil _ xs fx e => ⟨⟨nil, xs, fx, h.eq e, rfl⟩, rfl⟩, fun kvs e => ⟨⟨kvs, h.eq e, rfl⟩, rfl⟩⟩) hs
theorem SR.up {R R' : Nat → Option Res} (h : RSub R R') {s : S} {u : Value} (hk : s.kn R = true) (hs : SR g w R s u) : SR g w R' s u :=
  SR.mono (Keeps.refl _ _) s u (fun i hi => by
    have := S.kn_men s hk hi
    rcases h i with q | q
    · rw [q] at this; cases this
    · exact Cmp.same q.symm rfl) hs
theorem T.sub (h : T w0 K0 nt st a w g) {st' : St} (he : ∀ t, st'.get t = .un ∨ st'.get t = st.get t) (hr : RSub st'.rs st.rs) : T w0 K0 nt st' a w g := by
  have hc : ∀ i, Cmp g st.rs g st'.rs i := fun i => ⟨fun fz ss e => ⟨⟨fz, ss, hr.eq e⟩, rfl⟩, fun nil sz xs fx e => ⟨⟨nil, xs, fx, hr.eq e, rfl⟩, rfl⟩, fun kvs e => ⟨⟨kvs, hr.eq e, rfl⟩, rfl⟩⟩
  refine ⟨h.below, h.k0, h.kold, h.klt, fun i r hi => ?_, fun i j r r' hi hj => h.dis i j r r' (hr.eq hi) (hr.eq hj), fun t => ?_, h.nt, h.defers, h.keep⟩
  · exact RR.mono (Keeps.refl _ _) rfl (fun _ _ => ⟨rfl, fun _ k => k⟩) (fun _ _ _ _ _ j _ => hc j) (fun _ _ _ j _ => hc j) (fun _ _ j _ => hc j) (h.res i r (hr.eq hi))
  · rcases he t with q | q
    · rw [q, SR]; trivial
    · rw [q]; exact SR.down hr (h.env t)
def St.bare (st : St) : St := ⟨[], st.res⟩
theorem T.bare (h : T w0 K0 nt st a w g) {sR : St} (hr : RSub sR.rs st.rs) : T w0 K0 nt sR.bare a w g := h.sub (fun _ => .inl rfl) hr
theorem pev_bare (P : Program) (st : St) (e : Operand → S) (op : Op) : pev P st.bare e op = pev P st e op := by
  cases op <;> rfl
theorem frozenD_bare (st : St) (s : S) : frozenD st.bare s = frozenD st s := by
  cases s <;> rfl
theorem frozenDs_bare (st : St) : ∀ ss : List S, frozenDs st.bare ss = frozenDs st ss
  | [] => rfl
  | s :: r => by rw [frozenDs, frozenDs, frozenD_bare, frozenDs_bare st r]
theorem pcall3_ok (h : T w0 K0 nt st a w g) {sR : St} (hR : RSub sR.rs st.rs) {o : Oper} {c : Call} {f : Operand} (ho : o.op = .call c) (hc : c.callee = .value f) {ef : S} (hef : SR g w sR.rs ef (a.eval f)) {as : List S} (hargs : SRs g w sR.rs as (c.args.toList.map a.eval)) {rs : List Rt}
    (hp : pcall P sR ef as rs) {next : Act → World → Prop} {Q : Exit → Act → World → Prop}
    (hn : ∀ (vs : List Value) w' g', T w0 K0 nt st a w' g' → RtRs g'.K w' w.heap.size rs vs → (∀ i r b, st.rs i = some r → blk (g'.loc i) = some b → b < w.heap.size) → w.heap.size ≤ w'.heap.size → next (a.put o.dst (retV vs)) w') : o.wp P a w next Q := by
  have h0 : T w0 K0 nt sR.bare a w g := h.bare hR
  have hargs : SRs g w sR.bare.rs as (c.args.toList.map a.eval) := hargs
  unfold pcall at hp
  split at hp
  · rename_i fid caps
    obtain ⟨hfd, hsp⟩ := hp
    have k3 := frozenDs_ok h0 _ _ hargs (by rw [frozenDs_bare]; exact hfd)
    rw [frozenDs_bare] at k3
    simp only [SR, CR] at hef
    obtain ⟨us, hfv, hcv⟩ := hef
    have hcaps : SRs g w sR.bare.rs (caps.map .c) us := by
      rw [SRs_iff]
      obtain ⟨q1, q2⟩ := (VR_iff _ _).1 hcv
      refine ⟨by simp [q1], fun k s u e1 e2 => ?_⟩
      simp only [List.getElem?_map, Option.map_eq_some_iff] at e1
      obtain ⟨d, e1, rfl⟩ := e1
      rw [SR]; exact q2 k d u e1 e2
    have hall : SRs g w sR.bare.rs ((frozenDs sR as).1 ++ caps.map .c) (c.args.toList.map a.eval ++ us) := by
      rw [SRs_iff] at k3 hcaps ⊢
      refine ⟨by simp [k3.1, hcaps.1], fun k s u e1 e2 => ?_⟩
      by_cases hlt : k < (frozenDs sR as).1.length
      · rw [List.getElem?_append_left hlt] at e1
        rw [List.getElem?_append_left (by rw [k3.1]; exact hlt)] at e2
        exact k3.2 k s u e1 e2
      · rw [List.getElem?_append_right (by omega)] at e1
        rw [List.getElem?_append_right (by rw [k3.1]; omega), k3.1] at e2
        exact hcaps.2 _ s u e1 e2
    refine wp_runs ho hc hfv (hsp w g.K _ h.klt (DRs_of hall)) fun en w' hpost => ?_
    obtain ⟨vs, rfl, hbel, K', p1, p2, p3, p4⟩ := hpost
    refine ⟨_, rfl, ?_⟩
    have hB : w0.heap.size ≤ w.heap.size := h.below.size
    have hkeep : Keeps g.K w K' w' := ⟨p1, fun b o k => by
      have := h.klt b o k
      simp only [World.cell?]; rw [hbel.block b this]⟩
    have hT1 := h.world (Bel.of (hbel.mono hB)) hkeep (fun b o k hlt => h.kold b o (p2 b o k (by have := hlt.1; omega)) hlt) p3 (fun i r b hi hb => by
      have hlt := (h.res i r hi).lt hb
      exact ⟨hbel.block b hlt, fun o k => p2 b o k hlt⟩)
    exact hn _ _ _ hT1 p4 (fun i r b hi hb => (h.res i r hi).lt hb) hbel.size
  · exact hp.elim
theorem pcall2_ok (h : T w0 K0 nt st a w g) {sR : St} (hR : RSub sR.rs st.rs) {o : Oper} {c : Call} {f : Operand} (ho : o.op = .call c) (hc : c.callee = .value f) (e : Operand → S) (he : ∀ x ∈ o.op.operands.toList, SR g w sR.rs (e x) (a.eval x)) {rs : List Rt}
    (hp : pcall P sR (e f) (c.args.toList.map e) rs) {next : Act → World → Prop} {Q : Exit → Act → World → Prop}
    (hn : ∀ (vs : List Value) w' g', T w0 K0 nt st a w' g' → RtRs g'.K w' w.heap.size rs vs → (∀ i r b, st.rs i = some r → blk (g'.loc i) = some b → b < w.heap.size) → w.heap.size ≤ w'.heap.size → next (a.put o.dst (retV vs)) w') : o.wp P a w next Q :=
  pcall3_ok h hR ho hc (he f (by rw [ho]; simp [Op.operands, Call.operands, hc])) (SRs_map _ _ _ (fun x hx => he x (by rw [ho]; simp [Op.operands, Call.operands, hc]; exact .inr (by simpa using hx)))) hp hn
structure Seen (ops : Array Oper) (o : Oper) (sR st : St) : Prop where
  ev : ∀ x ∈ o.op.operands.toList, sR.ev x = st.ev x
  gd : ∀ j b t, o.guard = some (j, b) → gslot ops j = some t → sR.get t = st.get t
  rs : RSub sR.rs st.rs
theorem Seen.gflag {o : Oper} {sR : St} (h : Seen ops o sR st) : gflag ops sR o.guard = gflag ops st o.guard := by
  cases hg : o.guard with
  | none => rfl
  | some p =>
    obtain ⟨j, b⟩ := p
    unfold VL.gflag
    simp only
    cases ht : gslot ops j with
    | none => rfl
    | some t => simp only [h.gd j b t hg ht]
theorem Seen.sr {o : Oper} {sR : St} (h : Seen ops o sR st) (hT : T w0 K0 nt st a w g) (x : Operand) (hx : x ∈ o.op.operands.toList) : SR g w sR.rs (sR.ev x) (a.eval x) := by
  rw [h.ev x hx]; exact SR.down h.rs (hT.ev x)
theorem PStep2_ok {o : Oper} {sR : St} (hok : opOk nt o = true) {k : S → Prop} (hv : PStep P ops sR o fun s => s.kn sR.rs = true ∧ k s) :
    ∃ s, k s ∧ ∀ (st : St) (a : Act) (w : World) (g : G), T w0 K0 nt st a w g → Seen ops o sR st → ∀ (next : Act → World → Prop) (Q : Exit → Act → World → Prop), (∀ a' w' g', T w0 K0 nt (st.putd o.dst s) a' w' g' → next a' w') → stepW P ops o a w next Q := by
  unfold PStep at hv
  split at hv
  · exact hv.elim
  · rename_i q hq
    have hd := opOk_dst hok
    have skip : ∀ (st : St) (a : Act) (w : World) (g : G), T w0 K0 nt st a w g → Seen ops o sR st → q = false → ∀ s, ∀ (next : Act → World → Prop) (Q : Exit → Act → World → Prop), (∀ a' w' g', T w0 K0 nt (st.putd o.dst (wrapg o.guard q s)) a' w' g' → next a' w') → stepW P ops o a w next Q := by
      intro st a w g h hs hq0 s next Q hn
      have hw := gflag_ok h (by rw [← hs.gflag]; exact hq) o rfl
      unfold stepW
      rw [hw, hq0]
      simp only [Bool.false_eq_true, if_false]
      refine hn _ w g (h.putd hd ?_)
      cases hg : o.guard with
      | none => rw [hg] at hq; simp [VL.gflag] at hq; rw [hq] at hq0; cases hq0
      | some x => simp only [wrapg, SR]; exact ⟨(fun e => by rw [hq0] at e; cases e), fun _ => by trivial⟩
    have go : ∀ (st : St) (a : Act) (w : World) (g : G), T w0 K0 nt st a w g → Seen ops o sR st → ∀ (s : S) (u : Value), q = true → (execOp a.eval o).run P w = .ok (.value u) w → SR g w sR.rs s u → (wrapg o.guard q s).kn sR.rs = true → ∀ (next : Act → World → Prop) (Q : Exit → Act → World → Prop), (∀ a' w' g', T w0 K0 nt (st.putd o.dst (wrapg o.guard q s)) a' w' g' → next a' w') → stepW P ops o a w next Q := by
      intro st a w g h hs s u hq1 hr hsr hkn next Q hn
      have hw := gflag_ok h (by rw [← hs.gflag]; exact hq) o rfl
      unfold stepW
      rw [hw, hq1]
      simp only [if_true]
      exact ow_value hr (hn _ w g (h.putd hd (SR.up hs.rs hkn (wrapg_ok hq1 hsr))))
    have pure_case : (q = true → (o.op.operands.toList.all fun x => flagOf (sR.ev x)) = true ∧ (pev P sR (fun x => peel (sR.ev x)) o.op).2) ∧ ((wrapg o.guard q (pev P sR (fun x => peel (sR.ev x)) o.op).1).kn sR.rs = true ∧ k (wrapg o.guard q (pev P sR (fun x => peel (sR.ev x)) o.op).1)) →
        ∃ s, k s ∧ ∀ (st : St) (a : Act) (w : World) (g : G), T w0 K0 nt st a w g → Seen ops o sR st → ∀ (next : Act → World → Prop) (Q : Exit → Act → World → Prop), (∀ a' w' g', T w0 K0 nt (st.putd o.dst s) a' w' g' → next a' w') → stepW P ops o a w next Q := by
      rintro ⟨h1, hkn, h2⟩
      refine ⟨_, h2, fun st a w g h hs next Q hn => ?_⟩
      cases q with
      | false => exact skip st a w g h hs rfl _ next Q hn
      | true =>
        obtain ⟨f1, f2⟩ := h1 rfl
        obtain ⟨u, r1, r2⟩ := pev_ok (h.bare hs.rs) o (fun x => peel (sR.ev x)) (fun x hx => peel_ok (R := sR.bare.rs) (hs.sr h x hx) (List.all_eq_true.1 f1 x hx)) (by rw [pev_bare]; exact f2)
        rw [pev_bare] at r2
        exact go st a w g h hs _ u rfl r1 r2 hkn next Q hn
    split at hv
    · rename_i c x y ho
      obtain ⟨h1, hkn, h2⟩ := hv
      refine ⟨_, h2, fun st a w g h hs next Q hn => ?_⟩
      cases q with
      | false => exact skip st a w g h hs rfl _ next Q hn
      | true =>
        unfold vpick at h1
        split at h1
        · rename_i pc bc pa bx pb by' e1 e2 e3
          obtain ⟨f1, f2, f3⟩ := h1 rfl
          have ev : (vpick true (sR.ev c) (sR.ev x) (sR.ev y)).1 = bl (bif bc then bx else by') := by simp only [vpick, e1, e2, e3]
          rw [ev] at hn hkn
          have hc := sbool_ok e1 (hs.sr h c (by rw [ho]; simp [Op.operands])) f1
          refine go st a w g h hs (bl (bif bc then bx else by')) (.bool (bif bc then bx else by')) rfl ?_ (bl_SR _) hkn next Q hn
          cases bc with
          | true => have hx := sbool_ok e2 (hs.sr h x (by rw [ho]; simp [Op.operands])) (f2 rfl); simp [execOp, ho, hc, asBool, hx]
          | false => have hx := sbool_ok e3 (hs.sr h y (by rw [ho]; simp [Op.operands])) (f3 rfl); simp [execOp, ho, hc, asBool, hx]
        · exact h1.elim
    · rename_i c ho
      split at hv
      · rename_i f hcal
        obtain ⟨rs, s, h1, h2, hkn, h3⟩ := hv
        refine ⟨_, h3, fun st a w g h hs next Q hn => ?_⟩
        cases q with
        | false => exact skip st a w g h hs rfl _ next Q hn
        | true =>
          obtain ⟨f1, f2⟩ := h1 rfl
          have hw := gflag_ok h (by rw [← hs.gflag]; exact hq) o rfl
          unfold stepW
          rw [hw]
          simp only [if_true]
          refine pcall2_ok h hs.rs ho hcal (fun x => peel (sR.ev x)) (fun x hx => peel_ok (hs.sr h x hx) (List.all_eq_true.1 f1 x hx)) f2 (fun vs w' g' hT hr _ _ => hn _ w' g' (hT.putd hd (wrapg_ok rfl (retD_ok h2 hr))))
      · exact pure_case hv
    · exact pure_case hv
end
end Go.VL
set_option linter.unusedSimpArgs false
set_option linter.unusedVariables false
namespace Go.VL
open Go.RowKit
structure Eff where
  d : Option Nat
  s : S
  rs : List (Nat × Res)
  fr : Bool
def St.setRs (st : St) (l : List (Nat × Res)) : St := l.foldl (fun st p => st.setR p.1 (some p.2)) st
def St.app (st : St) (e : Eff) : St := (st.setRs e.rs).putd e.d e.s
def Eqv (st st' : St) : Prop := st.get = st'.get ∧ st.rs = st'.rs
theorem Eqv.refl (st : St) : Eqv st st := ⟨rfl, rfl⟩
theorem Eqv.symm {st st' : St} (h : Eqv st st') : Eqv st' st := ⟨h.1.symm, h.2.symm⟩
theorem Eqv.trans {x y z : St} (h : Eqv x y) (h' : Eqv y z) : Eqv x z := ⟨h.1.trans h'.1, h.2.trans h'.2⟩
theorem Eqv.setR {x y : St} (h : Eqv x y) (i : Nat) (r : Option Res) : Eqv (x.setR i r) (y.setR i r) :=
  ⟨by rw [St.get_setR, St.get_setR]; exact h.1, by funext j; rw [St.rs_setR, St.rs_setR, h.2]⟩
theorem Eqv.put {x y : St} (h : Eqv x y) (t : Nat) (s : S) : Eqv (x.put t s) (y.put t s) :=
  ⟨by funext j; rw [St.get_put, St.get_put, h.1], by rw [St.rs_put, St.rs_put]; exact h.2⟩
theorem Eqv.putd {x y : St} (h : Eqv x y) (t : Option Nat) (s : S) : Eqv (x.putd t s) (y.putd t s) := by
  cases t with
  | none => exact h
  | some t => exact h.put t s
theorem Eqv.setRs {x y : St} (h : Eqv x y) (l : List (Nat × Res)) : Eqv (x.setRs l) (y.setRs l) := by
  induction l generalizing x y with
  | nil => exact h
  | cons p r ih => exact ih (h.setR p.1 (some p.2))
theorem Eqv.app {x y : St} (h : Eqv x y) (e : Eff) : Eqv (x.app e) (y.app e) := (h.setRs e.rs).putd e.d e.s
def Res.men (i : Nat) : Res → Bool
  | .box _ ss => S.mens i ss
  | .arr .. => false
  | .map m => m.men i
  | .pin _ s => s.men i
structure Clean (i : Nat) (st : St) : Prop where
  get : ∀ t, (st.get t).men i = false
  rs : ∀ j r, st.rs j = some r → r.men i = false
mutual
theorem S.clr_id {i : Nat} : ∀ (s : S), s.men i = false → s.clr i = s
  | .c _, _ => rfl
  | .agg _, _ => rfl
  | .un, _ => rfl
  | .tup ss, h => by rw [S.men] at h; rw [S.clr, S.clrs_id ss h]
  | .fnp f ss, h => by rw [S.men] at h; rw [S.clr, S.clrs_id ss h]
  | .st ss, h => by rw [S.men] at h; rw [S.clr, S.clrs_id ss h]
  | .own j _, h => by rw [S.men] at h; rw [S.clr, h]; rfl
  | .ptr j _, h => by rw [S.men] at h; rw [S.clr, h]; rfl
  | .ep j _ _ _, h => by rw [S.men] at h; rw [S.clr, h]; rfl
  | .suf j _ _, h => by rw [S.men] at h; rw [S.clr, h]; rfl
  | .mp j, h => by rw [S.men] at h; rw [S.clr, h]; rfl
  | .me j _ _, h => by rw [S.men] at h; rw [S.clr, h]; rfl
  | .pre j _ _, h => by rw [S.men] at h; rw [S.clr, h]; rfl
  | .g _ s, h => by rw [S.men] at h; rw [S.clr, S.clr_id s h]
theorem S.clrs_id {i : Nat} : ∀ (ss : List S), S.mens i ss = false → S.clrs i ss = ss
  | [], _ => rfl
  | s :: r, h => by
    rw [S.mens, Bool.or_eq_false_iff] at h
    rw [S.clrs, S.clr_id s h.1, S.clrs_id r h.2]
end
theorem S.clrs_map (i : Nat) : ∀ (ss : List S), ss.map (S.clr i) = S.clrs i ss
  | [] => rfl
  | s :: r => by rw [List.map_cons, S.clrs, S.clrs_map i r]
theorem Res.clr_id {i : Nat} (r : Res) (h : r.men i = false) : r.clr i = r := by
  cases r with
  | box fz ss => rw [Res.clr, S.clrs_map, S.clrs_id ss h]
  | arr => rfl
  | map m =>
    rw [Res.clr, MB.clr, MB.map_id' m fun s hs => S.clr_id s (by
      cases hx : s.men i with
      | false => rfl
      | true => have := MB.men_of hs hx; rw [show m.men i = false from h] at this; cases this)]
  | pin v s => rw [Res.clr, S.clr_id s h]
theorem Clean.clr {i : Nat} {st : St} (h : Clean i st) : Eqv (st.clr i) st := by
  refine ⟨?_, ?_⟩
  · funext t; rw [St.get_clr, S.clr_id _ (h.get t)]
  · funext j
    rw [St.rs_clr]
    cases e : st.rs j with
    | none => rfl
    | some r => rw [Option.map_some, Res.clr_id r (h.rs j r e)]
theorem Clean.eqv {i : Nat} {st st' : St} (h : Clean i st) (e : Eqv st' st) : Clean i st' := ⟨fun t => by rw [e.1]; exact h.get t, fun j r hr => h.rs j r (by rw [← e.2]; exact hr)⟩
theorem Clean.setR {i : Nat} {st : St} (h : Clean i st) {j : Nat} {r : Res} (hr : r.men i = false) : Clean i (st.setR j (some r)) := by
  refine ⟨fun t => by rw [St.get_setR]; exact h.get t, fun k r' e => ?_⟩
  rw [St.rs_setR] at e
  split at e
  · cases e; exact hr
  · exact h.rs k r' e
theorem Clean.put {i : Nat} {st : St} (h : Clean i st) {t : Nat} {s : S} (hs : s.men i = false) : Clean i (st.put t s) := by
  refine ⟨fun t' => ?_, h.rs⟩
  rw [St.get_put]
  split
  · exact hs
  · exact h.get t'
theorem Clean.fresh {i : Nat} {st : St} (h : Clean i st) (r : Option Res) : Eqv ((st.clr i).setR i r) (st.setR i r) := h.clr.setR i r
def dataS : S → Bool
  | .c _ => true
  | .agg _ => true
  | _ => false
theorem vsnaps_data (st : St) : ∀ (ss : List S) (k : List S → St → Prop), ss.all dataS = true → k ss st → vsnaps st ss k
  | [], _, _, h => h
  | s :: r, k, hd, h => by
    simp only [List.all_cons, Bool.and_eq_true] at hd
    cases s with
    | c x => rw [vsnaps]; simp only [vsnap]; exact vsnaps_data st r _ hd.2 h
    | agg x => rw [vsnaps]; simp only [vsnap]; exact vsnaps_data st r _ hd.2 h
    | _ => simp [dataS] at hd
def rt1 (N : Nat) : Rt → S × List (Nat × Res)
  | .c x => (.c x, [])
  | .ag cs => (.agg cs, [])
  | .fr nil sz xs fx => (.own N xs.length, [(N, .arr nil sz xs fx)])
def rtsE (N : Nat) : List Rt → List S × List (Nat × Res)
  | [] => ([], [])
  | r :: rest => ((rt1 N r).1 :: (rtsE (N + 1) rest).1, (rt1 N r).2 ++ (rtsE (N + 1) rest).2)
def retEff (dst : Option Nat) (rs : List Rt) : Eff :=
  match dst, rs with
  | none, _ => ⟨none, .un, [], true⟩
  | some d, [r] => ⟨some d, (rt1 (64 * d) r).1, (rt1 (64 * d) r).2, true⟩
  | some d, rs => ⟨some d, .tup (rtsE (64 * d + 1) rs).1, (rtsE (64 * d + 1) rs).2, true⟩
def znE (N : Nat) : Nat → List Value → List (Nat × Res)
  | _, [] => []
  | k, .slice none 0 0 :: r => (N + k + 1, .arr true 0 [] 0) :: znE N (k + 1) r
  | k, _ :: r => znE N (k + 1) r
def veAlloc (P : Program) (dst : Option Nat) (t : TypeId) (k : Eff → Prop) : Prop :=
  match dst, zeroOf P t with
  | some x, some z => z.cells.all (·.oneCell') = true ∧ k ⟨some x, .ptr (64 * x) 0, znE (64 * x) 0 z.cells.toList ++ [(64 * x, .box false (zcells (64 * x) 0 z.cells.toList))], true⟩
  | _, _ => False
def veStore (P : Program) (st : St) (t : TypeId) (ad s : S) (k : Eff → Prop) : Prop :=
  match ad with
  | .ptr i off =>
    match st.rs i, tySz P t, cellsH st s with
    | some (.box false ss), some (_, n), some cs => cs.length = n ∧ off + n ≤ ss.length ∧ k ⟨none, .un, [(i, .box false (spl ss off cs))], false⟩
    | _, _, _ => False
  | .ep i m j o =>
    match st.rs i, tySz P t, cellsS s with
    | some (.arr nil sz xs fx), some (_, n), some cs => dataS s = true ∧ cs.length = n ∧ xs.length = m ∧ j < m ∧ o + n ≤ sz ∧ fx ≤ j ∧ k ⟨none, .un, [(i, .arr nil sz (xs.set j (spl (xs.getD j []) o cs)) fx)], false⟩
    | _, _, _ => False
  | _ => False
def veBuild (P : Program) (dst : Option Nat) (t : TypeId) (len : Nat) (parts : List (Nat × S)) (k : Eff → Prop) : Prop :=
  match dst, P.underlying t with
  | some x, some (.slice e) =>
    match tySz P e, zeroOf P e with
    | some (_, s), some z =>
      match cellsS (ofConst z) with
      | some zc =>
        match pfill (.inr s) (List.replicate len zc).flatten ((parts.map (·.1)).zip (parts.map (·.2))) with
        | some out => (parts.map (·.2)).all dataS = true ∧ zc.length = s ∧ len * s ≤ 16777216 ∧ 0 < s ∧ len ≤ maxLen ∧ k ⟨some x, .own (64 * x) len, [(64 * x, .arr false s (chunks s len out) 0)], true⟩
        | none => False
      | none => False
    | _, _ => False
  | _, _ => False
def dead : Res := .pin undef .un
def veOpd (st : St) (x : S) : Option (List (List C) × List (Nat × Res)) :=
  match x with
  | .c (.sl _ ys) => some (ys, [])
  | .own j m =>
    match st.rs j with
    | some (.arr _ _ ys _) => if ys.length = m then some (ys, [(j, dead)]) else none
    | _ => none
  | _ => none
def veAppend (P : Program) (dst : Option Nat) (st : St) (t xt : TypeId) (d x : S) (k : Eff → Prop) : Prop :=
  match dst, slT P t, P.underlying xt, veOpd st x with
  | some y, some (s, B), some (.slice _), some (ys, kl) =>
    match d with
    | .c (.sl true []) => kl.all (fun p => p.1 != 64 * y) = true ∧ (∀ e ∈ ys, e.length = s) ∧ 0 < B ∧ ys.length * B ≤ 140737488355328 ∧ k ⟨some y, .own (64 * y) ys.length, kl ++ [(64 * y, .arr ys.isEmpty s ys 0)], true⟩
    | .own i n =>
      match st.rs i with
      | some (.arr nil sz xs fx) => kl.all (fun p => p.1 != 64 * y && p.1 != i) = true ∧ (i != 64 * y) = true ∧ xs.length = n ∧ (nil = false → sz = s) ∧ (∀ e ∈ ys, e.length = s) ∧ 0 < B ∧ (xs.length + ys.length) * B ≤ 140737488355328 ∧
          k ⟨some y, .own (64 * y) (n + ys.length), kl ++ [(i, dead), (64 * y, .arr (nil && ys.isEmpty) s (xs ++ ys) fx)], true⟩
      | _ => False
    | _ => False
  | _, _, _, _ => False
def vopd (st : St) : List S → (List S → List (Nat × Res) → St → Prop) → Prop
  | [], k => k [] [] st
  | .own j m :: r, k => match st.rs j with
    | some (.arr nil _ ys _) => ys.length = m ∧ vopd (st.setR j (some dead)) r fun a l st' => k (.c (.sl nil ys) :: a) ((j, dead) :: l) st'
    | _ => False
  | s :: r, k => vopd st r fun a l st' => k (s :: a) l st'
def addE (l : List (Nat × Res)) (e : Eff) : Eff := ⟨e.d, e.s, l ++ e.rs, e.fr⟩
def veCall (P : Program) (st : St) (dst : Option Nat) (f : S) (args : List S) (k : Eff → Prop) : Prop :=
  vopd st args fun args l st' => ∃ rs, pcall P st' f args rs ∧ k (addE l (retEff dst rs))
inductive VO : St → List S → List S → List (Nat × Res) → St → Prop where
  | nil (st : St) : VO st [] [] [] st
  | own (st : St) (j : Nat) (b : Bool) (sz : Nat) (ys : List (List C)) (fx : Nat) (r a : List S) (l : List (Nat × Res)) (st' : St) (h : st.rs j = some (.arr b sz ys fx)) (h2 : VO (st.setR j (some dead)) r a l st') : VO st (.own j ys.length :: r) (.c (.sl b ys) :: a) ((j, dead) :: l) st'
  | skip (st : St) (s : S) (r a : List S) (l : List (Nat × Res)) (st' : St) (h2 : VO st r a l st') : VO st (s :: r) (s :: a) l st'
theorem vopd_VO : ∀ (ss : List S) (st : St) (k : List S → List (Nat × Res) → St → Prop), vopd st ss k → ∃ a l st', VO st ss a l st' ∧ k a l st'
  | [], st, k, h => ⟨[], [], st, VO.nil st, h⟩
  | s :: r, st, k, h => by
    have sk : (vopd st r fun a l st' => k (s :: a) l st') → ∃ a l st', VO st (s :: r) a l st' ∧ k a l st' := fun h => by
      obtain ⟨a, l, st', h1, h2⟩ := vopd_VO r st _ h
      exact ⟨_, _, _, VO.skip st s r a l st' h1, h2⟩
    cases s with
    | own j m =>
      rw [vopd] at h
      split at h
      · rename_i b sz ys fx hr
        obtain ⟨rfl, h⟩ := h
        obtain ⟨a, l, st', h1, h2⟩ := vopd_VO r _ _ h
        exact ⟨_, _, _, VO.own st j b sz ys fx r a l st' hr h1, h2⟩
      · exact h.elim
    | _ => exact sk (by simpa only [vopd] using h)
def vePure (P : Program) (st : St) (o : Oper) (k : Eff → Prop) : Prop :=
  (pev P st st.ev o.op).2 ∧ (pev P st st.ev o.op).1.kn st.rs = true ∧ k ⟨o.dst, (pev P st st.ev o.op).1, [], false⟩
def veGB (P : Program) (ops : Array Oper) (st : St) (o : Oper) (k : Eff → Prop) : Prop :=
  match o.op with
  | .buildSlice t len parts => gflag ops st o.guard = some true ∧ (o.op.operands.toList.all fun x => flagOf (st.ev x)) = true ∧ veBuild P o.dst t len (parts.toList.map fun p => (p.1, peel (st.ev p.2))) k
  | .call c =>
    match c.callee with
    | .value f => (c.args.toList.map fun x => peel (st.ev x)).any lendS = true ∧ gflag ops st o.guard = some true ∧ (o.op.operands.toList.all fun x => flagOf (st.ev x)) = true ∧ veCall P st o.dst (peel (st.ev f)) (c.args.toList.map fun x => peel (st.ev x)) k
    | _ => False
  | _ => False
def veff (P : Program) (ops : Array Oper) (st : St) (o : Oper) (k : Eff → Prop) : Prop :=
  match o.guard, o.op with
  | none, .alloc t => veAlloc P o.dst t k
  | none, .store t ad x => veStore P st t (st.ev ad) (st.ev x) k
  | none, .buildSlice t len parts => veBuild P o.dst t len (parts.toList.map fun p => (p.1, st.ev p.2)) k
  | none, .call c =>
    match c.callee with
    | .value f => veCall P st o.dst (st.ev f) (c.args.toList.map st.ev) k
    | .builtin .append =>
      match c.argTypes.toList, c.args.toList with
      | [t, xt], [d, x] => veAppend P o.dst st t xt (st.ev d) (st.ev x) k
      | _, _ => False
    | _ => vePure P st o k
  | none, .pick .. => PStep P ops st o fun s => s.kn st.rs = true ∧ k ⟨o.dst, s, [], false⟩
  | none, _ => vePure P st o k
  | some _, _ => (PStep P ops st o fun s => s.kn st.rs = true ∧ k ⟨o.dst, s, [], false⟩) ∨ veGB P ops st o k
def Eff.mods (e : Eff) : List Nat := e.rs.map (·.1)
def Res.isPin : Res → Bool
  | .pin .. => true
  | _ => false
def news : List (Nat × Res) → List Nat
  | [] => []
  | p :: r => bif p.2.isPin then news r else p.1 :: news r
def Eff.news (e : Eff) : List Nat := VL.news e.rs
theorem news_sub : ∀ (l : List (Nat × Res)), ∀ i ∈ news l, i ∈ l.map (·.1)
  | [], i, h => by simp [news] at h
  | p :: r, i, h => by
    rw [news] at h
    cases hp : p.2.isPin with
    | true => rw [hp] at h; exact List.mem_cons_of_mem _ (news_sub r i h)
    | false =>
      rw [hp] at h
      rcases List.mem_cons.1 h with rfl | h
      · simp
      · exact List.mem_cons_of_mem _ (news_sub r i h)
theorem news_mods : ∀ (l : List (Nat × Res)), (∀ p ∈ l, p.2.isPin = false) → news l = l.map (·.1)
  | [], _ => rfl
  | p :: r, h => by rw [news, h p (by simp), List.map_cons, news_mods r (fun q hq => h q (by simp [hq]))]; rfl
theorem Eff.news_sub (e : Eff) : ∀ i ∈ e.news, i ∈ e.mods := VL.news_sub e.rs
section
variable {P : Program} {w0 : World} {K0 : K0T} {nt : Nat} {st : St} {a : Act} {w : World} {g : G} {ops : Array Oper}
theorem T.eqv {st' : St} (h : T w0 K0 nt st a w g) (e : Eqv st' st) : T w0 K0 nt st' a w g := h.congr e.1 e.2
theorem vrets_eqv : ∀ (rs : List Rt) (N : Nat) (x y : St), Eqv x y → (∀ i ∈ (rtsE N rs).2.map (·.1), Clean i y) → Eqv (vrets x N rs).2 (y.setRs (rtsE N rs).2) ∧ (vrets x N rs).1 = (rtsE N rs).1
  | [], _, _, _, h, _ => ⟨h, rfl⟩
  | .c c :: rest, N, x, y, h, hc => by
    obtain ⟨h1, h2⟩ := vrets_eqv rest (N + 1) x y h (by simpa [rtsE, rt1] using hc)
    exact ⟨h1, by simp only [vrets, vret1, rtsE, rt1, h2]⟩
  | .ag c :: rest, N, x, y, h, hc => by
    obtain ⟨h1, h2⟩ := vrets_eqv rest (N + 1) x y h (by simpa [rtsE, rt1] using hc)
    exact ⟨h1, by simp only [vrets, vret1, rtsE, rt1, h2]⟩
  | .fr nil sz xs fx :: rest, N, x, y, h, hc => by
    have hN : Clean N y := hc N (by simp [rtsE, rt1])
    have he : Eqv ((x.clr N).setR N (some (.arr nil sz xs fx))) (y.setR N (some (.arr nil sz xs fx))) :=
      ((hN.eqv h).fresh _).trans (h.setR _ _)
    obtain ⟨h1, h2⟩ := vrets_eqv rest (N + 1) _ _ he (fun i hi => (hc i (by simp [rtsE, rt1] at hi ⊢; exact .inr hi)).setR rfl)
    exact ⟨h1, by simp only [vrets, vret1, rtsE, rt1, h2]⟩
theorem znils_eqv (N : Nat) : ∀ (l : List Value) (k : Nat) (x y : St), Eqv x y → (∀ i ∈ (znE N k l).map (·.1), Clean i y) → Eqv (znils N k l x) (y.setRs (znE N k l))
  | [], _, _, _, h, _ => h
  | v :: r, k, x, y, h, hc => by
    by_cases hv : v = .slice none 0 0
    · subst hv
      rw [znils, znE]
      have hN : Clean (N + k + 1) y := hc _ (by rw [znE]; simp)
      have he : Eqv ((x.clr (N + k + 1)).setR (N + k + 1) (some (.arr true 0 [] 0))) (y.setR (N + k + 1) (some (.arr true 0 [] 0))) := ((hN.eqv h).fresh _).trans (h.setR _ _)
      exact znils_eqv N r (k + 1) _ _ he (fun i hi => (hc i (by rw [znE, List.map_cons]; exact List.mem_cons_of_mem _ hi)).setR rfl)
    · have e1 : znils N k (v :: r) x = znils N (k + 1) r x := by
        rw [znils]; intro h; exact hv h
      have e2 : znE N k (v :: r) = znE N (k + 1) r := by
        rw [znE]; intro h; exact hv h
      rw [e1, e2]
      rw [e2] at hc
      exact znils_eqv N r (k + 1) x y h hc
theorem St.setRs_append (st : St) (l m : List (Nat × Res)) : st.setRs (l ++ m) = (st.setRs l).setRs m := by
  unfold St.setRs; rw [List.foldl_append]
theorem Clean.setRs {i : Nat} : ∀ (l : List (Nat × Res)) {st : St}, Clean i st → (∀ p ∈ l, p.2.men i = false) → Clean i (st.setRs l)
  | [], _, h, _ => h
  | p :: r, _, h, hl => Clean.setRs r (h.setR (hl p (by simp))) (fun q hq => hl q (by simp [hq]))
theorem cellsH_sub {sR : St} (h : RSub sR.rs st.rs) {s : S} {cs : List S} (hc : cellsH sR s = some cs) : cellsH st s = some cs := by
  cases s with
  | own i n =>
    simp only [cellsH] at hc ⊢
    cases e : sR.rs i with
    | none => rw [e] at hc; simp at hc
    | some r => rw [e] at hc; rw [h.eq e]; exact hc
  | ptr i n =>
    simp only [cellsH] at hc ⊢
    cases e : sR.rs i with
    | none => rw [e] at hc; simp at hc
    | some r => rw [e] at hc; rw [h.eq e]; exact hc
  | _ => exact hc
theorem znE_pin {N : Nat} : ∀ (l : List Value) (k : Nat), ∀ p ∈ znE N k l, p.2.isPin = false
  | [], _, p, hp => by simp [znE] at hp
  | v :: r, k, p, hp => by
    by_cases hv : v = .slice none 0 0
    · subst hv
      rw [znE] at hp
      rcases List.mem_cons.1 hp with rfl | hp
      · rfl
      · exact znE_pin r (k + 1) p hp
    · have e2 : znE N k (v :: r) = znE N (k + 1) r := by
        rw [znE]; intro h; exact hv h
      rw [e2] at hp
      exact znE_pin r (k + 1) p hp
theorem rt1_pin (N : Nat) (r : Rt) : ∀ p ∈ (rt1 N r).2, p.2.isPin = false := by
  cases r with
  | c x => simp [rt1]
  | ag x => simp [rt1]
  | fr nil sz xs fx => intro p hp; simp [rt1] at hp; subst hp; rfl
theorem rtsE_pin : ∀ (rs : List Rt) (N : Nat), ∀ p ∈ (rtsE N rs).2, p.2.isPin = false
  | [], _, p, h => by simp [rtsE] at h
  | r :: rest, N, p, h => by
    rw [rtsE] at h
    rcases List.mem_append.1 h with h | h
    · exact rt1_pin N r p h
    · exact rtsE_pin rest (N + 1) p h
theorem retEff_pin (d : Option Nat) (rs : List Rt) : ∀ p ∈ (retEff d rs).rs, p.2.isPin = false := by
  unfold retEff
  split
  · intro p hp; simp at hp
  · exact rt1_pin _ _
  · exact rtsE_pin _ _
theorem znE_arr {N : Nat} : ∀ (l : List Value) (k : Nat), ∀ p ∈ znE N k l, ∀ i, p.2.men i = false
  | [], _, p, hp, _ => by simp [znE] at hp
  | v :: r, k, p, hp, i => by
    by_cases hv : v = .slice none 0 0
    · subst hv
      rw [znE] at hp
      rcases List.mem_cons.1 hp with rfl | hp
      · rfl
      · exact znE_arr r (k + 1) p hp i
    · have e2 : znE N k (v :: r) = znE N (k + 1) r := by
        rw [znE]; intro h; exact hv h
      rw [e2] at hp
      exact znE_arr r (k + 1) p hp i
mutual
theorem SR.unclr {g : G} {w : World} {R : Nat → Option Res} {i : Nat} (hR : R i = none) : ∀ (s : S) (u : Value), SR g w R (s.clr i) u → SR g w R s u
  | .c x, u, h => by rw [S.clr] at h; exact h
  | .agg cs, u, h => by rw [S.clr] at h; exact h
  | .tup ss, u, h => by
    rw [S.clr, SR] at h
    obtain ⟨us, h1, h2⟩ := h
    rw [SR]
    exact ⟨us, h1, SRs.unclr hR ss us h2⟩
  | .fnp f ss, u, h => by
    rw [S.clr, SR] at h
    obtain ⟨us, h1, h2⟩ := h
    rw [SR]
    exact ⟨us, h1, SRs.unclr hR ss us h2⟩
  | .st ss, u, h => by
    rw [S.clr, SR] at h
    obtain ⟨us, h1, h2, h3⟩ := h
    rw [SR]
    exact ⟨us, h1, SRs.unclr hR ss us h2, h3⟩
  | .own j n, u, h => by
    by_cases hj : j = i
    · subst hj
      rw [SR, hR]
      intro _ _ _ _ e; cases e
    · have : (j == i) = false := by simpa using hj
      rw [S.clr, this] at h; exact h
  | .ptr j n, u, h => by
    by_cases hj : j = i
    · subst hj
      rw [SR, hR]
      intro _ _ e; cases e
    · have : (j == i) = false := by simpa using hj
      rw [S.clr, this] at h; exact h
  | .ep j n a b, u, h => by
    by_cases hj : j = i
    · subst hj
      rw [SR, hR]
      intro _ _ _ _ e; cases e
    · have : (j == i) = false := by simpa using hj
      rw [S.clr, this] at h; exact h
  | .mp j, u, h => by
    by_cases hj : j = i
    · subst hj
      rw [SR, hR]
      intro _ e; cases e
    · have : (j == i) = false := by simpa using hj
      rw [S.clr, this] at h; exact h
  | .suf j n a, u, h => by
    by_cases hj : j = i
    · subst hj
      rw [SR, hR]
      intro _ _ _ _ e; cases e
    · have : (j == i) = false := by simpa using hj
      rw [S.clr, this] at h; exact h
  | .pre j n m, u, h => by
    by_cases hj : j = i
    · subst hj
      rw [SR, hR]
      intro _ _ _ _ e; cases e
    · have : (j == i) = false := by simpa using hj
      rw [S.clr, this] at h; exact h
  | .me j _ _, u, h => by
    by_cases hj : j = i
    · subst hj
      rw [SR, hR]
      intro _ _ _ e; cases e
    · have : (j == i) = false := by simpa using hj
      rw [S.clr, this] at h; exact h
  | .g b s, u, h => by
    rw [S.clr, SR] at h
    rw [SR]
    exact ⟨fun hb => SR.unclr hR s u (h.1 hb), h.2⟩
  | .un, u, h => by rw [SR]; trivial
theorem SRs.unclr {g : G} {w : World} {R : Nat → Option Res} {i : Nat} (hR : R i = none) : ∀ (ss : List S) (us : List Value), SRs g w R (S.clrs i ss) us → SRs g w R ss us
  | [], us, h => by rw [S.clrs] at h; exact h
  | s :: r, us, h => by
    rw [S.clrs, SRs] at h
    obtain ⟨u, us', h1, h2, h3⟩ := h
    rw [SRs]
    exact ⟨u, us', h1, SR.unclr hR s u h2, SRs.unclr hR r us' h3⟩
end
theorem T.reown {A X : St} (h : T w0 K0 nt A a w g) (i N y : Nat) (D : List Nat) {nil : Bool} {sz : Nat} {xs : List (List C)} {fx n : Nat} (hiN : i = N ∨ i ∈ D) (hND : N ∉ D)
    (hAi : A.rs i = some (.arr nil sz xs fx)) (hXN : X.rs N = some (.arr nil sz xs fx)) (hD : ∀ d ∈ D, X.rs d = some dead)
    (hoth : ∀ m r, m ≠ N → m ∉ D → X.rs m = some r → A.rs m = some (r.clr i) ∧ r.men N = false) (hn : xs.length = n)
    (hy : A.get y = .own i n ∧ X.get y = .own N n) (henv : ∀ t, t ≠ y → A.get t = (X.get t).clr i ∧ (X.get t).men N = false) :
    ∃ g', T w0 K0 nt X a w g' := by
  let g' : G := ⟨g.K, fun m => if m = N then g.loc i else if m ∈ D then undef else g.loc m⟩
  have hgN : g'.loc N = g.loc i := if_pos rfl
  have hgD : ∀ d ∈ D, g'.loc d = undef := fun d hd => by
    show (if d = N then g.loc i else if d ∈ D then undef else g.loc d) = _
    have : d ≠ N := fun e => by rw [e] at hd; exact hND hd
    rw [if_neg this, if_pos hd]
  have hgo : ∀ m, m ≠ N → m ∉ D → g'.loc m = g.loc m := fun m h1 h2 => by
    show (if m = N then g.loc i else if m ∈ D then undef else g.loc m) = _
    rw [if_neg h1, if_neg h2]
  have tr : ∀ (s : S) (u : Value), s.men N = false → SR g w A.rs (s.clr i) u → SR g' w X.rs s u := by
    intro s u hm hs
    have h1 : SR g w (fun m => if m = i then none else A.rs m) (s.clr i) u := SR.mono (Keeps.refl _ _) _ u (fun m hmm => by
      have := (S.men_clr i m s hmm).1
      exact Cmp.same (if_neg this) rfl) hs
    have h2 := SR.unclr (if_pos rfl) s u h1
    refine SR.mono (g := g) (g' := g') (w' := w) (R' := X.rs) (Keeps.refl _ _) s u (fun m hmm => ?_) h2
    have hmN : m ≠ N := fun e => by rw [e, hm] at hmm; cases hmm
    by_cases hmD : m ∈ D
    · rw [show Cmp g (fun m => if m = i then none else A.rs m) g' X.rs m = Cmp g (fun m => if m = i then none else A.rs m) g' X.rs m from rfl]
      refine ⟨fun fz ss e => ?_, fun nil sz xs fx e => ?_, fun kvs e => ?_⟩ <;> rw [hD m hmD] at e <;> simp [dead] at e
    · have hmi : m ≠ i := fun e => by
        rcases hiN with q | q
        · exact hmN (e.trans q)
        · exact hmD (e ▸ q)
      refine ⟨fun fz ss e => ?_, fun nil sz xs fx e => ?_, fun kvs e => ?_⟩
      · obtain ⟨q, _⟩ := hoth m _ hmN hmD e
        exact ⟨⟨fz, ss.map (S.clr i), (if_neg hmi).trans q⟩, hgo m hmN hmD⟩
      · obtain ⟨q, _⟩ := hoth m _ hmN hmD e
        exact ⟨⟨nil, xs, fx, (if_neg hmi).trans q, rfl⟩, hgo m hmN hmD⟩
      · obtain ⟨q, _⟩ := hoth m _ hmN hmD e
        exact ⟨⟨kvs.clr i, (if_neg hmi).trans q, MB.sh_clr i kvs⟩, hgo m hmN hmD⟩
  refine ⟨g', h.below, h.k0, h.kold, h.klt, fun m r hm => ?_, fun m1 m2 r1 r2 q1 q2 hne b hb => ?_, fun t => ?_, h.nt, h.defers, h.keep⟩
  · by_cases hmN : m = N
    · subst hmN
      rw [hXN] at hm
      cases hm
      have := h.res i _ hAi
      rcases this with q | ⟨q0, b, cap, cur, E, q1, q2⟩
      · exact .inl ⟨q.1, q.2.1, hgN.trans q.2.2.1, q.2.2.2⟩
      · exact .inr ⟨q0, b, cap, cur, E, hgN.trans q1, q2⟩
    · by_cases hmD : m ∈ D
      · rw [hD m hmD] at hm
        cases hm
        exact ⟨hgD m hmD, by rw [SR]; trivial⟩
      · obtain ⟨q, hrm⟩ := hoth m r hmN hmD hm
        have hl := hgo m hmN hmD
        have hr := h.res m _ q
        cases r with
        | box fz ss =>
          obtain ⟨b, cur, E, e1, e2, e3, e4, e5, e6⟩ := hr
          refine ⟨b, cur, E, hl.trans e1, e2, e3, by simpa using e4, fun k s hs => ?_, e6⟩
          obtain ⟨u, m1, m2, m3⟩ := e5 k (s.clr i) (by simp [hs])
          have hms : s.men N = false := by
            cases hx : s.men N with
            | false => rfl
            | true =>
              exfalso
              have := mens_of (List.mem_of_getElem? hs) hx
              have h3 : S.mens N ss = false := hrm
              rw [h3] at this; cases this
          exact ⟨u, m1, tr s u hms m2, m3⟩
        | arr nil sz xs fx =>
          rcases hr with q | ⟨q0, b, cap, cur, E, q1, q2⟩
          · exact .inl ⟨q.1, q.2.1, hl.trans q.2.2.1, q.2.2.2⟩
          · exact .inr ⟨q0, b, cap, cur, E, hl.trans q1, q2⟩
        | pin v s => exact ⟨hl.trans hr.1, tr s v hrm hr.2⟩
        | map mb =>
          have := MR.tr (g := g) (R := A.rs) (w := w) (g' := g') (w' := w) (R' := X.rs) (B' := fun b => ¬ Old w0 K0 b) (i := m) (i' := m) (f1 := S.clr i) (f2 := fun s => s) (m := mb) hl (fun b e => ⟨rfl, fun _ k => k, fun hx => hx⟩) (fun s hs u hu => tr s u (by
            cases hx : s.men N with
            | false => rfl
            | true =>
              exfalso
              have := MB.men_of hs hx
              have h3 : mb.men N = false := hrm
              rw [h3] at this; cases this) hu) hr
          rwa [MB.map_id] at this
  · have key : ∀ m r, X.rs m = some r → m ∉ D → ∃ r', A.rs (if m = N then i else m) = some r' ∧ g'.loc m = g.loc (if m = N then i else m) := by
      intro m r hm hmD
      by_cases hmN : m = N
      · subst hmN; rw [if_pos rfl]; exact ⟨_, hAi, hgN⟩
      · rw [if_neg hmN]; exact ⟨_, (hoth m r hmN hmD hm).1, hgo m hmN hmD⟩
    by_cases d1 : m1 ∈ D
    · rw [hgD m1 d1] at hb; cases hb
    · by_cases d2 : m2 ∈ D
      · rw [hgD m2 d2]; intro e; cases e
      · obtain ⟨r1', a1, a2⟩ := key m1 r1 q1 d1
        obtain ⟨r2', a3, a4⟩ := key m2 r2 q2 d2
        rw [a2] at hb
        rw [a4]
        refine h.dis _ _ r1' r2' a1 a3 (fun e => hne ?_) b hb
        have nD : ∀ m, m ∉ D → m ≠ N → m ≠ i := fun m h1 h2 e => by
          rcases hiN with q | q
          · exact h2 (e.trans q)
          · exact h1 (e ▸ q)
        by_cases n1 : m1 = N
        · by_cases n2 : m2 = N
          · exact n1.trans n2.symm
          · rw [if_pos n1, if_neg n2] at e
            exact absurd e.symm (nD m2 d2 n2)
        · by_cases n2 : m2 = N
          · rw [if_neg n1, if_pos n2] at e
            exact absurd e (nD m1 d1 n1)
          · rw [if_neg n1, if_neg n2] at e; exact e
  · by_cases ht : t = y
    · subst ht
      rw [hy.2, SR]
      intro nil' sz' xs' fx' e1 e2
      rw [hXN] at e1
      cases e1
      have := h.env t
      rw [hy.1, SR] at this
      rw [hgN]
      exact this _ _ _ _ hAi hn
    · obtain ⟨q1, q2⟩ := henv t ht
      have := h.env t
      rw [q1] at this
      exact tr _ _ q2 this
theorem veOpd_some {st : St} {x : S} {ys : List (List C)} {kl : List (Nat × Res)} (h : veOpd st x = some (ys, kl)) :
    (kl = [] ∧ ∃ nilx, ∀ k : S → St → Prop, k (.c (.sl nilx ys)) st → vsnap st x k) ∨
    (∃ j nilx sz fx, kl = [(j, dead)] ∧ st.rs j = some (.arr nilx sz ys fx) ∧ ∀ k : S → St → Prop, k (.c (.sl nilx ys)) (st.setR j (some (.arr nilx sz ys ys.length))) → vsnap st x k) := by
  unfold veOpd at h
  split at h
  · simp at h
    obtain ⟨rfl, rfl⟩ := h
    exact .inl ⟨rfl, _, fun k hk => hk⟩
  · rename_i j m
    split at h
    · rename_i nilx sz ys' fx hr
      split at h
      · rename_i hm
        simp at h
        obtain ⟨rfl, rfl⟩ := h
        refine .inr ⟨j, nilx, sz, fx, rfl, hr, fun k hk => ?_⟩
        unfold vsnap
        simp only [hr]
        exact ⟨hm, hk⟩
      · simp at h
    · simp at h
  · simp at h
theorem veOpd_sub {sR : St} (h : RSub sR.rs st.rs) {x : S} {r : List (List C) × List (Nat × Res)} (hx : veOpd sR x = some r) : veOpd st x = some r := by
  cases x with
  | own j m =>
    unfold veOpd at hx ⊢
    cases e : sR.rs j with
    | none => simp only [e] at hx; cases hx
    | some r' => simp only [e] at hx; simp only [h.eq e]; exact hx
  | c y => cases y <;> first | exact hx | cases hx
  | _ => exact hx
theorem veAppend_ok {y : Nat} {t xt : TypeId} {d x : S} {k : Eff → Prop} (hv : veAppend P (some y) st t xt d x k) : ∃ e, k e ∧ e.d = some y ∧ ∀ (st' : St), RSub st.rs st'.rs → (e.fr = true → ∀ i ∈ e.news, Clean i st') →
    vappend P (some y) st' t xt d x fun A => ∀ (a : Act) (w : World) (g : G), T w0 K0 nt A a w g → ∃ g', T w0 K0 nt (st'.app e) a w g' := by
  unfold veAppend at hv
  split at hv
  · rename_i y' s B el ys kl hy ht hxt hx
    cases hy
    split at hv
    · obtain ⟨h1, h2, h3, h4, h5⟩ := hv
      refine ⟨_, h5, rfl, fun st' hsub hc => ?_⟩
      have hx' := veOpd_sub hsub hx
      unfold vappend
      simp only [ht, hxt]
      rcases veOpd_some hx' with ⟨rfl, nilx, hsn⟩ | ⟨j, nilx, sz, fx, rfl, hr, hsn⟩
      · have hN := hc rfl (64 * y) (by simp [Eff.news, news, Res.isPin])
        refine hsn _ ⟨h2, h3, h4, fun a w g hT => ⟨g, hT.eqv ?_⟩⟩
        exact ((hN.fresh _).put _ _).symm
      · simp [dead] at h1
        have hN := hc rfl (64 * y) (by simp [Eff.news, news, Res.isPin, dead])
        refine hsn _ ⟨h2, h3, h4, fun a w g hT => ?_⟩
        refine hT.reown (64 * y) (64 * y) y [j] (nil := ys.isEmpty) (sz := s) (xs := ys) (fx := 0) (n := ys.length) (.inl rfl) (by simpa using Ne.symm h1) ?_ ?_ ?_ ?_ rfl ⟨?_, ?_⟩ ?_
        · simp [St.rs_setR]
        · simp [St.app, St.setRs, St.putd, St.rs_setR]
        · simp [St.app, St.setRs, St.putd, St.rs_setR, Ne.symm h1]
        · intro m r hm hmD hX
          simp at hmD
          simp [St.app, St.setRs, St.putd, St.rs_setR, Ne.symm hm, Ne.symm hmD] at hX
          have hmen := hN.rs m r hX
          refine ⟨?_, hmen⟩
          rw [St.rs_put, St.rs_setR, if_neg (Ne.symm hm), St.rs_clr, St.rs_setR, if_neg (Ne.symm hmD), hX]
          rfl
        · simp [St.get_put]
        · simp [St.app, St.setRs, St.putd, St.get_put]
        · intro t' ht'
          have e1 : (st'.app ⟨some y, .own (64 * y) ys.length, [(j, dead)] ++ [(64 * y, .arr ys.isEmpty s ys 0)], true⟩).get t' = st'.get t' := by
            simp [St.app, St.setRs, St.putd, St.get_put, Ne.symm ht']
          rw [e1]
          refine ⟨?_, hN.get t'⟩
          rw [St.get_put, if_neg (Ne.symm ht'), St.get_setR, St.get_clr, St.get_setR]
    · rename_i i n
      split at hv
      · rename_i nil sz xs fx hri
        obtain ⟨h1, h0, hn, hsz, h2, h3, h4, h5⟩ := hv
        have h0 : i ≠ 64 * y := by simpa using h0
        refine ⟨_, h5, rfl, fun st' hsub hc => ?_⟩
        have hx' := veOpd_sub hsub hx
        have hri' := hsub.eq hri
        unfold vappend
        simp only [ht, hxt]
        rcases veOpd_some hx' with ⟨rfl, nilx, hsn⟩ | ⟨j, nilx, szj, fxj, rfl, hr, hsn⟩
        · have hN := hc rfl (64 * y) (by simp [Eff.news, news, Res.isPin, dead])
          refine hsn _ ?_
          simp only [hri']
          refine ⟨hn, hsz, h2, h3, h4, fun a w g hT => ?_⟩
          refine hT.reown i (64 * y) y [i] (nil := nil && ys.isEmpty) (sz := s) (xs := xs ++ ys) (fx := fx) (n := n + ys.length) (.inr (by simp)) (by simpa using Ne.symm h0) ?_ ?_ ?_ ?_ (by simp [hn]) ⟨?_, ?_⟩ ?_
          · simp [St.rs_setR]
          · simp [St.app, St.setRs, St.putd, St.rs_setR]
          · simp [St.app, St.setRs, St.putd, St.rs_setR, Ne.symm h0]
          · intro m r hm hmD hX
            simp at hmD
            simp [St.app, St.setRs, St.putd, St.rs_setR, Ne.symm hm, Ne.symm hmD] at hX
            have hmen := hN.rs m r hX
            refine ⟨?_, hmen⟩
            rw [St.rs_put, St.rs_setR, if_neg (Ne.symm hmD), St.rs_clr, hX]
            rfl
          · simp [St.get_put]
          · simp [St.app, St.setRs, St.putd, St.get_put]
          · intro t' ht'
            have e1 : (st'.app ⟨some y, .own (64 * y) (n + ys.length), [] ++ [(i, dead), (64 * y, .arr (nil && ys.isEmpty) s (xs ++ ys) fx)], true⟩).get t' = st'.get t' := by
              simp [St.app, St.setRs, St.putd, St.get_put, Ne.symm ht']
            rw [e1]
            refine ⟨?_, hN.get t'⟩
            rw [St.get_put, if_neg (Ne.symm ht'), St.get_setR, St.get_clr]
        · simp [dead] at h1
          obtain ⟨h1, h1'⟩ := h1
          have hN := hc rfl (64 * y) (by simp [Eff.news, news, Res.isPin, dead])
          refine hsn _ ?_
          simp only [St.rs_setR, if_neg h1', hri']
          refine ⟨hn, hsz, h2, h3, h4, fun a w g hT => ?_⟩
          refine hT.reown i (64 * y) y [j, i] (nil := nil && ys.isEmpty) (sz := s) (xs := xs ++ ys) (fx := fx) (n := n + ys.length) (.inr (by simp)) (by simp [Ne.symm h0, Ne.symm h1]) ?_ ?_ ?_ ?_ (by simp [hn]) ⟨?_, ?_⟩ ?_
          · simp [St.rs_setR]
          · simp [St.app, St.setRs, St.putd, St.rs_setR]
          · simp [St.app, St.setRs, St.putd, St.rs_setR, Ne.symm h0, Ne.symm h1]
          · intro m r hm hmD hX
            simp at hmD
            obtain ⟨d1, d2⟩ := hmD
            simp [St.app, St.setRs, St.putd, St.rs_setR, Ne.symm hm, Ne.symm d1, Ne.symm d2] at hX
            have hmen := hN.rs m r hX
            refine ⟨?_, hmen⟩
            rw [St.rs_put, St.rs_setR, if_neg (Ne.symm d2), St.rs_clr, St.rs_setR, if_neg (Ne.symm d1), hX]
            rfl
          · simp [St.get_put]
          · simp [St.app, St.setRs, St.putd, St.get_put]
          · intro t' ht'
            have e1 : (st'.app ⟨some y, .own (64 * y) (n + ys.length), [(j, dead)] ++ [(i, dead), (64 * y, .arr (nil && ys.isEmpty) s (xs ++ ys) fx)], true⟩).get t' = st'.get t' := by
              simp [St.app, St.setRs, St.putd, St.get_put, Ne.symm ht']
            rw [e1]
            refine ⟨?_, hN.get t'⟩
            rw [St.get_put, if_neg (Ne.symm ht'), St.get_setR, St.get_clr, St.get_setR]
      · exact hv.elim
    · exact hv.elim
  · exact hv.elim
def killG (g : G) (j : Nat) : G := ⟨g.K, fun i => if i = j then undef else g.loc i⟩
theorem killG_keeps (g : G) (j : Nat) (w : World) : Keeps g.K w (killG g j).K w := Keeps.refl _ _
theorem T.kill (h : T w0 K0 nt st a w g) (j : Nat) : T w0 K0 nt (st.setR j (some dead)) a w (killG g j) ∧ ∀ i, Cmp g st.rs (killG g j) (st.setR j (some dead)).rs i := by
  have hc : ∀ i, Cmp g st.rs (killG g j) (st.setR j (some dead)).rs i := by
    intro i
    by_cases e : i = j
    · subst e
      refine ⟨fun fz ss q => ?_, fun nil sz xs fx q => ?_, fun kvs q => ?_⟩
      · rw [St.rs_setR, if_pos rfl] at q; simp [dead] at q
      · rw [St.rs_setR, if_pos rfl] at q; simp [dead] at q
      · rw [St.rs_setR, if_pos rfl] at q; simp [dead] at q
    · exact Cmp.same (by rw [St.rs_setR, if_neg (Ne.symm e)]) (by show (if i = j then undef else g.loc i) = _; rw [if_neg e])
  refine ⟨⟨h.below, h.k0, h.kold, h.klt, fun i r hi => ?_, fun i i' r r' hi hi' hne b hb => ?_, fun t => ?_, h.nt, h.defers, h.keep⟩, hc⟩
  · by_cases e : i = j
    · subst e
      rw [St.rs_setR, if_pos rfl] at hi
      simp only [Option.some.injEq] at hi
      subst hi
      refine ⟨?_, by rw [SR]; trivial⟩
      show (if i = i then undef else g.loc i) = undef
      rw [if_pos rfl]
    · rw [St.rs_setR, if_neg (Ne.symm e)] at hi
      exact RR.mono' (killG_keeps g j w) (by show (if i = j then undef else g.loc i) = _; rw [if_neg e]) (fun _ _ => ⟨rfl, fun _ k => k⟩) (fun i _ => hc i) (h.res i r hi)
  · simp only [killG] at hb ⊢
    by_cases e : i = j
    · rw [if_pos e] at hb; cases hb
    · rw [if_neg e] at hb
      by_cases e' : i' = j
      · rw [if_pos e']; simp [blk, undef]
      · rw [if_neg e']
        rw [St.rs_setR, if_neg (Ne.symm e)] at hi
        rw [St.rs_setR, if_neg (Ne.symm e')] at hi'
        exact h.dis i i' r r' hi hi' hne b hb
  · exact SR.mono (killG_keeps g j w) _ _ (fun i _ => hc i) (h.env t)
theorem Cmp.trans {g g' g'' : G} {R R' R'' : Nat → Option Res} {i : Nat} (h : Cmp g R g' R' i) (h' : Cmp g' R' g'' R'' i) : Cmp g R g'' R'' i := by
  refine ⟨fun fz ss q => ?_, fun nil sz xs fx q => ?_, fun kvs q => ?_⟩
  · obtain ⟨⟨fz', ss', q'⟩, l'⟩ := h'.1 fz ss q
    obtain ⟨k, l⟩ := h.1 fz' ss' q'
    exact ⟨k, l'.trans l⟩
  · obtain ⟨⟨nil', xs', fx', q', e'⟩, l'⟩ := h'.2.1 nil sz xs fx q
    obtain ⟨⟨nil2, xs2, fx2, q2, e2⟩, l⟩ := h.2.1 nil' sz xs' fx' q'
    exact ⟨⟨nil2, xs2, fx2, q2, by rw [e2, e']⟩, l'.trans l⟩
  · obtain ⟨⟨kvs', q', s'⟩, l'⟩ := h'.2.2 kvs q
    obtain ⟨⟨kvs2, q2, s2⟩, l⟩ := h.2.2 kvs' q'
    exact ⟨⟨kvs2, q2, s2.trans s'⟩, l'.trans l⟩
theorem VO_dead {sR sR' : St} {ss as : List S} {l : List (Nat × Res)} (h : VO sR ss as l sR') : ∀ p ∈ l, p.2 = dead := by
  induction h with
  | nil => intro p hp; cases hp
  | own st j b sz ys fx r a l st' _ _ ih =>
    intro p hp
    rcases List.mem_cons.1 hp with rfl | hp
    · rfl
    · exact ih p hp
  | skip st s r a l st' _ ih => exact ih
theorem news_dead : ∀ (l m : List (Nat × Res)), (∀ p ∈ l, p.2 = dead) → news (l ++ m) = news m
  | [], m, _ => rfl
  | p :: l, m, h => by
    rw [List.cons_append, news, h p (by simp)]
    exact news_dead l m (fun q hq => h q (by simp [hq]))
theorem app_addE (st : St) (l : List (Nat × Res)) (e : Eff) : st.app (addE l e) = (st.setRs l).app e := by
  simp only [St.app, addE, St.setRs_append]
theorem VO_ok {sR sR' : St} {ss as : List S} {l : List (Nat × Res)} (hv : VO sR ss as l sR') : ∀ (st : St) (g : G) (us : List Value), T w0 K0 nt st a w g → RSub sR.rs st.rs → SRs g w sR.rs ss us →
    ∃ g', T w0 K0 nt (st.setRs l) a w g' ∧ RSub sR'.rs (st.setRs l).rs ∧ SRs g' w sR'.rs as us ∧ Keeps g.K w g'.K w ∧ ∀ i, Cmp g sR.rs g' sR'.rs i := by
  induction hv with
  | nil sR => exact fun st g us h hR hs => ⟨g, h, hR, hs, Keeps.refl _ _, fun i => Cmp.same rfl rfl⟩
  | own sR j b sz ys fx r as l sR' hj h2 ih =>
    intro st g us h hR hs
    rw [SRs] at hs
    obtain ⟨u, us', rfl, h3, h4⟩ := hs
    rw [SR] at h3
    have hu := h3 b sz ys fx hj rfl
    obtain ⟨g1, k1, k2, k3, k4⟩ := h.snap (hR.eq hj)
    obtain ⟨m1, m2⟩ := k1.kill j
    have hE : Eqv (st.setR j (some dead)) ((st.setR j (some (.arr b sz ys ys.length))).setR j (some dead)) := by
      refine ⟨rfl, funext fun i => ?_⟩
      rw [St.rs_setR, St.rs_setR, St.rs_setR]
      by_cases e : j = i
      · rw [if_pos e, if_pos e]
      · rw [if_neg e, if_neg e, if_neg e]
    have m3 : T w0 K0 nt (st.setR j (some dead)) a w _ := m1.eqv hE
    have hR2 : RSub (sR.setR j (some dead)).rs (st.setR j (some dead)).rs := fun i => by
      rw [St.rs_setR, St.rs_setR]
      by_cases e : j = i
      · rw [if_pos e, if_pos e]; exact .inr rfl
      · rw [if_neg e, if_neg e]; exact hR i
    have hcm : ∀ i, Cmp g sR.rs (killG g1 j) (sR.setR j (some dead)).rs i := by
      intro i
      by_cases e : i = j
      · subst e
        refine ⟨fun fz ss q => ?_, fun nil sz xs fx q => ?_, fun kvs q => ?_⟩
        · rw [St.rs_setR, if_pos rfl] at q; simp [dead] at q
        · rw [St.rs_setR, if_pos rfl] at q; simp [dead] at q
        · rw [St.rs_setR, if_pos rfl] at q; simp [dead] at q
      · exact Cmp.same (by rw [St.rs_setR, if_neg (Ne.symm e)]) (by show (if i = j then undef else g1.loc i) = _; rw [if_neg e, k3])
    obtain ⟨g', n1, n2, n3, n4, n5⟩ := ih (st.setR j (some dead)) _ us' m3 hR2 (SRs.mono (k4.trans (killG_keeps g1 j w)) _ _ (fun i _ => hcm i) h4)
    refine ⟨g', n1, n2, ?_, k4.trans n4, fun i => (hcm i).trans (n5 i)⟩
    rw [SRs]
    refine ⟨u, us', rfl, ?_, n3⟩
    rw [SR, hu]
    exact CR.mono n4 _ _ k2
  | skip sR s r as l sR' h2 ih =>
    intro st g us h hR hs
    rw [SRs] at hs
    obtain ⟨u, us', rfl, h3, h4⟩ := hs
    obtain ⟨g', n1, n2, n3, n4, n5⟩ := ih st g us' h hR h4
    refine ⟨g', n1, n2, ?_, n4, n5⟩
    rw [SRs]
    exact ⟨u, us', rfl, SR.mono n4 _ _ (fun i _ => n5 i) h3, n3⟩
theorem veCall_ok2 {o : Oper} {sR : St} (hok : opOk nt o = true) {c : Call} {f : Operand} (ho : o.op = .call c) (hcal : c.callee = .value f) (e0 : Operand → S) {k : Eff → Prop} (hv : veCall P sR o.dst (e0 f) (c.args.toList.map e0) k) :
    ∃ e, k e ∧ e.d = o.dst ∧ ∀ (st : St) (a : Act) (w : World) (g : G), T w0 K0 nt st a w g → RSub sR.rs st.rs → (∀ x ∈ o.op.operands.toList, SR g w sR.rs (e0 x) (a.eval x)) → (e.fr = true → ∀ i ∈ e.news, Clean i st) →
      ∀ (next : Act → World → Prop) (Q : Exit → Act → World → Prop), (∀ a' w' g', T w0 K0 nt (st.app e) a' w' g' → next a' w') → o.wp P a w next Q := by
  have hd := opOk_dst hok
  obtain ⟨args', l, sR', hvo, rs, h1, h2⟩ := vopd_VO _ _ _ hv
  have hed : (addE l (retEff o.dst rs)).d = o.dst := by
    unfold addE retEff
    simp only
    split <;> simp_all
  refine ⟨_, h2, hed, fun st0 a w g0 h0 hR0 he hc0 next Q hn0 => ?_⟩
  obtain ⟨g, h, hR1, hS1, hk1, hcm1⟩ := VO_ok hvo st0 g0 (c.args.toList.map a.eval) h0 hR0 (SRs_map _ _ _ (fun x hx => he x (by rw [ho]; simp [Op.operands, Call.operands, hcal]; exact .inr (by simpa using hx))))
  have hn : ∀ a' w' g', T w0 K0 nt ((st0.setRs l).app (retEff o.dst rs)) a' w' g' → next a' w' := fun a' w' g' q => hn0 a' w' g' (by rw [app_addE]; exact q)
  have hc : (retEff o.dst rs).fr = true → ∀ i ∈ (retEff o.dst rs).news, Clean i (st0.setRs l) := fun hf i hi =>
    Clean.setRs l (hc0 hf i (by unfold Eff.news addE; rw [news_dead l _ (VO_dead hvo)]; exact hi)) (fun p hp => by rw [VO_dead hvo p hp]; rfl)
  have hef : SR g w sR'.rs (e0 f) (a.eval f) := SR.mono hk1 _ _ (fun i _ => hcm1 i) (he f (by rw [ho]; simp [Op.operands, Call.operands, hcal]))
  clear hn0 hc0 he hR0 h0 hvo hcm1
  generalize st0.setRs l = st at *
  refine pcall3_ok h hR1 ho hcal hef hS1 h1 (fun vs w' g' hT p4 hlow hsz => ?_)
  have hB : w0.heap.size ≤ w.heap.size := h.below.size
  have hB' : w0.heap.size ≤ w'.heap.size := Nat.le_trans hB hsz
  have hlow' : ∀ i r b, st.rs i = some r → blk (g'.loc i) = some b → b < w.heap.size ∨ ∃ v ∈ ([] : List Value), blk v = some b := fun i r b hi hb => .inl (hlow i r b hi hb)
  cases hdst : o.dst with
  | none => rw [hdst] at hn; exact hn _ _ _ hT
  | some y =>
    rw [hdst] at hn hc
    have hlen := p4.1
    have hy := hd y hdst
    have hc : ∀ i ∈ (retEff (some y) rs).mods, Clean i st := by
      have hc := hc (by unfold retEff; split <;> rfl)
      unfold Eff.news at hc
      rw [news_mods _ (retEff_pin (some y) rs)] at hc
      exact hc
    have two : ∀ rs', rs = rs' → (∀ r, rs' ≠ [r]) → next (a.put (some y) (retV vs)) w' := by
      intro rs' e hne
      subst e
      have hE : retEff (some y) rs = ⟨some y, .tup (rtsE (64 * y + 1) rs).1, (rtsE (64 * y + 1) rs).2, true⟩ := by
        match rs, hne with
        | [], _ => rfl
        | [r], h' => exact absurd rfl (h' r)
        | _ :: _ :: _, _ => rfl
      rw [hE] at hn hc
      obtain ⟨g2, m1, m2, m3, m4, m5⟩ := T.rets hB' rs vs st _ (64 * y + 1) w.heap.size [] hT hlow' p4 hB (by simp)
      obtain ⟨q1, q2⟩ := vrets_eqv rs (64 * y + 1) st st (Eqv.refl _) hc
      have hv : retV vs = .tuple vs.toArray := by
        unfold retV
        split
        · rename_i v
          exfalso
          match rs, hlen with
          | [x], _ => exact hne x rfl
        · rfl
      rw [hv]
      refine hn _ _ g2 ((m1.put (t := y) (s := .tup (vrets st (64 * y + 1) rs).1) (u := .tuple vs.toArray) hy (by rw [SR]; exact ⟨vs, rfl, m2⟩)).eqv (Eqv.symm ?_))
      rw [q2]
      exact q1.put _ _
    cases rs with
    | nil => exact two [] rfl (by simp)
    | cons r rest =>
      cases rest with
      | cons r2 rest => exact two _ rfl (by simp)
      | nil =>
        cases vs with
        | nil => simp at hlen
        | cons v vs =>
          cases vs with
          | cons v' vs => simp at hlen
          | nil =>
            have hE : retEff (some y) [r] = ⟨some y, (rt1 (64 * y) r).1, (rt1 (64 * y) r).2, true⟩ := rfl
            rw [hE] at hn hc
            obtain ⟨g2, m1, m2, m3, m4, m5⟩ := T.rets hB' [r] [v] st _ (64 * y) w.heap.size [] hT hlow' p4 hB (by simp)
            obtain ⟨q1, q2⟩ := vrets_eqv [r] (64 * y) st st (Eqv.refl _) (by simpa [rtsE, Eff.mods] using hc)
            have e1 : (vrets st (64 * y) [r]).1 = [(vret1 st (64 * y) r).1] := rfl
            have e2 : (rtsE (64 * y) [r]).1 = [(rt1 (64 * y) r).1] := rfl
            have e3 : (rtsE (64 * y) [r]).2 = (rt1 (64 * y) r).2 := by simp [rtsE]
            rw [e1, SRs] at m2
            obtain ⟨u, us', p1, p2, _⟩ := m2
            simp at p1
            rw [e1, e2] at q2
            rw [e3] at q1
            have q3 : (vret1 st (64 * y) r).1 = (rt1 (64 * y) r).1 := by simpa using q2
            refine hn _ _ g2 ((m1.put (t := y) (s := (rt1 (64 * y) r).1) (u := v) hy ?_).eqv (Eqv.symm (q1.put _ _)))
            rw [← q3, p1.1]
            exact p2
theorem veff_ok {o : Oper} {sR : St} (hok : opOk nt o = true) {k : Eff → Prop} (hv : veff P ops sR o k) :
    ∃ e, k e ∧ e.d = o.dst ∧ ∀ (st : St) (a : Act) (w : World) (g : G), T w0 K0 nt st a w g → Seen ops o sR st → (e.fr = true → ∀ i ∈ e.news, Clean i st) →
      ∀ (next : Act → World → Prop) (Q : Exit → Act → World → Prop), (∀ a' w' g', T w0 K0 nt (st.app e) a' w' g' → next a' w') → stepW P ops o a w next Q := by
  have hd := opOk_dst hok
  have ps : (PStep P ops sR o fun s => s.kn sR.rs = true ∧ k ⟨o.dst, s, [], false⟩) → ∃ e, k e ∧ e.d = o.dst ∧ ∀ (st : St) (a : Act) (w : World) (g : G), T w0 K0 nt st a w g → Seen ops o sR st → (e.fr = true → ∀ i ∈ e.news, Clean i st) →
      ∀ (next : Act → World → Prop) (Q : Exit → Act → World → Prop), (∀ a' w' g', T w0 K0 nt (st.app e) a' w' g' → next a' w') → stepW P ops o a w next Q := fun hv => by
    obtain ⟨s, h1, h2⟩ := PStep2_ok (w0 := w0) (K0 := K0) hok hv
    exact ⟨_, h1, rfl, fun st a w g h hs _ next Q hn => h2 st a w g h hs next Q hn⟩
  have un : ∀ {a : Act} {w : World} {next : Act → World → Prop} {Q : Exit → Act → World → Prop}, o.guard = none → o.wp P a w next Q → stepW P ops o a w next Q := by
    intro a w next Q hg h
    unfold stepW
    have : Region.wanted o (yielded ops a.tmps) = true := by simp [Region.wanted, hg]
    rw [this, if_pos rfl]
    exact h
  have pp : o.guard = none → vePure P sR o k → ∃ e, k e ∧ e.d = o.dst ∧ ∀ (st : St) (a : Act) (w : World) (g : G), T w0 K0 nt st a w g → Seen ops o sR st → (e.fr = true → ∀ i ∈ e.news, Clean i st) →
      ∀ (next : Act → World → Prop) (Q : Exit → Act → World → Prop), (∀ a' w' g', T w0 K0 nt (st.app e) a' w' g' → next a' w') → stepW P ops o a w next Q := fun hg hv => by
    obtain ⟨h1, h2, h3⟩ := hv
    refine ⟨_, h3, rfl, fun st a w g h hs _ next Q hn => ?_⟩
    obtain ⟨u, r1, r2⟩ := pev_ok (h.bare hs.rs) o sR.ev (fun x hx => hs.sr h x hx) (by rw [pev_bare]; exact h1)
    rw [pev_bare] at r2
    unfold stepW
    have : Region.wanted o (yielded ops a.tmps) = true := by simp [Region.wanted, hg]
    rw [this, if_pos rfl]
    exact ow_value r1 (hn _ w g (h.putd hd (SR.up hs.rs h2 r2)))
  unfold veff at hv
  split at hv
  · rename_i t hg ho
    unfold veAlloc at hv
    split at hv
    · rename_i x z hx hz
      obtain ⟨h1, h2⟩ := hv
      refine ⟨_, h2, hx.symm, fun st a w g h hs hc next Q hn => un hg ?_⟩
      have hc : ∀ i ∈ (znE (64 * x) 0 z.cells.toList ++ [(64 * x, Res.box false (zcells (64 * x) 0 z.cells.toList))]).map (·.1), Clean i st := by
        rw [← news_mods _ (fun p hp => ?_)]
        · exact hc rfl
        · rcases List.mem_append.1 hp with hp | hp
          · exact znE_pin _ _ p hp
          · simp at hp; subst hp; rfl
      refine valloc_ok (K := fun st' => Eqv st' (st.app ⟨some x, .ptr (64 * x) 0, znE (64 * x) 0 z.cells.toList ++ [(64 * x, .box false (zcells (64 * x) 0 z.cells.toList))], true⟩)) h hd ho ?_ (fun st' a' w' g' he hT => hn _ _ _ (hT.eqv he.symm))
      unfold valloc
      rw [hx, hz]
      refine ⟨h1, ?_⟩
      have hz1 := znils_eqv (64 * x) z.cells.toList 0 st st (Eqv.refl _) (fun i hi => hc i (by simp at hi ⊢; exact .inl hi))
      have hx1 : Clean (64 * x) (st.setRs (znE (64 * x) 0 z.cells.toList)) := Clean.setRs _ (hc _ (by simp)) (fun p hp => znE_arr _ _ p hp _)
      have := ((hx1.eqv hz1).fresh (some (.box false (zcells (64 * x) 0 z.cells.toList)))).trans (hz1.setR _ _)
      refine (this.put x (.ptr (64 * x) 0)).trans ?_
      simp only [St.app, St.setRs_append]
      exact Eqv.refl _
    · exact hv.elim
  · rename_i t ad x hg ho
    have hdn := opOk_store hok t ad x ho
    unfold veStore at hv
    split at hv
    · rename_i i off had
      split at hv
      · rename_i ss n n' cs hr hty hcs
        obtain ⟨h1, h2, h3⟩ := hv
        refine ⟨_, h3, hdn.symm, fun st a w g h hs _ next Q hn => un hg ?_⟩
        refine vstore_ok (e := st.ev) (K := fun st' => st' = st.setR i (some (.box false (spl ss off cs)))) h hdn ho (h.ev ad) (h.ev x) ?_ (fun st' a' w' g' he hT => by subst he; exact hn _ _ _ hT)
        rw [← hs.ev ad (by rw [ho]; simp [Op.operands]), ← hs.ev x (by rw [ho]; simp [Op.operands]), had]
        unfold vstore
        simp only [hs.rs.eq hr, hty, cellsH_sub hs.rs hcs]
        exact ⟨h1, h2, trivial⟩
      · exact hv.elim
    · rename_i i m j off had
      split at hv
      · rename_i nil sz xs fx n n' cs hr hty hcs
        obtain ⟨h0, h1, h2, h3, h4, h5, h6⟩ := hv
        refine ⟨_, h6, hdn.symm, fun st a w g h hs _ next Q hn => un hg ?_⟩
        refine vstore_ok (e := st.ev) (K := fun st' => st' = st.setR i (some (.arr nil sz (xs.set j (spl (xs.getD j []) off cs)) fx))) h hdn ho (h.ev ad) (h.ev x) ?_ (fun st' a' w' g' he hT => by subst he; exact hn _ _ _ hT)
        rw [← hs.ev ad (by rw [ho]; simp [Op.operands]), ← hs.ev x (by rw [ho]; simp [Op.operands]), had]
        unfold vstore
        cases hsx : sR.ev x with
        | c y => rw [hsx] at hcs; simp only [vsnap, hs.rs.eq hr, hty, hcs]; exact ⟨h1, h2, h3, h4, h5, trivial⟩
        | agg y => rw [hsx] at hcs; simp only [vsnap, hs.rs.eq hr, hty, hcs]; exact ⟨h1, h2, h3, h4, h5, trivial⟩
        | _ => rw [hsx] at h0; simp [dataS] at h0
      · exact hv.elim
    · exact hv.elim
  · rename_i t len parts hg ho
    unfold veBuild at hv
    split at hv
    · rename_i x e hx hu
      split at hv
      · rename_i b s z hty hz
        split at hv
        · rename_i zc hzc
          split at hv
          · rename_i out hout
            obtain ⟨h0, h1, h2, h3, h4, h5⟩ := hv
            refine ⟨_, h5, hx.symm, fun st a w g h hs hc next Q hn => un hg ?_⟩
            have hN := hc rfl (64 * x) (by simp [Eff.news, news, Res.isPin])
            refine vbuildSlice_ok (e := sR.ev) (K := fun st' => Eqv st' (st.app ⟨some x, .own (64 * x) len, [(64 * x, .arr false s (chunks s len out) 0)], true⟩)) h hd ho (fun y hy => by rw [hs.ev y hy]; exact h.ev y) ?_ (fun st' a' w' g' he hT => hn _ _ _ (hT.eqv he.symm))
            unfold vbuildSlice
            simp only [hx, hu, hty, hz, hzc]
            refine vsnaps_data _ _ _ h0 ?_
            simp only [hout]
            exact ⟨h1, h2, h3, h4, (hN.fresh _).put _ _⟩
          · exact hv.elim
        · exact hv.elim
      · exact hv.elim
    · exact hv.elim
  · rename_i c hg ho
    split at hv
    · rename_i f hcal
      obtain ⟨e, h1, h2, h3⟩ := veCall_ok2 (w0 := w0) (K0 := K0) hok ho hcal sR.ev hv
      exact ⟨e, h1, h2, fun st a w g h hs hc next Q hn => un hg (h3 st a w g h hs.rs (fun x hx => hs.sr h x hx) hc next Q hn)⟩
    · rename_i hcal
      split at hv
      · rename_i t xt d x hts has
        have hc : c = { callee := .builtin .append, args := #[d, x], argTypes := #[t, xt] } := by
          obtain ⟨c1, c2, c3⟩ := c
          simp only at hcal hts has
          subst hcal
          have e1 : c2 = #[d, x] := Array.toList_inj.1 has
          have e2 : c3 = #[t, xt] := Array.toList_inj.1 hts
          subst e1; subst e2; rfl
        subst hc
        cases hdst : o.dst with
        | none => rw [hdst] at hv; exact hv.elim
        | some y =>
          rw [hdst] at hv
          obtain ⟨e, h1, h2, h3⟩ := veAppend_ok (w0 := w0) (K0 := K0) (nt := nt) hv
          refine ⟨e, h1, h2, fun st a w g h hs hc next Q hn => un hg ?_⟩
          refine vappend_ok (e := st.ev) h hd ho (h.ev d) (h.ev x) (by
            rw [hdst, ← hs.ev d (by rw [ho]; simp [Op.operands, Call.operands]), ← hs.ev x (by rw [ho]; simp [Op.operands, Call.operands])]
            exact h3 st hs.rs hc) (fun st' a' w' g' he hT => ?_)
          obtain ⟨g'', hT'⟩ := he a' w' g' hT
          exact hn _ _ _ hT'
      · exact hv.elim
    · exact pp hg hv
  · exact ps hv
  · rename_i hg _ _ _ _ _
    exact pp hg hv
  · rcases hv with hv | hv
    · exact ps hv
    unfold veGB at hv
    split at hv
    · rename_i t len parts ho
      obtain ⟨hgf, hfl, hv⟩ := hv
      unfold veBuild at hv
      split at hv
      · rename_i x e hx hu
        split at hv
        · rename_i b s z hty hz
          split at hv
          · rename_i zc hzc
            split at hv
            · rename_i out hout
              obtain ⟨h0, h1, h2, h3, h4, h5⟩ := hv
              refine ⟨_, h5, hx.symm, fun st a w g h hs hc next Q hn => ?_⟩
              have hN := hc rfl (64 * x) (by simp [Eff.news, news, Res.isPin])
              have hw := gflag_ok h (by rw [← hs.gflag]; exact hgf) o rfl
              unfold stepW
              rw [hw, if_pos rfl]
              refine vbuildSlice_ok (e := fun y => peel (sR.ev y)) (K := fun st' => Eqv st' (st.app ⟨some x, .own (64 * x) len, [(64 * x, .arr false s (chunks s len out) 0)], true⟩)) h hd ho (fun y hy => peel_ok (by rw [hs.ev y hy]; exact h.ev y) (List.all_eq_true.1 hfl y hy)) ?_ (fun st' a' w' g' he hT => hn _ _ _ (hT.eqv he.symm))
              unfold vbuildSlice
              simp only [hx, hu, hty, hz, hzc]
              refine vsnaps_data _ _ _ h0 ?_
              simp only [hout]
              exact ⟨h1, h2, h3, h4, (hN.fresh _).put _ _⟩
            · exact hv.elim
          · exact hv.elim
        · exact hv.elim
      · exact hv.elim
    · rename_i c ho
      split at hv
      · rename_i f hcal
        obtain ⟨_, hgf, hfl, hv⟩ := hv
        obtain ⟨e, h1, h2, h3⟩ := veCall_ok2 (w0 := w0) (K0 := K0) hok ho hcal (fun x => peel (sR.ev x)) hv
        refine ⟨e, h1, h2, fun st a w g h hs hc next Q hn => ?_⟩
        have hw := gflag_ok h (by rw [← hs.gflag]; exact hgf) o rfl
        unfold stepW
        rw [hw, if_pos rfl]
        exact h3 st a w g h hs.rs (fun x hx => peel_ok (hs.sr h x hx) (List.all_eq_true.1 hfl x hx)) hc next Q hn
      · exact hv.elim
    · exact hv.elim
end
end Go.VL
set_option linter.unusedSimpArgs false
set_option linter.unusedVariables false
namespace Go.VL
open Go.RowKit
def tb (m j : Nat) : Bool := (m / 2 ^ j) % 2 == 1
structure Rec where
  j : Nat
  e : Eff
  rd : List Nat
def appF (p : Nat → Bool) (st : St) (l : List Rec) : St := l.foldl (fun st x => bif p x.j then st.app x.e else st) st
def appA (st : St) (l : List Rec) : St := l.foldl (fun st x => st.app x.e) st
def Eff.men (i : Nat) (e : Eff) : Bool := e.s.men i || e.rs.any fun p => p.2.men i
theorem appF_cons (p : Nat → Bool) (st : St) (x : Rec) (l : List Rec) : appF p st (x :: l) = appF p (bif p x.j then st.app x.e else st) l := rfl
theorem appF_append (p : Nat → Bool) (st : St) (l m : List Rec) : appF p st (l ++ m) = appF p (appF p st l) m := by unfold appF; rw [List.foldl_append]
theorem appA_snoc (st : St) (l : List Rec) (x : Rec) : appA st (l ++ [x]) = (appA st l).app x.e := by unfold appA; rw [List.foldl_append]; rfl
theorem appF_true (st : St) (l : List Rec) : appF (fun _ => true) st l = appA st l := rfl
theorem Eqv.appF {p : Nat → Bool} : ∀ (l : List Rec) {x y : St}, Eqv x y → Eqv (appF p x l) (appF p y l)
  | [], _, _, h => h
  | r :: l, x, y, h => by
    rw [appF_cons, appF_cons]
    cases p r.j with
    | true => exact Eqv.appF l (h.app r.e)
    | false => exact Eqv.appF l h
theorem setRs_get (st : St) (l : List (Nat × Res)) : (st.setRs l).get = st.get := by
  induction l generalizing st with
  | nil => rfl
  | cons p r ih => exact (ih _).trans (St.get_setR _ _ _)
theorem app_get (st : St) (e : Eff) (t : Nat) : (st.app e).get t = if e.d = some t then e.s else st.get t := by
  unfold St.app
  cases h : e.d with
  | none => simp [St.putd, setRs_get]
  | some d =>
    simp only [St.putd, St.get_put, setRs_get, Option.some.injEq]
theorem putd_rs (st : St) (d : Option Nat) (s : S) : (st.putd d s).rs = st.rs := by cases d <;> rfl
theorem setRs_rs_out {l : List (Nat × Res)} {i : Nat} (h : i ∉ l.map (·.1)) (st : St) : (st.setRs l).rs i = st.rs i := by
  induction l generalizing st with
  | nil => rfl
  | cons p r ih =>
    simp only [List.map_cons, List.mem_cons, not_or] at h
    have := ih h.2 (st.setR p.1 (some p.2))
    rw [St.rs_setR, if_neg (fun e => h.1 e.symm)] at this
    exact this
theorem setRs_rs_in {l : List (Nat × Res)} {i : Nat} (h : i ∈ l.map (·.1)) (st st' : St) : (st.setRs l).rs i = (st'.setRs l).rs i := by
  induction l generalizing st st' with
  | nil => simp at h
  | cons p r ih =>
    by_cases hr : i ∈ r.map (·.1)
    · exact ih hr _ _
    · have hp : p.1 = i := by
        simp only [List.map_cons, List.mem_cons] at h
        rcases h with h | h
        · exact h.symm
        · exact absurd h hr
      have e1 := setRs_rs_out hr (st.setR p.1 (some p.2))
      have e2 := setRs_rs_out hr (st'.setR p.1 (some p.2))
      rw [St.rs_setR, if_pos hp] at e1 e2
      exact e1.trans e2.symm
theorem app_rs_out {e : Eff} {i : Nat} (h : i ∉ e.mods) (st : St) : (st.app e).rs i = st.rs i := by
  unfold St.app; rw [putd_rs]; exact setRs_rs_out h st
theorem app_rs_in {e : Eff} {i : Nat} (h : i ∈ e.mods) (st st' : St) : (st.app e).rs i = (st'.app e).rs i := by
  unfold St.app; rw [putd_rs, putd_rs]; exact setRs_rs_in h st st'
theorem appF_get {p q : Nat → Bool} {t : Nat} : ∀ (l : List Rec) (x y : St), (∀ r ∈ l, r.e.d = some t → p r.j = q r.j) → x.get t = y.get t → (appF p x l).get t = (appF q y l).get t
  | [], _, _, _, h => h
  | r :: l, x, y, hp, h => by
    rw [appF_cons, appF_cons]
    refine appF_get l _ _ (fun r' hr => hp r' (by simp [hr])) ?_
    by_cases hd : r.e.d = some t
    · rw [hp r (by simp) hd]
      cases q r.j with
      | true => simp only [cond_true]; rw [app_get, app_get, if_pos hd, if_pos hd]
      | false => exact h
    · have e1 : ∀ (b : Bool) (z : St), (bif b then z.app r.e else z).get t = z.get t := fun b z => by
        cases b with
        | true => simp only [cond_true]; rw [app_get, if_neg hd]
        | false => rfl
      rw [e1, e1, h]
theorem appF_rs {p q : Nat → Bool} {i : Nat} : ∀ (l : List Rec) (x y : St), (∀ r ∈ l, i ∈ r.e.mods → p r.j = q r.j) → x.rs i = y.rs i → (appF p x l).rs i = (appF q y l).rs i
  | [], _, _, _, h => h
  | r :: l, x, y, hp, h => by
    rw [appF_cons, appF_cons]
    refine appF_rs l _ _ (fun r' hr => hp r' (by simp [hr])) ?_
    by_cases hd : i ∈ r.e.mods
    · rw [hp r (by simp) hd]
      cases q r.j with
      | true => simp only [cond_true]; exact app_rs_in hd _ _
      | false => exact h
    · have e1 : ∀ (b : Bool) (z : St), (bif b then z.app r.e else z).rs i = z.rs i := fun b z => by
        cases b with
        | true => simp only [cond_true]; exact app_rs_out hd _
        | false => rfl
      rw [e1, e1, h]
structure Apart (e f : Eff) : Prop where
  d : ∀ t, e.d = some t → f.d ≠ some t
  r : ∀ i, i ∈ e.mods → i ∉ f.mods
theorem app_comm {e f : Eff} (h : Apart e f) (st : St) : Eqv ((st.app f).app e) ((st.app e).app f) := by
  refine ⟨?_, ?_⟩
  · funext t
    rw [app_get, app_get, app_get, app_get]
    by_cases h1 : e.d = some t
    · rw [if_pos h1, if_neg (h.d t h1), if_pos h1]
    · rw [if_neg h1, if_neg h1]
  · funext i
    by_cases h1 : i ∈ e.mods
    · have h2 := h.r i h1
      rw [app_rs_out h2 (st.app e)]
      exact app_rs_in h1 _ _
    · rw [app_rs_out h1 (st.app f)]
      by_cases h2 : i ∈ f.mods
      · exact app_rs_in h2 _ _
      · rw [app_rs_out h2, app_rs_out h2, app_rs_out h1]
theorem appF_comm {p : Nat → Bool} {e : Eff} : ∀ (l : List Rec) (x : St), (∀ r ∈ l, p r.j = true → Apart e r.e) → Eqv ((appF p x l).app e) (appF p (x.app e) l)
  | [], _, _ => Eqv.refl _
  | r :: l, x, h => by
    rw [appF_cons, appF_cons]
    refine (appF_comm l _ (fun r' hr => h r' (by simp [hr]))).trans (Eqv.appF l ?_)
    cases hp : p r.j with
    | true => exact app_comm (h r (by simp) hp) x
    | false => exact Eqv.refl _
theorem appF_congr {p q : Nat → Bool} : ∀ (l : List Rec) (x : St), (∀ r ∈ l, p r.j = q r.j) → appF p x l = appF q x l
  | [], _, _ => rfl
  | r :: l, x, h => by rw [appF_cons, appF_cons, h r (by simp)]; exact appF_congr l _ (fun r' hr => h r' (by simp [hr]))
theorem Clean.app {i : Nat} {st : St} (h : Clean i st) {e : Eff} (he : e.men i = false) : Clean i (st.app e) := by
  unfold Eff.men at he
  rw [Bool.or_eq_false_iff] at he
  have h1 := Clean.setRs e.rs h (fun p hp => by
    have := List.any_eq_false.1 he.2 p hp
    simpa using this)
  unfold St.app
  cases e.d with
  | none => exact h1
  | some d => exact h1.put he.1
theorem Clean.appF {i : Nat} {p : Nat → Bool} : ∀ (l : List Rec) {st : St}, Clean i st → (∀ r ∈ l, p r.j = true → r.e.men i = false) → Clean i (appF p st l)
  | [], _, h, _ => h
  | r :: l, st, h, hl => by
    rw [appF_cons]
    refine Clean.appF l ?_ (fun r' hr => hl r' (by simp [hr]))
    cases hp : p r.j with
    | true => exact h.app (hl r (by simp) hp)
    | false => exact h
structure Static (nt : Nat) (ops : Array Oper) (mk : Nat → Nat) (bar : Nat → Bool) : Prop where
  lt : ∀ (j : Nat) (o : Oper) (e : Edge), ops[j]? = some o → e ∈ o.after → Region.binds .any e = true → e.on < j
  dn : ∀ (j : Nat) (o : Oper) (k : Nat), ops[j]? = some o → k < ops.size → tb (mk j) k = true → ∃ e ∈ o.after, Region.binds .any e = true ∧ (e.on = k ∨ tb (mk e.on) k = true)
  ap : ∀ (k j : Nat) (o o' : Oper), k < j → ops[k]? = some o → ops[j]? = some o' → tb (mk j) k = true ∨ o.apart ops o' = true
  b1 : ∀ j k, j < ops.size → bar j = true → k < j → tb (mk j) k = true
  b2 : ∀ j k, k < ops.size → bar j = true → j < k → tb (mk k) j = true
  ok : ∀ (j : Nat) (o : Oper), ops[j]? = some o → opOk nt o = true
def staticB (nt : Nat) (ops : Array Oper) (mk : Nat → Nat) (bar : Nat → Bool) : Bool :=
  (List.range ops.size).all fun j =>
    match ops[j]? with
    | none => false
    | some o =>
      (o.after.toList.all fun e => !Region.binds .any e || decide (e.on < j)) &&
      ((List.range ops.size).all fun k => !tb (mk j) k || o.after.toList.any fun e => Region.binds .any e && (e.on == k || tb (mk e.on) k)) &&
      ((List.range j).all fun k => tb (mk j) k || match ops[k]? with | some o' => o'.apart ops o | none => false) &&
      (!bar j || ((List.range j).all fun k => tb (mk j) k) && (List.range ops.size).all fun k => !decide (j < k) || tb (mk k) j) &&
      opOk nt o
theorem static_of {nt : Nat} {ops : Array Oper} {mk : Nat → Nat} {bar : Nat → Bool} (h : staticB nt ops mk bar = true) : Static nt ops mk bar := by
  unfold staticB at h
  rw [List.all_eq_true] at h
  have size : ∀ j o, ops[j]? = some o → j < ops.size := fun j o ho => (Array.getElem?_eq_some_iff.1 ho).1
  have key := fun j o (ho : ops[j]? = some o) => h j (by simpa using size j o ho)
  have lit : ∀ j, (hj : j < ops.size) → ops[j]? = some ops[j] := fun j hj => by simp [hj]
  refine ⟨fun j o e ho he hb => ?_, fun j o k ho hk ht => ?_, fun k j o o' hkj ho ho' => ?_, fun j k hj hb hkj => ?_, fun j k hk hb hjk => ?_, fun j o ho => ?_⟩
  · have := key j o ho
    simp only [ho, Bool.and_eq_true, List.all_eq_true] at this
    have := this.1.1.1.1 e (by simpa using he)
    rw [hb] at this
    simpa using this
  · have := key j o ho
    simp only [ho, Bool.and_eq_true, List.all_eq_true] at this
    have := this.1.1.1.2 k (by simpa using hk)
    rw [ht] at this
    simp only [Bool.not_true, Bool.false_or, List.any_eq_true, Bool.and_eq_true, Bool.or_eq_true, beq_iff_eq] at this
    obtain ⟨e, e1, e2, e3⟩ := this
    exact ⟨e, by simpa using e1, e2, e3⟩
  · have := key j o' ho'
    simp only [ho', Bool.and_eq_true, List.all_eq_true] at this
    have := this.1.1.2 k (by simpa using hkj)
    rw [ho] at this
    simpa using this
  · have := key j _ (lit j hj)
    simp only [lit j hj, Bool.and_eq_true, List.all_eq_true] at this
    have := this.1.2
    rw [hb] at this
    simp only [Bool.not_true, Bool.false_or, Bool.and_eq_true, List.all_eq_true] at this
    exact this.1 k (by simpa using hkj)
  · by_cases hj : j < ops.size
    · have := key j _ (lit j hj)
      simp only [lit j hj, Bool.and_eq_true, List.all_eq_true] at this
      have := this.1.2
      rw [hb] at this
      simp only [Bool.not_true, Bool.false_or, Bool.and_eq_true, List.all_eq_true] at this
      have := this.2 k (by simpa using hk)
      simpa [hjk] using this
    · omega
  · have := key j o ho
    simp only [ho, Bool.and_eq_true, List.all_eq_true] at this
    exact this.2
end Go.VL
set_option linter.unusedSimpArgs false
set_option linter.unusedVariables false
namespace Go.VL
open Go.RowKit
mutual
def S.nm : S → List Nat
  | .tup ss => S.nms ss
  | .fnp f ss => S.nms ss
  | .st ss => S.nms ss
  | .own i _ => [i]
  | .ptr i _ => [i]
  | .ep i _ _ _ => [i]
  | .suf i _ _ => [i]
  | .g _ s => S.nm s
  | _ => []
def S.nms : List S → List Nat
  | [] => []
  | s :: r => S.nm s ++ S.nms r
end
def inner (r : Option Res) : List Nat :=
  match r with
  | some (.box _ ss) => S.nms ss
  | _ => []
def evs (st : St) : List Operand → List S
  | [] => []
  | x :: r => st.ev x :: evs st r
def inners (st : St) : List Nat → List Nat
  | [] => []
  | i :: r => inner (st.rs i) ++ inners st r
def leafOp : Op → Bool
  | .move _ => true
  | .assign _ => true
  | .nilCheck _ => true
  | .fieldAddr .. => true
  | .extract .. => true
  | _ => false
def rdOf (st : St) (o : Oper) : List Nat := S.nms (evs st o.op.operands.toList) ++ bif leafOp o.op then [] else inners st (S.nms (evs st o.op.operands.toList))
section
variable (t t' yt : TypeId) (x y : Operand)
@[simp] theorem leafOp_move : leafOp (.move x) = true := rfl
@[simp] theorem leafOp_assign : leafOp (.assign x) = true := rfl
@[simp] theorem leafOp_nilCheck : leafOp (.nilCheck x) = true := rfl
@[simp] theorem leafOp_fieldAddr (n : Nat) : leafOp (.fieldAddr t x n) = true := rfl
@[simp] theorem leafOp_extract (n : Nat) : leafOp (.extract x n) = true := rfl
@[simp] theorem leafOp_load : leafOp (.load t x) = false := rfl
@[simp] theorem leafOp_store : leafOp (.store t x y) = false := rfl
@[simp] theorem leafOp_binOp (o : BinOp) : leafOp (.binOp o t x y yt) = false := rfl
@[simp] theorem leafOp_unOp (o : UnOp) : leafOp (.unOp o t x) = false := rfl
@[simp] theorem leafOp_makeInterface : leafOp (.makeInterface t x) = false := rfl
@[simp] theorem leafOp_convert : leafOp (.convert t t' x) = false := rfl
@[simp] theorem leafOp_field (n : Nat) : leafOp (.field t x n) = false := rfl
@[simp] theorem leafOp_indexAddr : leafOp (.indexAddr t x y) = false := rfl
@[simp] theorem leafOp_index : leafOp (.index t x y) = false := rfl
@[simp] theorem leafOp_slice (a b c : Option Operand) : leafOp (.slice t x a b c) = false := rfl
@[simp] theorem leafOp_build (l : Array (Nat × Operand)) : leafOp (.build t l) = false := rfl
@[simp] theorem leafOp_buildSlice (n : Nat) (l : Array (Nat × Operand)) : leafOp (.buildSlice t n l) = false := rfl
@[simp] theorem leafOp_makeFunc (f : Fn) (a b) : leafOp (.makeFunc f a b) = false := rfl
@[simp] theorem leafOp_alloc : leafOp (.alloc t) = false := rfl
@[simp] theorem leafOp_call (c : Call) : leafOp (.call c) = false := rfl
@[simp] theorem leafOp_pick (z : Operand) : leafOp (.pick x y z) = false := rfl
end
def rss (st : St) : List Nat → List (Nat × Option Res)
  | [] => []
  | i :: r => (i, st.rs i) :: rss st r
def restr (st : St) (rd : List Nat) : St := ⟨st.env, rss st rd⟩
def cleanE (i : Nat) : List (Nat × S) → Bool
  | [] => true
  | p :: r => !p.2.men i && cleanE i r
def cleanR (i : Nat) : List (Nat × Option Res) → Bool
  | [] => true
  | (_, some r) :: l => !r.men i && cleanR i l
  | (_, none) :: l => cleanR i l
def St.cleanB (st : St) (i : Nat) : Bool := cleanE i st.env && cleanR i st.res
theorem cleanB_ok {st : St} {i : Nat} (h : st.cleanB i = true) : Clean i st := by
  unfold St.cleanB at h
  rw [Bool.and_eq_true] at h
  obtain ⟨h1, h2⟩ := h
  refine ⟨fun t => ?_, fun j r hr => ?_⟩
  · unfold St.get
    generalize st.env = l at h1
    induction l with
    | nil => rfl
    | cons p l ih =>
      obtain ⟨k, s⟩ := p
      simp only [cleanE, Bool.and_eq_true, Bool.not_eq_true'] at h1
      simp only [vlook]
      cases k == t with
      | true => exact h1.1
      | false => exact ih h1.2
  · unfold St.rs at hr
    generalize st.res = l at h2 hr
    induction l with
    | nil => simp [vlook] at hr
    | cons p l ih =>
      obtain ⟨k, s⟩ := p
      simp only [vlook] at hr
      cases hk : k == j with
      | true =>
        rw [hk] at hr
        simp only [cond_true] at hr
        subst hr
        simp only [cleanR, Bool.and_eq_true, Bool.not_eq_true'] at h2
        exact h2.1
      | false =>
        rw [hk] at hr
        refine ih ?_ hr
        cases s with
        | none => exact h2
        | some r => simp only [cleanR, Bool.and_eq_true] at h2; exact h2.2
def pairB (m : Nat) (y : Rec) (e : Eff) (rd : List Nat) : Bool :=
  (y.e.mods.all fun i => tb m y.j || (!rd.contains i && !e.mods.contains i)) &&
  (e.mods.all fun i => tb m y.j || !y.rd.contains i) &&
  (bif y.e.fr then y.e.mods.all fun i => tb m y.j || !e.men i else true)
def freshB (st0 : St) (l : List Rec) (e : Eff) : Bool := bif e.fr then e.news.all fun i => st0.cleanB i && l.all fun y => !y.e.men i else true
def chk (m : Nat) (st0 : St) (l : List Rec) (e : Eff) (rd : List Nat) : Bool := (l.all fun y => pairB m y e rd) && freshB st0 l e
def vd (P : Program) (ops : Array Oper) : List Oper → List (Nat × Bool) → Nat → St → List Rec → St → (St → Prop) → Prop
  | [], _, _, _, _, cur, K => K cur
  | _ :: _, [], _, _, _, _, _ => False
  | o :: r, (m, b) :: pl, j, st0, l, cur, K =>
    bif b then vstepL P ops cur o fun st' => vd P ops r pl (j + 1) st' [] st' K
    else veff P ops (restr cur (rdOf cur o)) o fun e => chk m st0 l e (rdOf cur o) = true ∧ vd P ops r pl (j + 1) st0 (l ++ [⟨j, e, rdOf cur o⟩]) (cur.app e) K
structure PairOK (mk : Nat → Nat) (y x : Rec) : Prop where
  h : tb (mk x.j) y.j = true ∨ ((∀ i ∈ y.e.mods, i ∉ x.rd ∧ i ∉ x.e.mods) ∧ (∀ i ∈ x.e.mods, i ∉ y.rd) ∧ (y.e.fr = true → ∀ i ∈ y.e.mods, x.e.men i = false))
theorem pairB_ok {mk : Nat → Nat} {y x : Rec} {m : Nat} (hm : mk x.j = m) (h : pairB m y x.e x.rd = true) : PairOK mk y x := by
  subst hm
  cases ht : tb (mk x.j) y.j with
  | true => exact ⟨.inl ht⟩
  | false =>
    unfold pairB at h
    rw [ht] at h
    simp only [Bool.false_or, Bool.and_eq_true, List.all_eq_true, Bool.not_eq_true', List.contains_eq_mem, decide_eq_false_iff_not] at h
    obtain ⟨⟨h1, h2⟩, h3⟩ := h
    refine ⟨.inr ⟨h1, h2, fun hf i hi => ?_⟩⟩
    rw [hf] at h3
    simp only [cond_true, List.all_eq_true, Bool.not_eq_true'] at h3
    exact h3 i hi
section
variable {P : Program} {w0 : World} {K0 : K0T} {nt : Nat} {ops : Array Oper} {mk : Nat → Nat} {bar : Nat → Bool} {Q : Exit → Act → World → Prop}
structure RecOK (P : Program) (w0 : World) (K0 : K0T) (nt : Nat) (ops : Array Oper) (mk : Nat → Nat) (st0 : St) (l : List Rec) (x : Rec) : Prop where
  op : ∃ o, ops[x.j]? = some o ∧ x.e.d = o.dst ∧ ∀ (st : St) (a : Act) (w : World) (g : G), T w0 K0 nt st a w g → Seen ops o (restr (appA st0 l) x.rd) st → (x.e.fr = true → ∀ i ∈ x.e.news, Clean i st) →
      ∀ (next : Act → World → Prop) (Q : Exit → Act → World → Prop), (∀ a' w' g', T w0 K0 nt (st.app x.e) a' w' g' → next a' w') → stepW P ops o a w next Q
  pair : ∀ y ∈ l, PairOK mk y x
  fresh : x.e.fr = true → ∀ i ∈ x.e.news, Clean i st0 ∧ ∀ y ∈ l, y.e.men i = false
inductive Good (P : Program) (w0 : World) (K0 : K0T) (nt : Nat) (ops : Array Oper) (mk : Nat → Nat) (lo : Nat) (st0 : St) : List Rec → Prop
  | nil : Good P w0 K0 nt ops mk lo st0 []
  | snoc {l : List Rec} {x : Rec} : Good P w0 K0 nt ops mk lo st0 l → x.j = lo + l.length → RecOK P w0 K0 nt ops mk st0 l x → Good P w0 K0 nt ops mk lo st0 (l ++ [x])
theorem Good.idx {lo : Nat} {st0 : St} {l : List Rec} (h : Good P w0 K0 nt ops mk lo st0 l) : ∀ y ∈ l, lo ≤ y.j ∧ y.j < lo + l.length ∧ ∃ o, ops[y.j]? = some o ∧ y.e.d = o.dst := by
  induction h with
  | nil => simp
  | @snoc l x _ h2 h3 ih =>
    intro y hy
    rw [List.length_append]
    rcases List.mem_append.1 hy with hy | hy
    · obtain ⟨q1, q2, q3⟩ := ih y hy
      exact ⟨q1, by omega, q3⟩
    · simp at hy; subst hy
      obtain ⟨o, o1, o2, _⟩ := h3.op
      exact ⟨by omega, by simp; omega, o, o1, o2⟩
theorem Good.split {lo : Nat} {st0 : St} {l : List Rec} (h : Good P w0 K0 nt ops mk lo st0 l) {i : Nat} (h1 : lo ≤ i) (h2 : i < lo + l.length) :
    ∃ l1 x l2, l = l1 ++ x :: l2 ∧ x.j = i ∧ RecOK P w0 K0 nt ops mk st0 l1 x ∧ (∀ y ∈ l1, y.j < i ∧ ∃ o, ops[y.j]? = some o ∧ y.e.d = o.dst) ∧ (∀ y ∈ l2, i < y.j ∧ PairOK mk x y ∧ ∃ o, ops[y.j]? = some o ∧ y.e.d = o.dst) := by
  induction h with
  | nil => simp at h2; omega
  | @snoc l x hg hj hr ih =>
    by_cases hi : i < lo + l.length
    · obtain ⟨l1, z, l2, rfl, q1, q2, q3, q4⟩ := ih hi
      refine ⟨l1, z, l2 ++ [x], by simp, q1, q2, q3, fun y hy => ?_⟩
      rcases List.mem_append.1 hy with hy | hy
      · exact q4 y hy
      · simp at hy; subst hy
        obtain ⟨o, o1, o2, _⟩ := hr.op
        exact ⟨by omega, hr.pair z (by simp), o, o1, o2⟩
    · have : i = lo + l.length := by rw [List.length_append] at h2; simp at h2; omega
      refine ⟨l, x, [], rfl, by omega, hr, fun y hy => ?_, by simp⟩
      obtain ⟨q1, q2, q3⟩ := hg.idx y hy
      exact ⟨by omega, q3⟩
structure Lst (n : Nat) (listed : Array Bool) (p : Nat → Bool) : Prop where
  size : listed.size = n
  at_ : ∀ i, i < n → listed.getD i true = p i
def rem (n : Nat) (p : Nat → Bool) : Nat := (List.range n).countP fun i => !p i
theorem countP_lt {q r : Nat → Bool} {i : Nat} : ∀ (l : List Nat), (∀ x, q x = true → r x = true) → i ∈ l → r i = true → q i = false → l.countP q < l.countP r
  | [], _, h, _, _ => by simp at h
  | x :: l, hqr, h, hr, hq => by
    rw [List.countP_cons, List.countP_cons]
    have hle : l.countP q ≤ l.countP r := List.countP_mono_left fun x _ => hqr x
    by_cases hx : x = i
    · subst hx
      rw [hr, hq]; simp; omega
    · have := countP_lt l hqr (by simpa [Ne.symm hx] using h) hr hq
      have h2 := hqr x
      cases hqx : q x with
      | true => rw [h2 hqx]; simp; omega
      | false => simp; split <;> omega
def ins (p : Nat → Bool) (i : Nat) : Nat → Bool := fun k => k == i || p k
theorem rem_ins {n : Nat} {p : Nat → Bool} {i : Nat} (hi : i < n) (hp : p i = false) : rem n (ins p i) < rem n p := by
  unfold rem
  refine countP_lt (i := i) _ (fun x hx => ?_) (by simpa using hi) (by simp [hp]) (by simp [ins])
  simp only [ins, Bool.not_or, Bool.and_eq_true] at hx
  exact hx.2
theorem Lst.set {n : Nat} {listed : Array Bool} {p : Nat → Bool} (h : Lst n listed p) {i : Nat} (hi : i < n) : Lst n (listed.setIfInBounds i true) (ins p i) := by
  refine ⟨by simp [h.size], fun k hk => ?_⟩
  have := h.at_ k hk
  rw [Array.getD_eq_getD_getElem?] at this ⊢
  by_cases e : i = k
  · subst e
    rw [Array.getElem?_setIfInBounds_self_of_lt (by rw [h.size]; exact hi)]
    simp [ins]
  · rw [Array.getElem?_setIfInBounds_ne e, this]
    have : (k == i) = false := by simpa using Ne.symm e
    simp [ins, this]
theorem ready_spec {listed : Array Bool} {p : Nat → Bool} (h : Lst ops.size listed p) {i : Nat} (hi : i ∈ Region.ready .any ops listed) : i < ops.size ∧ p i = false ∧ ∃ o, ops[i]? = some o ∧ ∀ e ∈ o.after, Region.binds .any e = true → e.on < ops.size → p e.on = true := by
  unfold Region.ready at hi
  simp only [List.mem_filter, List.mem_range, Bool.and_eq_true, Bool.not_eq_true'] at hi
  obtain ⟨h1, h2, h3⟩ := hi
  rw [h.at_ i h1] at h2
  refine ⟨h1, h2, ops[i], by simp [h1], fun e he hb hlt => ?_⟩
  simp only [h1, getElem?_pos, Option.map_some, Option.getD_some, Array.all_eq_true'] at h3
  have := h3 e he
  rw [hb] at this
  simp only [Bool.not_true, Bool.false_or] at this
  rw [← h.at_ e.on hlt, Array.getD_eq_getD_getElem?]
  rw [Array.getD_eq_getD_getElem?] at this
  have hs : e.on < listed.size := by rw [h.size]; exact hlt
  simp only [hs, getElem?_pos, Option.getD_some] at this ⊢
  exact this
theorem ready_of {listed : Array Bool} {p : Nat → Bool} (hS : Static nt ops mk bar) (h : Lst ops.size listed p) {i : Nat} (hi : i < ops.size) (hp : p i = false) (hb : ∀ k, k < i → p k = true) : i ∈ Region.ready .any ops listed := by
  unfold Region.ready
  simp only [List.mem_filter, List.mem_range, Bool.and_eq_true, Bool.not_eq_true']
  refine ⟨hi, by rw [h.at_ i hi]; exact hp, ?_⟩
  simp only [hi, getElem?_pos, Option.map_some, Option.getD_some, Array.all_eq_true']
  intro e he
  cases hbe : Region.binds .any e with
  | false => rfl
  | true =>
    have hlt := hS.lt i ops[i] e (by simp [hi]) he hbe
    have := h.at_ e.on (by omega)
    rw [hb e.on hlt] at this
    simp only [Bool.not_true, Bool.false_or]
    rw [Array.getD_eq_getD_getElem?] at this ⊢
    have hs : e.on < listed.size := by rw [h.size]; omega
    simp only [hs, getElem?_pos, Option.getD_some] at this ⊢
    exact this
def Down (n : Nat) (mk : Nat → Nat) (p : Nat → Bool) : Prop := ∀ j, j < n → p j = true → ∀ k, k < n → tb (mk j) k = true → p k = true
theorem ready_down {listed : Array Bool} {p : Nat → Bool} (hS : Static nt ops mk bar) (h : Lst ops.size listed p) (hd : Down ops.size mk p) {i : Nat} (hi : i ∈ Region.ready .any ops listed) : ∀ k, k < ops.size → tb (mk i) k = true → p k = true := by
  intro k hk ht
  obtain ⟨h1, h2, o, ho, h3⟩ := ready_spec h hi
  obtain ⟨e, he, hb, hc⟩ := hS.dn i o k ho hk ht
  have hlt := hS.lt i o e ho he hb
  have hp := h3 e he hb (by omega)
  rcases hc with rfl | hc
  · exact hp
  · exact hd e.on (by omega) hp k hk hc
theorem Down.ins {n : Nat} {p : Nat → Bool} {i : Nat} (h : Down n mk p) (hi : ∀ k, k < n → tb (mk i) k = true → p k = true) : Down n mk (ins p i) := by
  intro j hj hp k hk ht
  simp only [VL.ins, Bool.or_eq_true, beq_iff_eq] at hp ⊢
  rcases hp with rfl | hp
  · exact .inr (hi k hk ht)
  · exact .inr (h j hj hp k hk ht)
theorem wpOp_of_step {i : Nat} {o : Oper} (ho : ops[i]? = some o) {K : Act → World → Prop} {a : Act} {w : World} (h : stepW P ops o a w K Q) : wpOp P ops Q i K a w := by
  unfold wpOp
  rw [ho]
  unfold stepW at h
  simp only
  split
  · rename_i hw; rw [if_pos hw] at h; exact .inl h
  · rename_i hw; rw [if_neg hw] at h; exact h
theorem rss_look (st : St) (i : Nat) : ∀ rd : List Nat, vlook none (rss st rd) i = if i ∈ rd then st.rs i else none
  | [] => by simp [rss]
  | k :: r => by
    rw [rss, vlook]
    by_cases e : k = i
    · subst e; simp
    · have : (k == i) = false := by simpa using e
      rw [this, cond_false, rss_look st i r]
      simp [Ne.symm e]
theorem restr_rs (st : St) (rd : List Nat) (i : Nat) : (restr st rd).rs i = if i ∈ rd then st.rs i else none := rss_look st i rd
theorem appF_false : ∀ (l : List Rec) (x : St), appF (fun _ => false) x l = x
  | [], _ => rfl
  | _ :: l, x => appF_false l x
theorem good_step {lo : Nat} {st0 : St} {l : List Rec} (hS : Static nt ops mk bar) (hg : Good P w0 K0 nt ops mk lo st0 l) {p : Nat → Bool} (hd : Down ops.size mk p) {i : Nat} (hi : i < ops.size) (h1 : lo ≤ i) (h2 : i < lo + l.length) (hp : p i = false)
    (hr : ∀ k, k < ops.size → tb (mk i) k = true → p k = true) {a : Act} {w : World} {g : G} (hT : T w0 K0 nt (appF p st0 l) a w g) {next : Act → World → Prop}
    (hn : ∀ a' w' g', T w0 K0 nt (appF (ins p i) st0 l) a' w' g' → next a' w') : wpOp P ops Q i next a w := by
  obtain ⟨l1, x, l2, rfl, hj, hx, hl1, hl2⟩ := hg.split h1 h2
  obtain ⟨o, ho, hxd, hstep⟩ := hx.op
  subst hj
  have size : ∀ {j : Nat} {o : Oper}, ops[j]? = some o → j < ops.size := fun ho => (Array.getElem?_eq_some_iff.1 ho).1
  have before : ∀ y ∈ l1, p y.j = false → (∀ t, y.e.d = some t → t ∉ o.looksAt ops) ∧ ∀ k ∈ y.e.mods, k ∉ x.rd := by
    intro y hy hpy
    obtain ⟨hlt, o', ho', hyd⟩ := hl1 y hy
    have hnt : tb (mk x.j) y.j = false := by
      cases ht : tb (mk x.j) y.j with
      | false => rfl
      | true => rw [hr y.j (size ho') ht] at hpy; cases hpy
    refine ⟨fun t ht => ?_, fun k hk => ?_⟩
    · rcases hS.ap y.j x.j o' o hlt ho' ho with q | q
      · rw [q] at hnt; cases hnt
      · exact (Oper.apart_spec q).1 t (by rw [← hyd]; exact ht)
    · rcases (hx.pair y hy).h with q | q
      · rw [q] at hnt; cases hnt
      · exact (q.1 k hk).1
  have behind : ∀ y ∈ l2, p y.j = true → (∀ t, y.e.d = some t → t ∉ o.looksAt ops) ∧ (∀ k ∈ y.e.mods, k ∉ x.rd) ∧ Apart x.e y.e ∧ (x.e.fr = true → ∀ k ∈ x.e.mods, y.e.men k = false) := by
    intro y hy hpy
    obtain ⟨hlt, hpair, o', ho', hyd⟩ := hl2 y hy
    have hnt : tb (mk y.j) x.j = false := by
      cases ht : tb (mk y.j) x.j with
      | false => rfl
      | true => rw [hd y.j (size ho') hpy x.j hi ht] at hp; cases hp
    have hap := (hS.ap x.j y.j o o' hlt ho ho').resolve_left (by rw [hnt]; simp)
    have hpr := hpair.h.resolve_left (by rw [hnt]; simp)
    obtain ⟨a1, a2, a3⟩ := Oper.apart_spec hap
    exact ⟨fun t ht => a3 t (by rw [← hyd]; exact ht), fun k hk => hpr.2.1 k hk, ⟨fun t ht => by rw [hyd]; exact a2 t (by rw [← hxd]; exact ht), fun k hk => (hpr.1 k hk).2⟩, hpr.2.2⟩
  have hsplit : appF p st0 (l1 ++ x :: l2) = appF p (appF p st0 l1) l2 := by
    rw [appF_append, appF_cons, hp]; rfl
  have get_eq : ∀ t, t ∈ o.looksAt ops → (appA st0 l1).get t = (appF p st0 (l1 ++ x :: l2)).get t := by
    intro t ht
    rw [hsplit]
    have e2 : (appF p (appF p st0 l1) l2).get t = (appF (fun _ => false) (appF p st0 l1) l2).get t := appF_get l2 _ _ (fun y hy hyd => by
      cases hpy : p y.j with
      | false => rfl
      | true => exact absurd ht ((behind y hy hpy).1 t hyd)) rfl
    rw [e2, appF_false, ← appF_true]
    refine appF_get l1 _ _ (fun y hy hyd => ?_) rfl
    cases hpy : p y.j with
    | true => rfl
    | false => exact absurd ht ((before y hy hpy).1 t hyd)
  have rs_eq : ∀ k, k ∈ x.rd → (appA st0 l1).rs k = (appF p st0 (l1 ++ x :: l2)).rs k := by
    intro k hk
    rw [hsplit]
    have e2 : (appF p (appF p st0 l1) l2).rs k = (appF (fun _ => false) (appF p st0 l1) l2).rs k := appF_rs l2 _ _ (fun y hy hyd => by
      cases hpy : p y.j with
      | false => rfl
      | true => exact absurd hk ((behind y hy hpy).2.1 k hyd)) rfl
    rw [e2, appF_false, ← appF_true]
    refine appF_rs l1 _ _ (fun y hy hyd => ?_) rfl
    cases hpy : p y.j with
    | true => rfl
    | false => exact absurd hk ((before y hy hpy).2 k hyd)
  have hseen : Seen ops o (restr (appA st0 l1) x.rd) (appF p st0 (l1 ++ x :: l2)) := by
    refine ⟨fun z hz => ?_, fun j b t hgd ht => ?_, fun k => ?_⟩
    · cases z with
      | tmp t => exact get_eq t (List.mem_append_left _ (List.mem_filterMap.2 ⟨.tmp t, hz, rfl⟩))
      | _ => rfl
    · refine get_eq t (List.mem_append_right _ ?_)
      unfold gslot at ht
      simp [hgd, ht]
    · rw [restr_rs]
      by_cases hk : k ∈ x.rd
      · rw [if_pos hk]; exact .inr (rs_eq k hk)
      · rw [if_neg hk]; exact .inl rfl
  have hclean : x.e.fr = true → ∀ k ∈ x.e.news, Clean k (appF p st0 (l1 ++ x :: l2)) := by
    intro hf k hk
    obtain ⟨c1, c2⟩ := hx.fresh hf k hk
    refine Clean.appF _ c1 (fun y hy hpy => ?_)
    rcases List.mem_append.1 hy with hy | hy
    · exact c2 y hy
    · rcases List.mem_cons.1 hy with rfl | hy
      · rw [hp] at hpy; cases hpy
      · exact (behind y hy hpy).2.2.2 hf k (x.e.news_sub k hk)
  refine wpOp_of_step ho (hstep _ a w g hT hseen hclean next Q (fun a' w' g' hT' => hn a' w' g' (hT'.eqv ?_)))
  have f1 : appF (ins p x.j) st0 (l1 ++ x :: l2) = appF p ((appF p st0 l1).app x.e) l2 := by
    rw [appF_append, appF_cons]
    have : ins p x.j x.j = true := by simp [ins]
    rw [this]
    simp only [cond_true]
    have g1 : appF (ins p x.j) st0 l1 = appF p st0 l1 := appF_congr l1 _ (fun y hy => by
      have := (hl1 y hy).1
      have : (y.j == x.j) = false := by simp; omega
      simp [ins, this])
    rw [g1]
    exact appF_congr l2 _ (fun y hy => by
      have := (hl2 y hy).1
      have : (y.j == x.j) = false := by simp; omega
      simp [ins, this])
  rw [f1, hsplit]
  exact (appF_comm l2 _ (fun y hy hpy => (behind y hy hpy).2.2.1)).symm
def below (n : Nat) : Nat → Bool := fun i => decide (i < n)
theorem stretch {lo : Nat} {st0 : St} {l : List Rec} (hS : Static nt ops mk bar) (hg : Good P w0 K0 nt ops mk lo st0 l) (hle : lo + l.length ≤ ops.size) (hbar : lo + l.length < ops.size → bar (lo + l.length) = true)
    (F : ∀ fuel listed a w g, Lst ops.size listed (below (lo + l.length)) → rem ops.size (below (lo + l.length)) ≤ fuel → T w0 K0 nt (appA st0 l) a w g → wpAny P .any ops Q fuel listed a w) :
    ∀ (fuel : Nat) (p : Nat → Bool) (listed : Array Bool) (a : Act) (w : World) (g : G), Lst ops.size listed p → rem ops.size p ≤ fuel → (∀ i, i < lo → p i = true) → (∀ i, lo + l.length ≤ i → i < ops.size → p i = false) → Down ops.size mk p →
      T w0 K0 nt (appF p st0 l) a w g → wpAny P .any ops Q fuel listed a w := by
  intro fuel
  induction fuel with
  | zero =>
    intro p listed a w g hL hr h1 h2 hd hT
    have all : ∀ i, i < ops.size → p i = true := by
      intro i hi
      unfold rem at hr
      have := List.countP_eq_zero.1 (Nat.le_zero.1 hr) i (by simpa using hi)
      simpa using this
    have hn : lo + l.length = ops.size := by
      by_cases q : lo + l.length < ops.size
      · have := h2 _ (Nat.le_refl _) q
        rw [all _ q] at this; cases this
      · omega
    have hc : ∀ i, i < ops.size → p i = below (lo + l.length) i := fun i hi => by rw [all i hi]; simp [below]; omega
    refine F 0 listed a w g ⟨hL.size, fun i hi => by rw [hL.at_ i hi]; exact hc i hi⟩ ?_ ?_
    · have : rem ops.size (below (lo + l.length)) = rem ops.size p := by
        unfold rem
        exact List.countP_congr (fun i hi => by rw [hc i (by simpa using hi)])
      rw [this]; exact hr
    · rw [← appF_true, ← appF_congr (p := p) (q := fun _ => true) l st0 (fun y hy => all y.j (by have := (hg.idx y hy).2.1; omega))]
      exact hT
  | succ fuel ih =>
    intro p listed a w g hL hr h1 h2 hd hT
    by_cases hall : ∀ i, lo ≤ i → i < lo + l.length → p i = true
    · have hc : ∀ i, i < ops.size → p i = below (lo + l.length) i := fun i hi => by
        by_cases q : i < lo + l.length
        · have : p i = true := by
            by_cases q2 : i < lo
            · exact h1 i q2
            · exact hall i (by omega) q
          rw [this]; simp [below, q]
        · rw [h2 i (by omega) hi]; simp [below]; omega
      refine F _ listed a w g ⟨hL.size, fun i hi => by rw [hL.at_ i hi]; exact hc i hi⟩ ?_ ?_
      · have : rem ops.size (below (lo + l.length)) = rem ops.size p := by
          unfold rem
          exact List.countP_congr (fun i hi => by rw [hc i (by simpa using hi)])
        rw [this]; exact hr
      · rw [← appF_true, ← appF_congr (p := p) (q := fun _ => true) l st0 (fun y hy => by
          have := hg.idx y hy
          exact hall y.j this.1 this.2.1)]
        exact hT
    ·
      have hex : ∃ i, lo ≤ i ∧ i < lo + l.length ∧ p i = false ∧ ∀ k, k < i → p k = true := by
        have hne : ∃ i, lo ≤ i ∧ i < lo + l.length ∧ p i = false := by
          refine Classical.byContradiction fun hh => hall fun i q1 q2 => ?_
          cases hp : p i with
          | true => rfl
          | false => exact absurd ⟨i, q1, q2, hp⟩ hh
        have : ∀ n i, i ≤ n → lo ≤ i → i < lo + l.length → p i = false → ∃ i, lo ≤ i ∧ i < lo + l.length ∧ p i = false ∧ ∀ k, k < i → p k = true := by
          intro n
          induction n with
          | zero => intro i hi q1 q2 q3; exact ⟨i, q1, q2, q3, fun k hk => by omega⟩
          | succ n ihn =>
            intro i hi q1 q2 q3
            by_cases hk : ∃ k, k < i ∧ p k = false
            · obtain ⟨k, k1, k2⟩ := hk
              refine ihn k (by omega) ?_ (by omega) k2
              by_cases q : k < lo
              · rw [h1 k q] at k2; cases k2
              · omega
            · refine ⟨i, q1, q2, q3, fun k hk' => ?_⟩
              cases hp : p k with
              | true => rfl
              | false => exact absurd ⟨k, hk', hp⟩ hk
        obtain ⟨i, q1, q2, q3⟩ := hne
        exact this i i (Nat.le_refl _) q1 q2 q3
      obtain ⟨i, q1, q2, q3, q4⟩ := hex
      have hready := ready_of hS hL (by omega) q3 q4
      refine ⟨fun he => by rw [he] at hready; simp at hready, fun j hj => ?_⟩
      obtain ⟨s1, s2, _⟩ := ready_spec hL hj
      have hdn := ready_down hS hL hd hj
      have j1 : lo ≤ j := by
        by_cases q : j < lo
        · rw [h1 j q] at s2; cases s2
        · omega
      have j2 : j < lo + l.length := by
        by_cases q : j < lo + l.length
        · exact q
        · exfalso
          have hb := hbar (by omega)
          by_cases q5 : j = lo + l.length
          · have := hdn i (by omega) (hS.b1 j i s1 (by rw [q5]; exact hb) (by omega))
            rw [q3] at this; cases this
          · have := hdn (lo + l.length) (by omega) (hS.b2 _ j s1 hb (by omega))
            rw [h2 _ (Nat.le_refl _) (by omega)] at this; cases this
      refine good_step hS hg hd s1 j1 j2 s2 hdn hT (fun a' w' g' hT' => ?_)
      refine ih (ins p j) _ a' w' g' (hL.set s1) (by have := rem_ins s1 s2; omega) (fun k hk => by simp [ins, h1 k hk]) (fun k k1 k2 => ?_) (hd.ins hdn) hT'
      have : (k == j) = false := by simp; omega
      simp [ins, this, h2 k k1 k2]
theorem below_down (hS : Static nt ops mk bar) (lo : Nat) : Down ops.size mk (below lo) := by
  have : ∀ j, j < ops.size → ∀ k, k < ops.size → tb (mk j) k = true → k < j := by
    intro j
    induction j using Nat.strongRecOn with
    | _ j ih =>
      intro hj k hk ht
      obtain ⟨e, he, hb, hc⟩ := hS.dn j ops[j] k (by simp [hj]) hk ht
      have hlt := hS.lt j ops[j] e (by simp [hj]) he hb
      rcases hc with rfl | hc
      · exact hlt
      · have := ih e.on hlt (by omega) k hk hc; omega
  intro j hj hp k hk ht
  have := this j hj k hk ht
  simp [below] at hp ⊢
  omega
theorem below_none {lo : Nat} {st0 : St} {l : List Rec} (hg : Good P w0 K0 nt ops mk lo st0 l) : appF (below lo) st0 l = st0 := by
  rw [appF_congr (q := fun _ => false) l st0 (fun y hy => by have := (hg.idx y hy).1; simp [below]; omega), appF_false]
theorem chk_ok {lo : Nat} {st0 : St} {l : List Rec} {x : Rec} {m : Nat} (_ : Good P w0 K0 nt ops mk lo st0 l) (hm : mk x.j = m) (h : chk m st0 l x.e x.rd = true) : (∀ y ∈ l, PairOK mk y x) ∧ (x.e.fr = true → ∀ i ∈ x.e.news, Clean i st0 ∧ ∀ y ∈ l, y.e.men i = false) := by
  unfold chk at h
  rw [Bool.and_eq_true, List.all_eq_true] at h
  refine ⟨fun y hy => pairB_ok hm (h.1 y hy), fun hf i hi => ?_⟩
  have h2 := h.2
  unfold freshB at h2
  rw [hf] at h2
  simp only [cond_true, List.all_eq_true, Bool.and_eq_true, Bool.not_eq_true'] at h2
  obtain ⟨q1, q2⟩ := h2 i hi
  exact ⟨cleanB_ok q1, q2⟩
theorem vd_ok {K : St → Prop} (hS : Static nt ops mk bar) (hK : ∀ st a w g, K st → T w0 K0 nt st a w g → Q .normal a w) : ∀ (r : List Oper) (pl : List (Nat × Bool)) (j lo : Nat) (st0 : St) (l : List Rec) (cur : St),
    (∀ k, r[k]? = ops[j + k]?) → j + r.length = ops.size → (∀ k, k < r.length → ∃ x, pl[k]? = some x ∧ mk (j + k) = x.1 ∧ bar (j + k) = x.2) → Good P w0 K0 nt ops mk lo st0 l → j = lo + l.length → cur = appA st0 l → vd P ops r pl j st0 l cur K →
    ∀ fuel listed a w g, Lst ops.size listed (below lo) → rem ops.size (below lo) ≤ fuel → T w0 K0 nt st0 a w g → wpAny P .any ops Q fuel listed a w
  | [], pl, j, lo, st0, l, cur, hr, hn, _, hg, hj, hcur, hv => by
    intro fuel listed a w g hL hrem hT
    simp at hn
    refine stretch hS hg (by omega) (fun h => by omega) (fun fuel listed a w g hL hrem hT => ?_) fuel (below lo) listed a w g hL hrem (fun i hi => by simp [below, hi]) (fun i h1 h2 => by simp [below]; omega) (below_down hS lo) (by rw [below_none hg]; exact hT)
    have hQ : Q .normal a w := hK cur a w g hv (by rw [hcur]; exact hT)
    have none : ∀ i, i ∉ Region.ready .any ops listed := fun i hi => by
      obtain ⟨h1, h2, _⟩ := ready_spec hL hi
      simp [below] at h2
      omega
    cases fuel with
    | zero => exact ⟨List.eq_nil_iff_forall_not_mem.2 none, hQ⟩
    | succ fuel => exact ⟨fun _ => hQ, fun i hi => absurd hi (none i)⟩
  | o :: r, pl, j, lo, st0, l, cur, hr, hn, hpl, hg, hj, hcur, hv => by
    intro fuel listed a w g hL hrem hT
    have ho : ops[j]? = some o := by have := hr 0; simpa using this.symm
    have hjn : j < ops.size := by simp at hn; omega
    obtain ⟨x, hx, hm, hb⟩ := hpl 0 (by simp)
    simp only [Nat.add_zero] at hm hb
    have hok := hS.ok j o ho
    cases pl with
    | nil => simp at hx
    | cons mb pl =>
      simp at hx
      subst hx
      obtain ⟨m, b⟩ := mb
      simp only at hm hb
      have hr' : ∀ k, r[k]? = ops[j + 1 + k]? := fun k => by
        have := hr (k + 1)
        rw [show j + 1 + k = j + (k + 1) from by omega]
        simpa using this
      have hpl' : ∀ k, k < r.length → ∃ x, pl[k]? = some x ∧ mk (j + 1 + k) = x.1 ∧ bar (j + 1 + k) = x.2 := fun k hk => by
        obtain ⟨x, h1, h2, h3⟩ := hpl (k + 1) (by simpa using hk)
        exact ⟨x, by simpa using h1, by rw [show j + 1 + k = j + (k + 1) from by omega]; exact h2, by rw [show j + 1 + k = j + (k + 1) from by omega]; exact h3⟩
      have hn' : j + 1 + r.length = ops.size := by simp at hn; omega
      cases b with
      | true =>
        rw [vd] at hv
        simp only [cond_true] at hv
        refine stretch hS hg (by omega) (fun h => by rw [← hj]; exact hb) (fun fuel listed a w g hL hrem hT => ?_) fuel (below lo) listed a w g hL hrem (fun i hi => by simp [below, hi]) (fun i h1 h2 => by simp [below]; omega) (below_down hS lo) (by rw [below_none hg]; exact hT)
        rw [← hj] at hL hrem
        have hready := ready_of hS hL hjn (by simp [below]) (fun k hk => by simp [below, hk])
        cases fuel with
        | zero =>
          exfalso
          unfold rem at hrem
          have := List.countP_eq_zero.1 (Nat.le_zero.1 hrem) j (by simpa using hjn)
          simp [below] at this
        | succ fuel =>
          refine ⟨fun he => by rw [he] at hready; simp at hready, fun i hi => ?_⟩
          obtain ⟨s1, s2, _⟩ := ready_spec hL hi
          have hdn := ready_down hS hL (below_down hS j) hi
          have hij : i = j := by
            simp [below] at s2
            by_cases q : i = j
            · exact q
            · have := hdn j hjn (hS.b2 j i s1 hb (by omega))
              simp [below] at this
          subst hij
          refine wpOp_of_step ho (vstepL_ok (by rw [hcur]; exact hT) hok hv _ _ (fun st' a' w' g' hv' hT' => ?_))
          refine vd_ok hS hK r pl (i + 1) (i + 1) st' [] st' hr' hn' hpl' .nil rfl rfl hv' fuel _ a' w' g' ?_ ?_ hT'
          · have := hL.set s1
            refine ⟨this.size, fun k hk => by
              rw [this.at_ k hk]
              by_cases q : k = i
              · subst q; simp [ins, below]
              · have : (k == i) = false := by simpa using q
                simp only [ins, below, this, Bool.false_or]
                by_cases q2 : k < i
                · have : k < i + 1 := by omega
                  simp [q2, this]
                · have : ¬ k < i + 1 := by omega
                  simp [q2, this]⟩
          · have h1 := rem_ins (p := below i) s1 s2
            have h2 : rem ops.size (below (i + 1)) = rem ops.size (ins (below i) i) := by
              unfold rem
              refine List.countP_congr (fun k hk => ?_)
              by_cases q : k = i
              · subst q; simp [ins, below]
              · have : (k == i) = false := by simpa using q
                simp only [ins, below, this, Bool.false_or]
                by_cases q2 : k < i
                · have : k < i + 1 := by omega
                  simp [q2, this]
                · have : ¬ k < i + 1 := by omega
                  simp [q2, this]
            omega
      | false =>
        rw [vd] at hv
        simp only [cond_false] at hv
        obtain ⟨e, ⟨hc, hv'⟩, hd, hstep⟩ := veff_ok (w0 := w0) (K0 := K0) hok hv
        obtain ⟨c1, c2⟩ := chk_ok (x := ⟨j, e, rdOf cur o⟩) hg hm hc
        have hrec : RecOK P w0 K0 nt ops mk st0 l ⟨j, e, rdOf cur o⟩ := ⟨⟨o, ho, hd, by rw [← hcur]; exact hstep⟩, c1, c2⟩
        exact vd_ok hS hK r pl (j + 1) lo st0 (l ++ [⟨j, e, rdOf cur o⟩]) (cur.app e) hr' hn' hpl' (.snoc hg hj hrec) (by rw [List.length_append]; simp; omega) (by rw [appA_snoc, hcur]) hv' fuel listed a w g hL hrem hT
end
def pmask (pl : List (Nat × Bool)) (j : Nat) : Nat := ((pl[j]?).getD (0, false)).1
def pbar (pl : List (Nat × Bool)) (j : Nat) : Bool := ((pl[j]?).getD (0, false)).2
theorem vw_draw {P : Program} {w0 : World} {K0 : K0T} {nt id : Nat} {ops : Array Oper} {st : St} {Q : Exit → St → Prop} (hm : P.follows .mixedOrders = true) (pl : List (Nat × Bool)) (hS : (staticB nt ops (pmask pl) (pbar pl) && pl.length == ops.size) = true)
    (hv : vd P ops ops.toList pl 0 st [] st (Q .normal)) : VW P w0 K0 nt (.region id ops true) st Q := by
  intro a w g hT
  rw [Bool.and_eq_true, beq_iff_eq] at hS
  refine wp_region_any hm ?_
  have hT' : T w0 K0 nt st a { w with drawn := w.drawn + 1 } g :=
    hT.world (w' := { w with drawn := w.drawn + 1 }) (K' := g.K) ⟨rfl, rfl, rfl, Nat.le_refl _, fun _ _ => rfl, Nat.le_succ _⟩ ⟨fun _ _ h => h, fun _ _ _ => rfl⟩ hT.kold hT.klt (fun _ _ _ _ _ => ⟨rfl, fun _ h => h⟩)
  refine vd_ok (mk := pmask pl) (bar := pbar pl) (static_of hS.1) (fun st a w g h1 h2 => ⟨st, g, h1, h2⟩) ops.toList pl 0 0 st [] st (fun k => by simp) (by simp) (fun k hk => ?_) .nil rfl rfl hv ops.size _ a _ g ⟨by simp, fun i hi => ?_⟩ ?_ hT'
  · have hlt : k < pl.length := by rw [hS.2]; simpa using hk
    refine ⟨pl[k], by simp [hlt], ?_, ?_⟩ <;> simp [pmask, pbar, hlt]
  · rw [Array.getD_eq_getD_getElem?]; simp [below, hi]
  · unfold rem
    exact Nat.le_trans List.countP_le_length (by simp)
end Go.VL
set_option linter.unusedSimpArgs false
set_option linter.unusedVariables false
namespace Go.VL
open Go.RowKit
section
variable {P : Program} {w0 : World} {K0 : K0T} {nt : Nat}
theorem VL.draw {id : Nat} {l : List Oper} {st : St} {Q : Exit → St → Prop} (hm : P.follows .mixedOrders = true) (pl : List (Nat × Bool)) (hS : (staticB nt l.toArray (pmask pl) (pbar pl) && pl.length == l.toArray.size) = true)
    (hv : vd P l.toArray l pl 0 st [] st (Q .normal)) : VL P w0 K0 nt (.region id l.toArray true) st Q .mk .mk :=
  vw_draw hm pl hS hv
theorem T.re {st : St} {a : Act} {w : World} {g : G} {t : Nat} {s : S} (h : T w0 K0 nt st a w g) (hs : SR g w st.rs s (a.tmps.getD t undef)) : T w0 K0 nt (st.put t s) a w g := by
  refine ⟨h.below, h.k0, h.kold, h.klt, h.res, h.dis, fun t' => ?_, h.nt, h.defers, h.keep⟩
  rw [St.get_put]
  by_cases e : t = t'
  · subst e; rw [if_pos rfl]; exact hs
  · rw [if_neg e]; exact h.env t'
theorem VL.snap {c : Code} {st : St} {Q : Exit → St → Prop} (t : Nat) (h : force (tick (st.get t)) fun s => vsnap st s fun s' st' => force (tick (st'.put t s')) fun st' => VL P w0 K0 nt c st' Q .mk .mk) : VL P w0 K0 nt c st Q .mk .mk := by
  intro a w g hT
  have h' : vsnap st (st.get t) fun s' st' => VL P w0 K0 nt c (st'.put t s') Q .mk .mk := h
  obtain ⟨s', st', g', k1, k2, k3, _⟩ := vsnap_ok hT (hT.env t) h'
  exact k1 a w g' (k2.re k3)
@[simp ↓] theorem vd_nil (ops : Array Oper) (pl : List (Nat × Bool)) (j : Nat) (st0 : St) (l : List Rec) (cur : St) (K : St → Prop) : vd P ops [] pl j st0 l cur K = force (tick cur) K := by rw [vd]; rfl
@[simp ↓] theorem vd_bar (ops : Array Oper) (o : Oper) (r : List Oper) (m : Nat) (pl : List (Nat × Bool)) (j : Nat) (st0 : St) (l : List Rec) (cur : St) (K : St → Prop) :
    vd P ops (o :: r) ((m, true) :: pl) j st0 l cur K = force (tick cur) fun cur => vstepL P ops cur o fun st' => force (tick st') fun st' => vd P ops r pl (j + 1) st' [] st' K := by rw [vd]; rfl
@[simp ↓] theorem vd_op (ops : Array Oper) (o : Oper) (r : List Oper) (m : Nat) (pl : List (Nat × Bool)) (j : Nat) (st0 : St) (l : List Rec) (cur : St) (K : St → Prop) :
    vd P ops (o :: r) ((m, false) :: pl) j st0 l cur K = force (tick cur) fun cur => force (tick (rdOf cur o)) fun rd => force (tick (restr cur rd)) fun sR => veff P ops sR o fun e => force (tick e) fun e => chk m st0 l e rd = true ∧ force (tick (l ++ [⟨j, e, rd⟩])) fun l => vd P ops r pl (j + 1) st0 l (cur.app e) K := by rw [vd]; rfl
variable (ops : Array Oper) (st : St) (d : Option Nat) (ty : TypeId) (p : String) (af : Array Edge) (k : Eff → Prop)
def goE (st : St) (d : Option Nat) (s : S) (k : Eff → Prop) : Prop := s.kn st.rs = true ∧ k ⟨d, s, [], false⟩
@[simp ↓] theorem goE_eq (s : S) : goE st d s k = (s.kn st.rs = true ∧ k ⟨d, s, [], false⟩) := rfl
@[simp ↓] theorem ve_move (x : Operand) : veff P ops st ⟨d, .move x, ty, p, af, none⟩ k = force (tick (st.ev x)) fun s => goE st d s k := by rw [force_eq, tick_eq]; simp [veff, vePure, pev]
@[simp ↓] theorem ve_assign (x : Operand) : veff P ops st ⟨d, .assign x, ty, p, af, none⟩ k = force (tick (st.ev x)) fun s => goE st d s k := by rw [force_eq, tick_eq]; simp [veff, vePure, pev]
@[simp ↓] theorem ve_binOp (o : BinOp) (t yt : TypeId) (x y : Operand) : veff P ops st ⟨d, .binOp o t x y yt, ty, p, af, none⟩ k = force (tick (pbinQ P st o t y (st.ev x) (st.ev y))) fun r => goS r fun s => goE st d s k := rfl
@[simp ↓] theorem ve_unOp (o : UnOp) (t : TypeId) (x : Operand) : veff P ops st ⟨d, .unOp o t x, ty, p, af, none⟩ k = force (tick (pun o (st.ev x))) fun r => goS r fun s => goE st d s k := rfl
@[simp ↓] theorem ve_makeInterface (t : TypeId) (x : Operand) : veff P ops st ⟨d, .makeInterface t x, ty, p, af, none⟩ k = force (tick (pmkI P t (st.ev x))) fun r => goS r fun s => goE st d s k := rfl
@[simp ↓] theorem ve_convert (a b : TypeId) (x : Operand) : veff P ops st ⟨d, .convert a b x, ty, p, af, none⟩ k = force (tick (pconv P st a b (st.ev x))) fun r => goS r fun s => goE st d s k := rfl
@[simp ↓] theorem ve_fieldAddr (t : TypeId) (x : Operand) (f : Nat) : veff P ops st ⟨d, .fieldAddr t x f, ty, p, af, none⟩ k = force (tick (pfieldAddr P st t f (st.ev x))) fun r => goS r fun s => goE st d s k := rfl
@[simp ↓] theorem ve_field (t : TypeId) (x : Operand) (f : Nat) : veff P ops st ⟨d, .field t x f, ty, p, af, none⟩ k = force (tick (pfield P t f (st.ev x))) fun r => goS r fun s => goE st d s k := rfl
@[simp ↓] theorem ve_indexAddr (t : TypeId) (x i : Operand) : veff P ops st ⟨d, .indexAddr t x i, ty, p, af, none⟩ k = force (tick (pindexAddr P st t (st.ev x) (st.ev i))) fun r => goS r fun s => goE st d s k := rfl
@[simp ↓] theorem ve_index (t : TypeId) (x i : Operand) : veff P ops st ⟨d, .index t x i, ty, p, af, none⟩ k = force (tick (pindex P t (st.ev x) (st.ev i))) fun r => goS r fun s => goE st d s k := rfl
@[simp ↓] theorem ve_nilCheck (x : Operand) : veff P ops st ⟨d, .nilCheck x, ty, p, af, none⟩ k = force (tick (pnil st (st.ev x))) fun r => goS r fun s => goE st d s k := rfl
@[simp ↓] theorem ve_extract (x : Operand) (n : Nat) : veff P ops st ⟨d, .extract x n, ty, p, af, none⟩ k = force (tick (pext n (st.ev x))) fun r => goS r fun s => goE st d s k := rfl
@[simp ↓] theorem ve_load (t : TypeId) (x : Operand) : veff P ops st ⟨d, .load t x, ty, p, af, none⟩ k = force (tick (pload P st t (st.ev x))) fun r => goS r fun s => goE st d s k := rfl
@[simp ↓] theorem ve_slice (t : TypeId) (x : Operand) (lo hi mx : Option Operand) : veff P ops st ⟨d, .slice t x lo hi mx, ty, p, af, none⟩ k = force (tick (pslice P t (st.ev x) (lo.map st.ev) (hi.map st.ev) (mx.map st.ev))) fun r => goS r fun s => goE st d s k := rfl
@[simp ↓] theorem ve_build (t : TypeId) (parts : List (Nat × Operand)) : veff P ops st ⟨d, .build t parts.toArray, ty, p, af, none⟩ k = force (tick (pbuild P t (parts.map fun p => (p.1, st.ev p.2)))) fun r => goS r fun s => goE st d s k := rfl
@[simp ↓] theorem ve_makeFunc (f : FuncId) : veff P ops st ⟨d, .makeFunc (.func f) #[] #[], ty, p, af, none⟩ k = goE st d (.c (.fn f [])) k := by
  simp [veff, vePure, pev]
@[simp ↓] theorem ve_len (t : TypeId) (x : Operand) : veff P ops st ⟨d, .call ⟨.builtin .len, #[x], #[t]⟩, ty, p, af, none⟩ k = force (tick (plen P st t (st.ev x))) fun r => goS r fun s => goE st d s k := rfl
@[simp ↓] theorem ve_max (ts : Array TypeId) (x : Operand) (r : List Operand) : veff P ops st ⟨d, .call ⟨.builtin .max, ⟨x :: r⟩, ts⟩, ty, p, af, none⟩ k = force (tick (pmm true (st.ev x) (r.map st.ev))) fun r => goS r fun s => goE st d s k := rfl
@[simp ↓] theorem ve_min (ts : Array TypeId) (x : Operand) (r : List Operand) : veff P ops st ⟨d, .call ⟨.builtin .min, ⟨x :: r⟩, ts⟩, ty, p, af, none⟩ k = force (tick (pmm false (st.ev x) (r.map st.ev))) fun r => goS r fun s => goE st d s k := rfl
@[simp ↓] theorem ve_pick (c x y : Operand) : veff P ops st ⟨d, .pick c x y, ty, p, af, none⟩ k = force (tick (vpick true (st.ev c) (st.ev x) (st.ev y))) fun r => goS r fun s => goE st d s k := by
  rw [force_eq, tick_eq]; simp [veff, PStep, gflag, wrapg, goS]
@[simp ↓] theorem ve_alloc (t : TypeId) : veff P ops st ⟨d, .alloc t, ty, p, af, none⟩ k = veAlloc P d t k := rfl
@[simp ↓] theorem ve_store (t : TypeId) (x y : Operand) : veff P ops st ⟨d, .store t x y, ty, p, af, none⟩ k = force (tick (st.ev x)) fun x => force (tick (st.ev y)) fun y => veStore P st t x y k := rfl
def veApO (r : Option Res) (s B i n y : Nat) (ys : List (List C)) (kl : List (Nat × Res)) (k : Eff → Prop) : Prop :=
  match r with
  | some (.arr nil sz xs fx) => kl.all (fun p => p.1 != 64 * y && p.1 != i) = true ∧ (i != 64 * y) = true ∧ xs.length = n ∧ (nil = false → sz = s) ∧ (∀ e ∈ ys, e.length = s) ∧ 0 < B ∧ (xs.length + ys.length) * B ≤ 140737488355328 ∧
      k ⟨some y, .own (64 * y) (n + ys.length), kl ++ [(i, dead), (64 * y, .arr (nil && ys.isEmpty) s (xs ++ ys) fx)], true⟩
  | _ => False
@[simp ↓] theorem veApO_arr (nil : Bool) (sz : Nat) (xs : List (List C)) (fx s B i n y : Nat) (ys : List (List C)) (kl : List (Nat × Res)) : veApO (some (.arr nil sz xs fx)) s B i n y ys kl k =
  (kl.all (fun p => p.1 != 64 * y && p.1 != i) = true ∧ (i != 64 * y) = true ∧ xs.length = n ∧ (nil = false → sz = s) ∧ (∀ e ∈ ys, e.length = s) ∧ 0 < B ∧ (xs.length + ys.length) * B ≤ 140737488355328 ∧
      k ⟨some y, .own (64 * y) (n + ys.length), kl ++ [(i, dead), (64 * y, .arr (nil && ys.isEmpty) s (xs ++ ys) fx)], true⟩) := rfl
def veApX (d : S) (o : Option (List (List C) × List (Nat × Res))) (st : St) (s B y : Nat) (k : Eff → Prop) : Prop :=
  match o with
  | some (ys, kl) =>
    match d with
    | .c (.sl true []) => kl.all (fun p => p.1 != 64 * y) = true ∧ (∀ e ∈ ys, e.length = s) ∧ 0 < B ∧ ys.length * B ≤ 140737488355328 ∧ k ⟨some y, .own (64 * y) ys.length, kl ++ [(64 * y, .arr ys.isEmpty s ys 0)], true⟩
    | .own i n => veApO (st.rs i) s B i n y ys kl k
    | _ => False
  | none => False
@[simp ↓] theorem veApX_nil (ys : List (List C)) (kl : List (Nat × Res)) (s B y : Nat) : veApX (.c (.sl true [])) (some (ys, kl)) st s B y k =
  (kl.all (fun p => p.1 != 64 * y) = true ∧ (∀ e ∈ ys, e.length = s) ∧ 0 < B ∧ ys.length * B ≤ 140737488355328 ∧ k ⟨some y, .own (64 * y) ys.length, kl ++ [(64 * y, .arr ys.isEmpty s ys 0)], true⟩) := rfl
@[simp ↓] theorem veApX_own (i n : Nat) (ys : List (List C)) (kl : List (Nat × Res)) (s B y : Nat) : veApX (.own i n) (some (ys, kl)) st s B y k = force (tick (st.rs i)) fun r => veApO r s B i n y ys kl k := rfl
def veApT (z : Option (Nat × Nat)) (d x : S) (st : St) (y : Nat) (k : Eff → Prop) : Prop :=
  match z with
  | some (s, B) => force (tick (veOpd st x)) fun o => veApX d o st s B y k
  | none => False
@[simp ↓] theorem veApT_some (s B : Nat) (d x : S) (y : Nat) : veApT (some (s, B)) d x st y k = force (tick (veOpd st x)) fun o => veApX d o st s B y k := rfl
def veOpR (r : Option Res) (j m : Nat) : Option (List (List C) × List (Nat × Res)) :=
  match r with
  | some (.arr _ _ ys _) => if ys.length = m then some (ys, [(j, dead)]) else none
  | _ => none
@[simp] theorem veOpR_arr (nil : Bool) (sz : Nat) (ys : List (List C)) (fx j m : Nat) : veOpR (some (.arr nil sz ys fx)) j m = if ys.length = m then some (ys, [(j, dead)]) else none := rfl
@[simp] theorem veOpd_c (nil : Bool) (ys : List (List C)) : veOpd st (.c (.sl nil ys)) = some (ys, []) := rfl
@[simp] theorem veOpd_own (j m : Nat) : veOpd st (.own j m) = veOpR (st.rs j) j m := rfl
@[simp ↓] theorem ve_append (t xt : TypeId) (x z : Operand) (y : Nat) : veff P ops st ⟨some y, .call ⟨.builtin .append, #[x, z], #[t, xt]⟩, ty, p, af, none⟩ k =
    force (tick (st.ev x)) fun x => force (tick (st.ev z)) fun z => force (tick (apT P t xt)) fun q => veApT q x z st y k := by
  show veAppend P (some y) st t xt (st.ev x) (st.ev z) k = veApT (apT P t xt) (st.ev x) (st.ev z) st y k
  unfold veAppend apT veApT
  cases slT P t with
  | none => rfl
  | some q =>
    obtain ⟨s, B⟩ := q
    cases P.underlying xt with
    | none => rfl
    | some de =>
      cases de with
      | slice e =>
        simp only [force, tick]
        cases veOpd st (st.ev z) with
        | none => rfl
        | some o => obtain ⟨ys, kl⟩ := o; rfl
      | _ => rfl
def veBO (out : Option (List C)) (s : Nat) (zc : List C) (len x : Nat) (ss : List S) (k : Eff → Prop) : Prop :=
  match out with
  | some out => ss.all dataS = true ∧ zc.length = s ∧ len * s ≤ 16777216 ∧ 0 < s ∧ len ≤ maxLen ∧ k ⟨some x, .own (64 * x) len, [(64 * x, .arr false s (chunks s len out) 0)], true⟩
  | none => False
@[simp ↓] theorem veBO_some (out : List C) (s : Nat) (zc : List C) (len x : Nat) (ss : List S) : veBO (some out) s zc len x ss k = (ss.all dataS = true ∧ zc.length = s ∧ len * s ≤ 16777216 ∧ 0 < s ∧ len ≤ maxLen ∧ k ⟨some x, .own (64 * x) len, [(64 * x, .arr false s (chunks s len out) 0)], true⟩) := rfl
def veBZ (z : Option (Nat × List C)) (len x : Nat) (is : List Nat) (ss : List S) (k : Eff → Prop) : Prop :=
  match z with
  | some (s, zc) => force (tick (pfill (.inr s) (List.replicate len zc).flatten (is.zip ss))) fun out => veBO out s zc len x ss k
  | none => False
@[simp ↓] theorem veBZ_some (s : Nat) (zc : List C) (len x : Nat) (is : List Nat) (ss : List S) : veBZ (some (s, zc)) len x is ss k = force (tick (pfill (.inr s) (List.replicate len zc).flatten (is.zip ss))) fun out => veBO out s zc len x ss k := rfl
@[simp ↓] theorem ve_buildSlice (t : TypeId) (n x : Nat) (parts : List (Nat × Operand)) : veff P ops st ⟨some x, .buildSlice t n parts.toArray, ty, p, af, none⟩ k =
    force (tick (parts.map fun q => st.ev q.2)) fun ss => force (tick (elZ P t)) fun z => veBZ z n x (parts.map (·.1)) ss k := by
  show veBuild P (some x) t n (parts.map fun q => (q.1, st.ev q.2)) k = veBZ (elZ P t) n x (parts.map (·.1)) (parts.map fun q => st.ev q.2) k
  have e1 : (parts.map fun q => (q.1, st.ev q.2)).map (·.2) = parts.map fun q => st.ev q.2 := by simp [Function.comp_def]
  have e2 : (parts.map fun q => (q.1, st.ev q.2)).map (·.1) = parts.map (·.1) := by simp [Function.comp_def]
  unfold veBuild elZ veBZ force tick veBO
  rw [e1, e2]
  cases P.underlying t with
  | none => rfl
  | some de =>
    cases de with
    | slice e =>
      simp only
      cases tySz P e with
      | none => rfl
      | some y =>
        obtain ⟨b, s⟩ := y
        cases zeroOf P e with
        | none => rfl
        | some z =>
          simp only
          cases cellsS (ofConst z) <;> rfl
    | _ => rfl
def veC (P : Program) (st : St) (d : Option Nat) (f : S) (args : List S) (k : Eff → Prop) : Prop := veCall P st d f args k
def isBS : Op → Bool
  | .buildSlice .. => true
  | .call c => match c.callee with
    | .value _ => true
    | _ => false
  | _ => false
theorem ve_guard (op : Op) (x : Nat) (g : Nat × Bool) (h : isBS op = false) : veff P ops st ⟨some x, op, ty, p, af, some g⟩ k = vstep P ops st ⟨some x, op, ty, p, af, some g⟩ fun st' => force (tick (st'.get x)) fun s => goE st (some x) s k := by
  have : ∀ o : Oper, isBS o.op = false → veGB P ops st o k = False := fun o ho => by
    unfold veGB
    split
    · rename_i e; rw [e] at ho; cases ho
    · rename_i c e
      rw [e] at ho
      split
      · rename_i f hf
        simp only [isBS, hf] at ho
        cases ho
      · rfl
    · rfl
  unfold veff vstep
  simp only [force_eq, tick_eq]
  simp [St.putd, St.get_put, this, h]
@[simp ↓] theorem veg_assign (y : Operand) (x : Nat) (g : Nat × Bool) : veff P ops st ⟨some x, .assign y, ty, p, af, some g⟩ k = vstep P ops st ⟨some x, .assign y, ty, p, af, some g⟩ fun st' => force (tick (st'.get x)) fun s => goE st (some x) s k := ve_guard (h := rfl) ..
@[simp ↓] theorem veg_move (y : Operand) (x : Nat) (g : Nat × Bool) : veff P ops st ⟨some x, .move y, ty, p, af, some g⟩ k = vstep P ops st ⟨some x, .move y, ty, p, af, some g⟩ fun st' => force (tick (st'.get x)) fun s => goE st (some x) s k := ve_guard (h := rfl) ..
@[simp ↓] theorem veg_binOp (o : BinOp) (t yt : TypeId) (y z : Operand) (x : Nat) (g : Nat × Bool) : veff P ops st ⟨some x, .binOp o t y z yt, ty, p, af, some g⟩ k = vstep P ops st ⟨some x, .binOp o t y z yt, ty, p, af, some g⟩ fun st' => force (tick (st'.get x)) fun s => goE st (some x) s k := ve_guard (h := rfl) ..
@[simp ↓] theorem veg_unOp (o : UnOp) (t : TypeId) (y : Operand) (x : Nat) (g : Nat × Bool) : veff P ops st ⟨some x, .unOp o t y, ty, p, af, some g⟩ k = vstep P ops st ⟨some x, .unOp o t y, ty, p, af, some g⟩ fun st' => force (tick (st'.get x)) fun s => goE st (some x) s k := ve_guard (h := rfl) ..
@[simp ↓] theorem veg_convert (t u : TypeId) (y : Operand) (x : Nat) (g : Nat × Bool) : veff P ops st ⟨some x, .convert t u y, ty, p, af, some g⟩ k = vstep P ops st ⟨some x, .convert t u y, ty, p, af, some g⟩ fun st' => force (tick (st'.get x)) fun s => goE st (some x) s k := ve_guard (h := rfl) ..
@[simp ↓] theorem veg_fieldAddr (t : TypeId) (y : Operand) (f : Nat) (x : Nat) (g : Nat × Bool) : veff P ops st ⟨some x, .fieldAddr t y f, ty, p, af, some g⟩ k = vstep P ops st ⟨some x, .fieldAddr t y f, ty, p, af, some g⟩ fun st' => force (tick (st'.get x)) fun s => goE st (some x) s k := ve_guard (h := rfl) ..
@[simp ↓] theorem veg_field (t : TypeId) (y : Operand) (f : Nat) (x : Nat) (g : Nat × Bool) : veff P ops st ⟨some x, .field t y f, ty, p, af, some g⟩ k = vstep P ops st ⟨some x, .field t y f, ty, p, af, some g⟩ fun st' => force (tick (st'.get x)) fun s => goE st (some x) s k := ve_guard (h := rfl) ..
@[simp ↓] theorem veg_indexAddr (t : TypeId) (y i : Operand) (x : Nat) (g : Nat × Bool) : veff P ops st ⟨some x, .indexAddr t y i, ty, p, af, some g⟩ k = vstep P ops st ⟨some x, .indexAddr t y i, ty, p, af, some g⟩ fun st' => force (tick (st'.get x)) fun s => goE st (some x) s k := ve_guard (h := rfl) ..
@[simp ↓] theorem veg_index (t : TypeId) (y i : Operand) (x : Nat) (g : Nat × Bool) : veff P ops st ⟨some x, .index t y i, ty, p, af, some g⟩ k = vstep P ops st ⟨some x, .index t y i, ty, p, af, some g⟩ fun st' => force (tick (st'.get x)) fun s => goE st (some x) s k := ve_guard (h := rfl) ..
@[simp ↓] theorem veg_load (t : TypeId) (y : Operand) (x : Nat) (g : Nat × Bool) : veff P ops st ⟨some x, .load t y, ty, p, af, some g⟩ k = vstep P ops st ⟨some x, .load t y, ty, p, af, some g⟩ fun st' => force (tick (st'.get x)) fun s => goE st (some x) s k := ve_guard (h := rfl) ..
@[simp ↓] theorem veg_extract (y : Operand) (n : Nat) (x : Nat) (g : Nat × Bool) : veff P ops st ⟨some x, .extract y n, ty, p, af, some g⟩ k = vstep P ops st ⟨some x, .extract y n, ty, p, af, some g⟩ fun st' => force (tick (st'.get x)) fun s => goE st (some x) s k := ve_guard (h := rfl) ..
@[simp ↓] theorem veg_slice (t : TypeId) (y : Operand) (lo hi mx : Option Operand) (x : Nat) (g : Nat × Bool) : veff P ops st ⟨some x, .slice t y lo hi mx, ty, p, af, some g⟩ k = vstep P ops st ⟨some x, .slice t y lo hi mx, ty, p, af, some g⟩ fun st' => force (tick (st'.get x)) fun s => goE st (some x) s k := ve_guard (h := rfl) ..
@[simp ↓] theorem veg_build (t : TypeId) (parts : Array (Nat × Operand)) (x : Nat) (g : Nat × Bool) : veff P ops st ⟨some x, .build t parts, ty, p, af, some g⟩ k = vstep P ops st ⟨some x, .build t parts, ty, p, af, some g⟩ fun st' => force (tick (st'.get x)) fun s => goE st (some x) s k := ve_guard (h := rfl) ..
@[simp ↓] theorem veg_nilCheck (y : Operand) (x : Nat) (g : Nat × Bool) : veff P ops st ⟨some x, .nilCheck y, ty, p, af, some g⟩ k = vstep P ops st ⟨some x, .nilCheck y, ty, p, af, some g⟩ fun st' => force (tick (st'.get x)) fun s => goE st (some x) s k := ve_guard (h := rfl) ..
@[simp ↓] theorem veg_pick (y z v : Operand) (x : Nat) (g : Nat × Bool) : veff P ops st ⟨some x, .pick y z v, ty, p, af, some g⟩ k = vstep P ops st ⟨some x, .pick y z v, ty, p, af, some g⟩ fun st' => force (tick (st'.get x)) fun s => goE st (some x) s k := ve_guard (h := rfl) ..
@[simp ↓] theorem veg_box (t : TypeId) (y : Operand) (x : Nat) (g : Nat × Bool) : veff P ops st ⟨some x, .box t y, ty, p, af, some g⟩ k = vstep P ops st ⟨some x, .box t y, ty, p, af, some g⟩ fun st' => force (tick (st'.get x)) fun s => goE st (some x) s k := ve_guard (h := rfl) ..
@[simp ↓] theorem veg_makeFunc (f : Fn) (y z : Array Operand) (x : Nat) (g : Nat × Bool) : veff P ops st ⟨some x, .makeFunc f y z, ty, p, af, some g⟩ k = vstep P ops st ⟨some x, .makeFunc f y z, ty, p, af, some g⟩ fun st' => force (tick (st'.get x)) fun s => goE st (some x) s k := ve_guard (h := rfl) ..
@[simp ↓] theorem veg_builtin (b : Builtin) (args : Array Operand) (ts : Array TypeId) (x : Nat) (g : Nat × Bool) : veff P ops st ⟨some x, .call ⟨.builtin b, args, ts⟩, ty, p, af, some g⟩ k = vstep P ops st ⟨some x, .call ⟨.builtin b, args, ts⟩, ty, p, af, some g⟩ fun st' => force (tick (st'.get x)) fun s => goE st (some x) s k := ve_guard (h := rfl) ..
def VGO (P : Program) (ops : Array Oper) (st : St) (o : Oper) (k : Eff → Prop) (_ : Keep k) : Prop := veff P ops st o k
def vegQ (P : Program) (ops : Array Oper) (st : St) (o : Oper) (x : Nat) (k : Eff → Prop) : Bool → Prop
  | true => VGO P ops st o k .mk
  | false => vstep P ops st o fun st' => force (tick (st'.get x)) fun s => goE st (some x) s k
@[simp ↓] theorem vegQ_true (o : Oper) (x : Nat) : vegQ P ops st o x k true = VGO P ops st o k .mk := rfl
@[simp ↓] theorem vegQ_false (o : Oper) (x : Nat) : vegQ P ops st o x k false = vstep P ops st o fun st' => force (tick (st'.get x)) fun s => goE st (some x) s k := rfl
@[simp ↓] theorem veg_value (f : Operand) (args : List Operand) (ts : Array TypeId) (x : Nat) (g : Nat × Bool) : veff P ops st ⟨some x, .call ⟨.value f, args.toArray, ts⟩, ty, p, af, some g⟩ k = force (tick (args.any fun y => lendS (peel (st.ev y)))) fun q => vegQ P ops st ⟨some x, .call ⟨.value f, args.toArray, ts⟩, ty, p, af, some g⟩ x k q := by
  rw [force_eq, tick_eq]
  cases h : args.any fun y => lendS (peel (st.ev y)) with
  | true => rfl
  | false =>
    have : veGB P ops st ⟨some x, .call ⟨.value f, args.toArray, ts⟩, ty, p, af, some g⟩ k = False := by
      unfold veGB
      simp only [List.any_map, eq_iff_iff, iff_false, not_and]
      intro e
      exfalso
      rw [Function.comp_def] at e
      rw [h] at e
      cases e
    rw [vegQ_false]
    unfold veff vstep
    simp only [force_eq, tick_eq]
    simp [St.putd, St.get_put, this]
theorem VGO.own {f : Operand} {args : List Operand} {ts : Array TypeId} {x j : Nat} {want : Bool} (hl : (args.any fun y => lendS (peel (st.ev y))) = true) (h1 : gsl ops st j want = some true) (h2 : ((f :: args).all fun y => flagOf (st.ev y)) = true)
    (h : force (tick (peel (st.ev f))) fun f => force (tick (args.map fun y => peel (st.ev y))) fun args => veC P st (some x) f args k) : VGO P ops st ⟨some x, .call ⟨.value f, args.toArray, ts⟩, ty, p, af, some (j, want)⟩ k .mk := by
  unfold VGO veff
  refine .inr ?_
  unfold veGB
  rw [← gsl_eq] at h1
  refine ⟨?_, h1, ?_, h⟩
  · simpa [List.any_map, Function.comp_def] using hl
  · simpa [Op.operands, Call.operands] using h2
theorem VGO.not {o : Oper} {x : Nat} (h : PStep P ops st o fun s => s.kn st.rs = true ∧ k ⟨o.dst, s, [], false⟩) {g : Nat × Bool} (hg : o.guard = some g) : VGO P ops st o k .mk := by
  unfold VGO veff
  split <;> first | (rename_i e _ ; rw [e] at hg; cases hg) | (rename_i e _ _ _ _ _; rw [e] at hg; cases hg) | exact .inl h | skip
  all_goals (simp_all)
@[simp ↓] theorem veg_alloc (t : TypeId) (x : Nat) (g : Nat × Bool) : veff P ops st ⟨some x, .alloc t, ty, p, af, some g⟩ k = vstep P ops st ⟨some x, .alloc t, ty, p, af, some g⟩ fun st' => force (tick (st'.get x)) fun s => goE st (some x) s k := ve_guard (h := rfl) ..
@[simp ↓] theorem ve_buildSlice_no (t : TypeId) (n x : Nat) (parts : Array (Nat × Operand)) (j : Nat) (want : Bool) (h : gsl ops st j want = some false) : veff P ops st ⟨some x, .buildSlice t n parts, ty, p, af, some (j, want)⟩ k = goE st (some x) (.g false .un) k := by
  rw [← gsl_eq] at h
  simp [veff, veGB, PStep, h, pev, no, wrapg]
@[simp ↓] theorem ve_buildSlice_yes (t : TypeId) (n x : Nat) (parts : List (Nat × Operand)) (j : Nat) (want : Bool) (h : gsl ops st j want = some true) : veff P ops st ⟨some x, .buildSlice t n parts.toArray, ty, p, af, some (j, want)⟩ k =
    ((parts.all fun q => flagOf (st.ev q.2)) = true ∧ force (tick (parts.map fun q => peel (st.ev q.2))) fun ss => force (tick (elZ P t)) fun z => veBZ z n x (parts.map (·.1)) ss k) := by
  have e : veBuild P (some x) t n (parts.map fun q => (q.1, peel (st.ev q.2))) k = veBZ (elZ P t) n x (parts.map (·.1)) (parts.map fun q => peel (st.ev q.2)) k := by
    have e1 : (parts.map fun q => (q.1, peel (st.ev q.2))).map (·.2) = parts.map fun q => peel (st.ev q.2) := by simp [Function.comp_def]
    have e2 : (parts.map fun q => (q.1, peel (st.ev q.2))).map (·.1) = parts.map (·.1) := by simp [Function.comp_def]
    unfold veBuild elZ veBZ force tick veBO
    rw [e1, e2]
    cases P.underlying t with
    | none => rfl
    | some de =>
      cases de with
      | slice e =>
        simp only
        cases tySz P e with
        | none => rfl
        | some y =>
          obtain ⟨b, s⟩ := y
          cases zeroOf P e with
          | none => rfl
          | some z =>
            simp only
            cases cellsS (ofConst z) <;> rfl
      | _ => rfl
  rw [force_eq, tick_eq, force_eq, tick_eq, ← e]
  rw [← gsl_eq] at h
  simp [veff, veGB, PStep, h, pev, no, Op.operands, Function.comp_def]
def VCE (P : Program) (fid : FuncId) (args : List S) (dst : Option Nat) (k : Eff → Prop) (_ : Keep k) : Prop := ∃ rs, Con P fid args rs ∧ k (retEff dst rs)
theorem VCE.mk {fid : FuncId} {args : List S} {dst : Option Nat} {k : Eff → Prop} {m : Keep k} (rs : List Rt) (h : Con P fid args rs) (hk : k (retEff dst rs)) : VCE P fid args dst k m := ⟨rs, h, hk⟩
@[simp ↓] theorem veC_fn (fid : FuncId) (caps : List C) (args : List S) : veC P st d (.c (.fn fid caps)) args k = vopd st args fun args l st' => (frozenDs st' args).2 ∧ VCE P fid (tick ((frozenDs st' args).1 ++ caps.map .c)) d (fun e => k (addE l e)) .mk := by
  unfold veC veCall
  refine congrArg _ (funext fun args => funext fun l => funext fun st' => ?_)
  simp only [VCE, pcall, tick]
  apply propext
  constructor
  · rintro ⟨rs, ⟨h1, h2⟩, h3⟩; exact ⟨h1, rs, h2, h3⟩
  · rintro ⟨h1, rs, h2, h3⟩; exact ⟨rs, ⟨h1, h2⟩, h3⟩
@[simp ↓] theorem vopd_nil (kk : List S → List (Nat × Res) → St → Prop) : vopd st [] kk = kk [] [] st := rfl
@[simp ↓] theorem vopd_c (x : C) (r : List S) (kk : List S → List (Nat × Res) → St → Prop) : vopd st (.c x :: r) kk = vopd st r fun a l st' => kk (.c x :: a) l st' := rfl
@[simp ↓] theorem vopd_agg (x : List C) (r : List S) (kk : List S → List (Nat × Res) → St → Prop) : vopd st (.agg x :: r) kk = vopd st r fun a l st' => kk (.agg x :: a) l st' := rfl
@[simp ↓] theorem vopd_ptr (i o : Nat) (r : List S) (kk : List S → List (Nat × Res) → St → Prop) : vopd st (.ptr i o :: r) kk = vopd st r fun a l st' => kk (.ptr i o :: a) l st' := rfl
@[simp ↓] theorem vopd_ep (i n j o : Nat) (r : List S) (kk : List S → List (Nat × Res) → St → Prop) : vopd st (.ep i n j o :: r) kk = vopd st r fun a l st' => kk (.ep i n j o :: a) l st' := rfl
@[simp ↓] theorem vopd_g (b : Bool) (s : S) (r : List S) (kk : List S → List (Nat × Res) → St → Prop) : vopd st (.g b s :: r) kk = vopd st r fun a l st' => kk (.g b s :: a) l st' := rfl
@[simp ↓] theorem vopd_fnp (f : FuncId) (ss : List S) (r : List S) (kk : List S → List (Nat × Res) → St → Prop) : vopd st (.fnp f ss :: r) kk = vopd st r fun a l st' => kk (.fnp f ss :: a) l st' := rfl
@[simp ↓] theorem vopd_st (ss : List S) (r : List S) (kk : List S → List (Nat × Res) → St → Prop) : vopd st (.st ss :: r) kk = vopd st r fun a l st' => kk (.st ss :: a) l st' := rfl
def vopdO (q : Option Res) (st : St) (j m : Nat) (r : List S) (kk : List S → List (Nat × Res) → St → Prop) : Prop :=
  match q with
  | some (.arr nil _ ys _) => ys.length = m ∧ vopd (st.setR j (some dead)) r fun a l st' => kk (.c (.sl nil ys) :: a) ((j, dead) :: l) st'
  | _ => False
@[simp ↓] theorem vopdO_arr (nil : Bool) (sz : Nat) (ys : List (List C)) (fx j m : Nat) (r : List S) (kk : List S → List (Nat × Res) → St → Prop) : vopdO (some (.arr nil sz ys fx)) st j m r kk =
  (ys.length = m ∧ force (tick (st.setR j (some dead))) fun st2 => vopd st2 r fun a l st' => kk (.c (.sl nil ys) :: a) ((j, dead) :: l) st') := rfl
@[simp ↓] theorem vopd_own (j m : Nat) (r : List S) (kk : List S → List (Nat × Res) → St → Prop) : vopd st (.own j m :: r) kk = force (tick (st.rs j)) fun q => vopdO q st j m r kk := rfl
@[simp] theorem addE_mk (l : List (Nat × Res)) (d : Option Nat) (s : S) (rs : List (Nat × Res)) (fr : Bool) : addE l ⟨d, s, rs, fr⟩ = ⟨d, s, l ++ rs, fr⟩ := rfl
@[simp ↓] theorem ve_call (f : Operand) (args : List Operand) (ts : Array TypeId) : veff P ops st ⟨d, .call ⟨.value f, args.toArray, ts⟩, ty, p, af, none⟩ k = force (tick (st.ev f)) fun f => force (tick (args.map st.ev)) fun args => veC P st d f args k := rfl
end
@[simp] theorem app_eq (st : St) (d : Option Nat) (s : S) (rs : List (Nat × Res)) (fr : Bool) : st.app ⟨d, s, rs, fr⟩ = (st.setRs rs).putd d s := rfl
@[simp] theorem setRs_nil (st : St) : st.setRs [] = st := rfl
@[simp] theorem setRs_cons (st : St) (p : Nat × Res) (l : List (Nat × Res)) : st.setRs (p :: l) = (st.setR p.1 (some p.2)).setRs l := rfl
@[simp] theorem restr_mk (env : List (Nat × S)) (res : List (Nat × Option Res)) (rd : List Nat) : restr ⟨env, res⟩ rd = ⟨env, rss ⟨env, res⟩ rd⟩ := rfl
@[simp] theorem operands_move (x : Operand) : (Op.move x).operands = #[x] := rfl
attribute [simp] rdOf evs inners inner rss S.nm S.nms S.kn S.kns chk pairB freshB Eff.mods Eff.news news Res.isPin dead Eff.men Res.men St.cleanB cleanE cleanR tb retEff rt1 rtsE znE veAlloc veStore dataS Op.operands Call.operands
end Go.VL
set_option linter.unusedSimpArgs false
set_option linter.unusedVariables false
namespace Go.VL
open Go.RowKit
inductive FK where
  | i
  | b
  | s
def fkOf (P : Program) (t : TypeId) : Option FK :=
  match P.underlying t with
  | some (.int _) => some .i
  | some .bool => some .b
  | some .string => some .s
  | _ => none
def eqFs (P : Program) : Nat → List Field → Option (List FK)
  | _, [] => some []
  | o, f :: r => if f.name != "_" && f.offset == o then
      match fkOf P f.type, eqFs P (o + 1) r with
      | some k, some ks => some (k :: ks)
      | _, _ => none
    else none
def eqT (P : Program) (t : TypeId) : Option (List FK) :=
  match P.underlying t with
  | some (.struct fs) => if P.stoodInHeld t || P.eqGuardType P.depth t then none else eqFs P 0 fs.toList
  | _ => none
def fitK : List FK → List C → List C → Bool
  | [], [], [] => true
  | .i :: r, .v (.int k _) :: cs, .v (.int k' _) :: ds => decide (k = k') && fitK r cs ds
  | .b :: r, .v (.bool _) :: cs, .v (.bool _) :: ds => fitK r cs ds
  | .s :: r, .v (.string _) :: cs, .v (.string _) :: ds => fitK r cs ds
  | _, _, _ => false
@[simp] theorem fitK_nil : fitK [] [] [] = true := rfl
@[simp] theorem fitK_i (r : List FK) (k k' : IntKind) (a b : Int) (cs ds : List C) : fitK (.i :: r) (.v (.int k a) :: cs) (.v (.int k' b) :: ds) = (decide (k = k') && fitK r cs ds) := rfl
@[simp] theorem fitK_b (r : List FK) (a b : Bool) (cs ds : List C) : fitK (.b :: r) (.v (.bool a) :: cs) (.v (.bool b) :: ds) = fitK r cs ds := rfl
@[simp] theorem fitK_s (r : List FK) (a b : ByteArray) (cs ds : List C) : fitK (.s :: r) (.v (.string a) :: cs) (.v (.string b) :: ds) = fitK r cs ds := rfl
@[simp] theorem eqC_int (k k' : IntKind) (a b : Int) : eqC (.v (.int k a)) (.v (.int k' b)) = (a == b) := rfl
@[simp] theorem eqC_bool (a b : Bool) : eqC (.v (.bool a)) (.v (.bool b)) = (a == b) := rfl
@[simp] theorem eqC_string (a b : ByteArray) : eqC (.v (.string a)) (.v (.string b)) = decide (a = b) := rfl
@[simp] theorem eqCs_nil : eqCs [] [] = true := rfl
@[simp] theorem eqCs_cons (a b : C) (r s : List C) : eqCs (a :: r) (b :: s) = (eqC a b && eqCs r s) := rfl
theorem fitK_inv {k : FK} {ks : List FK} {cs ds : List C} (h : fitK (k :: ks) cs ds = true) : ∃ u v cs' ds', cs = C.v u :: cs' ∧ ds = C.v v :: ds' ∧ fitK ks cs' ds' = true ∧
    ((k = .i ∧ ∃ q a b, u = .int q a ∧ v = .int q b) ∨ (k = .b ∧ ∃ a b, u = .bool a ∧ v = .bool b) ∨ (k = .s ∧ ∃ a b, u = .string a ∧ v = .string b)) := by
  unfold fitK at h
  split at h
  · cases ‹k :: ks = _›
  · cases ‹k :: ks = _›
    simp only [Bool.and_eq_true, decide_eq_true_eq] at h
    obtain ⟨rfl, h⟩ := h
    exact ⟨_, _, _, _, rfl, rfl, h, .inl ⟨rfl, _, _, _, rfl, rfl⟩⟩
  · cases ‹k :: ks = _›; exact ⟨_, _, _, _, rfl, rfl, h, .inr (.inl ⟨rfl, _, _, rfl, rfl⟩)⟩
  · cases ‹k :: ks = _›; exact ⟨_, _, _, _, rfl, rfl, h, .inr (.inr ⟨rfl, _, _, rfl, rfl⟩)⟩
  · cases h
theorem eqFs_ok {P : Program} (w : World) (d : Nat) : ∀ (fs : List Field) (ks : List FK) (cs ds : List C) (o : Nat) (xs ys : Array Value) (us vs : List Value), eqFs P o fs = some ks → fitK ks cs ds = true →
    cs = us.map C.v → ds = vs.map C.v → xs.toList.drop o = us → ys.toList.drop o = vs → (Op.eqFields (d + 1) xs ys fs).run P w = .ok (eqCs cs ds) w
  | [], ks, cs, ds, o, xs, ys, us, vs, h, hf, hc, hd, hx, hy => by
    simp only [eqFs, Option.some.injEq] at h
    subst h
    unfold fitK at hf
    split at hf <;> simp_all [Op.eqFields]
  | f :: r, ks, cs, ds, o, xs, ys, us, vs, h, hf, hc, hd, hx, hy => by
    unfold eqFs at h
    split at h
    · rename_i hn
      simp only [Bool.and_eq_true, bne_iff_ne, ne_eq, beq_iff_eq] at hn
      split at h
      · rename_i k ks' hk hks
        cases h
        have step : ∀ (u v : Value) (us' vs' : List Value) (cs' ds' : List C), us = u :: us' → vs = v :: vs' → cs' = us'.map C.v → ds' = vs'.map C.v → fitK ks' cs' ds' = true → P.plainKey f.type = true → ∀ q : Bool, (Op.equalIn (d + 1) f.type u v).run P w = .ok q w →
            (Op.eqFields (d + 1) xs ys (f :: r)).run P w = .ok (q && eqCs cs' ds') w := by
          intro u v us' vs' cs' ds' e1 e2 e3 e4 hf' hp q hq
          have gx : xs[f.offset]? = some u := by
            rw [hn.2, ← Array.getElem?_toList, ← Nat.add_zero o, ← List.getElem?_drop, hx, e1]; rfl
          have gy : ys[f.offset]? = some v := by
            rw [hn.2, ← Array.getElem?_toList, ← Nat.add_zero o, ← List.getElem?_drop, hy, e2]; rfl
          have ih := eqFs_ok w d r ks' cs' ds' (o + 1) xs ys us' vs' hks hf' e3 e4 (by rw [← List.drop_drop, hx, e1]; rfl) (by rw [← List.drop_drop, hy, e2]; rfl)
          simp only [Op.eqFields, hn.1, ne_eq, not_false_eq_true, if_true, Sem.run_bind, run_part_plain w hp gx, run_part_plain w hp gy, hq, Result.andThen_ok]
          cases q
          · simp
          · simpa using ih
        obtain ⟨u, v, cs', ds', rfl, rfl, h', hkk⟩ := fitK_inv hf
        cases us with
        | nil => cases hc
        | cons u' us' =>
          cases vs with
          | nil => cases hd
          | cons v' vs' =>
            simp only [List.map_cons, List.cons.injEq, C.v.injEq] at hc hd
            obtain ⟨rfl, hc⟩ := hc
            obtain ⟨rfl, hd⟩ := hd
            rw [eqCs_cons]
            unfold fkOf at hk
            rcases hkk with ⟨rfl, q, a, b, rfl, rfl⟩ | ⟨rfl, a, b, rfl, rfl⟩ | ⟨rfl, a, b, rfl, rfl⟩
            · split at hk <;> cases hk
              rename_i q' hu
              exact step _ _ us' vs' _ _ rfl rfl hc hd h' (by simp [Program.plainKey, hu]) _ (run_equalIn_int w d _ _ _ _ _ hu)
            · split at hk <;> cases hk
              rename_i hu
              exact step _ _ us' vs' _ _ rfl rfl hc hd h' (by simp [Program.plainKey, hu]) _ (run_equalIn_bool w d _ _ _ hu)
            · split at hk <;> cases hk
              rename_i hu
              refine step _ _ us' vs' _ _ rfl rfl hc hd h' (by simp [Program.plainKey, hu]) _ ?_
              rw [run_equalIn_string w d _ _ _ hu, toList_beq]
              rfl
      · cases h
    · cases h
def aggOk (o : Option (List FK)) (cs ds : List C) : Bool :=
  match o with
  | some ks => fitK ks cs ds
  | none => false
@[simp] theorem aggOk_some (ks : List FK) (cs ds : List C) : aggOk (some ks) cs ds = fitK ks cs ds := rfl
theorem fitK_v : ∀ (ks : List FK) (cs ds : List C), fitK ks cs ds = true → ∃ us vs : List Value, cs = us.map C.v ∧ ds = vs.map C.v := by
  intro ks
  induction ks with
  | nil =>
    intro cs ds h
    unfold fitK at h
    split at h
    · exact ⟨[], [], rfl, rfl⟩
    · cases ‹([] : List FK) = _›
    · cases ‹([] : List FK) = _›
    · cases ‹([] : List FK) = _›
    · cases h
  | cons k ks ih =>
    intro cs ds h
    obtain ⟨u, v, cs', ds', rfl, rfl, h', _⟩ := fitK_inv h
    obtain ⟨us, vs, rfl, rfl⟩ := ih cs' ds' h'
    exact ⟨u :: us, v :: vs, rfl, rfl⟩
theorem aggEq_ok {P : Program} {t : TypeId} {cs ds : List C} (h : aggOk (eqT P t) cs ds = true) : AggEq P t cs ds := by
  unfold aggOk at h
  split at h
  · rename_i ks hks
    obtain ⟨us, vs, e1, e2⟩ := fitK_v ks cs ds h
    refine ⟨us, vs, e1, e2, fun w x y => ?_⟩
    unfold eqT at hks
    split at hks
    · rename_i fs hu
      split at hks
      · cases hks
      · rename_i hg
        simp only [Bool.or_eq_true, not_or, Bool.not_eq_true] at hg
        have hfs : P.fieldsOf t = fs := by simp [Program.fieldsOf, hu]
        have main : (Op.equal t (.agg us.toArray) (.agg vs.toArray)).run P w = .ok (eqCs cs ds) w := by
          show (Op.equalIn (9999 + 1) t (.agg us.toArray) (.agg vs.toArray)).run P w = _
          rw [run_equalIn_struct w 9999 t _ _ (by rw [hfs]; exact hu) hg.1, hfs]
          exact eqFs_ok w 9998 fs.toList ks cs ds 0 us.toArray vs.toArray us vs hks h e1 e2 rfl rfl
        have b1 : (binOp .eql t (.agg us.toArray) (.agg vs.toArray)) = (do pure (.bool (← Op.equal t (.agg us.toArray) (.agg vs.toArray))) : Sem Value) := rfl
        have b2 : (binOp .neq t (.agg us.toArray) (.agg vs.toArray)) = (do pure (.bool (!(← Op.equal t (.agg us.toArray) (.agg vs.toArray)))) : Sem Value) := rfl
        constructor
        · rw [b1]
          simp [eqGuard, Sem.run_bind, run_program, hg.2, main]
        · rw [b2]
          simp [eqGuard, Sem.run_bind, run_program, hg.2, main]
    · cases hks
  · cases h
@[simp] theorem aggEq_simp {P : Program} {t : TypeId} {cs ds : List C} (h : aggOk (eqT P t) cs ds = true) : AggEq P t cs ds ↔ True := ⟨fun _ => trivial, fun _ => aggEq_ok h⟩
end Go.VL
set_option linter.unusedSimpArgs false
set_option linter.unusedVariables false
namespace Go.VL
open Go.RowKit
def pinsOf (B0 : Nat) (uf : Nat → Value) : Nat → List S → List (Nat × Option Res)
  | _, [] => []
  | k, s :: r => (B0 + k, some (.pin (uf k) s)) :: pinsOf B0 uf (k + 1) r
def initB (B0 : Nat) (args : List S) (b : List (Nat × Res)) (uf : Nat → Value) : St := ⟨initEnv 0 args, (b.map fun p => (p.1, some p.2)) ++ pinsOf B0 uf 0 args⟩
def pinsEnd (B0 : Nat) (st : St) (uf : Nat → Value) : Nat → List S → Prop
  | _, [] => True
  | k, s :: r => st.rs (B0 + k) = some (.pin (uf k) s) ∧ pinsEnd B0 st uf (k + 1) r
def resEnd (st : St) : List (Nat × Res) → Prop
  | [] => True
  | p :: r => st.rs p.1 = some p.2 ∧ resEnd st r
def retQB (B0 : Nat) (P : Program) (fn : Func) (rs as1 : List S) (b' : List (Nat × Res)) (uf : Nat → Value) : Exit → St → Prop
  | .normal, st => rvs P st fn.results.toList fun ss st' => ss = rs ∧ resEnd st' b' ∧ pinsEnd B0 st' uf 0 as1
  | .ret, st => rvs P st fn.results.toList fun ss st' => ss = rs ∧ resEnd st' b' ∧ pinsEnd B0 st' uf 0 as1
  | _, _ => False
theorem look_pins (B0 : Nat) (uf : Nat → Value) : ∀ (l : List S) (k i : Nat) , vlook none (pinsOf B0 uf k l) i = if h : B0 + k ≤ i ∧ i < B0 + k + l.length then some (.pin (uf (i - B0)) (l[i - B0 - k]'(by omega))) else none
  | [], k, i => by simp [pinsOf]
  | s :: r, k, i => by
    rw [pinsOf, vlook, look_pins B0 uf r (k + 1) i]
    by_cases h : B0 + k = i
    · subst h
      simp
    · have h' : (B0 + k == i) = false := by simpa using h
      rw [h', cond_false]
      by_cases h2 : B0 + (k + 1) ≤ i ∧ i < B0 + (k + 1) + r.length
      · rw [dif_pos h2, dif_pos (by simp only [List.length_cons]; omega)]
        congr 2
        have : i - B0 - k = (i - B0 - (k + 1)) + 1 := by omega
        simp only [this, List.getElem_cons_succ]
      · rw [dif_neg h2, dif_neg (by simp only [List.length_cons]; omega)]
theorem look_lk (b : List (Nat × Res)) (l : List (Nat × Option Res)) (i : Nat) : vlook none ((b.map fun p => (p.1, some p.2)) ++ l) i = if (lk b i).isSome then lk b i else vlook none l i := by
  induction b with
  | nil => simp [lk]
  | cons p b ih =>
    unfold lk at ih ⊢
    simp only [List.map_cons, List.cons_append, vlook]
    cases p.1 == i with
    | true => simp
    | false => simpa using ih
theorem lk_lt {B0 : Nat} {b : List (Nat × Res)} (h : ∀ p ∈ b, p.1 < B0) {i : Nat} {r : Res} (hi : lk b i = some r) : i < B0 := h _ (lk_mem hi)
theorem rs_initB (B0 : Nat) (args : List S) (b : List (Nat × Res)) (uf : Nat → Value) (hb : ∀ p ∈ b, p.1 < B0) (i : Nat) : (initB B0 args b uf).rs i = if i < B0 then lk b i else (args[i - B0]?).map fun s => .pin (uf (i - B0)) s := by
  unfold St.rs initB
  rw [look_lk, look_pins]
  by_cases hi : i < B0
  · rw [if_pos hi]
    cases h : lk b i with
    | none => rw [if_neg (by simp), dif_neg (by omega)]
    | some r => rw [if_pos (by simp)]
  · rw [if_neg hi]
    have : lk b i = none := by
      cases h : lk b i with
      | none => rfl
      | some r => exact absurd (lk_lt hb h) hi
    rw [this, if_neg (by simp)]
    by_cases h2 : i - B0 < args.length
    · rw [dif_pos (by omega), List.getElem?_eq_getElem h2]; rfl
    · rw [dif_neg (by omega), List.getElem?_eq_none (by omega)]; rfl
theorem resEnd_ok {st : St} : ∀ {b : List (Nat × Res)}, resEnd st b → ∀ i r, lk b i = some r → st.rs i = some r
  | [], _, i, r, h => by simp [lk] at h
  | p :: b, h, i, r, hi => by
    obtain ⟨h1, h2⟩ := h
    unfold lk at hi
    simp only [List.map_cons, vlook] at hi
    cases hk : p.1 == i with
    | true => rw [hk] at hi; simp at hi hk; subst hk; subst hi; exact h1
    | false => rw [hk] at hi; exact resEnd_ok h2 i r hi
theorem pinsEnd_ok {B0 : Nat} {st : St} {uf : Nat → Value} : ∀ {l : List S} {k : Nat}, pinsEnd B0 st uf k l → ∀ j s, l[j]? = some s → st.rs (B0 + (k + j)) = some (.pin (uf (k + j)) s)
  | [], _, _, j, s, h => by simp at h
  | x :: l, k, h, j, s, hj => by
    obtain ⟨h1, h2⟩ := h
    cases j with
    | zero => simp at hj; subst hj; exact h1
    | succ j => have := pinsEnd_ok h2 j s (by simpa using hj); rw [show k + (j + 1) = k + 1 + j by omega]; exact this
section
variable {P : Program}
theorem spec_ofB (B0 : Nat) {f : FuncId} {fn : Func} {c : Code} {args rs as1 : List S} {b b' : List (Nat × Res)} (hf : P.funcs[f]? = some fn) (hb : fn.body = some c) (hc : callable P f = true) (hn : args.length ≤ fn.ntmps) (hbn : ∀ p ∈ b, p.1 < B0) (hlen : as1.length = args.length)
    (hv : ∀ w0 K0 uf, VW P w0 K0 fn.ntmps c (initB B0 args b uf) (retQB B0 P fn rs as1 b' uf)) : ConB P f args b rs as1 b' := by
  refine ⟨hc, fun w g us hM hargs => ?_⟩
  obtain ⟨hl, hs⟩ := (SRs_iff _ _).1 hargs
  let uf : Nat → Value := fun k => us.getD k undef
  let g1 : G := ⟨g.K, fun i => if i < B0 then g.loc i else undef⟩
  have hcmp : ∀ j, Cmp g (lk b) g1 (initB B0 args b uf).rs j := by
    intro j
    rw [show Cmp g (lk b) g1 (initB B0 args b uf).rs j = Cmp g (lk b) g1 (initB B0 args b uf).rs j from rfl]
    by_cases hj : j < B0
    · have e := rs_initB B0 args b uf hbn j
      rw [if_pos hj] at e
      exact Cmp.same e (by show (if j < B0 then g.loc j else undef) = _; rw [if_pos hj])
    · have e := rs_initB B0 args b uf hbn j
      rw [if_neg hj] at e
      refine ⟨fun fz ss q => ?_, fun nil sz xs fx q => ?_, fun kvs q => ?_⟩
      · rw [e] at q; cases h : args[j - B0]? <;> rw [h] at q <;> simp at q
      · rw [e] at q; cases h : args[j - B0]? <;> rw [h] at q <;> simp at q
      · rw [e] at q; cases h : args[j - B0]? <;> rw [h] at q <;> simp at q
  have hk : Keeps g.K w g1.K w := Keeps.refl _ _
  have hT : T w ⟨g.K, lent g b, []⟩ fn.ntmps (initB B0 args b uf) { tmps := us.toArray ++ Array.replicate (fn.ntmps - us.toArray.size) undef, defers := [] } w g1 := by
    refine ⟨hM.below, hM.k0, hM.kold, hM.klt, fun i r hi => ?_, fun i j ri rj hi hj hne k h1 h2 => ?_, fun t => ?_, (by simp; omega), rfl, hM.keep⟩
    · have e := rs_initB B0 args b uf hbn i
      by_cases hi2 : i < B0
      · rw [if_pos hi2] at e
        rw [e] at hi
        exact RR.mono' hk (by show (if i < B0 then g.loc i else undef) = _; rw [if_pos hi2]) (fun _ _ => ⟨rfl, fun _ k => k⟩) (fun j _ => hcmp j) (hM.res i r hi)
      · rw [if_neg hi2] at e
        rw [e] at hi
        simp only [Option.map_eq_some_iff] at hi
        obtain ⟨s, h1, rfl⟩ := hi
        refine ⟨by show (if i < B0 then g.loc i else undef) = _; rw [if_neg hi2], ?_⟩
        have hlt := (List.getElem?_eq_some_iff.1 h1).1
        refine SR.mono hk s _ (fun j _ => hcmp j) (hs _ s _ h1 ?_)
        simp only [uf, List.getD_eq_getElem?_getD]
        rw [List.getElem?_eq_getElem (by omega)]; rfl
    · have low : ∀ n r, (initB B0 args b uf).rs n = some r → ∀ k, blk (g1.loc n) = some k → n < B0 ∧ lk b n = some r ∧ blk (g.loc n) = some k := by
        intro n r hn' k hk'
        by_cases hlt : n < B0
        · rw [rs_initB B0 args b uf hbn, if_pos hlt] at hn'
          refine ⟨hlt, hn', ?_⟩
          rw [show g1.loc n = (if n < B0 then g.loc n else undef) from rfl, if_pos hlt] at hk'
          exact hk'
        · rw [show g1.loc n = (if n < B0 then g.loc n else undef) from rfl, if_neg hlt] at hk'
          cases hk'
      obtain ⟨_, a1, a2⟩ := low i ri hi k h1
      obtain ⟨_, a3, a4⟩ := low j rj hj k h2
      exact hM.dis i j ri rj a1 a3 hne k a2 a4
    · have hg : (initB B0 args b uf).get t = (args[t]?).getD .un := by
        unfold St.get initB
        rw [vlook_init]; simp
      rw [hg]
      cases e : args[t]? with
      | none => simp [SR]
      | some s =>
        have hlt := (List.getElem?_eq_some_iff.1 e).1
        refine SR.mono hk s _ (fun j _ => hcmp j) (hs t s _ e ?_)
        simp [Array.getD, hl, hlt]
        omega
  refine calls_of_wp hf hb (wp_mono (hv w _ uf _ w _ hT) fun e a' w' ⟨st', g', h1, h2⟩ => ?_)
  have fin : (rvs P st' fn.results.toList fun ss st' => ss = rs ∧ resEnd st' b' ∧ pinsEnd B0 st' uf 0 as1) → a'.defers = [] ∧ ∃ v, (results fn a'.tmps).run P w' = .ok v w' ∧
      ∃ (vs : List Value) (g' : G), (Ending.returned v) = .returned (retV vs) ∧ M w ⟨g.K, lent g b, []⟩ (lk b') w' g' ∧ SRs g' w' (lk b') rs vs ∧ SRs g' w' (lk b') as1 us := by
    intro hr
    obtain ⟨vs, ss, st'', g'', e1, ⟨rfl, e2, e2'⟩, e3, e4, e5⟩ := rvs_ok _ st' g' _ h2 hr
    have hdown : ∀ j, Cmp g'' st''.rs g'' (lk b') j := fun j => ⟨fun fz ss q => ⟨⟨fz, ss, resEnd_ok e2 j _ q⟩, rfl⟩, fun nil sz xs fx q => ⟨⟨nil, xs, fx, resEnd_ok e2 j _ q, rfl⟩, rfl⟩, fun kvs q => ⟨⟨kvs, resEnd_ok e2 j _ q, rfl⟩, rfl⟩⟩
    have hM' : M w ⟨g.K, lent g b, []⟩ (lk b') w' g'' := by
      refine ⟨e3.below, e3.k0, e3.kold, e3.klt, fun i r hi => ?_, fun i j ri rj hi hj => e3.dis i j ri rj (resEnd_ok e2 i _ hi) (resEnd_ok e2 j _ hj), e3.keep⟩
      exact RR.mono' (Keeps.refl _ _) rfl (fun _ _ => ⟨rfl, fun _ k => k⟩) (fun j _ => hdown j) (e3.res i r (resEnd_ok e2 i r hi))
    have has : SRs g'' w' (lk b') as1 us := by
      rw [SRs_iff]
      refine ⟨by omega, fun k s u q1 q2 => ?_⟩
      have h3 := e3.res _ _ (pinsEnd_ok e2' k s q1)
      have h4 := h3.2
      have : uf (0 + k) = u := by simp [uf, q2]
      rw [this] at h4
      exact SR.mono (Keeps.refl _ _) s u (fun j _ => hdown j) h4
    refine ⟨h2.defers, retV vs, ?_, vs, g'', rfl, hM', SRs.mono (Keeps.refl _ _) _ _ (fun j _ => hdown j) e4, has⟩
    have hres : results fn a'.tmps = (do let vs ← fn.results.mapM (resOf a'.tmps); pure (if h : vs.size = 1 then vs[0] else .tuple vs)) := by
      unfold results
      congr 1
    have hm : (fn.results.mapM (resOf a'.tmps)).run P w' = .ok vs.toArray w' := by
      rw [← Array.toArray_toList (xs := fn.results), List.mapM_toArray]
      simp only [Sem.run_map, e1, Result.andThen_ok]
    rw [hres, Sem.run_bind, hm, Result.andThen_ok, Sem.run_pure]
    congr 1
    cases vs with
    | nil => rfl
    | cons v r => cases r with
      | nil => rfl
      | cons _ _ => simp [retV]
  cases e with
  | normal => exact fin h1
  | ret => exact fin h1
  | _ => exact h1.elim
end
@[simp] theorem initB_eq (B0 : Nat) (args : List S) (b : List (Nat × Res)) (uf : Nat → Value) : initB B0 args b uf = ⟨initEnv 0 args, (b.map fun p => (p.1, some p.2)) ++ pinsOf B0 uf 0 args⟩ := rfl
attribute [simp] pinsOf pinsEnd resEnd retQB
end Go.VL
set_option linter.unusedSimpArgs false
set_option linter.unusedVariables false
namespace Go.VL
open Go.RowKit
abbrev i64 (n : Int) : C := .v (.int .i64 n)
abbrev u64 (n : Int) : C := .v (.int .u64 n)
abbrev bln (b : Bool) : C := .v (.bool b)
abbrev str (l : List UInt8) : C := .v (.string ⟨l.toArray⟩)
@[simp] theorem app_str (a b : Array UInt8) : ByteArray.mk a ++ ByteArray.mk b = ByteArray.mk (a ++ b) := by
  apply ByteArray.ext
  simp
@[simp] theorem size_str (l : List UInt8) : (ByteArray.mk l.toArray).size = l.length := rfl
@[simp] theorem sub_str (l : List UInt8) (a b : Nat) : (ByteArray.mk l.toArray).extract a b = ByteArray.mk ((l.take b).drop a).toArray := by
  apply ByteArray.ext
  simp [List.drop_take]
@[simp] theorem str_beq (a b : List UInt8) : ((ByteArray.mk a.toArray) == (ByteArray.mk b.toArray)) = (a == b) := by
  show (a.toArray == b.toArray) = (a == b)
  simp
@[simp] theorem str_bne (a b : List UInt8) : ((ByteArray.mk a.toArray) != (ByteArray.mk b.toArray)) = (a != b) := by
  simp [bne]
@[simp] theorem str_nil (b : List UInt8) : ((ByteArray.mk b.toArray) == (ByteArray.mk #[])) = (b == []) := str_beq b []
@[simp] theorem str_nil' (b : List UInt8) : ((ByteArray.mk b.toArray) != (ByteArray.mk #[])) = (b != []) := str_bne b []
def u8c (b : UInt8) : List C := [.v (.int .u8 b.toNat)]
@[simp] theorem len_u8c (b : UInt8) : (u8c b).length = 1 := rfl
theorem bytesOf_map (l : List UInt8) : bytesOf (l.map u8c) = some l := by
  induction l with
  | nil => rfl
  | cons b l ih =>
    have hb : (b.toNat : Int) < 256 := by have := b.toNat_lt; omega
    simp [bytesOf, ih, u8c, byteOf, hb]
@[simp] theorem bytesOf_map' (l : List UInt8) : bytesOf (l.map u8c) = some l := bytesOf_map l
@[simp] theorem bytesOf_one (b : UInt8) : bytesOf [[.v (.int .u8 b.toNat)]] = some [b] := bytesOf_map [b]
@[simp] theorem bytesOf_nil : bytesOf [] = some [] := rfl
def idxI {α : Type} (p : α → Bool) (l : List α) : Int :=
  match l.findIdx? p with
  | some i => i
  | none => -1
theorem idxI_at {α : Type} {p : α → Bool} {l : List α} {k : Nat} (hk : k < l.length) (hp : p l[k] = true) (hb : ∀ j, (hj : j < k) → p (l[j]'(by omega)) = false) : idxI p l = k := by
  unfold idxI
  have : l.findIdx? p = some k := by
    rw [List.findIdx?_eq_some_iff_getElem]
    exact ⟨hk, hp, fun j hj => by simp [hb j hj]⟩
  rw [this]
theorem idxI_none {α : Type} {p : α → Bool} {l : List α} (h : ∀ j, (hj : j < l.length) → p l[j] = false) : idxI p l = -1 := by
  unfold idxI
  have : l.findIdx? p = none := by
    rw [List.findIdx?_eq_none_iff]
    intro x hx
    obtain ⟨j, hj, rfl⟩ := List.mem_iff_getElem.1 hx
    simp [h j hj]
  rw [this]
end Go.VL
set_option linter.unusedSimpArgs false
set_option linter.unusedVariables false
namespace Go.VL
open Go.RowKit
def frzR (st : St) (i : Nat) : Option Res → St
  | some (.arr nil sz xs _) => st.setR i (some (.arr nil sz xs xs.length))
  | _ => st
def St.frz : List Nat → St → St
  | [], st => st
  | i :: r, st => St.frz r (frzR st i (st.rs i))
@[simp] theorem frz_nil (st : St) : St.frz [] st = st := rfl
@[simp] theorem frz_cons (i : Nat) (r : List Nat) (st : St) : St.frz (i :: r) st = St.frz r (frzR st i (st.rs i)) := rfl
@[simp] theorem frzR_arr (st : St) (i : Nat) (nil : Bool) (sz : Nat) (xs : List (List C)) (fx : Nat) : frzR st i (some (.arr nil sz xs fx)) = st.setR i (some (.arr nil sz xs xs.length)) := rfl
theorem T.frz {w0 : World} {K0 : K0T} {nt : Nat} {a : Act} {w : World} : ∀ (l : List Nat) {st : St} {g : G}, T w0 K0 nt st a w g → ∃ g', T w0 K0 nt (st.frz l) a w g'
  | [], st, g, h => ⟨g, h⟩
  | i :: r, st, g, h => by
    rw [frz_cons]
    cases hr : st.rs i with
    | none => exact T.frz r h
    | some x =>
      cases x with
      | arr nil sz xs fx => obtain ⟨g', h', _⟩ := h.snap hr; exact T.frz r h'
      | box _ _ => exact T.frz r h
      | pin _ _ => exact T.frz r h
      | map _ => exact T.frz r h
structure LI where
  k : Nat
  nl : Bool
  sz : Nat
end Go.VL
set_option linter.unusedSimpArgs false
set_option linter.unusedVariables false
namespace Go.VL
open Go.RowKit
theorem T.nilcell {w0 : World} {K0 : K0T} {nt : Nat} {st : St} {a : Act} {w : World} {g : G} (h : T w0 K0 nt st a w g) {i N k : Nat} {ss : List S} (_ : N ≠ i)
    (hi : ((st.clr N).setR N (some (.arr true 0 [] 0))).rs i = some (.box false ss)) (hk : ss[k]? = some (.c (.sl true []))) :
    ∃ g', T w0 K0 nt (((st.clr N).setR N (some (.arr true 0 [] 0))).setR i (some (.box false (ss.set k (.own N 0))))) a w g' := by
  obtain ⟨g1, h1, hl, _, _⟩ := h.nilR N
  refine ⟨g1, T.mod h1 hi (Bel.refl _ _ _) (Keeps.refl _ _) h1.kold h1.klt rfl (fun j r b _ _ _ => ⟨rfl, fun _ k => k⟩) (.inl ⟨_, _, _, _, rfl, rfl⟩) (fun hc => ?_)⟩
  obtain ⟨b, cur, E, e1, e2, e3, e4, e5, e6⟩ := h1.res i _ hi
  refine ⟨b, cur, E, e1, e2, e3, by simpa using e4, fun k' s hs => ?_, e6⟩
  rw [List.getElem?_set] at hs
  by_cases e : k = k'
  · subst e
    rw [if_pos rfl] at hs
    have hlt : k < ss.length := (List.getElem?_eq_some_iff.1 hk).1
    rw [if_pos hlt] at hs
    simp at hs
    subst hs
    obtain ⟨u, m1, m2, m3⟩ := e5 k _ hk
    refine ⟨u, m1, ?_, m3⟩
    rw [SR, CR] at m2
    rcases m2 with ⟨_, _, rfl⟩ | ⟨hf, _⟩
    · rw [SR]
      intro nil sz xs fx _ _
      exact hl.symm
    · simp at hf
  · rw [if_neg e] at hs
    obtain ⟨u, m1, m2, m3⟩ := e5 k' s hs
    exact ⟨u, m1, SR.mono (Keeps.refl _ _) s u (fun j _ => hc j) m2, m3⟩
def nilB (r : Option Res) (i k N : Nat) (st1 : St) (K : St → Prop) : Prop :=
  match r with
  | some (.box false ss) => ss[k]? = some (.c (.sl true [])) ∧ K (st1.setR i (some (.box false (ss.set k (.own N 0)))))
  | _ => False
@[simp] theorem nilB_box (ss : List S) (i k N : Nat) (st1 : St) (K : St → Prop) : nilB (some (.box false ss)) i k N st1 K = (ss[k]? = some (.c (.sl true [])) ∧ K (st1.setR i (some (.box false (ss.set k (.own N 0)))))) := rfl
theorem VL.nilcell {P : Program} {w0 : World} {K0 : K0T} {nt : Nat} {c : Code} {st : St} {Q : Exit → St → Prop} (i k N : Nat) (hne : N ≠ i)
    (h : force (tick ((st.clr N).setR N (some (.arr true 0 [] 0)))) fun st1 => nilB (st1.rs i) i k N st1 fun st' => force (tick st') fun st' => VL P w0 K0 nt c st' Q .mk .mk) : VL P w0 K0 nt c st Q .mk .mk := by
  intro a w g hT
  have h' : nilB (((st.clr N).setR N (some (.arr true 0 [] 0))).rs i) i k N ((st.clr N).setR N (some (.arr true 0 [] 0))) fun st' => VL P w0 K0 nt c st' Q .mk .mk := h
  unfold nilB at h'
  split at h'
  · rename_i ss hi
    obtain ⟨g', hT'⟩ := hT.nilcell hne hi h'.1
    exact h'.2 a w g' hT'
  · exact h'.elim
end Go.VL
set_option linter.unusedSimpArgs false
set_option linter.unusedVariables false
namespace Go.VL
open Go.RowKit
section
variable {P : Program} {w0 : World} {K0 : K0T} {nt : Nat} {st : St} {a : Act} {w : World} {g : G}
def someR (b : List (Nat × Res)) : List (Nat × Option Res) := b.map fun p => (p.1, some p.2)
theorem ConB.post {f : FuncId} {args rs as1 rs2 as2 : List S} {b b' b2 : List (Nat × Res)} (h : ConB P f args b rs as1 b')
    (H : ∀ w0 K0 a w g, T w0 K0 2 ⟨[(0, .tup rs), (1, .tup as1)], someR b'⟩ a w g → ∃ st2 g', T w0 K0 2 st2 a w g' ∧ st2.get 0 = .tup rs2 ∧ st2.get 1 = .tup as2 ∧ resEnd st2 b2) :
    ConB P f args b rs2 as2 b2 := by
  refine ⟨h.1, fun w g us hM hu => (h.2 w g us hM hu).mono fun e w' ⟨vs, g', he, hM', hrs, has⟩ => ?_⟩
  have hT : T w ⟨g.K, lent g b, []⟩ 2 ⟨[(0, .tup rs), (1, .tup as1)], someR b'⟩ { tmps := #[.tuple vs.toArray, .tuple us.toArray], defers := [] } w' g' := by
    refine ⟨hM'.below, hM'.k0, hM'.kold, hM'.klt, hM'.res, hM'.dis, fun t => ?_, rfl, rfl, hM'.keep⟩
    match t with
    | 0 => show SR _ _ _ (.tup rs) (.tuple vs.toArray); rw [SR]; exact ⟨vs, rfl, hrs⟩
    | 1 => show SR _ _ _ (.tup as1) (.tuple us.toArray); rw [SR]; exact ⟨us, rfl, has⟩
    | t + 2 => show SR _ _ _ .un _; rw [SR]; trivial
  obtain ⟨st2, g2, h1, h2, h3, h4⟩ := H _ _ _ _ _ hT
  have hdown : ∀ j, Cmp g2 st2.rs g2 (lk b2) j := fun j => ⟨fun fz ss q => ⟨⟨fz, ss, resEnd_ok h4 j _ q⟩, rfl⟩, fun nil sz xs fx q => ⟨⟨nil, xs, fx, resEnd_ok h4 j _ q, rfl⟩, rfl⟩, fun kvs q => ⟨⟨kvs, resEnd_ok h4 j _ q, rfl⟩, rfl⟩⟩
  refine ⟨vs, g2, he, ⟨h1.below, h1.k0, h1.kold, h1.klt, fun i r hi => ?_, fun i j ri rj hi hj => h1.dis i j ri rj (resEnd_ok h4 i _ hi) (resEnd_ok h4 j _ hj), h1.keep⟩, ?_, ?_⟩
  · exact RR.mono' (Keeps.refl _ _) rfl (fun _ _ => ⟨rfl, fun _ k => k⟩) (fun j _ => hdown j) (h1.res i r (resEnd_ok h4 i r hi))
  · have := h1.env 0
    rw [h2, show (#[Value.tuple vs.toArray, Value.tuple us.toArray] : Array Value).getD 0 undef = .tuple vs.toArray from rfl, SR] at this
    obtain ⟨vs', e, k⟩ := this
    have : vs' = vs := by simpa using e.symm
    subst this
    exact SRs.mono (Keeps.refl _ _) _ _ (fun j _ => hdown j) k
  · have := h1.env 1
    rw [h3, show (#[Value.tuple vs.toArray, Value.tuple us.toArray] : Array Value).getD 1 undef = .tuple us.toArray from rfl, SR] at this
    obtain ⟨vs', e, k⟩ := this
    have : vs' = us := by simpa using e.symm
    subst this
    exact SRs.mono (Keeps.refl _ _) _ _ (fun j _ => hdown j) k
def St.ren (τ : Nat → Nat) (st : St) : St := ⟨st.env.map fun p => (p.1, renS τ p.2), st.res.map fun p => (τ p.1, p.2.map (renR τ))⟩
theorem get_ren (τ : Nat → Nat) (st : St) (t : Nat) : (st.ren τ).get t = renS τ (st.get t) := by
  obtain ⟨env, res⟩ := st
  unfold St.get St.ren
  simp only
  induction env with
  | nil => rfl
  | cons p l ih =>
    simp only [List.map_cons, vlook]
    cases p.1 == t with
    | true => rfl
    | false => exact ih
theorem rs_ren {τ : Nat → Nat} (hτ : ∀ i, τ (τ i) = i) (st : St) (i : Nat) : (st.ren τ).rs i = (st.rs (τ i)).map (renR τ) := by
  obtain ⟨env, res⟩ := st
  unfold St.rs St.ren
  simp only
  induction res with
  | nil => rfl
  | cons p l ih =>
    simp only [List.map_cons, vlook]
    have : (τ p.1 == i) = (p.1 == τ i) := by
      rw [Bool.eq_iff_iff, beq_iff_eq, beq_iff_eq]
      exact ⟨fun e => by rw [← e, hτ], fun e => by rw [e, hτ]⟩
    rw [this]
    cases p.1 == τ i with
    | true => rfl
    | false => exact ih
theorem T.ren {τ : Nat → Nat} (hτ : ∀ i, τ (τ i) = i) (h : T w0 K0 nt st a w g) : T w0 K0 nt (st.ren τ) a w ⟨g.K, fun i => g.loc (τ i)⟩ := by
  have hR : ∀ j, Ren2 τ g ⟨g.K, fun i => g.loc (τ i)⟩ st.rs (st.ren τ).rs j := fun j => by
    refine ⟨fun r' hr' => ?_, by show g.loc (τ (τ j)) = _; rw [hτ]⟩
    rw [rs_ren hτ, hτ, Option.map_eq_some_iff] at hr'
    obtain ⟨r, h1, h2⟩ := hr'
    exact ⟨r, h1, h2.symm⟩
  refine ⟨h.below, h.k0, h.kold, h.klt, fun i r hi => ?_, fun i j ri rj hi hj hne b hb => ?_, fun t => ?_, h.nt, h.defers, h.keep⟩
  · rw [rs_ren hτ, Option.map_eq_some_iff] at hi
    obtain ⟨r0, h1, rfl⟩ := hi
    have := RR_ren2 (τ := τ) (g0 := g) (g := ⟨g.K, fun i => g.loc (τ i)⟩) (R0 := st.rs) (R := (st.ren τ).rs) (B := fun b => ¬ Old w0 K0 b) (B0 := fun b => ¬ Old w0 K0 b) rfl (i := τ i) (fun j _ => hR j) (by show g.loc (τ (τ (τ i))) = _; rw [hτ]) (fun b _ hb => hb) (h.res _ _ h1)
    rw [hτ] at this
    exact this
  · rw [rs_ren hτ, Option.map_eq_some_iff] at hi hj
    obtain ⟨r0, h1, _⟩ := hi
    obtain ⟨r1, h2, _⟩ := hj
    exact h.dis _ _ _ _ h1 h2 (fun e => hne (by rw [← hτ i, e, hτ])) b hb
  · rw [get_ren]
    exact SR_ren2 (g0 := g) (g := ⟨g.K, fun i => g.loc (τ i)⟩) rfl _ _ (fun j _ => hR j) (h.env t)
def swp (i j k : Nat) : Nat := if k = i then j else if k = j then i else k
theorem swp_swp (i j k : Nat) : swp i j (swp i j k) = k := by
  unfold swp
  by_cases h1 : k = i
  · subst h1
    by_cases h2 : j = k
    · subst h2; simp
    · simp [h2]
  · by_cases h2 : k = j
    · subst h2; simp [h1]
    · simp [h1, h2]
theorem ConB.swap (i j : Nat) {f : FuncId} {args rs as1 : List S} {b b' : List (Nat × Res)} (h : ConB P f args b rs as1 b') {rs2 as2 : List S} {b2 : List (Nat × Res)} (h1 : renSs (swp i j) rs = rs2) (h2 : renSs (swp i j) as1 = as2) (h3 : resEnd (St.ren (swp i j) ⟨[], someR b'⟩) b2) : ConB P f args b rs2 as2 b2 := by
  subst h1; subst h2
  refine h.post fun w0 K0 a w g hT => ⟨_, _, hT.ren (swp_swp i j), rfl, rfl, ?_⟩
  have e : (St.ren (swp i j) ⟨[(0, .tup rs), (1, .tup as1)], someR b'⟩).rs = (St.ren (swp i j) ⟨[], someR b'⟩).rs := rfl
  clear h hT
  induction b2 with
  | nil => trivial
  | cons p r ih => exact ⟨by rw [e]; exact h3.1, ih h3.2⟩
theorem ConB.nil (i k N : Nat) {f : FuncId} {args rs as1 : List S} {b b' : List (Nat × Res)} (h : ConB P f args b rs as1 b') (hN : N ≠ i) {rs2 as2 : List S} {b2 : List (Nat × Res)} {ss : List S}
    (h0 : (((St.clr ⟨[], someR b'⟩ N).setR N (some (.arr true 0 [] 0))).rs i) = some (.box false ss)) (hk : ss[k]? = some (.c (.sl true [])))
    (h1 : S.clrs N rs = rs2) (h2 : S.clrs N as1 = as2) (h3 : resEnd (((St.clr ⟨[], someR b'⟩ N).setR N (some (.arr true 0 [] 0))).setR i (some (.box false (ss.set k (.own N 0))))) b2) : ConB P f args b rs2 as2 b2 := by
  subst h1; subst h2
  refine h.post fun w0 K0 a w g hT => ?_
  obtain ⟨g', hT'⟩ := hT.nilcell (i := i) (N := N) (k := k) (ss := ss) hN h0 hk
  refine ⟨_, g', hT', ?_, ?_, ?_⟩
  · rw [St.get_setR, St.get_setR, St.get_clr]; rfl
  · rw [St.get_setR, St.get_setR, St.get_clr]; rfl
  · clear h hT hT'
    induction b2 with
    | nil => trivial
    | cons p r ih => exact ⟨h3.1, ih h3.2⟩
end
end Go.VL
set_option linter.unusedSimpArgs false
set_option linter.unusedVariables false
namespace Go.VL
open Go.RowKit
theorem Con.frz {P : Program} {f : FuncId} {args : List S} {rs : List Rt} (h : Con P f args rs) (k : Nat) {nil : Bool} {sz : Nat} {xs : List (List C)} {fx : Nat} (hk : rs[k]? = some (.fr nil sz xs fx)) :
    Con P f args (rs.set k (.c (.sl nil xs))) := by
  refine fun w K us hK hu => (h w K us hK hu).mono fun e w' ⟨vs, he, hb, K', q1, q2, q3, q4⟩ => ⟨vs, he, hb, ?_⟩
  obtain ⟨r1, r2, r3⟩ := q4
  have hkl : k < rs.length := (List.getElem?_eq_some_iff.1 hk).1
  obtain ⟨v, hv⟩ : ∃ v, vs[k]? = some v := ⟨vs[k]'(by omega), List.getElem?_eq_getElem (by omega)⟩
  have hr := r2 k _ v hk hv
  rcases hr with ⟨rfl, rfl, hl, _⟩ | ⟨rfl, b, cap, cur, E, hl, hB, hh, h4, h5, h6, h7, h8, h9⟩
  · refine ⟨K', q1, q2, q3, by simp [r1], fun j r u hj hu => ?_, fun i j r r' u u' hne hi hj hui huj f1 f2 => ?_⟩
    · rw [List.getElem?_set] at hj
      by_cases e : k = j
      · subst e
        rw [if_pos rfl, if_pos hkl] at hj
        cases hj
        rw [hv] at hu
        cases hu
        rw [RtR, CR]
        exact .inl ⟨rfl, rfl, hl⟩
      · rw [if_neg e] at hj
        exact r2 j r u hj hu
    · have nk : ∀ {j r}, (rs.set k (.c (.sl true [])))[j]? = some r → isFr r = true → rs[j]? = some r := fun {j r} hj hf => by
        rw [List.getElem?_set] at hj
        by_cases e : k = j
        · subst e; rw [if_pos rfl, if_pos hkl] at hj; cases hj; cases hf
        · rw [if_neg e] at hj; exact hj
      exact r3 i j r r' u u' hne (nk hi f1) (nk hj f2) hui huj f1 f2
  · have hbl : b < w'.heap.size := (Array.getElem?_eq_some_iff.1 hh).1
    have hl' : v = .slice (some ⟨b, 0, none⟩) xs.length cap := hl
    refine ⟨fun b' o => K' b' o ∨ (b' = b ∧ o < xs.length * sz), fun b' o hk => .inl (q1 b' o hk), fun b' o hk hlt => ?_, fun b' o hk => ?_, by simp [r1], fun j r u hj hu => ?_, fun i j r r' u u' hne hi hj hui huj f1 f2 => ?_⟩
    · rcases hk with hk | ⟨rfl, _⟩
      · exact q2 b' o hk hlt
      · omega
    · rcases hk with hk | ⟨rfl, _⟩
      · exact q3 b' o hk
      · exact hbl
    · have kp : Keeps K' w' (fun b' o => K' b' o ∨ (b' = b ∧ o < xs.length * sz)) w' := ⟨fun _ _ h => .inl h, fun _ _ _ => rfl⟩
      rw [List.getElem?_set] at hj
      by_cases e : k = j
      · subst e
        rw [if_pos rfl, if_pos hkl] at hj
        cases hj
        rw [hv] at hu
        cases hu
        have : RR ⟨fun b' o => K' b' o ∨ (b' = b ∧ o < xs.length * sz), fun _ => v⟩ w' (fun _ => none) (fun b => w.heap.size ≤ b) 0 (.arr false sz xs xs.length) := by
          refine .inr ⟨rfl, b, cap, cur, E, hl, hB, hh, h4, h5, h6, Nat.le_refl _, h8.mono kp, fun o => ⟨fun hk => ?_, fun ho => .inr ⟨rfl, ho⟩⟩⟩
          rcases hk with hk | ⟨_, hk⟩
          · have := (h9 o).1 hk
            have := Nat.mul_le_mul_right sz h7
            omega
          · exact hk
        rw [RtR]
        exact this.datum
      · rw [if_neg e] at hj
        have := r2 j r u hj hu
        cases r with
        | c x => rw [RtR] at this ⊢; exact CR.mono kp x u this
        | ag cs =>
          rw [RtR] at this ⊢
          obtain ⟨us', e1, e2⟩ := this
          exact ⟨us', e1, VR.mono kp cs us' e2⟩
        | fr nil2 sz2 xs2 fx2 =>
          rw [RtR] at this ⊢
          rcases this with this | ⟨g0, b2, cap2, cur2, E2, g1, g2, g3, g4, g5, g6, g7, g8, g9⟩
          · exact .inl this
          · have hne : b2 ≠ b := by
              rintro rfl
              have g1' : u = .slice (some ⟨b2, 0, none⟩) xs2.length cap2 := g1
              exact r3 k j _ _ v u e hk hj hv hu rfl rfl b2 (by rw [hl']; rfl) (by rw [g1']; rfl)
            refine .inr ⟨g0, b2, cap2, cur2, E2, g1, g2, g3, g4, g5, g6, g7, g8.mono kp, fun o => ⟨fun hk => ?_, fun ho => .inl ((g9 o).2 ho)⟩⟩
            rcases hk with hk | ⟨e2, _⟩
            · exact (g9 o).1 hk
            · exact absurd e2 hne
    · have nk : ∀ {j r}, (rs.set k (.c (.sl false xs)))[j]? = some r → isFr r = true → rs[j]? = some r := fun {j r} hj hf => by
        rw [List.getElem?_set] at hj
        by_cases e : k = j
        · subst e; rw [if_pos rfl, if_pos hkl] at hj; cases hj; cases hf
        · rw [if_neg e] at hj; exact hj
      exact r3 i j r r' u u' hne (nk hi f1) (nk hj f2) hui huj f1 f2
end Go.VL
set_option linter.unusedSimpArgs false
set_option linter.unusedVariables false
namespace Go.VL
open Go.RowKit
end Go.VL
