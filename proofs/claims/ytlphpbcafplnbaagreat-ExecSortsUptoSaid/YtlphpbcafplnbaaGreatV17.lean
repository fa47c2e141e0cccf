/- Contracts of functions of the seat, proved in a logic on data over the model (part V17). -/
import Derived.Test.YtlphpbcafplnbaaGreatV16
set_option linter.unusedSimpArgs false
set_option linter.unusedVariables false
namespace Go.VL
open Go.RowKit
mutual
def S.kn (R:Nat→Option Res):S→Bool
  | .tup ss=>S.kns R ss
  | .fnp f ss=>S.kns R ss
  | .st ss=>S.kns R ss
  | .own i _=>(R i).isSome
  | .ptr i _=>(R i).isSome
  | .ep i _ _ _=>(R i).isSome
  | .suf i _ _=>(R i).isSome
  | .mp i=>(R i).isSome
  | .me i _ _=>(R i).isSome
  | .pre i _ _=>(R i).isSome
  | .cut i _ _=>(R i).isSome
  | .g _ s=>S.kn R s
  | _=>true
def S.kns (R:Nat→Option Res):List S→Bool
  | []=>true
  | s::r=>S.kn R s && S.kns R r
end
mutual
theorem S.kn_men {R:Nat→Option Res} {i:Nat} : ∀ (s:S),s.kn R=true→s.men i=true→(R i).isSome=true
  | .c _,_,h=>by simp [S.men] at h
  | .agg _,_,h=>by simp [S.men] at h
  | .un,_,h=>by simp [S.men] at h
  | .tup ss,h,hm=>by rw [S.kn] at h;rw [S.men] at hm;exact S.kns_men ss h hm
  | .fnp f ss,h,hm=>by rw [S.kn] at h;rw [S.men] at hm;exact S.kns_men ss h hm
  | .st ss,h,hm=>by rw [S.kn] at h;rw [S.men] at hm;exact S.kns_men ss h hm
  | .own j _,h,hm=>by rw [S.kn] at h;simp [S.men] at hm;subst hm;exact h
  | .ptr j _,h,hm=>by rw [S.kn] at h;simp [S.men] at hm;subst hm;exact h
  | .ep j _ _ _,h,hm=>by rw [S.kn] at h;simp [S.men] at hm;subst hm;exact h
  | .suf j _ _,h,hm=>by rw [S.kn] at h;simp [S.men] at hm;subst hm;exact h
  | .mp j,h,hm=>by rw [S.kn] at h;simp [S.men] at hm;subst hm;exact h
  | .pre j _ _,h,hm=>by rw [S.kn] at h;simp [S.men] at hm;subst hm;exact h
  | .cut j _ _,h,hm=>by rw [S.kn] at h;simp [S.men] at hm;subst hm;exact h
  | .me j _ _,h,hm=>by rw [S.kn] at h;simp [S.men] at hm;subst hm;exact h
  | .g _ s,h,hm=>by rw [S.kn] at h;rw [S.men] at hm;exact S.kn_men s h hm
theorem S.kns_men {R:Nat→Option Res} {i:Nat} : ∀ (ss:List S),S.kns R ss=true→S.mens i ss=true→(R i).isSome=true
  | [],_,h=>by simp [S.mens] at h
  | s::r,h,hm=>by
    rw [S.kns,Bool.and_eq_true] at h
    rw [S.mens,Bool.or_eq_true] at hm
    rcases hm with hm | hm
    · exact S.kn_men s h.1 hm
    · exact S.kns_men r h.2 hm
end
def RSub (R R':Nat→Option Res):Prop:=∀ i,R i=none∨R i=R' i
theorem RSub.eq {R R':Nat→Option Res} (h:RSub R R') {i:Nat} {r:Res} (hi:R i=some r):R' i=some r:=by
  rcases h i with q | q
  · rw [q] at hi;cases hi
  · rw [← q];exact hi
section
variable {P:Program} {w0:World} {K0:K0T} {nt:Nat} {st:St} {a:Act} {w:World} {g:G} {ops:Array Oper}
theorem SR.down {R R':Nat→Option Res} (h:RSub R R') {s:S} {u:Value} (hs:SR g w R' s u):SR g w R s u :=
  SR.mono (Keeps.refl _ _) s u (fun _ _=>⟨fun fz ss e=>⟨⟨fz,ss,h.eq e⟩,rfl⟩,fun nil _ xs fx e=>⟨⟨nil,xs,fx,h.eq e,rfl⟩,rfl⟩,fun kvs e=>⟨⟨kvs,h.eq e,rfl⟩,rfl⟩⟩) hs
theorem SR.up {R R':Nat→Option Res} (h:RSub R R') {s:S} {u:Value} (hk:s.kn R=true) (hs:SR g w R s u):SR g w R' s u :=
  SR.mono (Keeps.refl _ _) s u (fun i hi=>by
    have:=S.kn_men s hk hi
    rcases h i with q | q
    · rw [q] at this;cases this
    · exact Cmp.same q.symm rfl) hs
theorem T.sub (h:T w0 K0 nt st a w g) {st':St} (he:∀ t,st'.get t = .un∨st'.get t=st.get t) (hr:RSub st'.rs st.rs):T w0 K0 nt st' a w g:=by
  have hc:∀ i,Cmp g st.rs g st'.rs i:=fun i=>⟨fun fz ss e=>⟨⟨fz,ss,hr.eq e⟩,rfl⟩,fun nil sz xs fx e=>⟨⟨nil,xs,fx,hr.eq e,rfl⟩,rfl⟩,fun kvs e=>⟨⟨kvs,hr.eq e,rfl⟩,rfl⟩⟩
  refine ⟨h.below,h.k0,h.kold,h.klt,fun i r hi=>?_,fun i j r r' hi hj=>h.dis i j r r' (hr.eq hi) (hr.eq hj),fun t=>?_,h.nt,h.defers,h.keep⟩
  · exact RR.mono (Keeps.refl _ _) rfl (fun _ _=>⟨rfl,fun _ k=>k⟩) (fun _ _ _ _ _ j _=>hc j) (fun _ _ _ j _=>hc j) (fun _ _ j _=>hc j) (h.res i r (hr.eq hi))
  · rcases he t with q | q
    · rw [q,SR];trivial
    · rw [q];exact SR.down hr (h.env t)
def St.bare (st:St):St:=⟨[],st.res⟩
theorem T.bare (h:T w0 K0 nt st a w g) {sR:St} (hr:RSub sR.rs st.rs):T w0 K0 nt sR.bare a w g:=h.sub (fun _=>.inl rfl) hr
theorem pev_bare (P:Program) (st:St) (e:Operand→S) (op:Op):pev P st.bare e op=pev P st e op:=by
  cases op <;> rfl
theorem frozenD_bare (st:St) (s:S):frozenD st.bare s=frozenD st s:=by
  cases s <;> rfl
theorem frozenDs_bare (st:St):∀ ss:List S,frozenDs st.bare ss=frozenDs st ss
  | []=>rfl
  | s::r=>by rw [frozenDs,frozenDs,frozenD_bare,frozenDs_bare st r]
theorem pcall3_ok (h:T w0 K0 nt st a w g) {sR:St} (hR:RSub sR.rs st.rs) {o:Oper} {c:Call} {f:Operand} (ho:o.op = .call c) (hc:c.callee = .value f) {ef:S} (hef:SR g w sR.rs ef (a.eval f)) {as:List S} (hargs:SRs g w sR.rs as (c.args.toList.map a.eval)) {rs:List Rt}
    (hp:pcall P sR ef as rs) {next:Act→World→Prop} {Q:Exit→Act→World→Prop}
    (hn:∀ (vs:List Value) w' g',T w0 K0 nt st a w' g'→RtRs g'.K w' w.heap.size rs vs→(∀ i r b,st.rs i=some r→blk (g'.loc i)=some b→b<w.heap.size)→w.heap.size≤w'.heap.size→next (a.put o.dst (retV vs)) w'):o.wp P a w next Q:=by
  have h0:T w0 K0 nt sR.bare a w g:=h.bare hR
  have hargs:SRs g w sR.bare.rs as (c.args.toList.map a.eval):=hargs
  unfold pcall at hp
  split at hp
  · rename_i fid caps
    obtain ⟨hfd,hsp⟩:=hp
    have k3:=frozenDs_ok h0 _ _ hargs (by rw [frozenDs_bare];exact hfd)
    rw [frozenDs_bare] at k3
    simp only [SR,CR] at hef
    obtain ⟨us,hfv,hcv⟩:=hef
    have hcaps:SRs g w sR.bare.rs (caps.map .c) us:=by
      rw [SRs_iff]
      obtain ⟨q1,q2⟩:=(VR_iff _ _).1 hcv
      refine ⟨by simp [q1],fun k s u e1 e2=>?_⟩
      simp only [List.getElem?_map,Option.map_eq_some_iff] at e1
      obtain ⟨d,e1,rfl⟩:=e1
      rw [SR];exact q2 k d u e1 e2
    have hall:SRs g w sR.bare.rs ((frozenDs sR as).1++caps.map .c) (c.args.toList.map a.eval++us):=by
      rw [SRs_iff] at k3 hcaps ⊢
      refine ⟨by simp [k3.1,hcaps.1],fun k s u e1 e2=>?_⟩
      by_cases hlt:k<(frozenDs sR as).1.length
      · rw [List.getElem?_append_left hlt] at e1
        rw [List.getElem?_append_left (by rw [k3.1];exact hlt)] at e2
        exact k3.2 k s u e1 e2
      · rw [List.getElem?_append_right (by omega)] at e1
        rw [List.getElem?_append_right (by rw [k3.1];omega),k3.1] at e2
        exact hcaps.2 _ s u e1 e2
    refine wp_runs ho hc hfv (hsp w g.K _ h.klt (DRs_of hall)) fun en w' hpost=>?_
    obtain ⟨vs,rfl,hbel,K',p1,p2,p3,p4⟩:=hpost
    refine ⟨_,rfl,?_⟩
    have hB:w0.heap.size≤w.heap.size:=h.below.size
    have hkeep:Keeps g.K w K' w':=⟨p1,fun b o k=>by
      have:=h.klt b o k
      simp only [World.cell?];rw [hbel.block b this]⟩
    have hT1:=h.world (Bel.of (hbel.mono hB)) hkeep (fun b o k hlt=>h.kold b o (p2 b o k (by have:=hlt.1;omega)) hlt) p3 (fun i r b hi hb=>by
      have hlt:=(h.res i r hi).lt hb
      exact ⟨hbel.block b hlt,fun o k=>p2 b o k hlt⟩)
    exact hn _ _ _ hT1 p4 (fun i r b hi hb=>(h.res i r hi).lt hb) hbel.size
  · exact hp.elim
theorem pcall2_ok (h:T w0 K0 nt st a w g) {sR:St} (hR:RSub sR.rs st.rs) {o:Oper} {c:Call} {f:Operand} (ho:o.op = .call c) (hc:c.callee = .value f) (e:Operand→S) (he:∀ x∈o.op.operands.toList,SR g w sR.rs (e x) (a.eval x)) {rs:List Rt}
    (hp:pcall P sR (e f) (c.args.toList.map e) rs) {next:Act→World→Prop} {Q:Exit→Act→World→Prop}
    (hn:∀ (vs:List Value) w' g',T w0 K0 nt st a w' g'→RtRs g'.K w' w.heap.size rs vs→(∀ i r b,st.rs i=some r→blk (g'.loc i)=some b→b<w.heap.size)→w.heap.size≤w'.heap.size→next (a.put o.dst (retV vs)) w'):o.wp P a w next Q :=
  pcall3_ok h hR ho hc (he f (by rw [ho];simp [Op.operands,Call.operands,hc])) (SRs_map _ _ _ (fun x hx=>he x (by rw [ho];simp [Op.operands,Call.operands,hc];exact .inr (by simpa using hx)))) hp hn
structure Seen (ops:Array Oper) (o:Oper) (sR st:St):Prop where
  ev:∀ x∈o.op.operands.toList,sR.ev x=st.ev x
  gd:∀ j b t,o.guard=some (j,b)→gslot ops j=some t→sR.get t=st.get t
  rs:RSub sR.rs st.rs
theorem Seen.gflag {o:Oper} {sR:St} (h:Seen ops o sR st):gflag ops sR o.guard=gflag ops st o.guard:=by
  cases hg:o.guard with
  | none=>rfl
  | some p =>
    obtain ⟨j,b⟩:=p
    unfold VL.gflag
    simp only
    cases ht:gslot ops j with
    | none=>rfl
    | some t=>simp only [h.gd j b t hg ht]
theorem Seen.sr {o:Oper} {sR:St} (h:Seen ops o sR st) (hT:T w0 K0 nt st a w g) (x:Operand) (hx:x∈o.op.operands.toList):SR g w sR.rs (sR.ev x) (a.eval x):=by
  rw [h.ev x hx];exact SR.down h.rs (hT.ev x)
theorem PStep2_ok {o:Oper} {sR:St} (hok:opOk nt o=true) {k:S→Prop} (hv:PStep P ops sR o fun s=>s.kn sR.rs=true∧k s) :
    ∃ s,k s∧∀ (st:St) (a:Act) (w:World) (g:G),T w0 K0 nt st a w g→Seen ops o sR st→∀ (next:Act→World→Prop) (Q:Exit→Act→World→Prop),(∀ a' w' g',T w0 K0 nt (st.putd o.dst s) a' w' g'→next a' w')→stepW P ops o a w next Q:=by
  unfold PStep at hv
  split at hv
  · exact hv.elim
  · rename_i q hq
    have hd:=opOk_dst hok
    have skip:∀ (st:St) (a:Act) (w:World) (g:G),T w0 K0 nt st a w g→Seen ops o sR st→q=false→∀ s,∀ (next:Act→World→Prop) (Q:Exit→Act→World→Prop),(∀ a' w' g',T w0 K0 nt (st.putd o.dst (wrapg o.guard q s)) a' w' g'→next a' w')→stepW P ops o a w next Q:=by
      intro st a w g h hs hq0 s next Q hn
      have hw:=gflag_ok h (by rw [← hs.gflag];exact hq) o rfl
      unfold stepW
      rw [hw,hq0]
      simp only [Bool.false_eq_true,if_false]
      refine hn _ w g (h.putd hd ?_)
      cases hg:o.guard with
      | none=>rw [hg] at hq;simp [VL.gflag] at hq;rw [hq] at hq0;cases hq0
      | some x=>simp only [wrapg,SR];exact ⟨(fun e=>by rw [hq0] at e;cases e),fun _=>by trivial⟩
    have go:∀ (st:St) (a:Act) (w:World) (g:G),T w0 K0 nt st a w g→Seen ops o sR st→∀ (s:S) (u:Value),q=true→(execOp a.eval o).run P w = .ok (.value u) w→SR g w sR.rs s u→(wrapg o.guard q s).kn sR.rs=true→∀ (next:Act→World→Prop) (Q:Exit→Act→World→Prop),(∀ a' w' g',T w0 K0 nt (st.putd o.dst (wrapg o.guard q s)) a' w' g'→next a' w')→stepW P ops o a w next Q:=by
      intro st a w g h hs s u hq1 hr hsr hkn next Q hn
      have hw:=gflag_ok h (by rw [← hs.gflag];exact hq) o rfl
      unfold stepW
      rw [hw,hq1]
      simp only [if_true]
      exact ow_value hr (hn _ w g (h.putd hd (SR.up hs.rs hkn (wrapg_ok hq1 hsr))))
    have pure_case:(q=true→(o.op.operands.toList.all fun x=>flagOf (sR.ev x))=true∧(pev P sR (fun x=>peel (sR.ev x)) o.op).2)∧((wrapg o.guard q (pev P sR (fun x=>peel (sR.ev x)) o.op).1).kn sR.rs=true∧k (wrapg o.guard q (pev P sR (fun x=>peel (sR.ev x)) o.op).1)) →
        ∃ s,k s∧∀ (st:St) (a:Act) (w:World) (g:G),T w0 K0 nt st a w g→Seen ops o sR st→∀ (next:Act→World→Prop) (Q:Exit→Act→World→Prop),(∀ a' w' g',T w0 K0 nt (st.putd o.dst s) a' w' g'→next a' w')→stepW P ops o a w next Q:=by
      rintro ⟨h1,hkn,h2⟩
      refine ⟨_,h2,fun st a w g h hs next Q hn=>?_⟩
      cases q with
      | false=>exact skip st a w g h hs rfl _ next Q hn
      | true =>
        obtain ⟨f1,f2⟩:=h1 rfl
        obtain ⟨u,r1,r2⟩:=pev_ok (h.bare hs.rs) o (fun x=>peel (sR.ev x)) (fun x hx=>peel_ok (R:=sR.bare.rs) (hs.sr h x hx) (List.all_eq_true.1 f1 x hx)) (by rw [pev_bare];exact f2)
        rw [pev_bare] at r2
        exact go st a w g h hs _ u rfl r1 r2 hkn next Q hn
    split at hv
    · rename_i c x y ho
      obtain ⟨h1,hkn,h2⟩:=hv
      refine ⟨_,h2,fun st a w g h hs next Q hn=>?_⟩
      cases q with
      | false=>exact skip st a w g h hs rfl _ next Q hn
      | true =>
        unfold vpick at h1
        split at h1
        · rename_i pc bc pa bx pb by' e1 e2 e3
          obtain ⟨f1,f2,f3⟩:=h1 rfl
          have ev:(vpick true (sR.ev c) (sR.ev x) (sR.ev y)).1=bl (bif bc then bx else by'):=by simp only [vpick,e1,e2,e3]
          rw [ev] at hn hkn
          have hc:=sbool_ok e1 (hs.sr h c (by rw [ho];simp [Op.operands])) f1
          refine go st a w g h hs (bl (bif bc then bx else by')) (.bool (bif bc then bx else by')) rfl ?_ (bl_SR _) hkn next Q hn
          cases bc with
          | true=>have hx:=sbool_ok e2 (hs.sr h x (by rw [ho];simp [Op.operands])) (f2 rfl);simp [execOp,ho,hc,asBool,hx]
          | false=>have hx:=sbool_ok e3 (hs.sr h y (by rw [ho];simp [Op.operands])) (f3 rfl);simp [execOp,ho,hc,asBool,hx]
        · exact h1.elim
    · rename_i c ho
      split at hv
      · rename_i f hcal
        obtain ⟨rs,s,h1,h2,hkn,h3⟩:=hv
        refine ⟨_,h3,fun st a w g h hs next Q hn=>?_⟩
        cases q with
        | false=>exact skip st a w g h hs rfl _ next Q hn
        | true =>
          obtain ⟨f1,f2⟩:=h1 rfl
          have hw:=gflag_ok h (by rw [← hs.gflag];exact hq) o rfl
          unfold stepW
          rw [hw]
          simp only [if_true]
          refine pcall2_ok h hs.rs ho hcal (fun x=>peel (sR.ev x)) (fun x hx=>peel_ok (hs.sr h x hx) (List.all_eq_true.1 f1 x hx)) f2 (fun vs w' g' hT hr _ _=>hn _ w' g' (hT.putd hd (wrapg_ok rfl (retD_ok h2 hr))))
      · exact pure_case hv
    · exact pure_case hv
end
end Go.VL
