/- Contracts of functions of the seat, proved in a logic on data over the model (part V15). -/
import Derived.Deep.LoopGhost
import Derived.Test.YtlphpbcafplnbaaGreatV13
set_option linter.unusedSimpArgs false
set_option linter.unusedVariables false
namespace Go.VL
open Go.RowKit
def gslot (ops:Array Oper) (j:Nat):Option Nat:=(ops[j]?).bind (·.dst)
def gflag (ops:Array Oper) (st:St):Option (Nat × Bool)→Option Bool
  | none=>some true
  | some (j,want) =>
    match gslot ops j with
    | some t =>
      match st.get t with
      | .c (.v (.bool b))=>some (b == want)
      | .g p (.c (.v (.bool b)))=>some (p && (b == want))
      | _=>none
    | none=>none
def peel:S→S
  | .g _ s=>s
  | s=>s
def flagOf:S→Bool
  | .g p _=>p
  | _=>true
def sbool:S→Option (Bool × Bool)
  | .c (.v (.bool b))=>some (true,b)
  | .g p (.c (.v (.bool b)))=>some (p,b)
  | .g false .un=>some (false,false)
  | _=>none
def vpick (q:Bool) (c a b:S):S × Prop :=
  match sbool c,sbool a,sbool b with
  | some (pc,bc),some (pa,x),some (pb,y)=>(bl (bif bc then x else y),q=true→pc=true∧(bc=true→pa=true)∧(bc=false→pb=true))
  | _,_,_=>no
def frozenD (st:St):S→S × Prop
  | .own i n =>
    match st.rs i with
    | some (.arr nil _ xs fx)=>(.c (.sl nil xs),xs.length=n∧fx=xs.length)
    | _=>no
  | .c x=>(.c x,True)
  | .agg cs=>(.agg cs,True)
  | _=>no
def frozenDs (st:St):List S→List S × Prop
  | []=>([],True)
  | s::r=>((frozenD st s).1::(frozenDs st r).1,(frozenD st s).2∧(frozenDs st r).2)
def dataR:Rt→Option S
  | .c x=>some (.c x)
  | .ag cs=>some (.agg cs)
  | .fr .. => none
def dataRs:List Rt→Option (List S)
  | []=>some []
  | r::rest=>match dataR r,dataRs rest with
    | some s,some l=>some (s::l)
    | _,_=>none
def retD (rs:List Rt):Option S :=
  match dataRs rs with
  | some [s]=>some s
  | some l=>some (.tup l)
  | none=>none
def pcall (P:Program) (st:St) (f:S) (args:List S) (rs:List Rt):Prop :=
  match f with
  | .c (.fn fid caps)=>(frozenDs st args).2∧Con P fid ((frozenDs st args).1++caps.map .c) rs
  | _=>False
def wrapg (gd:Option (Nat × Bool)) (q:Bool) (s:S):S :=
  match gd with
  | none=>s
  | some _=>.g q s
def PStep (P:Program) (ops:Array Oper) (st:St) (o:Oper) (k:S→Prop):Prop :=
  match gflag ops st o.guard with
  | none=>False
  | some q =>
    match o.op with
    | .pick c a b=>(vpick q (st.ev c) (st.ev a) (st.ev b)).2∧k (wrapg o.guard q (vpick q (st.ev c) (st.ev a) (st.ev b)).1)
    | .call c =>
      match c.callee with
      | .value f=>∃ rs s,(q=true→(o.op.operands.toList.all fun x=>flagOf (st.ev x))=true∧pcall P st (peel (st.ev f)) (c.args.toList.map fun x=>peel (st.ev x)) rs)∧retD rs=some s∧k (wrapg o.guard q s)
      | _=>(q=true→(o.op.operands.toList.all fun x=>flagOf (st.ev x))=true∧(pev P st (fun x=>peel (st.ev x)) o.op).2)∧k (wrapg o.guard q (pev P st (fun x=>peel (st.ev x)) o.op).1)
    | _=>(q=true→(o.op.operands.toList.all fun x=>flagOf (st.ev x))=true∧(pev P st (fun x=>peel (st.ev x)) o.op).2)∧k (wrapg o.guard q (pev P st (fun x=>peel (st.ev x)) o.op).1)
def isPick:Op→Bool
  | .pick .. => true
  | _=>false
def vstep (P:Program) (ops:Array Oper) (st:St) (o:Oper) (K:St→Prop):Prop :=
  match o.guard with
  | none=>bif isPick o.op then PStep P ops st o fun s=>K (st.putd o.dst s) else vop P o.dst st st.ev o.op K
  | some _=>PStep P ops st o fun s=>K (st.putd o.dst s)
def effL (st:St) (op:Op):Bool :=
  match op with
  | .buildSlice .. => true
  | .alloc _=>true
  | .call c =>
    match c.callee with
    | .value _=>(c.args.toList.map fun x=>peel (st.ev x)).any lendS
    | .builtin .append=>true
    | _=>false
  | _=>false
def glend (P:Program) (ops:Array Oper) (st:St) (o:Oper) (K:St→Prop):Prop :=
  match o.guard with
  | some gd=>effL st o.op=true∧gflag ops st (some gd)=some true∧(o.op.operands.toList.all fun x=>flagOf (st.ev x))=true∧vop P o.dst st (fun x=>peel (st.ev x)) o.op K
  | none=>False
def vstepL (P:Program) (ops:Array Oper) (st:St) (o:Oper) (K:St→Prop):Prop:=vstep P ops st o K∨glend P ops st o K
def vr (P:Program) (ops:Array Oper):List Oper→St→(St→Prop)→Prop
  | [],st,K=>K st
  | o::r,st,K=>vstepL P ops st o fun st'=>vr P ops r st' K
def opOk (nt:Nat) (o:Oper):Bool :=
  (match o.dst with | some t=>decide (t<nt) | none=>true) && (match o.op with | .store .. => o.dst.isNone | _=>true)
theorem opOk_dst {nt:Nat} {o:Oper} (h:opOk nt o=true):∀ t,o.dst=some t→t<nt:=by
  intro t ht
  simp only [opOk,Bool.and_eq_true] at h
  rw [ht] at h
  simpa using h.1
theorem opOk_store {nt:Nat} {o:Oper} (h:opOk nt o=true):∀ t x y,o.op = .store t x y→o.dst=none:=by
  intro t x y ht
  simp only [opOk,Bool.and_eq_true] at h
  rw [ht] at h
  simpa using h.2
section
variable {P:Program} {w0:World} {K0:K0T} {nt:Nat} {st:St} {a:Act} {w:World} {g:G} {ops:Array Oper}
theorem SR_bool {R:Nat→Option Res} {b:Bool} {u:Value} (h:SR g w R (.c (.v (.bool b))) u):u = .bool b:=by
  simp only [SR,CR] at h;exact h.1
theorem gflag_ok (h:T w0 K0 nt st a w g) {gd:Option (Nat × Bool)} {q:Bool} (hq:gflag ops st gd=some q) (o:Oper) (ho:o.guard=gd):Region.wanted o (yielded ops a.tmps)=q:=by
  unfold gflag at hq
  split at hq
  · cases hq;simp [Region.wanted,ho]
  · rename_i j want
    split at hq
    · rename_i t ht
      have henv:=h.env t
      have hy:∀ b,a.tmps.getD t undef = .bool b→yielded ops a.tmps j=some b:=fun b hb=>by
        have:a.tmps[t]? = some (.bool b):=by
          rw [Array.getD_eq_getD_getElem?] at hb
          cases e:a.tmps[t]? with
          | none=>rw [e] at hb;simp [undef] at hb
          | some v=>rw [e] at hb;simp at hb;rw [hb]
        unfold gslot at ht
        simp [yielded,ht,this]
      have hu:a.tmps.getD t undef=undef→yielded ops a.tmps j=none:=fun hb=>by
        unfold gslot at ht
        simp only [yielded,ht,Option.bind_some]
        rw [Array.getD_eq_getD_getElem?] at hb
        cases e:a.tmps[t]? with
        | none=>rfl
        | some v=>rw [e] at hb;simp at hb;subst hb;rfl
      split at hq
      · rename_i b hb
        cases hq
        rw [hb] at henv
        simp [Region.wanted,ho,hy b (SR_bool henv)]
      · rename_i p b hb
        cases hq
        rw [hb,SR] at henv
        cases p with
        | true=>simp [Region.wanted,ho,hy b (SR_bool (henv.1 rfl))]
        | false=>simp [Region.wanted,ho,hu (henv.2 rfl)]
      · cases hq
    · cases hq
theorem peel_ok {R:Nat→Option Res} {s:S} {u:Value} (h:SR g w R s u) (hf:flagOf s=true):SR g w R (peel s) u:=by
  cases s with
  | g p s=>simp only [flagOf] at hf;subst hf;rw [SR] at h;exact h.1 rfl
  | _=>exact h
theorem sbool_ok {R:Nat→Option Res} {s:S} {p b:Bool} {u:Value} (hs:sbool s=some (p,b)) (h:SR g w R s u) (hp:p=true):u = .bool b:=by
  unfold sbool at hs
  split at hs
  · cases hs;exact SR_bool h
  · cases hs;subst hp;rw [SR] at h;exact SR_bool (h.1 rfl)
  · cases hs;cases hp
  · cases hs
theorem wrapg_ok {R:Nat→Option Res} {gd:Option (Nat × Bool)} {q:Bool} {s:S} {u:Value} (hq:q=true) (h:SR g w R s u):SR g w R (wrapg gd q s) u:=by
  subst hq
  cases gd with
  | none=>exact h
  | some x=>simp only [wrapg,SR];exact ⟨fun _=>h,fun e=>by cases e⟩
theorem frozenDs_ok (h:T w0 K0 nt st a w g):∀ (ss:List S) (us:List Value),SRs g w st.rs ss us→(frozenDs st ss).2→SRs g w st.rs (frozenDs st ss).1 us
  | [],us,hs,_=>hs
  | s::r,us,hs,hf=>by
    rw [SRs] at hs
    obtain ⟨u,us',rfl,h1,h2⟩:=hs
    obtain ⟨f1,f2⟩:=hf
    simp only [frozenDs,SRs]
    refine ⟨u,us',rfl,?_,frozenDs_ok h r us' h2 f2⟩
    unfold frozenD at f1 ⊢
    split at f1
    · rename_i i n
      split at f1
      · rename_i nil sz xs fx hr
        obtain ⟨e1,e2⟩:=f1
        subst e2
        rw [SR] at h1
        have hu:=h1 nil sz xs _ hr e1
        have:=(h.res i _ hr).datum
        rw [← hu] at this
        simp only [SR]
        exact this
      · exact f1.elim
    · exact h1
    · exact h1
    · exact f1.elim
def stepW (P:Program) (ops:Array Oper) (o:Oper) (a:Act) (w:World) (next:Act→World→Prop) (Q:Exit→Act→World→Prop):Prop :=
  if Region.wanted o (yielded ops a.tmps) then o.wp P a w next Q else next (a.put o.dst undef) w
theorem dataR_ok {K:Nat→Nat→Prop} {R:Nat→Option Res} {l:Nat→Value} {B:Nat} {r:Rt} {s:S} {v:Value} (h:dataR r=some s) (hr:RtR K w B r v):SR ⟨K,l⟩ w R s v:=by
  cases r with
  | c x=>simp [dataR] at h;subst h;rw [SR];rw [RtR] at hr;exact hr
  | ag cs=>simp [dataR] at h;subst h;rw [SR];rw [RtR] at hr;exact hr
  | fr=>simp [dataR] at h
theorem dataRs_ok {K:Nat→Nat→Prop} {R:Nat→Option Res} {l:Nat→Value} {B:Nat} : ∀ (rs:List Rt) (ss:List S) (vs:List Value),dataRs rs=some ss→RtRs K w B rs vs→SRs ⟨K,l⟩ w R ss vs
  | [],ss,vs,h,hr=>by
    simp [dataRs] at h
    subst h
    have:vs=[]:=List.eq_nil_of_length_eq_zero (by simpa using hr.1)
    subst this
    rw [SRs]
  | r::rest,ss,vs,h,hr=>by
    rw [dataRs] at h
    split at h
    · rename_i s l h1 h2
      cases h
      obtain ⟨e1,e2,e3⟩:=hr
      cases vs with
      | nil=>simp at e1
      | cons v vs =>
        rw [SRs]
        refine ⟨v,vs,rfl,dataR_ok h1 (e2 0 r v rfl rfl),dataRs_ok rest l vs h2 ⟨by simpa using e1,fun k r' v' f1 f2=>e2 (k+1) r' v' (by simpa using f1) (by simpa using f2),fun j k r1 r2 v1 v2 hjk f1 f2 f3 f4 =>
          e3 (j+1) (k+1) r1 r2 v1 v2 (by omega) (by simpa using f1) (by simpa using f2) (by simpa using f3) (by simpa using f4)⟩⟩
    · cases h
theorem retD_ok {K:Nat→Nat→Prop} {R:Nat→Option Res} {l:Nat→Value} {B:Nat} {rs:List Rt} {s:S} {vs:List Value} (h:retD rs=some s) (hr:RtRs K w B rs vs):SR ⟨K,l⟩ w R s (retV vs):=by
  unfold retD at h
  split at h
  · rename_i s' hd
    cases h
    have:=dataRs_ok (R:=R) (l:=l) rs _ vs hd hr
    rw [SRs] at this
    obtain ⟨u,us',rfl,h1,h2⟩:=this
    rw [SRs] at h2
    subst h2
    exact h1
  · rename_i ss hne hd
    cases h
    have:=dataRs_ok (R:=R) (l:=l) rs _ vs hd hr
    have hl:=((SRs_iff ss vs).1 this).1
    have hv:retV vs = .tuple vs.toArray:=by
      unfold retV
      split
      · rename_i v
        exfalso
        match ss,hl with
        | [x],_=>exact hne x rfl
      · rfl
    rw [hv,SR]
    exact ⟨vs,rfl,this⟩
  · cases h
theorem pcall_ok (h:T w0 K0 nt st a w g) {o:Oper} {c:Call} {f:Operand} (ho:o.op = .call c) (hc:c.callee = .value f) (e:Operand→S) (he:∀ x∈o.op.operands.toList,SR g w st.rs (e x) (a.eval x)) {rs:List Rt} {s:S}
    (hp:pcall P st (e f) (c.args.toList.map e) rs) (hs:retD rs=some s) {next:Act→World→Prop} {Q:Exit→Act→World→Prop}
    (hn:∀ (u:Value) w' g',T w0 K0 nt st a w' g'→SR g' w' st.rs s u→next (a.put o.dst u) w'):o.wp P a w next Q:=by
  have hef:SR g w st.rs (e f) (a.eval f):=he f (by rw [ho];simp [Op.operands,Call.operands,hc])
  have hargs:SRs g w st.rs (c.args.toList.map e) (c.args.toList.map a.eval):=SRs_map _ _ _ (fun x hx=>he x (by rw [ho];simp [Op.operands,Call.operands,hc];exact .inr (by simpa using hx)))
  unfold pcall at hp
  split at hp
  · rename_i fid caps hf
    obtain ⟨hfd,hsp⟩:=hp
    rw [hf] at hef
    have k3:=frozenDs_ok h _ _ hargs hfd
    simp only [SR,CR] at hef
    obtain ⟨us,hfv,hcv⟩:=hef
    have hcaps:SRs g w st.rs (caps.map .c) us:=by
      rw [SRs_iff]
      obtain ⟨q1,q2⟩:=(VR_iff _ _).1 hcv
      refine ⟨by simp [q1],fun k s u e1 e2=>?_⟩
      simp only [List.getElem?_map,Option.map_eq_some_iff] at e1
      obtain ⟨d,e1,rfl⟩:=e1
      rw [SR];exact q2 k d u e1 e2
    have hall:SRs g w st.rs ((frozenDs st (c.args.toList.map e)).1++caps.map .c) (c.args.toList.map a.eval++us):=by
      rw [SRs_iff] at k3 hcaps ⊢
      refine ⟨by simp [k3.1,hcaps.1],fun k s u e1 e2=>?_⟩
      by_cases hlt:k<(frozenDs st (c.args.toList.map e)).1.length
      · rw [List.getElem?_append_left hlt] at e1
        rw [List.getElem?_append_left (by rw [k3.1];exact hlt)] at e2
        exact k3.2 k s u e1 e2
      · rw [List.getElem?_append_right (by omega)] at e1
        rw [List.getElem?_append_right (by rw [k3.1];omega),k3.1] at e2
        exact hcaps.2 _ s u e1 e2
    refine wp_runs ho hc hfv (hsp w g.K _ h.klt (DRs_of hall)) fun en w' hpost=>?_
    obtain ⟨vs,rfl,hbel,K',p1,p2,p3,p4⟩:=hpost
    refine ⟨_,rfl,?_⟩
    have hB:w0.heap.size≤w.heap.size:=h.below.size
    have hkeep:Keeps g.K w K' w':=⟨p1,fun b o k=>by
      have:=h.klt b o k
      simp only [World.cell?];rw [hbel.block b this]⟩
    have hT1:=h.world (Bel.of (hbel.mono hB)) hkeep (fun b o k hlt=>h.kold b o (p2 b o k (by have:=hlt.1;omega)) hlt) p3 (fun i r b hi hb=>by
      have hlt:=(h.res i r hi).lt hb
      exact ⟨hbel.block b hlt,fun o k=>p2 b o k hlt⟩)
    exact hn _ _ _ hT1 (retD_ok hs p4)
  · exact hp.elim
theorem PStep_ok (h:T w0 K0 nt st a w g) {o:Oper} (hok:opOk nt o=true) {k:S→Prop} (hv:PStep P ops st o k) :
    ∃ s,k s∧∀ (next:Act→World→Prop) (Q:Exit→Act→World→Prop),(∀ a' w' g',T w0 K0 nt (st.putd o.dst s) a' w' g'→next a' w')→stepW P ops o a w next Q:=by
  unfold PStep at hv
  split at hv
  · exact hv.elim
  · rename_i q hq
    have hw:=gflag_ok h hq o rfl
    have hd:=opOk_dst hok
    have skip:q=false→∀ s,∀ (next:Act→World→Prop) (Q:Exit→Act→World→Prop),(∀ a' w' g',T w0 K0 nt (st.putd o.dst (wrapg o.guard q s)) a' w' g'→next a' w')→stepW P ops o a w next Q:=by
      intro hq0 s next Q hn
      unfold stepW
      rw [hw,hq0]
      simp only [Bool.false_eq_true,if_false]
      refine hn _ w g (h.putd hd ?_)
      cases hg:o.guard with
      | none=>rw [hg] at hq;simp [gflag] at hq;rw [hq] at hq0;cases hq0
      | some x=>simp only [wrapg,SR];exact ⟨(fun e=>by rw [hq0] at e;cases e),fun _=>by trivial⟩
    have go:∀ (s:S) (u:Value),q=true→(execOp a.eval o).run P w = .ok (.value u) w→SR g w st.rs s u→∀ (next:Act→World→Prop) (Q:Exit→Act→World→Prop),(∀ a' w' g',T w0 K0 nt (st.putd o.dst (wrapg o.guard q s)) a' w' g'→next a' w')→stepW P ops o a w next Q:=by
      intro s u hq1 hr hs next Q hn
      unfold stepW
      rw [hw,hq1]
      simp only [if_true]
      exact ow_value hr (hn _ w g (h.putd hd (wrapg_ok hq1 hs)))
    have pure_case:(q=true→(o.op.operands.toList.all fun x=>flagOf (st.ev x))=true∧(pev P st (fun x=>peel (st.ev x)) o.op).2)∧k (wrapg o.guard q (pev P st (fun x=>peel (st.ev x)) o.op).1) →
        ∃ s,k s∧∀ (next:Act→World→Prop) (Q:Exit→Act→World→Prop),(∀ a' w' g',T w0 K0 nt (st.putd o.dst s) a' w' g'→next a' w')→stepW P ops o a w next Q:=by
      rintro ⟨h1,h2⟩
      refine ⟨_,h2,fun next Q hn=>?_⟩
      cases q with
      | false=>exact skip rfl _ next Q hn
      | true =>
        obtain ⟨f1,f2⟩:=h1 rfl
        obtain ⟨u,r1,r2⟩:=pev_ok h o (fun x=>peel (st.ev x)) (fun x hx=>peel_ok (h.ev x) (List.all_eq_true.1 f1 x hx)) f2
        exact go _ u rfl r1 r2 next Q hn
    split at hv
    · rename_i c x y ho
      obtain ⟨h1,h2⟩:=hv
      refine ⟨_,h2,fun next Q hn=>?_⟩
      cases q with
      | false=>exact skip rfl _ next Q hn
      | true =>
        unfold vpick at h1
        split at h1
        · rename_i pc bc pa bx pb by' e1 e2 e3
          obtain ⟨f1,f2,f3⟩:=h1 rfl
          have ev:(vpick true (st.ev c) (st.ev x) (st.ev y)).1=bl (bif bc then bx else by'):=by simp [vpick,e1,e2,e3]
          rw [ev] at hn
          have hc:=sbool_ok e1 (h.ev c) f1
          refine go (bl (bif bc then bx else by')) (.bool (bif bc then bx else by')) rfl ?_ (bl_SR _) next Q hn
          cases bc with
          | true=>have hx:=sbool_ok e2 (h.ev x) (f2 rfl);simp [execOp,ho,hc,asBool,hx]
          | false=>have hx:=sbool_ok e3 (h.ev y) (f3 rfl);simp [execOp,ho,hc,asBool,hx]
        · exact h1.elim
    · rename_i c ho
      split at hv
      · rename_i f hcal
        obtain ⟨rs,s,h1,h2,h3⟩:=hv
        refine ⟨_,h3,fun next Q hn=>?_⟩
        cases q with
        | false=>exact skip rfl _ next Q hn
        | true =>
          obtain ⟨f1,f2⟩:=h1 rfl
          unfold stepW
          rw [hw]
          simp only [if_true]
          refine pcall_ok h ho hcal (fun x=>peel (st.ev x)) (fun x hx=>peel_ok (h.ev x) (List.all_eq_true.1 f1 x hx)) f2 h2 (fun u w' g' hT hs=>hn _ w' g' (hT.putd hd (wrapg_ok rfl hs)))
      · exact pure_case hv
    · exact pure_case hv
theorem vstep_ok (h:T w0 K0 nt st a w g) {o:Oper} (hok:opOk nt o=true) {K:St→Prop} (hv:vstep P ops st o K) (next:Act→World→Prop) (Q:Exit→Act→World→Prop)
    (hn:∀ st' a' w' g',K st'→T w0 K0 nt st' a' w' g'→next a' w'):stepW P ops o a w next Q:=by
  have ps:(PStep P ops st o fun s=>K (st.putd o.dst s))→stepW P ops o a w next Q:=fun hv=>by
    obtain ⟨s,h1,h2⟩:=PStep_ok h hok hv
    exact h2 next Q (fun a' w' g' hT=>hn _ _ _ _ h1 hT)
  unfold vstep at hv
  split at hv
  · rename_i hg
    cases hp:isPick o.op with
    | true=>rw [hp] at hv;exact ps hv
    | false =>
      rw [hp] at hv
      unfold stepW
      have:Region.wanted o (yielded ops a.tmps)=true:=by simp [Region.wanted,hg]
      rw [this,if_pos rfl]
      exact vop_ok h (opOk_dst hok) (opOk_store hok) (fun x _=>h.ev x) hv hn
  · exact ps hv
theorem glend_ok (h:T w0 K0 nt st a w g) {o:Oper} (hok:opOk nt o=true) {K:St→Prop} (hv:glend P ops st o K) (next:Act→World→Prop) (Q:Exit→Act→World→Prop)
    (hn:∀ st' a' w' g',K st'→T w0 K0 nt st' a' w' g'→next a' w'):stepW P ops o a w next Q:=by
  unfold glend at hv
  split at hv
  · rename_i gd hg
    obtain ⟨_,h1,h2,h4⟩:=hv
    have hw:=gflag_ok h h1 o hg
    unfold stepW
    rw [hw,if_pos rfl]
    exact vop_ok (e:=fun x=>peel (st.ev x)) h (opOk_dst hok) (opOk_store hok) (fun x hx=>peel_ok (h.ev x) (List.all_eq_true.1 h2 x hx)) h4 hn
  · exact hv.elim
theorem vstepL_ok (h:T w0 K0 nt st a w g) {o:Oper} (hok:opOk nt o=true) {K:St→Prop} (hv:vstepL P ops st o K) (next:Act→World→Prop) (Q:Exit→Act→World→Prop)
    (hn:∀ st' a' w' g',K st'→T w0 K0 nt st' a' w' g'→next a' w'):stepW P ops o a w next Q:=by
  rcases hv with hv | hv
  · exact vstep_ok h hok hv next Q hn
  · exact glend_ok h hok hv next Q hn
theorem vr_ok {Q:Exit→Act→World→Prop} : ∀ (l:List Oper) (st:St) (a:Act) (w:World) (g:G) (K:St→Prop),T w0 K0 nt st a w g→(l.all (opOk nt))=true→vr P ops l st K →
    (∀ st' a' w' g',K st'→T w0 K0 nt st' a' w' g'→Q .normal a' w')→wpList P ops Q l a w
  | [],st,a,w,g,K,h,_,hv,hn=>hn _ _ _ _ hv h
  | o::r,st,a,w,g,K,h,hok,hv,hn=>by
    simp only [List.all_cons,Bool.and_eq_true] at hok
    have:=vstepL_ok h hok.1 hv (wpList P ops Q r) Q (fun st' a' w' g' h1 h2=>vr_ok r st' a' w' g' K h2 hok.2 h1 hn)
    unfold stepW at this
    unfold wpList
    split
    · rename_i hw;rw [if_pos hw] at this;exact .inl this
    · rename_i hw;rw [if_neg hw] at this;exact this
end
def VW (P:Program) (w0:World) (K0:K0T) (nt:Nat) (c:Code) (st:St) (Q:Exit→St→Prop):Prop :=
  ∀ a w g,T w0 K0 nt st a w g→c.wp P (fun e a' w'=>∃ st' g',Q e st'∧T w0 K0 nt st' a' w' g') a w
def codeOk (nt:Nat):Code→Bool
  | .region _ ops _=>ops.toList.all (opOk nt)
  | .seq a b=>codeOk nt a && codeOk nt b
  | .cond _ a b=>codeOk nt a && codeOk nt b
  | .block _ c=>codeOk nt c
  | .loop c=>codeOk nt c
  | _=>true
def seqQ (k:St→Prop) (Q:Exit→St→Prop):Exit→St→Prop
  | .normal,st=>k st
  | e,st=>Q e st
def blkQ (id:Nat) (Q:Exit→St→Prop):Exit→St→Prop
  | .exit id',st=>if id'=id then Q .normal st else Q (.exit id') st
  | e,st=>Q e st
def vc (P:Program) (w0:World) (K0:K0T) (nt:Nat):Code→St→(Exit→St→Prop)→Prop
  | .skip,st,Q=>Q .normal st
  | .label _,st,Q=>Q .normal st
  | .region id ops d,st,Q=>bif d then VW P w0 K0 nt (.region id ops true) st Q else vr P ops ops.toList st (Q .normal)
  | .seq x y,st,Q=>vc P w0 K0 nt x st (seqQ (fun st'=>vc P w0 K0 nt y st' Q) Q)
  | .cond c x y,st,Q =>
    match st.ev c with
    | .c (.v (.bool b))=>(b=true→vc P w0 K0 nt x st Q)∧(b=false→vc P w0 K0 nt y st Q)
    | _=>False
  | .block id c,st,Q=>vc P w0 K0 nt c st (blkQ id Q)
  | .exit id,st,Q=>Q (.exit id) st
  | .ret,st,Q=>Q .ret st
  | .loop c,st,Q=>VW P w0 K0 nt (.loop c) st Q
  | .rangeFunc f p as b,st,Q=>VW P w0 K0 nt (.rangeFunc f p as b) st Q
  | .scope b,st,Q=>VW P w0 K0 nt (.scope b) st Q
  | .goto l,st,Q=>VW P w0 K0 nt (.goto l) st Q
  | .refuse why,st,Q=>VW P w0 K0 nt (.refuse why) st Q
theorem vw_mono {P:Program} {w0:World} {K0:K0T} {nt:Nat} {c:Code} {st:St} {Q Q':Exit→St→Prop} (h:VW P w0 K0 nt c st Q) (hq:∀ e st',Q e st'→Q' e st'):VW P w0 K0 nt c st Q' :=
  fun a w g hT=>wp_mono (h a w g hT) fun _ _ _ ⟨st',g',h1,h2⟩=>⟨st',g',hq _ _ h1,h2⟩
theorem vc_ok {P:Program} {w0:World} {K0:K0T} {nt:Nat} : ∀ (c:Code) (st:St) (Q:Exit→St→Prop),codeOk nt c=true→vc P w0 K0 nt c st Q→VW P w0 K0 nt c st Q
  | .skip,st,Q,_,h=>fun a w g hT=>wp_skip ⟨st,g,h,hT⟩
  | .label l,st,Q,_,h=>fun a w g hT=>wp_label ⟨st,g,h,hT⟩
  | .region id ops d,st,Q,hok,h=>fun a w g hT=>by
    rw [vc] at h
    cases d with
    | true=>exact h a w g hT
    | false=>exact wp_region_list (vr_ok ops.toList st a w g _ hT (by simpa [codeOk] using hok) h (fun st' a' w' g' h1 h2=>⟨st',g',h1,h2⟩))
  | .seq x y,st,Q,hok,h=>fun a w g hT=>by
    simp only [codeOk,Bool.and_eq_true] at hok
    rw [vc] at h
    refine wp_seq (wp_mono (vc_ok x st _ hok.1 h a w g hT) fun e a' w' ⟨st',g',h1,h2⟩=>?_)
    cases e with
    | normal=>exact vc_ok y st' Q hok.2 h1 a' w' g' h2
    | _=>exact ⟨st',g',h1,h2⟩
  | .cond c x y,st,Q,hok,h=>fun a w g hT=>by
    simp only [codeOk,Bool.and_eq_true] at hok
    rw [vc] at h
    split at h
    · rename_i b hb
      have hc:=hT.ev c
      rw [hb] at hc
      have hcv:=SR_bool hc
      refine wp_cond_split hcv (fun hb=>?_) (fun hb=>?_)
      · exact vc_ok x st Q hok.1 (h.1 hb) a w g hT
      · exact vc_ok y st Q hok.2 (h.2 hb) a w g hT
    · exact h.elim
  | .block id c,st,Q,hok,h=>fun a w g hT=>by
    rw [vc] at h
    refine wp_block (wp_mono (vc_ok c st _ (by simpa [codeOk] using hok) h a w g hT) fun e a' w' ⟨st',g',h1,h2⟩=>?_)
    cases e with
    | exit id' =>
      simp only [Exit.inBlock]
      simp only [blkQ] at h1
      split
      · rename_i e;rw [if_pos e] at h1;exact ⟨st',g',h1,h2⟩
      · rename_i e;rw [if_neg e] at h1;exact ⟨st',g',h1,h2⟩
    | _=>exact ⟨st',g',h1,h2⟩
  | .exit id,st,Q,_,h=>fun a w g hT=>wp_exit ⟨st,g,h,hT⟩
  | .ret,st,Q,_,h=>fun a w g hT=>wp_ret ⟨st,g,h,hT⟩
  | .loop c,st,Q,_,h=>by rw [vc] at h;exact h
  | .rangeFunc f p as b,st,Q,_,h=>by rw [vc] at h;exact h
  | .scope b,st,Q,_,h=>by rw [vc] at h;exact h
  | .goto l,st,Q,_,h=>by rw [vc] at h;exact h
  | .refuse why,st,Q,_,h=>by rw [vc] at h;exact h
def St.le (st st':St):Prop:=(∀ p∈st'.env,st.get p.1=st'.get p.1)∧∀ p∈st'.res,st.rs p.1=st'.rs p.1
theorem vlook_none {α:Type} (d:α):∀ (l:List (Nat × α)) (t:Nat),(∀ p∈l,p.1≠t)→vlook d l t=d
  | [],_,_=>rfl
  | (k,x)::r,t,h=>by
    have:(k == t)=false:=by simpa using h (k,x) (by simp)
    rw [vlook,this]
    exact vlook_none d r t (fun p hp=>h p (by simp [hp]))
theorem T.weaken {w0:World} {K0:K0T} {nt:Nat} {st st':St} {a:Act} {w:World} {g:G} (h:T w0 K0 nt st a w g) (hle:st.le st'):T w0 K0 nt st' a w g:=by
  have hrs:∀ i r,st'.rs i=some r→st.rs i=some r:=fun i r hr=>by
    by_cases hx:∃ p∈st'.res,p.1=i
    · obtain ⟨p,hp,rfl⟩:=hx
      rw [hle.2 p hp];exact hr
    · have:=vlook_none none st'.res i (fun p hp e=>hx ⟨p,hp,e⟩)
      unfold St.rs at hr
      rw [this] at hr
      cases hr
  have hc:∀ i,Cmp g st.rs g st'.rs i:=fun i=>⟨fun fz ss e=>⟨⟨fz,ss,hrs i _ e⟩,rfl⟩,fun nil sz xs fx e=>⟨⟨nil,xs,fx,hrs i _ e,rfl⟩,rfl⟩,fun kvs e=>⟨⟨kvs,hrs i _ e,rfl⟩,rfl⟩⟩
  refine ⟨h.below,h.k0,h.kold,h.klt,fun i r hr=>?_,fun i j r r' hi hj=>h.dis i j r r' (hrs i r hi) (hrs j r' hj),fun t=>?_,h.nt,h.defers,h.keep⟩
  · exact RR.mono (Keeps.refl _ _) rfl (fun _ _=>⟨rfl,fun _ k=>k⟩) (fun _ _ _ _ _ j _=>hc j) (fun _ _ _ j _=>hc j) (fun _ _ j _=>hc j) (h.res i r (hrs i r hr))
  · by_cases hx:∃ p∈st'.env,p.1=t
    · obtain ⟨p,hp,rfl⟩:=hx
      rw [← hle.1 p hp]
      exact SR.mono (Keeps.refl _ _) _ _ (fun j _=>hc j) (h.env p.1)
    · have:st'.get t = .un:=by
        unfold St.get
        exact vlook_none S.un st'.env t (fun p hp e=>hx ⟨p,hp,e⟩)
      rw [this,SR];trivial
theorem vw_loop {P:Program} {w0:World} {K0:K0T} {nt:Nat} {c:Code} {st:St} {Q:Exit→St→Prop} {ι:Type} (I:ι→St) (H:ι→Prop) (μ:ι→Nat) (i0:ι) (hok:codeOk nt c=true) (h0:H i0) (hst:st.le (I i0))
    (round:∀ i,H i→vc P w0 K0 nt c (I i) (seqQ (fun st'=>∃ j,H j∧st'.le (I j)∧μ j<μ i) Q)):VW P w0 K0 nt (.loop c) st Q:=by
  intro a w g hT
  refine wp_loop_ghost (fun n a w=>∃ i g,μ i=n∧H i∧T w0 K0 nt (I i) a w g) (μ i0) ⟨i0,g,rfl,h0,hT.weaken hst⟩ (fun n a w hI=>?_)
  obtain ⟨i,g,rfl,hH,hT⟩:=hI
  refine wp_mono (vc_ok c (I i) _ hok (round i hH) a w g hT) fun e _ _ ⟨st',g',h1,h2⟩=>?_
  cases e with
  | normal =>
    obtain ⟨j,k1,k2,k3⟩:=h1
    exact ⟨μ j,k3,j,g',rfl,k1,h2.weaken k2⟩
  | _=>exact ⟨st',g',h1,h2⟩
def initEnv:Nat→List S→List (Nat × S)
  | _,[]=>[]
  | k,s::r=>(k,s)::initEnv (k+1) r
def initSt (args:List S):St:=⟨initEnv 0 args,[]⟩
def rvs (P:Program) (st:St):List ResultVar→(List S→St→Prop)→Prop
  | [],k=>k [] st
  | .tmp t::r,k=>rvs P st r fun ss st'=>k (st.get t::ss) st'
  | .cell ad t::r,k=>vloadb P st t (st.get ad) fun s st1=>rvs P st1 r fun ss st'=>k (s::ss) st'
def asRt (st:St) (s:S) (r:Rt):Prop :=
  match s,r with
  | .c x,.c y=>x=y
  | .agg cs,.ag ds=>cs=ds
  | .own i n,.fr nil sz xs fx=>st.rs i=some (.arr nil sz xs fx)∧xs.length=n
  | .c (.sl true []),.fr nil _ xs fx=>nil=true∧xs=[]∧fx=0
  | _,_=>False
def ownNames:List S→List Rt→List Nat
  | .own i _::ss,.fr _ _ _ _::rs=>i::ownNames ss rs
  | _::ss,_::rs=>ownNames ss rs
  | _,_=>[]
def asRts (st:St):List S→List Rt→Prop
  | [],[]=>True
  | s::ss,r::rs=>asRt st s r∧asRts st ss rs
  | _,_=>False
def retQ (P:Program) (fn:Func) (rs:List Rt):Exit→St→Prop
  | .normal,st=>rvs P st fn.results.toList fun ss st'=>asRts st' ss rs∧(ownNames ss rs).Nodup
  | .ret,st=>rvs P st fn.results.toList fun ss st'=>asRts st' ss rs∧(ownNames ss rs).Nodup
  | _,_=>False
def resOf (tmps:Array Value):ResultVar→Sem Value
  | .tmp t=>pure (tmps.getD t undef)
  | .cell a t=>do loadVar t (← asAddr (tmps.getD a undef))
section
variable {P:Program} {w0:World} {K0:K0T} {nt:Nat} {st:St} {a:Act} {w:World} {g:G}
theorem vlook_init:∀ (args:List S) (k t:Nat),vlook S.un (initEnv k args) t=if k≤t then (args[t-k]?).getD .un else .un
  | [],k,t=>by simp [initEnv,vlook]
  | s::r,k,t=>by
    rw [initEnv,vlook]
    by_cases h:k=t
    · subst h;simp
    · have:(k == t)=false:=by simpa using h
      rw [this,cond_false,vlook_init r (k+1) t]
      by_cases h1:k≤t
      · rw [if_pos h1,if_pos (by omega)]
        have:t-k=(t-(k+1))+1:=by omega
        rw [this]
        simp
      · rw [if_neg h1,if_neg (by omega)]
theorem T.init {K:Nat→Nat→Prop} {args:List S} {us:List Value} {n:Nat} (hK:∀ b o,K b o→b<w.heap.size) (hargs:DRs K w args us) (hn:args.length≤n) :
    T w ⟨K,fun _=>False,[]⟩ n (initSt args) { tmps:=us.toArray++Array.replicate (n-us.toArray.size) undef,defers:=[] } w ⟨K,fun _=>undef⟩:=by
  obtain ⟨hl,hs⟩:=(SRs_iff _ _).1 hargs
  have hrs:(initSt args).rs=fun _=>none:=by funext i;rfl
  refine ⟨Bel.refl _ _ _,fun _ _ k=>k,fun _ _ k _=>k,hK,(fun i r h=>by rw [hrs] at h;cases h),(fun i j r r' h=>by rw [hrs] at h;cases h),fun t=>?_,(by simp;omega),rfl,fun _ _ _=>rfl⟩
  have hg:(initSt args).get t=(args[t]?).getD .un:=by
    unfold St.get initSt
    rw [vlook_init];simp
  rw [hg,hrs]
  cases e:args[t]? with
  | none=>rw [Option.getD_none,SR];trivial
  | some s =>
    have hlt:t<us.length:=by rw [hl];exact (List.getElem?_eq_some_iff.1 e).1
    have:(us.toArray++Array.replicate (n-us.toArray.size) undef).getD t undef=us[t]:=by
      rw [Array.getD_eq_getD_getElem?,Array.getElem?_append_left (by simpa using hlt)]
      simp [hlt]
    simp only [Option.getD_some]
    rw [this]
    exact hs t s _ e (by simp [hlt])
theorem rvs_ok:∀ (l:List ResultVar) (st:St) (g:G) (k:List S→St→Prop),T w0 K0 nt st a w g→rvs P st l k →
    ∃ vs ss st' g',(l.mapM (resOf a.tmps)).run P w = .ok vs w∧k ss st'∧T w0 K0 nt st' a w g'∧SRs g' w st'.rs ss vs∧(∀ s u,SR g w st.rs s u→SR g' w st'.rs s u)
  | [],st,g,k,h,hv=>⟨[],[],st,g,rfl,hv,h,by rw [SRs],fun _ _ h=>h⟩
  | .tmp t::r,st,g,k,h,hv=>by
    rw [rvs] at hv
    obtain ⟨vs,ss,st',g',e1,e2,e3,e4,e5⟩:=rvs_ok r st g _ h hv
    refine ⟨a.tmps.getD t undef::vs,st.get t::ss,st',g',?_,e2,e3,by rw [SRs];exact ⟨_,_,rfl,e5 _ _ (h.env t),e4⟩,e5⟩
    simp only [List.mapM_cons,resOf,Sem.run_bind,Sem.run_pure,Result.andThen_ok,e1]
  | .cell ad t::r,st,g,k,h,hv=>by
    rw [rvs] at hv
    obtain ⟨v,s',st1,g1,f1,f2,f3,f4,f5,f6⟩:=vloadb_ok h (h.env ad) hv
    obtain ⟨vs,ss,st',g',e1,e2,e3,e4,e5⟩:=rvs_ok r st1 g1 _ f3 f2
    refine ⟨v::vs,s'::ss,st',g',?_,e2,e3,by rw [SRs];exact ⟨_,_,rfl,e5 _ _ f4,e4⟩,fun s u hh=>e5 s u (f5 s u hh)⟩
    have hload:(resOf a.tmps (.cell ad t)).run P w = .ok v w:=by
      show (do loadVar t (← asAddr (a.tmps.getD ad undef)):Sem Value).run P w = .ok v w
      generalize a.tmps.getD ad undef=x at f1 ⊢
      cases x with
      | pointer p =>
        cases p with
        | none=>simp [Instr.loadAt,Instr.sureAddr] at f1
        | some p=>simpa [Instr.loadAt,Instr.sureAddr,asAddr] using f1
      | _=>simp [Instr.loadAt,Instr.sureAddr] at f1
    simp only [List.mapM_cons,Sem.run_bind,hload,Result.andThen_ok,e1,Sem.run_pure]
theorem asRts_ok (h:T w0 K0 nt st a w g) (hL:∀ b,¬ K0.L b):∀ (ss:List S) (rs:List Rt) (vs:List Value),SRs g w st.rs ss vs→asRts st ss rs→(ownNames ss rs).Nodup →
    RtRs g.K w w0.heap.size rs vs∧∀ (k:Nat) r v,rs[k]? = some r→vs[k]? = some v→isFr r=true→∀ b,blk v=some b→∃ i r',i∈ownNames ss rs∧st.rs i=some r'∧blk (g.loc i)=some b
  | [],[],vs,hs,_,_=>by
    rw [SRs] at hs
    subst hs
    exact ⟨⟨rfl,by simp,by simp⟩,by simp⟩
  | [],_::_,vs,hs,ha,_=>by simp [asRts] at ha
  | _::_,[],vs,hs,ha,_=>by simp [asRts] at ha
  | s::ss,r::rs,vs,hs,ha,hnd=>by
    rw [SRs] at hs
    obtain ⟨v,vs',rfl,h1,h2⟩:=hs
    obtain ⟨a1,a2⟩:=ha
    have hnd':(ownNames ss rs).Nodup:=by
      unfold ownNames at hnd
      split at hnd
      · rename_i heq1 heq2;cases heq1;cases heq2;exact (List.nodup_cons.1 hnd).2
      · rename_i heq1 heq2;cases heq1;cases heq2;exact hnd
      · rename_i hx;exact absurd rfl (hx s ss r rs rfl)
    obtain ⟨⟨l1,l2,l3⟩,l4⟩:=asRts_ok h hL ss rs vs' h2 a2 hnd'
    have hsub:∀ i,i∈ownNames ss rs→i∈ownNames (s::ss) (r::rs):=fun i hi=>by
      unfold ownNames
      split
      · rename_i heq1 heq2;cases heq1;cases heq2;exact List.mem_cons_of_mem _ hi
      · rename_i heq1 heq2;cases heq1;cases heq2;exact hi
      · rename_i hx;exact absurd rfl (hx s ss r rs rfl)
    have head:RtR g.K w w0.heap.size r v∧(isFr r=true→∀ b,blk v=some b→∃ i r',i∈ownNames (s::ss) (r::rs)∧i ∉ ownNames ss rs∧st.rs i=some r'∧blk (g.loc i)=some b):=by
      unfold asRt at a1
      split at a1
      · subst a1;rw [SR] at h1;exact ⟨by rw [RtR];exact h1,fun e=>by cases e⟩
      · subst a1;rw [SR] at h1;exact ⟨by rw [RtR];exact h1,fun e=>by cases e⟩
      · rename_i i n nil sz xs fx
        obtain ⟨e1,e2⟩:=a1
        rw [SR] at h1
        have hu:=h1 nil sz xs fx e1 e2
        subst hu
        refine ⟨?_,fun _ b hb=>⟨i,_,by simp [ownNames],?_,e1,hb⟩⟩
        · rw [RtR]
          have:=h.res i _ e1
          rcases this with q | ⟨q0,b,cap,cur,E,q1,q2,q3⟩
          · exact .inl q
          · exact .inr ⟨q0,b,cap,cur,E,q1,Nat.le_of_not_lt (fun hh=>q2 ⟨hh,hL b⟩),q3⟩
        · simp only [ownNames] at hnd
          exact (List.nodup_cons.1 hnd).1
      · rename_i nil sz xs fx
        obtain ⟨rfl,rfl,rfl⟩:=a1
        simp only [SR,CR] at h1
        have hv:v = .slice none 0 0:=by
          rcases h1 with ⟨_,_,q⟩ | ⟨q,_⟩
          · exact q
          · cases q
        subst hv
        exact ⟨by rw [RtR];exact .inl ⟨rfl,rfl,rfl,rfl⟩,fun _ b hb=>by simp [blk] at hb⟩
      · exact a1.elim
    refine ⟨⟨by simp [l1],fun k r' v' e1 e2=>?_,fun j k r1 r2 v1 v2 hjk e1 e2 e3 e4 f1 f2 b hb hb2=>?_⟩,fun k r' v' e1 e2 f b hb=>?_⟩
    · cases k with
      | zero=>simp at e1 e2;subst e1;subst e2;exact head.1
      | succ k=>exact l2 k r' v' (by simpa using e1) (by simpa using e2)
    · cases j with
      | zero =>
        cases k with
        | zero=>exact hjk rfl
        | succ k =>
          simp at e1 e3
          subst e1;subst e3
          obtain ⟨i,r',m1,m2,m3,m4⟩:=head.2 f1 b hb
          obtain ⟨i',r'',n1,n2,n3⟩:=l4 k r2 v2 (by simpa using e2) (by simpa using e4) f2 b hb2
          exact h.dis i i' _ _ m3 n2 (fun e=>m2 (e ▸ n1)) b m4 n3
      | succ j =>
        cases k with
        | zero =>
          simp at e2 e4
          subst e2;subst e4
          obtain ⟨i,r',m1,m2,m3,m4⟩:=head.2 f2 b hb2
          obtain ⟨i',r'',n1,n2,n3⟩:=l4 j r1 v1 (by simpa using e1) (by simpa using e3) f1 b hb
          exact h.dis i i' _ _ m3 n2 (fun e=>m2 (e ▸ n1)) b m4 n3
        | succ k=>exact l3 j k r1 r2 v1 v2 (by omega) (by simpa using e1) (by simpa using e2) (by simpa using e3) (by simpa using e4) f1 f2 b hb hb2
    · cases k with
      | zero =>
        simp at e1 e2;subst e1;subst e2
        obtain ⟨i,r',m1,m2,m3,m4⟩:=head.2 f b hb
        exact ⟨i,r',m1,m3,m4⟩
      | succ k =>
        obtain ⟨i,r'',n1,n2,n3⟩:=l4 k r' v' (by simpa using e1) (by simpa using e2) f b hb
        exact ⟨i,r'',hsub i n1,n2,n3⟩
theorem spec_of {f:FuncId} {fn:Func} {c:Code} {args:List S} {rs:List Rt} (hf:P.funcs[f]? = some fn) (hb:fn.body=some c) (hc:callable P f=true) (hn:args.length≤fn.ntmps)
    (hv:∀ w0 K0,VW P w0 K0 fn.ntmps c (initSt args) (retQ P fn rs)):Con P f args rs:=by
  refine Con.of hc fun w K us hK hargs=>?_
  have hT:=T.init (n:=fn.ntmps) hK hargs hn
  refine calls_of_wp hf hb (wp_mono (hv w ⟨K,fun _=>False,[]⟩ _ w _ hT) fun e a' w' ⟨st',g',h1,h2⟩=>?_)
  have fin:(rvs P st' fn.results.toList fun ss st''=>asRts st'' ss rs∧(ownNames ss rs).Nodup)→a'.defers=[]∧∃ v,(results fn a'.tmps).run P w' = .ok v w'∧∃ vs:List Value,(Ending.returned v) = .returned (retV vs)∧BelowD w.heap.size w w' ∧
      ∃ K':Nat→Nat→Prop,(∀ b o,K b o→K' b o)∧(∀ b o,K' b o→b<w.heap.size→K b o)∧(∀ b o,K' b o→b<w'.heap.size)∧RtRs K' w' w.heap.size rs vs:=by
    intro hr
    obtain ⟨vs,ss,st'',g'',e1,⟨e2,e2'⟩,e3,e4,e5⟩:=rvs_ok _ st' g' _ h2 hr
    refine ⟨h2.defers,retV vs,?_,vs,rfl,⟨⟨h2.below.os,h2.below.tape,h2.below.output,h2.below.size,fun k hk=>h2.below.block k ⟨hk,id⟩⟩,h2.below.drawn⟩,g''.K,e3.k0,fun b o k hb=>e3.kold b o k ⟨hb,id⟩,e3.klt,(asRts_ok e3 (fun _=>id) ss rs vs e4 e2 e2').1⟩
    have hres:results fn a'.tmps=(do let vs ← fn.results.mapM (resOf a'.tmps);pure (if h:vs.size=1 then vs[0] else .tuple vs)):=by
      unfold results
      congr 1
    have hm:(fn.results.mapM (resOf a'.tmps)).run P w' = .ok vs.toArray w':=by
      rw [← Array.toArray_toList (xs:=fn.results),List.mapM_toArray]
      simp only [Sem.run_map,e1,Result.andThen_ok]
    rw [hres,Sem.run_bind,hm,Result.andThen_ok,Sem.run_pure]
    congr 1
    match vs with
    | []=>rfl
    | [x]=>rfl
    | x::y::r=>simp [retV]
  cases e with
  | normal=>exact fin h1
  | ret=>exact fin h1
  | _=>exact h1.elim
end
end Go.VL
