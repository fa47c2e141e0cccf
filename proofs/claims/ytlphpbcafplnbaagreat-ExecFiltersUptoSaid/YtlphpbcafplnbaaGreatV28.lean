/- Contracts of functions of the seat, proved in a logic on data over the model (part V28). -/
import Derived.Test.YtlphpbcafplnbaaGreatV26
import Derived.Test.YtlphpbcafplnbaaGreatV16
set_option linter.unusedSimpArgs false
set_option linter.unusedVariables false
namespace Go.VL
open Go.RowKit
def frzR (st:St) (i:Nat):Option Res→St
  | some (.arr nil sz xs _)=>st.setR i (some (.arr nil sz xs xs.length))
  | _=>st
def St.frz:List Nat→St→St
  | [],st=>st
  | i::r,st=>St.frz r (frzR st i (st.rs i))
structure LI where
  k:Nat
  nl:Bool
  sz:Nat
def chainOf (pv:Value):List PanicEntry:=[{ v:=pv,recovered:=false }]
def ConP (P:Program) (f:FuncId) (args:List S) (pv:Value):Prop :=
  callable P f=true∧∀ (w:World) (K:Nat→Nat→Prop) (us:List Value),(∀ b o,K b o→b<w.heap.size)→DRs K w args us →
    Calls P f us.toArray w fun e w'=>e = .panicked (chainOf pv)∧BelowD w.heap.size w w'
def plainC:List C→Option (List Value)
  | []=>some []
  | .v x::r=>(plainC r).map (x :: ·)
  | _=>none
def vmi (P:Program) (st:St) (o:Oper) (K:St→Prop):Prop :=
  match o.guard,o.op,o.dst with
  | none,.makeInterface t x,some y =>
    match st.ev x with
    | .agg cs=>∃ us,plainC cs=some us∧isIface P t=false∧K (st.put y (.c (.v (.iface t (.agg us.toArray)))))
    | .c (.v u)=>isIface P t=false∧K (st.put y (.c (.v (.iface t u))))
    | _=>False
  | _,_,_=>False
def vpan (P:Program) (ops:Array Oper) (st:St) (o:Oper) (X:Value→St→Prop):Prop :=
  gflag ops st o.guard=some true∧(o.op.operands.toList.all fun x=>flagOf (st.ev x))=true ∧
  match o.op with
  | .panic x =>
    match peel (st.ev x) with
    | .c (.v (.iface t u))=>X (.iface t u) st
    | _=>False
  | .call c =>
    match c.callee with
    | .value f =>
      match peel (st.ev f) with
      | .c (.fn fid caps)=>∃ pv,(frozenDs st (c.args.toList.map fun x=>peel (st.ev x))).2∧ConP P fid ((frozenDs st (c.args.toList.map fun x=>peel (st.ev x))).1++caps.map .c) pv∧X pv st
      | _=>False
    | _=>False
  | _=>False
def vrp (P:Program) (ops:Array Oper):List Oper→St→(Value→St→Prop)→Prop
  | [],_,_=>False
  | o::r,st,X=>vpan P ops st o X∨(vmi P st o fun st'=>vrp P ops r st' X)∨(vstepL P ops st o fun st'=>vrp P ops r st' X)
section
variable {P:Program} {w0:World} {K0:K0T} {nt:Nat} {st:St} {a:Act} {w:World} {g:G} {ops:Array Oper}
theorem plainC_ok {K:Nat→Nat→Prop} : ∀ (cs:List C) (us vs:List Value),plainC cs=some us→VR K w cs vs→vs=us
  | [],us,vs,h,hv=>by
    simp [plainC] at h
    rw [VR] at hv
    rw [hv,← h]
  | .v x::r,us,vs,h,hv=>by
    simp only [plainC,Option.map_eq_some_iff] at h
    obtain ⟨us',h1,rfl⟩:=h
    rw [VR] at hv
    obtain ⟨u,vs',rfl,h2,h3⟩:=hv
    rw [CR] at h2
    rw [h2.1,plainC_ok r us' vs' h1 h3]
  | .sl .. :: r,us,vs,h,_=>by simp [plainC] at h
  | .dp .. :: r,us,vs,h,_=>by simp [plainC] at h
  | .fn .. :: r,us,vs,h,_=>by simp [plainC] at h
theorem vmi_ok (h:T w0 K0 nt st a w g) {o:Oper} (hok:opOk nt o=true) {K:St→Prop} (hv:vmi P st o K) (next:Act→World→Prop) (Q:Exit→Act→World→Prop)
    (hn:∀ st' a' w' g',K st'→T w0 K0 nt st' a' w' g'→next a' w'):stepW P ops o a w next Q:=by
  unfold vmi at hv
  split at hv
  · rename_i t x y hg ho hd
    have hw:Region.wanted o (yielded ops a.tmps)=true:=by simp [Region.wanted,hg]
    unfold stepW
    rw [hw,if_pos rfl]
    have hy:=opOk_dst hok y hd
    split at hv
    · rename_i cs hx
      obtain ⟨us,h1,h2,h3⟩:=hv
      have he:=h.ev x
      rw [hx,SR] at he
      obtain ⟨vs,e1,e2⟩:=he
      obtain rfl:=plainC_ok cs us vs h1 e2
      refine ow_value (run_mkIface h2 ho e1) (hn _ _ w g h3 ?_)
      have:=h.putd (dst:=o.dst) (s:=.c (.v (.iface t (.agg vs.toArray)))) (fun t' e=>by rw [hd] at e;cases e;exact hy) (u:=.iface t (.agg vs.toArray)) (by rw [SR,CR];exact ⟨rfl,rfl⟩)
      rw [hd] at this ⊢
      exact this
    · rename_i u hx
      obtain ⟨h2,h3⟩:=hv
      have he:=h.ev x
      rw [hx,SR,CR] at he
      refine ow_value (run_mkIface h2 ho he.1) (hn _ _ w g h3 ?_)
      have:=h.putd (dst:=o.dst) (s:=.c (.v (.iface t u))) (fun t' e=>by rw [hd] at e;cases e;exact hy) (u:=.iface t u) (by rw [SR,CR];exact ⟨rfl,rfl⟩)
      rw [hd] at this ⊢
      exact this
    · exact hv.elim
  · exact hv.elim
theorem vpan_ok (h:T w0 K0 nt st a w g) {o:Oper} {X:Value→St→Prop} (hv:vpan P ops st o X) (next:Act→World→Prop) (Q:Exit→Act→World→Prop)
    (hn:∀ pv st' w' g',X pv st'→T w0 K0 nt st' a w' g'→Q (.panic (chainOf pv)) a w'):stepW P ops o a w next Q:=by
  obtain ⟨hq,hfl,hv⟩:=hv
  have hw:=gflag_ok h hq o rfl
  have hev:∀ x∈o.op.operands.toList,SR g w st.rs (peel (st.ev x)) (a.eval x):=fun x hx=>peel_ok (h.ev x) (List.all_eq_true.1 hfl x hx)
  unfold stepW
  rw [hw,if_pos rfl]
  split at hv
  · rename_i x ho
    split at hv
    · rename_i t u hx
      have he:=hev x (by rw [ho];simp [Op.operands])
      rw [hx,SR,CR] at he
      unfold Oper.wp
      have:(execOp a.eval o).run P w = .halt (.panic (.iface t u)) w:=by simp [execOp,ho,he.1,Instr.panic,goPanic]
      rw [this]
      exact hn _ _ w g hv h
    · exact hv.elim
  · rename_i c ho
    split at hv
    · rename_i f hc
      split at hv
      · rename_i fid caps hf
        obtain ⟨pv,hfd,⟨hcall,hsp⟩,hX⟩:=hv
        have hef:=hev f (by rw [ho];simp [Op.operands,Call.operands,hc])
        have hargs:SRs g w st.rs (c.args.toList.map fun x=>peel (st.ev x)) (c.args.toList.map a.eval):=SRs_map _ _ _ (fun x hx=>hev x (by rw [ho];simp [Op.operands,Call.operands,hc];exact .inr (by simpa using hx)))
        have k3:=frozenDs_ok h _ _ hargs hfd
        rw [hf] at hef
        simp only [SR,CR] at hef
        obtain ⟨us,hfv,hcv⟩:=hef
        have hcaps:SRs g w st.rs (caps.map .c) us:=by
          rw [SRs_iff]
          obtain ⟨q1,q2⟩:=(VR_iff _ _).1 hcv
          refine ⟨by simp [q1],fun k s u e1 e2=>?_⟩
          simp only [List.getElem?_map,Option.map_eq_some_iff] at e1
          obtain ⟨d,e1,rfl⟩:=e1
          rw [SR];exact q2 k d u e1 e2
        have hall:SRs g w st.rs ((frozenDs st (c.args.toList.map fun x=>peel (st.ev x))).1++caps.map .c) (c.args.toList.map a.eval++us):=by
          rw [SRs_iff] at k3 hcaps ⊢
          refine ⟨by simp [k3.1,hcaps.1],fun k s u e1 e2=>?_⟩
          by_cases hlt:k<(frozenDs st (c.args.toList.map fun x=>peel (st.ev x))).1.length
          · rw [List.getElem?_append_left hlt] at e1
            rw [List.getElem?_append_left (by rw [k3.1];exact hlt)] at e2
            exact k3.2 k s u e1 e2
          · rw [List.getElem?_append_right (by omega)] at e1
            rw [List.getElem?_append_right (by rw [k3.1];omega),k3.1] at e2
            exact hcaps.2 _ s u e1 e2
        obtain ⟨cal,args,ats⟩:=c
        simp only at hc
        subst hc
        have harr:(args.map a.eval)++us.toArray=(args.toList.map a.eval++us).toArray:=by
          apply Array.ext';simp
        have hex:(execOp a.eval o).run P w=(callFunc fid ((args.toList.map a.eval++us).toArray)).run P w:=by
          simp only [execOp,ho,resolve,Deferred.ofValue,hfv,Sem.run_bind,Sem.run_pure,Result.andThen_ok,invoke,Array.empty_append]
          rw [harr]
        unfold Oper.wp
        rw [hex,run_callable hcall,Oper.upon_enter]
        refine (hsp w g.K _ h.klt (DRs_of hall)).mono fun e w' ⟨he,hbel⟩=>?_
        subst he
        have hB:w0.heap.size≤w.heap.size:=h.below.size
        have hkeep:Keeps g.K w g.K w':=⟨fun _ _ k=>k,fun b o k=>by
          have:=h.klt b o k
          simp only [World.cell?];rw [hbel.block b this]⟩
        have hT1:=h.world (Bel.of (hbel.mono hB)) hkeep (fun b o k hlt=>h.kold b o k hlt) (fun b o k=>Nat.lt_of_lt_of_le (h.klt b o k) hbel.size) (fun i r b hi hb=>by
          have hlt:=(h.res i r hi).lt hb
          exact ⟨hbel.block b hlt,fun o k=>k⟩)
        exact hn _ _ _ _ hX hT1
      · exact hv.elim
    · exact hv.elim
  · exact hv.elim
theorem vrp_ok {Q:Exit→Act→World→Prop} {X:Value→St→Prop} : ∀ (l:List Oper) (st:St) (a:Act) (w:World) (g:G),T w0 K0 nt st a w g→(l.all (opOk nt))=true→vrp P ops l st X →
    (∀ pv st' a' w' g',X pv st'→T w0 K0 nt st' a' w' g'→Q (.panic (chainOf pv)) a' w')→wpList P ops Q l a w
  | [],st,a,w,g,h,_,hv,hn=>hv.elim
  | o::r,st,a,w,g,h,hok,hv,hn=>by
    simp only [List.all_cons,Bool.and_eq_true] at hok
    have:stepW P ops o a w (wpList P ops Q r) Q:=by
      rcases hv with hv | hv | hv
      · exact vpan_ok h hv _ _ (fun pv st' w' g' h1 h2=>hn pv st' a w' g' h1 h2)
      · exact vmi_ok h hok.1 hv _ _ (fun st' a' w' g' h1 h2=>vrp_ok r st' a' w' g' h2 hok.2 h1 hn)
      · exact vstepL_ok h hok.1 hv _ _ (fun st' a' w' g' h1 h2=>vrp_ok r st' a' w' g' h2 hok.2 h1 hn)
    unfold stepW at this
    unfold wpList
    split
    · rename_i hw;rw [if_pos hw] at this;exact .inl this
    · rename_i hw;rw [if_neg hw] at this;exact this
end
theorem spec_ofP {P:Program} {f:FuncId} {fn:Func} {c:Code} {args:List S} {pv:Value} (hf:P.funcs[f]? = some fn) (hb:fn.body=some c) (hc:callable P f=true) (hn:args.length≤fn.ntmps)
    (hv:∀ w0 K0,VW P w0 K0 fn.ntmps c (initSt args) fun e _=>e = .panic (chainOf pv)):ConP P f args pv:=by
  refine ⟨hc,fun w K us hK hargs=>?_⟩
  have hT:=T.init (n:=fn.ntmps) hK hargs hn
  refine calls_of_wp hf hb (wp_mono (hv w ⟨K,fun _=>False,[]⟩ _ w _ hT) fun e a' w' ⟨st',g',h1,h2⟩=>?_)
  subst h1
  exact ⟨h2.defers,rfl,⟨⟨h2.below.os,h2.below.tape,h2.below.output,h2.below.size,fun k hk=>h2.below.block k ⟨hk,id⟩⟩,h2.below.drawn⟩⟩
theorem vw_seq {P:Program} {w0:World} {K0:K0T} {nt:Nat} {x y:Code} {st:St} {Q:Exit→St→Prop} (h:VW P w0 K0 nt x st (seqQ (fun st'=>VW P w0 K0 nt y st' Q) Q)):VW P w0 K0 nt (.seq x y) st Q:=fun a w g hT=>by
  refine wp_seq (wp_mono (h a w g hT) fun e a' w' ⟨st',g',h1,h2⟩=>?_)
  cases e with
  | normal=>exact h1 a' w' g' h2
  | _=>exact ⟨st',g',h1,h2⟩
theorem vw_cond {P:Program} {w0:World} {K0:K0T} {nt:Nat} {c:Operand} {x y:Code} {st:St} {Q:Exit→St→Prop} {b:Bool} (hb:st.ev c = .c (.v (.bool b))) (h1:b=true→VW P w0 K0 nt x st Q) (h2:b=false→VW P w0 K0 nt y st Q):VW P w0 K0 nt (.cond c x y) st Q:=fun a w g hT=>by
  have hc:=hT.ev c
  rw [hb] at hc
  exact wp_cond_split (SR_bool hc) (fun hb=>h1 hb a w g hT) (fun hb=>h2 hb a w g hT)
theorem vw_block {P:Program} {w0:World} {K0:K0T} {nt:Nat} {id:Nat} {c:Code} {st:St} {Q:Exit→St→Prop} (h:VW P w0 K0 nt c st (blkQ id Q)):VW P w0 K0 nt (.block id c) st Q:=fun a w g hT=>by
  refine wp_block (wp_mono (h a w g hT) fun e a' w' ⟨st',g',h1,h2⟩=>?_)
  cases e with
  | exit id' =>
    simp only [Exit.inBlock]
    simp only [blkQ] at h1
    split
    · rename_i e;rw [if_pos e] at h1;exact ⟨st',g',h1,h2⟩
    · rename_i e;rw [if_neg e] at h1;exact ⟨st',g',h1,h2⟩
  | _=>exact ⟨st',g',h1,h2⟩
def vx (P:Program) (w0:World) (K0:K0T) (nt:Nat) (H:Nat→Bool):Code→St→(Exit→St→Prop)→Prop
  | .skip,st,Q=>Q .normal st
  | .label _,st,Q=>Q .normal st
  | .region id ops d,st,Q=>bif d || H id then VW P w0 K0 nt (.region id ops d) st Q else vr P ops ops.toList st (Q .normal)
  | .seq x y,st,Q=>vx P w0 K0 nt H x st (seqQ (fun st'=>vx P w0 K0 nt H y st' Q) Q)
  | .cond c x y,st,Q =>
    match st.ev c with
    | .c (.v (.bool b))=>(b=true→vx P w0 K0 nt H x st Q)∧(b=false→vx P w0 K0 nt H y st Q)
    | _=>False
  | .block id c,st,Q=>vx P w0 K0 nt H c st (blkQ id Q)
  | .exit id,st,Q=>Q (.exit id) st
  | .ret,st,Q=>Q .ret st
  | .loop c,st,Q=>VW P w0 K0 nt (.loop c) st Q
  | .rangeFunc f p as b,st,Q=>VW P w0 K0 nt (.rangeFunc f p as b) st Q
  | .scope b,st,Q=>VW P w0 K0 nt (.scope b) st Q
  | .goto l,st,Q=>VW P w0 K0 nt (.goto l) st Q
  | .refuse why,st,Q=>VW P w0 K0 nt (.refuse why) st Q
theorem vx_ok {P:Program} {w0:World} {K0:K0T} {nt:Nat} {H:Nat→Bool} : ∀ (c:Code) (st:St) (Q:Exit→St→Prop),codeOk nt c=true→vx P w0 K0 nt H c st Q→VW P w0 K0 nt c st Q
  | .skip,st,Q,_,h=>fun a w g hT=>wp_skip ⟨st,g,h,hT⟩
  | .label l,st,Q,_,h=>fun a w g hT=>wp_label ⟨st,g,h,hT⟩
  | .region id ops d,st,Q,hok,h=>fun a w g hT=>by
    rw [vx] at h
    cases hd:(d || H id) with
    | true=>rw [hd] at h;exact h a w g hT
    | false =>
      rw [hd] at h
      have:d=false:=by cases d <;> simp_all
      subst this
      exact wp_region_list (vr_ok ops.toList st a w g _ hT (by simpa [codeOk] using hok) h (fun st' a' w' g' h1 h2=>⟨st',g',h1,h2⟩))
  | .seq x y,st,Q,hok,h=>by
    simp only [codeOk,Bool.and_eq_true] at hok
    rw [vx] at h
    refine vw_seq (vw_mono (vx_ok x st _ hok.1 h) fun e st' h1=>?_)
    cases e with
    | normal=>exact vx_ok y st' Q hok.2 h1
    | _=>exact h1
  | .cond c x y,st,Q,hok,h=>by
    simp only [codeOk,Bool.and_eq_true] at hok
    rw [vx] at h
    split at h
    · rename_i b hb
      exact vw_cond hb (fun hb=>vx_ok x st Q hok.1 (h.1 hb)) (fun hb=>vx_ok y st Q hok.2 (h.2 hb))
    · exact h.elim
  | .block id c,st,Q,hok,h=>by
    rw [vx] at h
    exact vw_block (vx_ok c st _ (by simpa [codeOk] using hok) h)
  | .exit id,st,Q,_,h=>fun a w g hT=>wp_exit ⟨st,g,h,hT⟩
  | .ret,st,Q,_,h=>fun a w g hT=>wp_ret ⟨st,g,h,hT⟩
  | .loop c,st,Q,_,h=>by rw [vx] at h;exact h
  | .rangeFunc f p as b,st,Q,_,h=>by rw [vx] at h;exact h
  | .scope b,st,Q,_,h=>by rw [vx] at h;exact h
  | .goto l,st,Q,_,h=>by rw [vx] at h;exact h
  | .refuse why,st,Q,_,h=>by rw [vx] at h;exact h
section
variable {P:Program} {w0:World} {K0:K0T} {nt:Nat} {H:Nat→Bool}
@[simp ↓] theorem vx_skip (st:St) (Q:Exit→St→Prop):vx P w0 K0 nt H .skip st Q=Q .normal st:=by rw [vx]
def vxR (P:Program) (w0:World) (K0:K0T) (nt:Nat) (b:Bool) (id:Nat) (ops:List Oper) (st:St) (Q:Exit→St→Prop):Prop :=
  bif b then VW P w0 K0 nt (.region id ops.toArray false) st Q else vr P ops.toArray ops st (Q .normal)
@[simp ↓] theorem vx_region (id:Nat) (ops:List Oper) (st:St) (Q:Exit→St→Prop):vx P w0 K0 nt H (.region id ops.toArray false) st Q=force (tick (H id)) fun b=>vxR P w0 K0 nt b id ops st Q:=by rw [vx];rfl
@[simp ↓] theorem vxR_true (id:Nat) (ops:List Oper) (st:St) (Q:Exit→St→Prop):vxR P w0 K0 nt true id ops st Q=VL P w0 K0 nt (.region id ops.toArray false) (tick st) Q .mk .mk:=rfl
@[simp ↓] theorem vxR_false (id:Nat) (ops:List Oper) (st:St) (Q:Exit→St→Prop):vxR P w0 K0 nt false id ops st Q=vr P ops.toArray ops st (Q .normal):=rfl
@[simp ↓] theorem vx_draw (id:Nat) (ops:Array Oper) (st:St) (Q:Exit→St→Prop):vx P w0 K0 nt H (.region id ops true) st Q=VL P w0 K0 nt (.region id ops true) (tick st) Q .mk .mk:=by rw [vx];rfl
@[simp ↓] theorem vx_loop (c:Code) (st:St) (Q:Exit→St→Prop):vx P w0 K0 nt H (.loop c) st Q=VL P w0 K0 nt (.loop c) (tick st) Q .mk .mk:=by rw [vx];rfl
@[simp ↓] theorem vx_seq (x y:Code) (st:St) (Q:Exit→St→Prop):vx P w0 K0 nt H (.seq x y) st Q=vx P w0 K0 nt H x st (seqQ (fun st'=>vx P w0 K0 nt H y st' Q) Q):=by rw [vx]
@[simp ↓] theorem vx_cond (c:Operand) (x y:Code) (st:St) (Q:Exit→St→Prop):vx P w0 K0 nt H (.cond c x y) st Q=force (tick (st.ev c)) fun s=>vcond s (vx P w0 K0 nt H x st Q) (vx P w0 K0 nt H y st Q):=by
  rw [vx];unfold force tick vcond;split <;> simp_all
@[simp ↓] theorem vx_block (id:Nat) (c:Code) (st:St) (Q:Exit→St→Prop):vx P w0 K0 nt H (.block id c) st Q=vx P w0 K0 nt H c st (blkQ id Q):=by rw [vx]
@[simp ↓] theorem vx_exit (id:Nat) (st:St) (Q:Exit→St→Prop):vx P w0 K0 nt H (.exit id) st Q=Q (.exit id) st:=by rw [vx]
@[simp ↓] theorem vx_ret (st:St) (Q:Exit→St→Prop):vx P w0 K0 nt H .ret st Q=Q .ret st:=by rw [vx]
@[simp ↓] theorem seqQ_panic (k:St→Prop) (Q:Exit→St→Prop) (st:St) (ch:List PanicEntry):seqQ k Q (.panic ch) st=Q (.panic ch) st:=rfl
@[simp ↓] theorem blkQ_panic (id:Nat) (Q:Exit→St→Prop) (st:St) (ch:List PanicEntry):blkQ id Q (.panic ch) st=Q (.panic ch) st:=rfl
def VPN (P:Program) (ops:Array Oper) (l:List Oper) (st:St) (X:Value→St→Prop) (_:Keep X):Prop:=vrp P ops l st X
def vrq (P:Program) (ops:Array Oper):Nat→List Oper→St→(Value→St→Prop)→Prop
  | 0,l,st,X=>VPN P ops l st X .mk
  | _+1,[],_,_=>False
  | n+1,o::r,st,X=>vstepL P ops st o fun st'=>vrq P ops n r st' X
@[simp ↓] theorem vrq_zero (ops:Array Oper) (l:List Oper) (st:St) (X:Value→St→Prop):vrq P ops 0 l st X=VPN P ops l (tick st) X .mk:=by unfold vrq;rfl
@[simp ↓] theorem vrq_succ (ops:Array Oper) (n:Nat) (o:Oper) (l:List Oper) (st:St) (X:Value→St→Prop):vrq P ops (n+1) (o::l) st X=force (tick st) fun st=>vstepL P ops st o fun st'=>vrq P ops n l st' X:=rfl
theorem vrq_ok {st:St} {a:Act} {w:World} {g:G} {ops:Array Oper} {Q:Exit→Act→World→Prop} {X:Value→St→Prop} : ∀ (n:Nat) (l:List Oper) (st:St) (a:Act) (w:World) (g:G),T w0 K0 nt st a w g→(l.all (opOk nt))=true→vrq P ops n l st X →
    (∀ pv st' a' w' g',X pv st'→T w0 K0 nt st' a' w' g'→Q (.panic (chainOf pv)) a' w')→wpList P ops Q l a w
  | 0,l,st,a,w,g,h,hok,hv,hn=>vrp_ok l st a w g h hok (by unfold vrq at hv;exact hv) hn
  | n+1,[],st,a,w,g,h,_,hv,hn=>by unfold vrq at hv;exact hv.elim
  | n+1,o::r,st,a,w,g,h,hok,hv,hn=>by
    simp only [List.all_cons,Bool.and_eq_true] at hok
    unfold vrq at hv
    have:stepW P ops o a w (wpList P ops Q r) Q:=vstepL_ok h hok.1 hv _ _ (fun st' a' w' g' h1 h2=>vrq_ok (st:=st) (a:=a) (w:=w) (g:=g) n r st' a' w' g' h2 hok.2 h1 hn)
    unfold stepW at this
    unfold wpList
    split
    · rename_i hw;rw [if_pos hw] at this;exact .inl this
    · rename_i hw;rw [if_neg hw] at this;exact this
theorem VL.panicAt {id:Nat} {ops:List Oper} {st:St} {Q:Exit→St→Prop} {m1:Keep (Code.region id ops.toArray false)} {m2:Keep Q} (n:Nat) (hok:(ops.all (opOk nt))=true)
    (h:vrq P ops.toArray n ops st fun pv st'=>Q (.panic (chainOf pv)) st'):VL P w0 K0 nt (.region id ops.toArray false) st Q m1 m2:=fun a w g hT =>
  wp_region_list (vrq_ok (st:=st) (a:=a) (w:=w) (g:=g) n ops st a w g hT hok h (fun pv st' a' w' g' h1 h2=>⟨st',g',h1,h2⟩))
def vpcF (P:Program) (st:St) (f:S) (args:List S) (X:Value→St→Prop):Prop :=
  match f with
  | .c (.fn fid caps)=>∃ pv,(frozenDs st args).2∧ConP P fid ((frozenDs st args).1++caps.map .c) pv∧X pv st
  | _=>False
theorem VPN.call {ops:Array Oper} {r:List Oper} {st:St} {X:Value→St→Prop} {m:Keep X} {d:Option Nat} {f:Operand} {args:List Operand} {ts:Array TypeId} {ty:TypeId} {p:String} {af:Array Edge}
    (hf:flagOf (st.ev f)=true) (ha:(args.map st.ev).all flagOf=true) (h:vpcF P st (peel (st.ev f)) ((args.map st.ev).map peel) X):VPN P ops (⟨d,.call ⟨.value f,args.toArray,ts⟩,ty,p,af,none⟩::r) st X m:=by
  refine .inl ⟨rfl,?_,?_⟩
  · rw [List.all_eq_true] at ha ⊢
    intro x hx
    simp [Op.operands,Call.operands] at hx
    rcases hx with rfl | hx
    · exact hf
    · exact ha _ (List.mem_map_of_mem hx)
  · unfold vpcF at h
    simp only
    rw [List.map_map] at h
    exact h
theorem VPN.raise {ops:Array Oper} {r:List Oper} {st:St} {X:Value→St→Prop} {m:Keep X} {t:TypeId} {x y:Nat} {ty ty':TypeId} {p p':String} {af af':Array Edge} {d:Option Nat} {cs:List C} {us:List Value}
    (h1:st.get x = .agg cs) (h2:plainC cs=some us) (h3:isIface P t=false) (h:X (.iface t (.agg us.toArray)) (st.put y (.c (.v (.iface t (.agg us.toArray)))))) :
    VPN P ops (⟨some y,.makeInterface t (.tmp x),ty,p,af,none⟩::⟨d,.panic (.tmp y),ty',p',af',none⟩::r) st X m:=by
  refine .inr (.inl ?_)
  unfold vmi
  simp only [ev_tmp,h1]
  refine ⟨us,h2,h3,.inl ⟨rfl,?_,?_⟩⟩
  · simp [Op.operands,St.get_put]
  · simp [St.get_put,peel]
    exact h
end
def vpanC (P:Program) (st:St) (o:Oper) (X:Value→Prop):Prop :=
  o.guard=none∧match o.op with
  | .call c =>
    match c.callee with
    | .value f =>
      match st.ev f with
      | .c (.fn fid caps)=>(c.args.toList.all fun x=>dataS (st.ev x))=true∧∃ pv,ConP P fid (c.args.toList.map st.ev++caps.map .c) pv∧X pv
      | _=>False
    | _=>False
  | _=>False
theorem frozenDs_data (st:St):∀ ss:List S,ss.all dataS=true→frozenDs st ss=(ss,(frozenDs st ss).2)∧(frozenDs st ss).2
  | [],_=>⟨rfl,trivial⟩
  | s::r,h=>by
    simp only [List.all_cons,Bool.and_eq_true] at h
    obtain ⟨h1,h2⟩:=frozenDs_data st r h.2
    have h0:frozenD st s=(s,True):=by
      cases s <;> first | rfl | (simp [dataS] at h)
    rw [frozenDs,h1,h0]
    exact ⟨rfl,trivial,h2⟩
theorem peel_data {s:S} (h:dataS s=true):peel s=s:=by cases s <;> first | rfl | (simp [dataS] at h)
theorem flag_data {s:S} (h:dataS s=true):flagOf s=true:=by cases s <;> first | rfl | (simp [dataS] at h)
theorem vpanC_vpan {P:Program} {ops:Array Oper} {cur st:St} {o:Oper} {X:Value→Prop} (hv:vpanC P cur o X) (he:∀ x∈o.op.operands.toList,cur.ev x=st.ev x):vpan P ops st o fun pv _=>X pv:=by
  obtain ⟨hg,hv⟩:=hv
  split at hv
  · rename_i c ho
    split at hv
    · rename_i f hc
      split at hv
      · rename_i fid caps hf
        obtain ⟨hd,pv,hp,hX⟩:=hv
        have ef:st.ev f = .c (.fn fid caps):=by rw [← he f (by rw [ho];simp [Op.operands,Call.operands,hc]),hf]
        have ea:∀ x∈c.args.toList,st.ev x=cur.ev x∧dataS (cur.ev x)=true:=fun x hx=>⟨(he x (by rw [ho];simp [Op.operands,Call.operands,hc];exact .inr (by simpa using hx))).symm,List.all_eq_true.1 hd x hx⟩
        have em:(c.args.toList.map fun x=>peel (st.ev x))=c.args.toList.map cur.ev:=List.map_congr_left fun x hx=>by
          obtain ⟨e1,e2⟩:=ea x hx
          rw [e1,peel_data e2]
        have hall:(c.args.toList.map cur.ev).all dataS=true:=by rw [List.all_map];exact hd
        refine ⟨by rw [hg];rfl,?_,?_⟩
        · rw [List.all_eq_true]
          intro x hx
          rw [ho] at hx
          simp [Op.operands,Call.operands,hc] at hx
          rcases hx with rfl | hx
          · rw [ef];rfl
          · obtain ⟨e1,e2⟩:=ea x (by simpa using hx)
            rw [e1];exact flag_data e2
        · rw [ho]
          simp only [hc]
          rw [ef]
          obtain ⟨k1,k2⟩:=frozenDs_data st (c.args.toList.map cur.ev) hall
          refine ⟨pv,?_,?_,hX⟩
          · show (frozenDs st (c.args.toList.map fun x=>peel (st.ev x))).2
            rw [em];exact k2
          · show ConP P fid ((frozenDs st (c.args.toList.map fun x=>peel (st.ev x))).1++caps.map .c) pv
            rw [em,k1]
            exact hp
      · exact hv.elim
    · exact hv.elim
  · exact hv.elim
section
variable {P:Program} {w0:World} {K0:K0T} {nt:Nat} {ops:Array Oper} {mk:Nat→Nat} {bar:Nat→Bool} {Q:Exit→Act→World→Prop}
theorem stretchP {st0:St} {l:List Rec} {X:Value→Prop} (hS:Static nt ops mk bar) (hg:Good P w0 K0 nt ops mk 0 st0 l) (hle:l.length<ops.size) (hback:∀ j,l.length<j→j<ops.size→tb (mk j) l.length=true)
    {o:Oper} (ho:ops[l.length]? = some o) (hp:vpanC P (appA st0 l) o X) (hX:∀ pv st a w g,X pv→T w0 K0 nt st a w g→Q (.panic (chainOf pv)) a w) :
    ∀ (fuel:Nat) (p:Nat→Bool) (listed:Array Bool) (a:Act) (w:World) (g:G),Lst ops.size listed p→rem ops.size p≤fuel→(∀ i,l.length≤i→i<ops.size→p i=false)→Down ops.size mk p →
      T w0 K0 nt (appF p st0 l) a w g→wpAny P .any ops Q fuel listed a w:=by
  have size:∀ {j:Nat} {o:Oper},ops[j]? = some o→j<ops.size:=fun ho=>(Array.getElem?_eq_some_iff.1 ho).1
  intro fuel
  induction fuel with
  | zero =>
    intro p listed a w g hL hr h2 hd hT
    exfalso
    unfold rem at hr
    have:=List.countP_eq_zero.1 (Nat.le_zero.1 hr) l.length (by simpa using hle)
    rw [h2 _ (Nat.le_refl _) hle] at this
    simp at this
  | succ fuel ih =>
    intro p listed a w g hL hr h2 hd hT
    have hex:∃ i,i≤l.length∧p i=false∧∀ k,k<i→p k=true:=by
      have:∀ n i,i≤n→i≤l.length→p i=false→∃ i,i≤l.length∧p i=false∧∀ k,k<i→p k=true:=by
        intro n
        induction n with
        | zero=>intro i hi q2 q3;exact ⟨i,q2,q3,fun k hk=>by omega⟩
        | succ n ihn =>
          intro i hi q2 q3
          by_cases hk:∃ k,k<i∧p k=false
          · obtain ⟨k,k1,k2⟩:=hk
            exact ihn k (by omega) (by omega) k2
          · refine ⟨i,q2,q3,fun k hk'=>?_⟩
            cases hp:p k with
            | true=>rfl
            | false=>exact absurd ⟨k,hk',hp⟩ hk
      exact this _ _ (Nat.le_refl _) (Nat.le_refl _) (h2 _ (Nat.le_refl _) hle)
    obtain ⟨i,q2,q3,q4⟩:=hex
    have hready:=ready_of hS hL (by omega) q3 q4
    refine ⟨fun he=>by rw [he] at hready;simp at hready,fun j hj=>?_⟩
    obtain ⟨s1,s2,_⟩:=ready_spec hL hj
    have hdn:=ready_down hS hL hd hj
    have j2:j≤l.length:=by
      by_cases q:j≤l.length
      · exact q
      · exfalso
        have:=hdn l.length hle (hback j (by omega) s1)
        rw [h2 _ (Nat.le_refl _) hle] at this;cases this
    by_cases hjl:j=l.length
    · subst hjl
      have he:∀ x∈o.op.operands.toList,(appA st0 l).ev x=(appF p st0 l).ev x:=by
        intro x hx
        cases x with
        | tmp t =>
          show (appA st0 l).get t=(appF p st0 l).get t
          rw [← appF_true]
          refine appF_get l _ _ (fun y hy hyd=>?_) rfl
          obtain ⟨_,hlt,o',ho',hyd'⟩:=hg.idx y hy
          cases hpy:p y.j with
          | true=>rfl
          | false =>
            exfalso
            have hnt:tb (mk l.length) y.j=false:=by
              cases ht:tb (mk l.length) y.j with
              | false=>rfl
              | true=>rw [hdn y.j (size ho') ht] at hpy;cases hpy
            have hap:=(hS.ap y.j l.length o' o (by omega) ho' ho).resolve_left (by rw [hnt];simp)
            exact (Oper.apart_spec hap).1 t (by rw [← hyd'];exact hyd) (List.mem_append_left _ (List.mem_filterMap.2 ⟨.tmp t,hx,rfl⟩))
        | _=>rfl
      exact wpOp_of_step ho (vpan_ok hT (vpanC_vpan hp he) _ _ (fun pv st' w' g' h1 h2=>hX pv st' a w' g' h1 h2))
    · refine good_step hS hg hd s1 (Nat.zero_le _) (by omega) s2 hdn hT (fun a' w' g' hT'=>?_)
      refine ih (ins p j) _ a' w' g' (hL.set s1) (by have:=rem_ins s1 s2;omega) (fun k k1 k2=>?_) (hd.ins hdn) hT'
      have:(k == j)=false:=by simp;omega
      simp [ins,this,h2 k k1 k2]
def vdp (P:Program) (ops:Array Oper):Nat→List Oper→List (Nat × Bool)→Nat→St→List Rec→St→(Value→Prop)→Prop
  | 0,o::_,_,_,_,_,cur,X=>vpanC P cur o X
  | n+1,o::r,(m,_)::pl,j,st0,l,cur,X =>
    veff P ops (restr cur (rdOf cur o)) o fun e=>chk m st0 l e (rdOf cur o)=true∧vdp P ops n r pl (j+1) st0 (l++[⟨j,e,rdOf cur o⟩]) (cur.app e) X
  | _,_,_,_,_,_,_,_=>False
theorem vdp_ok {X:Value→Prop} (hS:Static nt ops mk bar) (hX:∀ pv st a w g,X pv→T w0 K0 nt st a w g→Q (.panic (chainOf pv)) a w):∀ (n:Nat) (r:List Oper) (pl:List (Nat × Bool)) (j:Nat) (st0:St) (l:List Rec) (cur:St),
    (∀ j',j+n<j'→j' < ops.size→tb (mk j') (j+n)=true) →
    (∀ k,r[k]? = ops[j+k]?)→j+r.length=ops.size→(∀ k,k<r.length→∃ x,pl[k]? = some x∧mk (j+k)=x.1)→Good P w0 K0 nt ops mk 0 st0 l→j=l.length→cur=appA st0 l→vdp P ops n r pl j st0 l cur X →
    ∀ fuel listed a w g,Lst ops.size listed (below 0)→rem ops.size (below 0)≤fuel→T w0 K0 nt st0 a w g→wpAny P .any ops Q fuel listed a w
  | 0,[],pl,j,st0,l,cur,hb,hr,hn,_,hg,hj,hcur,hv=>by unfold vdp at hv;exact hv.elim
  | n+1,[],pl,j,st0,l,cur,hb,hr,hn,_,hg,hj,hcur,hv=>by unfold vdp at hv;exact hv.elim
  | 0,o::r,pl,j,st0,l,cur,hb,hr,hn,hpl,hg,hj,hcur,hv=>by
    intro fuel listed a w g hL hrem hT
    have ho:ops[j]? = some o:=by have:=hr 0;simpa using this.symm
    have hjn:j<ops.size:=by simp at hn;omega
    have hv:vpanC P cur o X:=by unfold vdp at hv;exact hv
    subst hj
    subst hcur
    exact stretchP hS hg hjn (by simpa using hb) ho hv hX fuel (below 0) listed a w g hL hrem (fun i h1 h2=>by simp [below]) (below_down hS 0) (by rw [below_none hg];exact hT)
  | n+1,o::r,pl,j,st0,l,cur,hb,hr,hn,hpl,hg,hj,hcur,hv=>by
    intro fuel listed a w g hL hrem hT
    have ho:ops[j]? = some o:=by have:=hr 0;simpa using this.symm
    obtain ⟨x,hx,hm⟩:=hpl 0 (by simp)
    simp only [Nat.add_zero] at hm
    have hok:=hS.ok j o ho
    cases pl with
    | nil=>simp at hx
    | cons mb pl =>
      simp at hx
      subst hx
      obtain ⟨m,b⟩:=mb
      simp only at hm
      have hr':∀ k,r[k]? = ops[j+1+k]? := fun k=>by
        have:=hr (k+1)
        rw [show j+1+k=j+(k+1) from by omega]
        simpa using this
      have hpl':∀ k,k<r.length→∃ x,pl[k]? = some x∧mk (j+1+k)=x.1:=fun k hk=>by
        obtain ⟨x,h1,h2⟩:=hpl (k+1) (by simpa using hk)
        exact ⟨x,by simpa using h1,by rw [show j+1+k=j+(k+1) from by omega];exact h2⟩
      have hn':j+1+r.length=ops.size:=by simp at hn;omega
      unfold vdp at hv
      obtain ⟨e,⟨hc,hv'⟩,hd,hstep⟩:=veff_ok (w0:=w0) (K0:=K0) hok hv
      obtain ⟨c1,c2⟩:=chk_ok (x:=⟨j,e,rdOf cur o⟩) hg hm hc
      have hrec:RecOK P w0 K0 nt ops mk st0 l ⟨j,e,rdOf cur o⟩:=⟨⟨o,ho,hd,by rw [← hcur];exact hstep⟩,c1,c2⟩
      exact vdp_ok hS hX n r pl (j+1) st0 (l++[⟨j,e,rdOf cur o⟩]) (cur.app e) (by rw [show j+1+n=j+(n+1) from by omega];exact hb) hr' hn' hpl' (.snoc hg (by show j=0+l.length;omega) hrec) (by rw [List.length_append];simp;omega) (by rw [appA_snoc,hcur]) hv' fuel listed a w g hL hrem hT
end
def backB (pl:List (Nat × Bool)) (n:Nat):Bool:=(List.range pl.length).all fun j=>!decide (n<j) || tb (pmask pl j) n
theorem vw_drawP {P:Program} {w0:World} {K0:K0T} {nt id:Nat} {ops:Array Oper} {st:St} {Q:Exit→St→Prop} (n:Nat) (hm:P.follows .mixedOrders=true) (pl:List (Nat × Bool)) (hS:(staticB nt ops (pmask pl) (pbar pl) && pl.length == ops.size && backB pl n)=true)
    (hv:vdp P ops n ops.toList pl 0 st [] st fun pv=>∀ st',Q (.panic (chainOf pv)) st'):VW P w0 K0 nt (.region id ops true) st Q:=by
  intro a w g hT
  rw [Bool.and_eq_true,Bool.and_eq_true,beq_iff_eq] at hS
  obtain ⟨⟨hS1,hS2⟩,hS3⟩:=hS
  refine wp_region_any hm ?_
  have hT':T w0 K0 nt st a { w with drawn:=w.drawn+1 } g :=
    hT.world (w':={ w with drawn:=w.drawn+1 }) (K':=g.K) ⟨rfl,rfl,rfl,Nat.le_refl _,fun _ _=>rfl,Nat.le_succ _⟩ ⟨fun _ _ h=>h,fun _ _ _=>rfl⟩ hT.kold hT.klt (fun _ _ _ _ _=>⟨rfl,fun _ h=>h⟩)
  refine vdp_ok (mk:=pmask pl) (bar:=pbar pl) (static_of hS1) (fun pv st a w g h1 h2=>⟨st,g,h1 st,h2⟩) n ops.toList pl 0 st [] st (fun j' h1 h2=>?_) (fun k=>by simp) (by simp) (fun k hk=>?_) .nil rfl rfl hv ops.size _ a _ g ⟨by simp,fun i hi=>?_⟩ ?_ hT'
  · have:=List.all_eq_true.1 hS3 j' (by simp;omega)
    simp only [Nat.zero_add] at h1 ⊢
    simpa [h1] using this
  · have hlt:k<pl.length:=by rw [hS2];simpa using hk
    refine ⟨pl[k],by simp [hlt],?_⟩
    simp [pmask,hlt]
  · rw [Array.getD_eq_getD_getElem?];simp [below,hi]
  · unfold rem
    exact Nat.le_trans List.countP_le_length (by simp)
section
variable {P:Program} {w0:World} {K0:K0T} {nt:Nat}
theorem VL.drawP {id:Nat} {l:List Oper} {st:St} {Q:Exit→St→Prop} (n:Nat) (hm:P.follows .mixedOrders=true) (pl:List (Nat × Bool)) (hS:(staticB nt l.toArray (pmask pl) (pbar pl) && pl.length == l.toArray.size && backB pl n)=true)
    (hv:vdp P l.toArray n l pl 0 st [] st fun pv=>∀ st',Q (.panic (chainOf pv)) st'):VL P w0 K0 nt (.region id l.toArray true) st Q .mk .mk :=
  vw_drawP n hm pl hS hv
def VPC (P:Program) (st:St) (o:Oper) (X:Value→Prop) (_:Keep X):Prop:=vpanC P st o X
@[simp ↓] theorem vdp_zero (ops:Array Oper) (o:Oper) (r:List Oper) (pl:List (Nat × Bool)) (j:Nat) (st0:St) (l:List Rec) (cur:St) (X:Value→Prop):vdp P ops 0 (o::r) pl j st0 l cur X=VPC P (tick cur) o X .mk:=by unfold vdp;rfl
@[simp ↓] theorem vdp_op (ops:Array Oper) (n:Nat) (o:Oper) (r:List Oper) (m:Nat) (b:Bool) (pl:List (Nat × Bool)) (j:Nat) (st0:St) (l:List Rec) (cur:St) (X:Value→Prop) :
    vdp P ops (n+1) (o::r) ((m,b)::pl) j st0 l cur X=force (tick cur) fun cur=>force (tick (rdOf cur o)) fun rd=>force (tick (restr cur rd)) fun sR=>veff P ops sR o fun e=>force (tick e) fun e=>chk m st0 l e rd=true∧force (tick (l++[⟨j,e,rd⟩])) fun l=>vdp P ops n r pl (j+1) st0 l (cur.app e) X:=by rw [vdp];rfl
theorem VPC.mk {st:St} {X:Value→Prop} {m:Keep X} {d:Option Nat} {f:Operand} {args:List Operand} {ts:Array TypeId} {ty:TypeId} {p:String} {af:Array Edge} {fid:FuncId} {caps:List C} {pv:Value} {ss:List S}
    (hf:st.ev f = .c (.fn fid caps)) (ha:args.map st.ev=ss) (hd:ss.all dataS=true) (h:ConP P fid (ss++caps.map .c) pv) (hX:X pv):VPC P st ⟨d,.call ⟨.value f,args.toArray,ts⟩,ty,p,af,none⟩ X m:=by
  refine ⟨rfl,?_⟩
  simp only [hf]
  subst ha
  refine ⟨?_,pv,h,hX⟩
  rw [List.all_map] at hd
  exact hd
end
theorem T.nilcell {w0:World} {K0:K0T} {nt:Nat} {st:St} {a:Act} {w:World} {g:G} (h:T w0 K0 nt st a w g) {i N k:Nat} {ss:List S} (_:N≠i)
    (hi:((st.clr N).setR N (some (.arr true 0 [] 0))).rs i=some (.box false ss)) (hk:ss[k]? = some (.c (.sl true []))) :
    ∃ g',T w0 K0 nt (((st.clr N).setR N (some (.arr true 0 [] 0))).setR i (some (.box false (ss.set k (.own N 0))))) a w g':=by
  obtain ⟨g1,h1,hl,_,_⟩:=h.nilR N
  refine ⟨g1,T.mod h1 hi (Bel.refl _ _ _) (Keeps.refl _ _) h1.kold h1.klt rfl (fun j r b _ _ _=>⟨rfl,fun _ k=>k⟩) (.inl ⟨_,_,_,_,rfl,rfl⟩) (fun hc=>?_)⟩
  obtain ⟨b,cur,E,e1,e2,e3,e4,e5,e6⟩:=h1.res i _ hi
  refine ⟨b,cur,E,e1,e2,e3,by simpa using e4,fun k' s hs=>?_,e6⟩
  rw [List.getElem?_set] at hs
  by_cases e:k=k'
  · subst e
    rw [if_pos rfl] at hs
    have hlt:k<ss.length:=(List.getElem?_eq_some_iff.1 hk).1
    rw [if_pos hlt] at hs
    simp at hs
    subst hs
    obtain ⟨u,m1,m2,m3⟩:=e5 k _ hk
    refine ⟨u,m1,?_,m3⟩
    rw [SR,CR] at m2
    rcases m2 with ⟨_,_,rfl⟩ | ⟨hf,_⟩
    · rw [SR]
      intro nil sz xs fx _ _
      exact hl.symm
    · simp at hf
  · rw [if_neg e] at hs
    obtain ⟨u,m1,m2,m3⟩:=e5 k' s hs
    exact ⟨u,m1,SR.mono (Keeps.refl _ _) s u (fun j _=>hc j) m2,m3⟩
def nilB (r:Option Res) (i k N:Nat) (st1:St) (K:St→Prop):Prop :=
  match r with
  | some (.box false ss)=>ss[k]? = some (.c (.sl true []))∧K (st1.setR i (some (.box false (ss.set k (.own N 0)))))
  | _=>False
@[simp] theorem nilB_box (ss:List S) (i k N:Nat) (st1:St) (K:St→Prop):nilB (some (.box false ss)) i k N st1 K=(ss[k]? = some (.c (.sl true []))∧K (st1.setR i (some (.box false (ss.set k (.own N 0)))))):=rfl
theorem VL.nilcell {P:Program} {w0:World} {K0:K0T} {nt:Nat} {c:Code} {st:St} {Q:Exit→St→Prop} (i k N:Nat) (hne:N≠i)
    (h:force (tick ((st.clr N).setR N (some (.arr true 0 [] 0)))) fun st1=>nilB (st1.rs i) i k N st1 fun st'=>force (tick st') fun st'=>VL P w0 K0 nt c st' Q .mk .mk):VL P w0 K0 nt c st Q .mk .mk:=by
  intro a w g hT
  have h':nilB (((st.clr N).setR N (some (.arr true 0 [] 0))).rs i) i k N ((st.clr N).setR N (some (.arr true 0 [] 0))) fun st'=>VL P w0 K0 nt c st' Q .mk .mk:=h
  unfold nilB at h'
  split at h'
  · rename_i ss hi
    obtain ⟨g',hT'⟩:=hT.nilcell hne hi h'.1
    exact h'.2 a w g' hT'
  · exact h'.elim
theorem VL.to {P:Program} {w0:World} {K0:K0T} {nt:Nat} {c:Code} {st:St} {Q:Exit→St→Prop} (st':St) (hle:st.le st') (h:VL P w0 K0 nt c st' Q .mk .mk):VL P w0 K0 nt c st Q .mk .mk :=
  fun a w g hT=>h a w g (hT.weaken hle)
end Go.VL
