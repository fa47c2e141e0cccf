/- Contracts of functions of the seat, proved in a logic on data over the model (part N10). -/
import Derived.Test.YtlphpbcafplnbaaGreatVY3
import Derived.Test.YtlphpbcafplnbaaGreatVY5
import Derived.Test.YtlphpbcafplnbaaGreatVN14
import Derived.Test.YtlphpbcafplnbaaGreatV24
import Derived.Test.YtlphpbcafplnbaaGreatVY2
set_option linter.unusedSimpArgs false
set_option linter.unusedVariables false
namespace Go.VL
open Go.RowKit
section
variable {P:Program} {w0:World} {K0:K0T} {nt:Nat} {ops:Array Oper} {Kc:Nat→Nat→Prop} {J:Oth} {pre:List (List S)}
abbrev yldS (l:Nat):S:=.c (.v (.func (.yield l) #[] #[]))
theorem BarJ.yield (hJ:J.Ab Kc) {N l:Nat} {Ty:List S→Prop} (hY:YStep Kc P l N Ty J) {dst:Option Nat} {f:Operand} {args:Array Operand} {ats:Array TypeId} {ty:TypeId} {p:String} {af:Array Edge} {gd:Option (Nat × Bool)} {cur:St} {k:St→List (List S)→Prop} {m:Keep k}
    (hg:gflag ops cur gd=some true) (hf:peel (cur.ev f)=yldS l) (hff:flagOf (cur.ev f)=true) (xs:List S) (hx:args.toList.map (fun x=>peel (cur.ev x))=xs) (hfx:∀ x∈args.toList,flagOf (cur.ev x)=true) (har:Ty xs) (hfl:(xs.all flatS)=true) (hN:pre.length<N)
    (h:k (cur.putd dst (.c (.v (.bool true)))) (pre++[xs])):BarJ P w0 K0 nt Kc J ops ⟨dst,.call ⟨.value f,args,ats⟩,ty,p,af,gd⟩ cur pre k m:=by
  subst hx
  intro a w g Fo hT hok hnd next Q hn
  have hef:=peel_ok (hT.t.ev f) hff
  rw [hf,SR,CR] at hef
  have hfv:=hef.1
  have hargs:SRs g w cur.rs (args.toList.map fun x=>peel (cur.ev x)) (args.toList.map a.eval):=SRs_map _ _ _ (fun x hx=>peel_ok (hT.t.ev x) (hfx x hx))
  have hd:DRs (fun _ _=>False) w (args.toList.map fun x=>peel (cur.ev x)) (args.toList.map a.eval):=by
    unfold DRs
    rw [SRs_iff] at hargs ⊢
    exact ⟨hargs.1,fun k s u e1 e2=>flat_SR (List.all_eq_true.1 hfl s (List.mem_of_getElem? e1)) (hargs.2 k s u e1 e2)⟩
  obtain ⟨fn,tmps,assign,body,hrun,hround⟩:=hY pre _ _ w Fo hT.j hN har hfl hd
  have hw:=gflag_ok hT.t hg (⟨dst,.call ⟨.value f,args,ats⟩,ty,p,af,gd⟩:Oper) rfl
  unfold stepWI
  rw [hw,if_pos rfl]
  refine ⟨fun _ _=>trivial,?_⟩
  have harr:args.map a.eval=(args.toList.map a.eval).toArray:=by apply Array.ext';simp
  have hex:(Oper.semAt none a.eval ⟨dst,.call ⟨.value f,args,ats⟩,ty,p,af,gd⟩).run P w = .ok (.round l fn tmps assign body) w:=by
    rw [Oper.semAt_none]
    simp only [execOp,resolve,Deferred.ofValue,hfv,Sem.run_bind,Sem.run_pure,Result.andThen_ok,invoke,Array.empty_append,Array.append_empty]
    rw [harr]
    exact hrun
  show Oper.uponIn (FR none) 0 P _ a _ Q ((Oper.semAt none a.eval _).run P w)
  rw [hex,Oper.uponIn_round]
  refine ⟨fun e=>absurd e (by simp [FR,Fence.wide]),(show RoundIn Fence.wide _ P l fn tmps assign body w _ from ?_)⟩
  refine RoundIn.mono (R:=fun e w'=>e = .returned (.bool true)∧∃ Fo',J (pre++[args.toList.map fun x=>peel (cur.ev x)]) w' Fo'∧YKeeps Kc w w' Fo Fo') ⟨trivial,fun c cs _=>hround.2 c cs (room_wide _)⟩ ?_
  rintro e w' ⟨rfl,Fo',hj,hk⟩
  have hB:w0.heap.size≤w.heap.size:=hT.t.below.size
  have hcell:∀ b o,g.K b o→w'.cell? ⟨b,o,none⟩=w.cell? ⟨b,o,none⟩:=fun b o hg=>by
    by_cases hF:Fo b
    · exact hk.cell b o (hT.k b o hg hF)
    · simp only [World.cell?];rw [hk.block b (hT.t.klt b o hg) hF]
  have hT1:=hT.t.world (w':=w') (K':=g.K) ⟨hk.os,hk.tape,hk.output,hk.size,fun k ho=>hk.block k (Nat.lt_of_lt_of_le ho.1 hB) (fun hF=>hT.old k hF ho),hk.drawn⟩ ⟨fun _ _ k=>k,hcell⟩ hT.t.kold (fun b o hg=>Nat.lt_of_lt_of_le (hT.t.klt b o hg) hk.size)
    (fun i r b hi hb=>⟨hk.block b ((hT.t.res i r hi).lt hb) (hT.res i r b hi hb),fun _ k=>k⟩)
  have hT2:T w0 K0 nt (cur.putd dst (.c (.v (.bool true)))) (a.put dst (.bool true)) w' g:=hT1.putd (opOk_dst hok) (by rw [SR,CR];exact ⟨rfl,rfl⟩)
  refine hn _ _ _ w' g Fo' h ⟨hT2,hj,fun b hb=>?_,fun i r b hr hb hF=>?_,fun b o hg hF=>?_,hT.kc⟩
  · rcases hk.grow b hb with q | q
    · exact hT.old b q
    · intro ho;have:=ho.1;omega
  · have hr':cur.rs i=some r:=by cases dst <;> exact hr
    rcases hk.grow b hF with q | q
    · exact hT.res i r b hr' hb q
    · have:=(hT.t.res i r hr').lt hb;omega
  · rcases hk.grow b hF with q | q
    · exact hT.k b o hg q
    · have:=hT.t.klt b o hg;omega
def ConW (P:Program) (f:FuncId) (args:S→List S) (b:List (Nat × Res)) (N:Nat) (Ty:List S→Prop) (Qy:List (List S)→Prop):Prop :=
  callable P f=true∧∀ (l:Nat) (Kc:Nat→Nat→Prop) (J:Oth),J.Ab Kc→YStep Kc P l N Ty J→∀ (w:World) (g:G) (us:List Value) (Fo:Nat→Prop),
    M w ⟨g.K,fun k=>lent g b k∨Fo k,[]⟩ (lk b) w g→SRs g w (lk b) (args (yldS l)) us→J [] w Fo→(∀ i r k,lk b i=some r→blk (g.loc i)=some k→¬ Fo k) →
    (∀ k o,g.K k o→Fo k→Kc k o)→(∀ k o,Kc k o→g.K k o) →
    Calls P f us.toArray w fun e w'=>(∃ v,e = .returned v)∧∃ ys Fo',Qy ys∧J ys w' Fo'∧Bel w ⟨g.K,fun k=>lent g b k∨Fo k,[]⟩ w w'∧(∀ k o,g.K k o→w'.cell? ⟨k,o,none⟩=w.cell? ⟨k,o,none⟩) ∧
      (∀ k,Fo' k→¬ Old w ⟨g.K,fun k=>lent g b k∨Fo k,[]⟩ k)
theorem ConW.toY {f:FuncId} {args:List S} {b:List (Nat × Res)} {N:Nat} {Ty:List S→Prop} {Qy:List (List S)→Prop} (h:ConW P f (fun y=>y::args) b N Ty Qy):ConY P f args b N Ty Qy:=h
def retW (P:Program) (rs:List ResultVar) (Qy:List (List S)→Prop):Exit→St→List (List S)→Prop
  | .normal,st,pre=>Qy pre∧rvs P st rs fun _ _=>True
  | .ret,st,pre=>Qy pre∧rvs P st rs fun _ _=>True
  | _,_,_=>False
theorem ConW.calls {f:FuncId} {args:S→List S} {b:List (Nat × Res)} {N N' l:Nat} {Ty:List S→Prop} {Qy:List (List S)→Prop} (hc:ConW P f args b N' Ty Qy) {cur:St} {τ:Nat→Nat}
    (hb:∀ p∈b,cur.rs (τ p.1)=some (renR τ p.2)) (hinj:(b.map fun p=>τ p.1).Nodup) (hunf:∀ p∈b,∃ ss,p.2 = .box false ss) (hJ:J.Ab Kc) (hY:YStep Kc P l N Ty J) (hN:pre.length+N'≤N) {a:Act} {w:World} {g:G} {Fo:Nat→Prop}
    (hT:TJ w0 K0 nt Kc J cur a w g pre Fo) {us:List Value} (hu:SRs g w cur.rs (renSs τ (args (yldS l))) us) :
    Calls P f us.toArray w fun e w'=>(∃ v,e = .returned v)∧∃ ys Fo',Qy ys∧TJ w0 K0 nt Kc J ⟨[],[]⟩ a w' g (pre++ys) Fo':=by
  have hb':∀ i r,lk b i=some r→cur.rs (τ i)=some (renR τ r):=fun i r hi=>hb (i,r) (lk_mem hi)
  have hu':=SRs_ren1 hb' (args (yldS l)) us hu
  have inj:∀ i j ri rj,lk b i=some ri→lk b j=some rj→τ i=τ j→i=j:=fun i j ri rj hi hj e=>(Prod.mk.inj (nodup_inj hinj (lk_mem hi) (lk_mem hj) e)).1
  have hM0:M w ⟨g.K,fun k=>lent ⟨g.K,fun i=>g.loc (τ i)⟩ b k∨Fo k,[]⟩ (lk b) w ⟨g.K,fun i=>g.loc (τ i)⟩:=by
    refine ⟨Bel.refl _ _ _,fun _ _ k=>k,fun _ _ k _=>k,hT.t.klt,fun i r hi=>?_,fun i j ri rj hi hj hne k h1 h2=>?_,fun _ _ _=>rfl⟩
    · exact RR_ren1 hb' (fun k hk ho=>ho.2 (.inl ⟨i,r,hi,hk⟩)) (hT.t.res _ _ (hb' i r hi))
    · exact hT.t.dis _ _ _ _ (hb' i ri hi) (hb' j rj hj) (fun e=>hne (inj i j ri rj hi hj e)) k h1 h2
  have hJ':Oth.Ab Kc (fun pre' w Fo=>J (pre++pre') w Fo):=⟨fun p w Fo h=>hJ.lt _ w Fo h,fun p w w' Fo h=>hJ.stay _ w w' Fo h⟩
  have hY':YStep Kc P l N' Ty (fun pre' w Fo=>J (pre++pre') w Fo):=by
    intro pre' x us w Fo hj hlt hty hfl hd
    have:=hY (pre++pre') x us w Fo hj (by rw [List.length_append];omega) hty hfl hd
    simpa [List.append_assoc] using this
  refine (hc.2 l Kc _ hJ' hY' w ⟨g.K,fun i=>g.loc (τ i)⟩ us Fo hM0 hu' (by simpa using hT.j) (fun i r k hi hk=>hT.res _ _ k (hb' i r hi) hk) hT.k hT.kc).mono ?_
  rintro e w' ⟨he,ys,Fo',hq,hj,hbel,hcell,hnold⟩
  refine ⟨he,ys,Fo',hq,?_⟩
  have hold:∀ k,Old w0 K0 k→Old w ⟨g.K,fun k=>lent ⟨g.K,fun i=>g.loc (τ i)⟩ b k∨Fo k,[]⟩ k:=fun k hk=>⟨Nat.lt_of_lt_of_le hk.1 hT.t.below.size,fun h=>by
    rcases h with ⟨i,r,hi,hbk⟩ | hF
    · exact ((hT.t.res _ _ (hb' i r hi)).block hbk).1 hk
    · exact hT.old k hF hk⟩
  refine ⟨⟨hT.t.below.trans ⟨hbel.os,hbel.tape,hbel.output,hbel.size,fun k hk=>hbel.block k (hold k hk),hbel.drawn⟩,hT.t.k0,hT.t.kold,fun b o k=>Nat.lt_of_lt_of_le (hT.t.klt b o k) hbel.size,(fun i r hi=>by cases hi),(fun i j r r' hi=>by cases hi),fun t=>?_,hT.t.nt,hT.t.defers,fun b o k=>(hcell b o (hT.t.k0 b o k)).trans (hT.t.keep b o k)⟩,hj,fun k hF ho=>hnold k hF (hold k ho),(fun i r b hi=>by cases hi),fun b o hk hF=>?_,hT.kc⟩
  · show SR g w' _ .un _
    simp [SR]
  · refine Classical.byContradiction fun hn=>hnold b hF ⟨hT.t.klt b o hk,fun h=>?_⟩
    rcases h with ⟨i,r,hi,hbk⟩ | hFb
    · obtain ⟨ss,hss⟩:=hunf (i,r) (lk_mem hi)
      simp only at hss
      subst hss
      have hr:=hT.t.res _ _ (hb' i _ hi)
      obtain ⟨b',cur',E,q1,_,_,_,_,q6⟩:=(show RR g w cur.rs _ (τ i) (.box false (renSs τ ss)) from hr)
      rw [show g.loc (τ i)=_ from q1] at hbk
      cases hbk
      cases q6 o hk
    · exact hn (hT.k b o hk hFb)
theorem retW_ok {f:Func} {Qy:List (List S)→Prop} {st:St} {a:Act} {w:World} {g:G} (hT:T w0 K0 nt st a w g) (h:rvs P st f.results.toList fun _ _=>True):∃ v,(results f a.tmps).run P w = .ok v w:=by
  obtain ⟨vs,ss,st'',g'',e1,_,e3,e4,e5⟩:=rvs_ok _ st g _ hT h
  exact ⟨retV vs,results_of e1⟩
theorem spec_ofW {f:FuncId} {fn:Func} {c:Code} {args:S→List S} {b:List (Nat × Res)} {N:Nat} {Ty:List S→Prop} {Qy:List (List S)→Prop} (hf:P.funcs[f]? = some fn) (hb:fn.body=some c) (hc:callable P f=true) (hn:∀ y,(args y).length≤fn.ntmps)
    (hv:∀ w0 K0 l Kc J,J.Ab Kc→YStep Kc P l N Ty J→VWJ P w0 K0 fn.ntmps Kc J c (initY (args (yldS l)) b) [] (retW P fn.results.toList Qy)):ConW P f args b N Ty Qy:=by
  refine ⟨hc,fun l Kc J hJ hY w g us Fo hM hargs hj hres hk hkc=>?_⟩
  have hT:=hM.init0 (nt:=fn.ntmps) rfl hargs (hn _)
  have hTJ:TJ w ⟨g.K,fun k=>lent g b k∨Fo k,[]⟩ fn.ntmps Kc J (initY (args (yldS l)) b) _ w g [] Fo :=
    ⟨hT,hj,fun k hF ho=>ho.2 (.inr hF),hres,hk,hkc⟩
  refine calls_of_wp hf hb (wp_mono (hv w _ l Kc J hJ hY _ w g Fo hTJ) fun e a' w' ⟨st',g',pre',Fo',h1,h2⟩=>?_)
  have fin:(Qy pre'∧rvs P st' fn.results.toList fun _ _=>True)→a'.defers=[]∧∃ v,(results fn a'.tmps).run P w' = .ok v w'∧((∃ v',(Ending.returned v) = .returned v')∧∃ ys Fo',Qy ys∧J ys w' Fo'∧Bel w ⟨g.K,fun k=>lent g b k∨Fo k,[]⟩ w w'∧(∀ k o,g.K k o→w'.cell? ⟨k,o,none⟩=w.cell? ⟨k,o,none⟩) ∧
      (∀ k,Fo' k→¬ Old w ⟨g.K,fun k=>lent g b k∨Fo k,[]⟩ k)):=fun hq=>by
    obtain ⟨v,hv⟩:=retW_ok (f:=fn) (Qy:=Qy) h2.t hq.2
    exact ⟨h2.t.defers,v,hv,⟨_,rfl⟩,pre',Fo',hq.1,h2.j,h2.t.below,h2.t.keep,h2.old⟩
  cases e with
  | normal=>exact fin h1
  | ret=>exact fin h1
  | _=>exact h1.elim
theorem BarJ.callW (hJ:J.Ab Kc) {N N' l:Nat} {Ty:List S→Prop} {Qy:List (List S)→Prop} (hY:YStep Kc P l N Ty J) {dst:Option Nat} {f:Operand} {fid:FuncId} {opa:Array Operand} {ats:Array TypeId} {ty:TypeId} {p:String} {af:Array Edge} {cur:St} {k:St→List (List S)→Prop} {m:Keep k}
    {args:S→List S} {b:List (Nat × Res)} (τ:Nat→Nat) (hc:ConW P fid args b N' Ty Qy) (hf:cur.ev f = .c (.fn fid [])) (ha:opa.toList.map cur.ev=renSs τ (args (yldS l)))
    (hb:∀ p∈b,cur.rs (τ p.1)=some (renR τ p.2)) (hinj:(b.map fun p=>τ p.1).Nodup) (hunf:∀ p∈b,∃ ss,p.2 = .box false ss) (hN:pre.length+N'≤N)
    (h:∀ ys,Qy ys→k (St.putd ⟨[],[]⟩ dst .un) (pre++ys)):BarJ P w0 K0 nt Kc J ops ⟨dst,.call ⟨.value f,opa,ats⟩,ty,p,af,none⟩ cur pre k m:=by
  intro a w g Fo hT hok hnd next Q hn
  refine stepWI_of hnd (wanted_step hT.t rfl ?_)
  have hef:=hT.t.ev f
  rw [hf,SR,CR] at hef
  obtain ⟨us0,hfv,hv0⟩:=hef
  rw [VR] at hv0
  subst hv0
  have hargs:SRs g w cur.rs (renSs τ (args (yldS l))) (opa.toList.map a.eval++[]):=by rw [List.append_nil,← ha];exact SRs_map _ _ _ (fun x _=>hT.t.ev x)
  have hexec:=run_call (o:=⟨dst,.call ⟨.value f,opa,ats⟩,ty,p,af,none⟩) (a:=a) (w:=w) (us:=[]) hc.1 rfl rfl hfv
  unfold Oper.wp
  rw [hexec,Oper.upon_enter]
  refine (hc.calls hb hinj hunf hJ hY hN hT hargs).mono ?_
  rintro e w' ⟨⟨v,rfl⟩,ys,Fo',hq,hT'⟩
  have hput:T w0 K0 nt (St.putd ⟨[],[]⟩ dst .un) (a.put dst v) w' g:=hT'.t.putd (opOk_dst hok) (by simp [SR])
  exact hn _ _ _ w' g Fo' (h ys hq) ⟨hput,hT'.j,hT'.old,(fun i r b hi=>by cases dst <;> cases hi),hT'.k,hT'.kc⟩
@[simp ↓] theorem vdJ_nil (pl:List (Nat × Bool)) (j:Nat) (st0:St) (l:List Rec) (cur:St) (K:St→List (List S)→Prop):vdJ P w0 K0 nt Kc J ops [] pl j st0 l cur pre K=force (tick cur) fun cur=>K cur pre:=by rw [vdJ];rfl
@[simp ↓] theorem vdJ_bar (o:Oper) (r:List Oper) (m:Nat) (pl:List (Nat × Bool)) (j:Nat) (st0:St) (l:List Rec) (cur:St) (K:St→List (List S)→Prop) :
    vdJ P w0 K0 nt Kc J ops (o::r) ((m,true)::pl) j st0 l cur pre K=force (tick cur) fun cur=>BarJ P w0 K0 nt Kc J ops o cur pre (fun st' pre'=>vdJ P w0 K0 nt Kc J ops r pl (j+1) st' [] st' pre' K) .mk:=by rw [vdJ];rfl
@[simp ↓] theorem vdJ_op (o:Oper) (r:List Oper) (m:Nat) (pl:List (Nat × Bool)) (j:Nat) (st0:St) (l:List Rec) (cur:St) (K:St→List (List S)→Prop) :
    vdJ P w0 K0 nt Kc J ops (o::r) ((m,false)::pl) j st0 l cur pre K=force (tick cur) fun cur=>force (tick (rdOf cur o)) fun rd=>force (tick (restr cur rd)) fun sR=>veff P ops sR o fun e=>force (tick e) fun e=>chk m st0 l e rd=true∧force (tick (l++[⟨j,e,rd⟩])) fun l=>vdJ P w0 K0 nt Kc J ops r pl (j+1) st0 l (cur.app e) pre K:=by rw [vdJ];rfl
end
def allDa:List S→Bool
  | []=>true
  | .c _::r=>allDa r
  | _=>false
def unDa:List S→List C
  | .c x::r=>x::unDa r
  | _=>[]
@[simp] theorem allDa_nil:allDa []=true:=rfl
@[simp] theorem allDa_cons (x:C) (r:List S):allDa (.c x::r)=allDa r:=rfl
@[simp] theorem unDa_nil:unDa []=[]:=rfl
@[simp] theorem unDa_cons (x:C) (r:List S):unDa (.c x::r)=x::unDa r:=rfl
theorem allDa_unC:∀ {ss:List S},allDa ss=true→ss=(unDa ss).map .c
  | [],_=>rfl
  | .c x::r,h=>by rw [unDa_cons,List.map_cons,← allDa_unC (ss:=r) h]
section
variable {P:Program} {w0:World} {K0:K0T} {nt:Nat} {c:Code} {st:St} {Q:Exit→St→Prop} {a:Act} {w:World} {g:G}
theorem T.boxdata (h:T w0 K0 nt st a w g) {i:Nat} {fz:Bool} {ss:List S} (hi:st.rs i=some (.box fz ss)) (hs:allDa ss=true) :
    ∃ g',T w0 K0 nt (st.setR i (some (.box true ss))) a w g'∧∀ b,g'.loc i = .pointer (some ⟨b,0,none⟩)→LR g'.K w b 0 (unDa ss):=by
  have e:=allDa_unC hs
  obtain ⟨g',h1,_,h3,h4,_⟩:=h.fixbox (cs:=unDa ss) hi (fun b cur E e1 e2=>by
    obtain ⟨b',cur',E',q1,q2,q3,q4,q5,q6⟩:=h.res i _ hi
    rw [q1] at e1
    cases e1
    rw [q3] at e2
    cases e2
    refine (VR_iff _ _).2 ⟨by have:=congrArg List.length e;simp at this;simp [q4,this],fun k x u hk hu=>?_⟩
    obtain ⟨u',m1,m2,m3⟩:=q5 k (.c x) (by rw [e];simp [hk])
    rw [Array.getElem?_toList,m1] at hu
    cases hu
    rwa [SR] at m2)
  rw [← e] at h1
  exact ⟨g',h1,fun b hb=>h3 b (by rw [h4] at hb;exact hb)⟩
theorem T.ptrdata (h:T w0 K0 nt st a w g) {i:Nat} {fz:Bool} {ss:List S} (hi:st.rs i=some (.box fz ss)) {cs:List C} (hl:∀ b,g.loc i = .pointer (some ⟨b,0,none⟩)→LR g.K w b 0 cs) {u:Value} (hu:SR g w st.rs (.ptr i 0) u):CR g.K w (.dp cs) u:=by
  rw [SR] at hu
  obtain ⟨b,e1,rfl⟩:=hu fz ss hi
  rw [CR]
  exact ⟨b,0,rfl,hl b e1⟩
def fixB (r:Option Res) (K:List S→Prop):Prop :=
  match r with
  | some (.box _ ss)=>allDa ss=true∧K ss
  | _=>False
@[simp] theorem fixB_box (fz:Bool) (ss:List S) (K:List S→Prop):fixB (some (.box fz ss)) K=(allDa ss=true∧K ss):=rfl
def isP (j:Nat):S→Bool
  | .ptr i 0=>i == j
  | _=>false
@[simp] theorem isP_ptr (i j:Nat):isP j (.ptr i 0)=(i == j):=rfl
theorem isP_eq {j:Nat} {s:S} (h:isP j s=true):s = .ptr j 0:=by
  unfold isP at h
  split at h
  · rw [beq_iff_eq] at h;rw [h]
  · cases h
theorem VL.fixptr (t j:Nat) (h:force (tick (st.rs j)) fun r=>fixB r fun ss=>force (tick (st.get t)) fun s=>isP j s=true∧force (tick ((st.setR j (some (.box true ss))).put t (.c (.dp (unDa ss))))) fun st'=>VL P w0 K0 nt c st' Q .mk .mk):VL P w0 K0 nt c st Q .mk .mk:=by
  intro a w g hT
  have h':fixB (st.rs j) fun ss=>isP j (st.get t)=true∧VL P w0 K0 nt c ((st.setR j (some (.box true ss))).put t (.c (.dp (unDa ss)))) Q .mk .mk:=h
  unfold fixB at h'
  split at h'
  · rename_i fz ss hj
    obtain ⟨hs,hp,hv⟩:=h'
    obtain ⟨g',hT',hl⟩:=hT.boxdata hj hs
    have hu:=hT'.env t
    rw [St.get_setR,isP_eq hp] at hu
    have hc:=hT'.ptrdata (i:=j) (fz:=true) (ss:=ss) (by rw [St.rs_setR,if_pos rfl]) hl hu
    refine hv a w g' ⟨hT'.below,hT'.k0,hT'.kold,hT'.klt,hT'.res,hT'.dis,fun t'=>?_,hT'.nt,hT'.defers,hT'.keep⟩
    rw [St.get_put]
    by_cases e:t=t'
    · rw [if_pos e,← e,SR];exact hc
    · rw [if_neg e];exact hT'.env t'
  · exact h'.elim
def celB (r:Option Res) (k j:Nat) (K:List S→Prop):Prop :=
  match r with
  | some (.box false ss)=>ss[k]? = some (.ptr j 0)∧K ss
  | _=>False
@[simp] theorem celB_box (ss:List S) (k j:Nat) (K:List S→Prop):celB (some (.box false ss)) k j K=(ss[k]? = some (.ptr j 0)∧K ss):=rfl
theorem VL.fixcell (i k j:Nat) (h:force (tick (st.rs j)) fun r=>fixB r fun ss=>force (tick ((st.setR j (some (.box true ss))).rs i)) fun r2=>celB r2 k j fun ss2=>force (tick ((st.setR j (some (.box true ss))).setR i (some (.box false (ss2.set k (.c (.dp (unDa ss)))))))) fun st'=>VL P w0 K0 nt c st' Q .mk .mk):VL P w0 K0 nt c st Q .mk .mk:=by
  intro a w g hT
  have h':fixB (st.rs j) fun ss=>celB ((st.setR j (some (.box true ss))).rs i) k j fun ss2=>VL P w0 K0 nt c ((st.setR j (some (.box true ss))).setR i (some (.box false (ss2.set k (.c (.dp (unDa ss))))))) Q .mk .mk:=h
  unfold fixB at h'
  split at h'
  · rename_i fz ss hj
    obtain ⟨hs,h'⟩:=h'
    unfold celB at h'
    split at h'
    · rename_i ss2 hi
      obtain ⟨hk,hv⟩:=h'
      obtain ⟨g1,h1,hl⟩:=hT.boxdata hj hs
      refine hv a w g1 (T.mod h1 hi (Bel.refl _ _ _) (Keeps.refl _ _) h1.kold h1.klt rfl (fun j r b _ _ _=>⟨rfl,fun _ k=>k⟩) (.inl ⟨_,_,_,_,rfl,rfl⟩) (fun hc=>?_))
      obtain ⟨b,cur,E,e1,e2,e3,e4,e5,e6⟩:=h1.res i _ hi
      refine ⟨b,cur,E,e1,e2,e3,by simpa using e4,fun k' s hs=>?_,e6⟩
      rw [List.getElem?_set] at hs
      by_cases e:k=k'
      · subst e
        rw [if_pos rfl] at hs
        have hlt:k<ss2.length:=(List.getElem?_eq_some_iff.1 hk).1
        rw [if_pos hlt] at hs
        simp at hs
        subst hs
        obtain ⟨u,m1,m2,m3⟩:=e5 k _ hk
        exact ⟨u,m1,by rw [SR];exact h1.ptrdata (i:=j) (fz:=true) (ss:=ss) (by rw [St.rs_setR,if_pos rfl]) hl m2,m3⟩
      · rw [if_neg e] at hs
        obtain ⟨u,m1,m2,m3⟩:=e5 k' s hs
        exact ⟨u,m1,SR.mono (Keeps.refl _ _) s u (fun j _=>hc j) m2,m3⟩
    · exact h'.elim
  · exact h'.elim
end
section
variable {P:Program} {w0:World} {K0:K0T} {nt:Nat} {ops:Array Oper} {Kc:Nat→Nat→Prop} {J:Oth} {pre:List (List S)}
def vroundsJ (P:Program) (w0:World) (K0:K0T) (nt:Nat) (Kc:Nat→Nat→Prop) (J:Oth) (c:Code) (Q:Exit→St→List (List S)→Prop):Nat→St→List (List S)→Prop
  | 0,_,_=>False
  | n+1,st,pre=>VWJ P w0 K0 nt Kc J c st pre (seqJ (vroundsJ P w0 K0 nt Kc J c Q n) Q)
theorem vroundsJ_ok {c:Code} {Q:Exit→St→List (List S)→Prop} : ∀ (n:Nat) (st:St) (pre:List (List S)),vroundsJ P w0 K0 nt Kc J c Q n st pre→∀ a w g Fo,TJ w0 K0 nt Kc J st a w g pre Fo →
    Code.rounds P c (fun e a w=>∃ st' g' pre' Fo',Q e st' pre'∧TJ w0 K0 nt Kc J st' a w g' pre' Fo') n a w
  | 0,_,_,h,_,_,_,_,_=>h.elim
  | n+1,st,pre,h,a,w,g,Fo,hT=>by
    rw [Code.rounds]
    refine wp_mono (h a w g Fo hT) fun e a' w' ⟨st',g',pre',Fo',h1,h2⟩=>?_
    cases e with
    | normal=>exact vroundsJ_ok n st' pre' h1 a' w' g' Fo' h2
    | _=>exact ⟨st',g',pre',Fo',h1,h2⟩
theorem VWJ.rounds {c:Code} {st:St} {Q:Exit→St→List (List S)→Prop} (n:Nat) (h:vroundsJ P w0 K0 nt Kc J c Q n st pre):VWJ P w0 K0 nt Kc J (.loop c) st pre Q :=
  fun a w g Fo hT=>wp_loop_rounds n (vroundsJ_ok n st pre h a w g Fo hT)
theorem vroundsJ_succ (c:Code) (Q:Exit→St→List (List S)→Prop) (n:Nat) (st:St):vroundsJ P w0 K0 nt Kc J c Q (n+1) st pre=VWJ P w0 K0 nt Kc J c st pre (seqJ (vroundsJ P w0 K0 nt Kc J c Q n) Q):=rfl
theorem BarJ.gf (X:S) {o:Oper} {y:Nat} {cur:St} {k:St→List (List S)→Prop} {m:Keep k} (hg:gflag ops cur o.guard=some false) (hd:o.dst=some y)
    (h:k (cur.put y (.g false X)) pre):BarJ P w0 K0 nt Kc J ops o cur pre k m:=by
  intro a w g Fo hT hok hnd next Q hn
  refine stepWI_of hnd ?_
  have hw:=gflag_ok hT.t hg o rfl
  unfold stepW
  rw [hw,if_neg (by decide),hd]
  refine hn _ _ _ w g Fo h ⟨hT.t.put (opOk_dst hok y hd) ?_,hT.j,hT.old,fun i r b hr=>hT.res i r b hr,hT.k,hT.kc⟩
  rw [SR]
  exact ⟨fun e=>Bool.noConfusion e,fun _=>rfl⟩
end
end Go.VL
namespace Go.Proofs.YtlphpbcafplnbaaGreat
open Go.VL Go.RowKit
def ndC (k:List UInt8) (v:Int):List C:=[.sl false [[str k]],.sl false [[i64 v]],.sl true []]
theorem cloneK (k:List UInt8):Con Tryz.prog 253 [.c (.sl false [[str k]])] [.c (.sl false [[str k]])]:=by
  refine Con.frz (rs:=[.fr false 1 [[str k]] 0]) ?_ 0 rfl
  refine spec_of Tryz.func253 rfl (by kernel_rfl) (by simp [Tryz.f253]) (fun w0 K0=>vc_ok _ _ _ (by kernel_rfl) ?_)
  simp only [Tryz.f253]
  simp -dsimp [maxLen]
theorem cloneI (v:Int):Con Tryz.prog 254 [.c (.sl false [[i64 v]])] [.c (.sl false [[i64 v]])]:=by
  refine Con.frz (rs:=[.fr false 1 [[i64 v]] 0]) ?_ 0 rfl
  refine spec_of Tryz.func254 rfl (by kernel_rfl) (by simp [Tryz.f254]) (fun w0 K0=>vc_ok _ _ _ (by kernel_rfl) ?_)
  simp only [Tryz.f254]
  simp -dsimp [maxLen]
theorem isNaN1 (a:List UInt8):Con Tryz.prog 269 [.c (str a)] [.c (bln false)]:=by
  refine spec_of Tryz.func269 rfl (by kernel_rfl) (by simp [Tryz.f269]) (fun w0 K0=>vc_ok _ _ _ (by kernel_rfl) ?_)
  simp only [Tryz.f269]
  simp -dsimp
theorem isNaN2 (a:List UInt8):Con Tryz.prog 265 [.c (str a)] [.c (bln false)]:=by
  refine spec_of Tryz.func265 rfl (by kernel_rfl) (by simp [Tryz.f265]) (fun w0 K0=>vc_ok _ _ _ (by kernel_rfl) ?_)
  simp only [Tryz.f265]
  simp -dsimp
set_option maxRecDepth 4000 in
set_option maxHeartbeats 4000000 in
theorem less_spec (a b:List UInt8):Con Tryz.prog 264 [.c (str a),.c (str b)] [.c (bln (Op.bytesLess a b))]:=by
  refine spec_of Tryz.func264 rfl (by kernel_rfl) (by simp [Tryz.f264]) (fun w0 K0=>vc_ok _ _ _ (by kernel_rfl) ?_)
  simp only [Tryz.f264]
  simp -dsimp
  refine VC.mk _ (isNaN1 a) ?_
  simp -dsimp
  refine VG.mk [.c (bln false)] _ (fun h=>Bool.noConfusion h) rfl ?_
  simp -dsimp
set_option maxRecDepth 4000 in
set_option maxHeartbeats 4000000 in
theorem bs_lt (k a:List UInt8) (h:Op.bytesLess k a=true):Con Tryz.prog 257 [.c (.sl false [[str k]]),.c (str a)] [.c (i64 1),.c (bln false)]:=by
  refine spec_of Tryz.func257 rfl (by kernel_rfl) (by simp [Tryz.f257]) (fun w0 K0=>vx_ok (H:=fun i=>i == 8) _ _ _ (by kernel_rfl) ?_)
  simp only [Tryz.f257]
  simp -dsimp
  have m0:IntKind.i64.wrap ((IntKind.u64.wrap 1).fdiv (2 ^ min 1 IntKind.u64.bits))=0:=by decide
  refine VL.rounds 2 (by kernel_rfl) ?_
  simp -dsimp [m0]
  refine VC.mk _ (less_spec k a) ?_
  simp -dsimp [h,m0]
  refine VL.hand (by kernel_rfl) ?_
  refine VRS.run 10 ?_
  simp -dsimp
  refine VRS.gf (.c (.v (.bool false))) (by simp [gflag,gslot,St.get,vlook]) rfl ?_
  refine VRS.fin ?_
  simp -dsimp
  refine VG.mk [.c (bln false)] _ (fun h=>Bool.noConfusion h) rfl ?_
  simp -dsimp
  refine VG.mk [.c (bln false)] _ (fun h=>Bool.noConfusion h) rfl ?_
  simp -dsimp
set_option maxRecDepth 4000 in
set_option maxHeartbeats 4000000 in
theorem bs_ge (k a:List UInt8) (h:Op.bytesLess k a=false):Con Tryz.prog 257 [.c (.sl false [[str k]]),.c (str a)] [.c (i64 0),.c (bln (decide (k=a)))]:=by
  refine spec_of Tryz.func257 rfl (by kernel_rfl) (by simp [Tryz.f257]) (fun w0 K0=>vc_ok _ _ _ (by kernel_rfl) ?_)
  simp only [Tryz.f257]
  simp -dsimp
  have m0:IntKind.i64.wrap ((IntKind.u64.wrap 1).fdiv (2 ^ min 1 IntKind.u64.bits))=0:=by decide
  refine VL.rounds 2 (by kernel_rfl) ?_
  simp -dsimp [m0]
  refine VC.mk _ (less_spec k a) ?_
  by_cases e:k=a
  · subst e
    simp -dsimp [h,m0]
    refine VG.mk [.c (bln false)] _ (fun h=>Bool.noConfusion h) rfl ?_
    simp -dsimp
    refine VG.mk [.c (bln false)] _ (fun h=>Bool.noConfusion h) rfl ?_
    simp -dsimp
  · simp -dsimp [h,m0,e]
    refine VG.mk _ _ (fun _=>isNaN2 k) rfl ?_
    simp -dsimp
    refine VG.mk [.c (bln false)] _ (fun h=>Bool.noConfusion h) rfl ?_
    simp -dsimp
set_option maxRecDepth 4000 in
set_option maxHeartbeats 4000000 in
theorem leafD (k:List UInt8) (v:Int):Con Tryz.prog 245 [.c (.dp (ndC k v))] [.c (bln true)]:=by
  refine spec_of Tryz.func245 rfl (by kernel_rfl) (by simp [Tryz.f245]) (fun w0 K0=>vc_ok _ _ _ (by kernel_rfl) ?_)
  simp only [Tryz.f245]
  simp -dsimp [ndC]
set_option maxRecDepth 4000 in
set_option maxHeartbeats 4000000 in
theorem copiedD (k:List UInt8) (v:Int):Con Tryz.prog 251 [.c (.dp (ndC k v))] [.c (.dp (ndC k v))]:=by
  refine spec_of Tryz.func251 rfl (by kernel_rfl) (by simp [Tryz.f251]) (fun w0 K0=>vc_ok _ _ _ (by kernel_rfl) ?_)
  simp only [Tryz.f251]
  simp -dsimp [ndC]
  refine VL.draw (by kernel_rfl) [(0,false),(1,false),(3,false),(7,false),(15,false),(0,false),(32,false),(96,false),(224,false),(511,true),(1023,true),(2047,true),(4095,true)] (by kernel_rfl) ?_
  simp -dsimp
  refine VCE.mk _ (cloneK k) ?_
  simp -dsimp
  refine VC.mk _ (cloneI v) ?_
  simp -dsimp
  refine VL.fixptr 3 1088 ?_
  simp -dsimp
  refine VL.rounds 1 (by kernel_rfl) ?_
  simp -dsimp
  rfl
set_option maxRecDepth 4000 in
set_option maxHeartbeats 4000000 in
theorem ndFindD (k:List UInt8) (v:Int) (a:List UInt8) (n:Int) (b:Bool) (h:Con Tryz.prog 257 [.c (.sl false [[str k]]),.c (str a)] [.c (i64 n),.c (bln b)]):Con Tryz.prog 244 [.c (.dp (ndC k v)),.c (str a)] [.c (i64 n),.c (bln b)]:=by
  refine spec_of Tryz.func244 rfl (by kernel_rfl) (by simp [Tryz.f244]) (fun w0 K0=>vc_ok _ _ _ (by kernel_rfl) ?_)
  simp only [Tryz.f244]
  simp -dsimp [ndC]
  refine VC.mk _ h ?_
  simp -dsimp
def isKV (x:List S):Prop:=∃ (k:List UInt8) (v:Int),x=[.c (str k),.c (i64 v)]
set_option maxRecDepth 4000 in
set_option maxHeartbeats 8000000 in
theorem walk_lt (N:Nat) (k:List UInt8) (v:Int) (a b:List UInt8) (h:Op.bytesLess k a=true):ConW Tryz.prog 252 (fun y=>[.c (.dp (ndC k v)),.c (str a),.c (str b),y]) [] N isKV (fun ys=>ys=[]):=by
  refine spec_ofW Tryz.func252 rfl (by kernel_rfl) (by simp [Tryz.f252]) (fun w0 K0 lp Kc J hJ hY=>?_)
  simp only [Tryz.f252]
  refine VWJ.plain hJ (by kernel_rfl) (fun w1 K1=>?_)
  simp -dsimp [initY,initEnv]
  refine VC.mk _ (ndFindD k v a 1 false (bs_lt k a h)) ?_
  simp -dsimp
  refine VL.rounds 2 (by kernel_rfl) ?_
  simp -dsimp [ndC]
  refine VC.mk _ (leafD k v) ?_
  simp -dsimp [ndC]
  refine VG.mk [.c (bln false)] _ (fun h=>Bool.noConfusion h) rfl ?_
  simp -dsimp [ndC]
  simp [retW]
set_option maxRecDepth 4000 in
set_option maxHeartbeats 8000000 in
theorem walk_hit (k:List UInt8) (v:Int) (a b:List UInt8) (h:Op.bytesLess k a=false) (hb:b≠[]) (hc:cmpB k b = -1):ConW Tryz.prog 252 (fun y=>[.c (.dp (ndC k v)),.c (str a),.c (str b),y]) [] 1 isKV (fun ys=>ys=[[.c (str k),.c (i64 v)]]):=by
  refine spec_ofW Tryz.func252 rfl (by kernel_rfl) (by simp [Tryz.f252]) (fun w0 K0 lp Kc J hJ hY=>?_)
  simp only [Tryz.f252]
  refine VWJ.seq (VWJ.plain hJ (by kernel_rfl) (fun w1 K1=>?_))
  simp -dsimp [initY,initEnv]
  refine VWJ.seq (VWJ.plain hJ (by kernel_rfl) (fun w1 K1=>?_))
  simp -dsimp
  refine VC.mk _ (ndFindD k v a 0 _ (bs_ge k a h)) ?_
  simp -dsimp
  refine VWJ.seq (VWJ.block (VWJ.rounds 2 ?_))
  rw [vroundsJ_succ]
  refine VWJ.seq (VWJ.plain hJ (by kernel_rfl) (fun w1 K1=>?_))
  simp -dsimp [ndC]
  refine VWJ.seq (VWJ.block (VWJ.seq (VWJ.plain hJ (by kernel_rfl) (fun w1 K1=>?_))))
  simp -dsimp
  refine VC.mk _ (leafD k v) ?_
  simp -dsimp [ndC]
  refine VG.mk [.c (bln false)] _ (fun h=>Bool.noConfusion h) rfl ?_
  simp -dsimp [ndC]
  refine VWJ.seq (VWJ.plain hJ (by kernel_rfl) (fun w1 K1=>?_))
  simp -dsimp
  refine VWJ.seq (VWJ.draw hJ (by kernel_rfl) [(0,true),(1,true),(3,true),(7,false),(15,false),(31,false),(63,false),(7,false),(255,false),(511,false),(7,false),(2047,true),(4095,true),(8191,true),(16383,true),(32767,false),(32767,false),(98303,false),(229375,false),(491519,false),(32767,false),(2064383,false),(4161535,false),(32767,false),(8421375,false),(25198591,false),(58753023,false),(32767,false),(260079615,false),(528515071,false),(1073741823,true),(2147483647,true),(4294967295,true)] (by kernel_rfl) (by kernel_rfl) ?_)
  simp -dsimp
  refine BarJ.run hJ ?_
  simp -dsimp [hb]
  refine BarJ.run hJ ?_
  simp -dsimp [hb]
  refine BarJ.run hJ ?_
  simp -dsimp [hb]
  refine BarJ.run hJ ?_
  simp -dsimp [hb]
  refine VG.mk _ _ (fun _=>strCmp_spec k b) rfl ?_
  simp -dsimp [hc]
  refine BarJ.run hJ ?_
  simp -dsimp
  refine BarJ.run hJ ?_
  simp -dsimp
  refine BarJ.run hJ ?_
  simp -dsimp
  refine BarJ.yield (m:=.mk) hJ hY rfl rfl rfl [.c (str k),.c (i64 v)] rfl (by simp [flagOf,St.ev,St.get,vlook]) ⟨_,_,rfl⟩ (by simp [flatS,flatC]) (by simp) ?_
  simp -dsimp
  refine BarJ.run hJ ?_
  simp -dsimp
  refine BarJ.run hJ ?_
  simp -dsimp
  refine VWJ.plain hJ (by kernel_rfl) (fun w1 K1=>?_)
  simp -dsimp
  refine VWJ.plain hJ (by kernel_rfl) (fun w1 K1=>?_)
  simp -dsimp
  rw [vroundsJ_succ]
  refine VWJ.plain hJ (by kernel_rfl) (fun w1 K1=>?_)
  simp -dsimp [ndC]
  refine VC.mk _ (leafD k v) ?_
  simp -dsimp [ndC]
  refine VG.mk [.c (bln false)] _ (fun h=>Bool.noConfusion h) rfl ?_
  simp -dsimp [ndC]
  refine VWJ.plain hJ (by kernel_rfl) (fun w1 K1=>?_)
  simp -dsimp
  simp [retW]
set_option maxRecDepth 4000 in
set_option maxHeartbeats 8000000 in
theorem walk_ge (N:Nat) (k:List UInt8) (v:Int) (a b:List UInt8) (h:Op.bytesLess k a=false) (hb:b≠[]) (hc:cmpB k b=1):ConW Tryz.prog 252 (fun y=>[.c (.dp (ndC k v)),.c (str a),.c (str b),y]) [] N isKV (fun ys=>ys=[]):=by
  refine spec_ofW Tryz.func252 rfl (by kernel_rfl) (by simp [Tryz.f252]) (fun w0 K0 lp Kc J hJ hY=>?_)
  simp only [Tryz.f252]
  refine VWJ.seq (VWJ.plain hJ (by kernel_rfl) (fun w1 K1=>?_))
  simp -dsimp [initY,initEnv]
  refine VWJ.seq (VWJ.plain hJ (by kernel_rfl) (fun w1 K1=>?_))
  simp -dsimp
  refine VC.mk _ (ndFindD k v a 0 _ (bs_ge k a h)) ?_
  simp -dsimp
  refine VWJ.seq (VWJ.block (VWJ.rounds 2 ?_))
  rw [vroundsJ_succ]
  refine VWJ.seq (VWJ.plain hJ (by kernel_rfl) (fun w1 K1=>?_))
  simp -dsimp [ndC]
  refine VWJ.seq (VWJ.block (VWJ.seq (VWJ.plain hJ (by kernel_rfl) (fun w1 K1=>?_))))
  simp -dsimp
  refine VC.mk _ (leafD k v) ?_
  simp -dsimp [ndC]
  refine VG.mk [.c (bln false)] _ (fun h=>Bool.noConfusion h) rfl ?_
  simp -dsimp [ndC]
  refine VWJ.seq (VWJ.plain hJ (by kernel_rfl) (fun w1 K1=>?_))
  simp -dsimp
  refine VWJ.seq (VWJ.draw hJ (by kernel_rfl) [(0,true),(1,true),(3,true),(7,false),(15,false),(31,false),(63,false),(7,false),(255,false),(511,false),(7,false),(2047,true),(4095,true),(8191,true),(16383,true),(32767,false),(32767,false),(98303,false),(229375,false),(491519,false),(32767,false),(2064383,false),(4161535,false),(32767,false),(8421375,false),(25198591,false),(58753023,false),(32767,false),(260079615,false),(528515071,false),(1073741823,true),(2147483647,true),(4294967295,true)] (by kernel_rfl) (by kernel_rfl) ?_)
  simp -dsimp
  refine BarJ.run hJ ?_
  simp -dsimp [hb]
  refine BarJ.run hJ ?_
  simp -dsimp [hb]
  refine BarJ.run hJ ?_
  simp -dsimp [hb]
  refine BarJ.run hJ ?_
  simp -dsimp [hb]
  refine VG.mk _ _ (fun _=>strCmp_spec k b) rfl ?_
  simp -dsimp [hc]
  refine BarJ.run hJ ?_
  simp -dsimp
  refine BarJ.run hJ ?_
  simp -dsimp
  refine BarJ.run hJ ?_
  simp -dsimp
  refine BarJ.gf (m:=.mk) (.c (.v (.bool true))) rfl rfl ?_
  simp -dsimp
  refine BarJ.run hJ ?_
  simp -dsimp
  refine BarJ.run hJ ?_
  simp -dsimp
  refine VWJ.plain hJ (by kernel_rfl) (fun w1 K1=>?_)
  simp -dsimp
  simp [retW]
end Go.Proofs.YtlphpbcafplnbaaGreat
