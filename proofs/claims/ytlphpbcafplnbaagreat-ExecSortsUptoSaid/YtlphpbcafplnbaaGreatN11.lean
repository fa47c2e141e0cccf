/- Contracts of functions of the seat, proved in a logic on data over the model (part N11). -/
import Derived.Test.YtlphpbcafplnbaaGreatVY3
import Derived.Test.YtlphpbcafplnbaaGreatVY5
import Derived.Test.YtlphpbcafplnbaaGreatVN13
import Derived.Test.YtlphpbcafplnbaaGreatVN17
import Derived.Test.YtlphpbcafplnbaaGreatBY
import Derived.Test.YtlphpbcafplnbaaGreatVY2
set_option linter.unusedSimpArgs false
set_option linter.unusedVariables false
namespace Go.VL
open Go.RowKit
section
variable {P:Program} {w0:World} {K0:K0T} {nt:Nat} {ops:Array Oper} {Kc:Nat→Nat→Prop} {J:Oth} {pre:List (List S)}
abbrev yldS (l:Nat):S:=.c (.v (.func (.yield l) #[] #[]))
theorem BarJ.yield (hJ:J.Ab Kc) {N l:Nat} {Ty:List S→Prop} (hY:YStep Kc P l N Ty J) {dst:Option Nat} {f:Operand} {args:Array Operand} {ats:Array TypeId} {ty:TypeId} {p:String} {af:Array Edge} {gd:Option (Nat × Bool)} {cur:St} {k:St→List (List S)→Prop} {m:Keep k}
    (hg:gflag ops cur gd=some true) (hf:peel (cur.ev f)=yldS l) (hff:flagOf (cur.ev f)=true) (xs:List S) (hx:args.toList.map (fun x=>peel (cur.ev x))=xs) (hfx:∀ x∈args.toList,flagOf (cur.ev x)=true) (har:Ty xs) (hfl:(xs.all flatS)=true) (hN:pre.length<N)
    (h:k (cur.putd dst (.c (.v (.bool true)))) (pre++[xs])):BarJ P w0 K0 nt Kc J ops ⟨dst,.call ⟨.value f,args,ats⟩,ty,p,af,gd⟩ cur pre k m:=by
  subst hx
  intro a w g Fo hT hok hnd next Q hn
  have hef:=peel_ok (hT.t.ev f) hff
  rw [hf,SR,CR] at hef
  have hfv:=hef.1
  have hargs:SRs g w cur.rs (args.toList.map fun x=>peel (cur.ev x)) (args.toList.map a.eval):=SRs_map _ _ _ (fun x hx=>peel_ok (hT.t.ev x) (hfx x hx))
  have hd:DRs (fun _ _=>False) w (args.toList.map fun x=>peel (cur.ev x)) (args.toList.map a.eval):=by
    unfold DRs
    rw [SRs_iff] at hargs ⊢
    exact ⟨hargs.1,fun k s u e1 e2=>flat_SR (List.all_eq_true.1 hfl s (List.mem_of_getElem? e1)) (hargs.2 k s u e1 e2)⟩
  obtain ⟨fn,tmps,assign,body,hrun,hround⟩:=hY pre _ _ w Fo hT.j hN har hfl hd
  have hw:=gflag_ok hT.t hg (⟨dst,.call ⟨.value f,args,ats⟩,ty,p,af,gd⟩:Oper) rfl
  unfold stepWI
  rw [hw,if_pos rfl]
  refine ⟨fun _ _=>trivial,?_⟩
  have harr:args.map a.eval=(args.toList.map a.eval).toArray:=by apply Array.ext';simp
  have hex:(Oper.semAt none a.eval ⟨dst,.call ⟨.value f,args,ats⟩,ty,p,af,gd⟩).run P w = .ok (.round l fn tmps assign body) w:=by
    rw [Oper.semAt_none]
    simp only [execOp,resolve,Deferred.ofValue,hfv,Sem.run_bind,Sem.run_pure,Result.andThen_ok,invoke,Array.empty_append,Array.append_empty]
    rw [harr]
    exact hrun
  show Oper.uponIn (FR none) 0 P _ a _ Q ((Oper.semAt none a.eval _).run P w)
  rw [hex,Oper.uponIn_round]
  refine ⟨fun e=>absurd e (by simp [FR,Fence.wide]),(show RoundIn Fence.wide _ P l fn tmps assign body w _ from ?_)⟩
  refine RoundIn.mono (R:=fun e w'=>e = .returned (.bool true)∧∃ Fo',J (pre++[args.toList.map fun x=>peel (cur.ev x)]) w' Fo'∧YKeeps Kc w w' Fo Fo') ⟨trivial,fun c cs _=>hround.2 c cs (room_wide _)⟩ ?_
  rintro e w' ⟨rfl,Fo',hj,hk⟩
  have hB:w0.heap.size≤w.heap.size:=hT.t.below.size
  have hcell:∀ b o,g.K b o→w'.cell? ⟨b,o,none⟩=w.cell? ⟨b,o,none⟩:=fun b o hg=>by
    by_cases hF:Fo b
    · exact hk.cell b o (hT.k b o hg hF)
    · simp only [World.cell?];rw [hk.block b (hT.t.klt b o hg) hF]
  have hT1:=hT.t.world (w':=w') (K':=g.K) ⟨hk.os,hk.tape,hk.output,hk.size,fun k ho=>hk.block k (Nat.lt_of_lt_of_le ho.1 hB) (fun hF=>hT.old k hF ho),hk.drawn⟩ ⟨fun _ _ k=>k,hcell⟩ hT.t.kold (fun b o hg=>Nat.lt_of_lt_of_le (hT.t.klt b o hg) hk.size)
    (fun i r b hi hb=>⟨hk.block b ((hT.t.res i r hi).lt hb) (hT.res i r b hi hb),fun _ k=>k⟩)
  have hT2:T w0 K0 nt (cur.putd dst (.c (.v (.bool true)))) (a.put dst (.bool true)) w' g:=hT1.putd (opOk_dst hok) (by rw [SR,CR];exact ⟨rfl,rfl⟩)
  refine hn _ _ _ w' g Fo' h ⟨hT2,hj,fun b hb=>?_,fun i r b hr hb hF=>?_,fun b o hg hF=>?_,hT.kc⟩
  · rcases hk.grow b hb with q | q
    · exact hT.old b q
    · intro ho;have:=ho.1;omega
  · have hr':cur.rs i=some r:=by cases dst <;> exact hr
    rcases hk.grow b hF with q | q
    · exact hT.res i r b hr' hb q
    · have:=(hT.t.res i r hr').lt hb;omega
  · rcases hk.grow b hF with q | q
    · exact hT.k b o hg q
    · have:=hT.t.klt b o hg;omega
def ConW (P:Program) (f:FuncId) (args:S→List S) (b:List (Nat × Res)) (N:Nat) (Ty:List S→Prop) (Qy:List (List S)→Prop):Prop :=
  callable P f=true∧∀ (l:Nat) (Kc:Nat→Nat→Prop) (J:Oth),J.Ab Kc→YStep Kc P l N Ty J→∀ (w:World) (g:G) (us:List Value) (Fo:Nat→Prop),
    M w ⟨g.K,fun k=>lent g b k∨Fo k,[]⟩ (lk b) w g→SRs g w (lk b) (args (yldS l)) us→J [] w Fo→(∀ i r k,lk b i=some r→blk (g.loc i)=some k→¬ Fo k) →
    (∀ k o,g.K k o→Fo k→Kc k o)→(∀ k o,Kc k o→g.K k o) →
    Calls P f us.toArray w fun e w'=>(∃ v,e = .returned v)∧∃ ys Fo',Qy ys∧J ys w' Fo'∧Bel w ⟨g.K,fun k=>lent g b k∨Fo k,[]⟩ w w'∧(∀ k o,g.K k o→w'.cell? ⟨k,o,none⟩=w.cell? ⟨k,o,none⟩) ∧
      (∀ k,Fo' k→¬ Old w ⟨g.K,fun k=>lent g b k∨Fo k,[]⟩ k)
theorem ConW.toY {f:FuncId} {args:List S} {b:List (Nat × Res)} {N:Nat} {Ty:List S→Prop} {Qy:List (List S)→Prop} (h:ConW P f (fun y=>y::args) b N Ty Qy):ConY P f args b N Ty Qy:=h
def retW (P:Program) (rs:List ResultVar) (Qy:List (List S)→Prop):Exit→St→List (List S)→Prop
  | .normal,st,pre=>Qy pre∧rvs P st rs fun _ _=>True
  | .ret,st,pre=>Qy pre∧rvs P st rs fun _ _=>True
  | _,_,_=>False
theorem ConW.calls {f:FuncId} {args:S→List S} {b:List (Nat × Res)} {N N' l:Nat} {Ty:List S→Prop} {Qy:List (List S)→Prop} (hc:ConW P f args b N' Ty Qy) {cur:St} {τ:Nat→Nat}
    (hb:∀ p∈b,cur.rs (τ p.1)=some (renR τ p.2)) (hinj:(b.map fun p=>τ p.1).Nodup) (hunf:∀ p∈b,∃ ss,p.2 = .box false ss) (hJ:J.Ab Kc) (hY:YStep Kc P l N Ty J) (hN:pre.length+N'≤N) {a:Act} {w:World} {g:G} {Fo:Nat→Prop}
    (hT:TJ w0 K0 nt Kc J cur a w g pre Fo) {us:List Value} (hu:SRs g w cur.rs (renSs τ (args (yldS l))) us) :
    Calls P f us.toArray w fun e w'=>(∃ v,e = .returned v)∧∃ ys Fo',Qy ys∧TJ w0 K0 nt Kc J ⟨[],[]⟩ a w' g (pre++ys) Fo':=by
  have hb':∀ i r,lk b i=some r→cur.rs (τ i)=some (renR τ r):=fun i r hi=>hb (i,r) (lk_mem hi)
  have hu':=SRs_ren1 hb' (args (yldS l)) us hu
  have inj:∀ i j ri rj,lk b i=some ri→lk b j=some rj→τ i=τ j→i=j:=fun i j ri rj hi hj e=>(Prod.mk.inj (nodup_inj hinj (lk_mem hi) (lk_mem hj) e)).1
  have hM0:M w ⟨g.K,fun k=>lent ⟨g.K,fun i=>g.loc (τ i)⟩ b k∨Fo k,[]⟩ (lk b) w ⟨g.K,fun i=>g.loc (τ i)⟩:=by
    refine ⟨Bel.refl _ _ _,fun _ _ k=>k,fun _ _ k _=>k,hT.t.klt,fun i r hi=>?_,fun i j ri rj hi hj hne k h1 h2=>?_,fun _ _ _=>rfl⟩
    · exact RR_ren1 hb' (fun k hk ho=>ho.2 (.inl ⟨i,r,hi,hk⟩)) (hT.t.res _ _ (hb' i r hi))
    · exact hT.t.dis _ _ _ _ (hb' i ri hi) (hb' j rj hj) (fun e=>hne (inj i j ri rj hi hj e)) k h1 h2
  have hJ':Oth.Ab Kc (fun pre' w Fo=>J (pre++pre') w Fo):=⟨fun p w Fo h=>hJ.lt _ w Fo h,fun p w w' Fo h=>hJ.stay _ w w' Fo h⟩
  have hY':YStep Kc P l N' Ty (fun pre' w Fo=>J (pre++pre') w Fo):=by
    intro pre' x us w Fo hj hlt hty hfl hd
    have:=hY (pre++pre') x us w Fo hj (by rw [List.length_append];omega) hty hfl hd
    simpa [List.append_assoc] using this
  refine (hc.2 l Kc _ hJ' hY' w ⟨g.K,fun i=>g.loc (τ i)⟩ us Fo hM0 hu' (by simpa using hT.j) (fun i r k hi hk=>hT.res _ _ k (hb' i r hi) hk) hT.k hT.kc).mono ?_
  rintro e w' ⟨he,ys,Fo',hq,hj,hbel,hcell,hnold⟩
  refine ⟨he,ys,Fo',hq,?_⟩
  have hold:∀ k,Old w0 K0 k→Old w ⟨g.K,fun k=>lent ⟨g.K,fun i=>g.loc (τ i)⟩ b k∨Fo k,[]⟩ k:=fun k hk=>⟨Nat.lt_of_lt_of_le hk.1 hT.t.below.size,fun h=>by
    rcases h with ⟨i,r,hi,hbk⟩ | hF
    · exact ((hT.t.res _ _ (hb' i r hi)).block hbk).1 hk
    · exact hT.old k hF hk⟩
  refine ⟨⟨hT.t.below.trans ⟨hbel.os,hbel.tape,hbel.output,hbel.size,fun k hk=>hbel.block k (hold k hk),hbel.drawn⟩,hT.t.k0,hT.t.kold,fun b o k=>Nat.lt_of_lt_of_le (hT.t.klt b o k) hbel.size,(fun i r hi=>by cases hi),(fun i j r r' hi=>by cases hi),fun t=>?_,hT.t.nt,hT.t.defers,fun b o k=>(hcell b o (hT.t.k0 b o k)).trans (hT.t.keep b o k)⟩,hj,fun k hF ho=>hnold k hF (hold k ho),(fun i r b hi=>by cases hi),fun b o hk hF=>?_,hT.kc⟩
  · show SR g w' _ .un _
    simp [SR]
  · refine Classical.byContradiction fun hn=>hnold b hF ⟨hT.t.klt b o hk,fun h=>?_⟩
    rcases h with ⟨i,r,hi,hbk⟩ | hFb
    · obtain ⟨ss,hss⟩:=hunf (i,r) (lk_mem hi)
      simp only at hss
      subst hss
      have hr:=hT.t.res _ _ (hb' i _ hi)
      obtain ⟨b',cur',E,q1,_,_,_,_,q6⟩:=(show RR g w cur.rs _ (τ i) (.box false (renSs τ ss)) from hr)
      rw [show g.loc (τ i)=_ from q1] at hbk
      cases hbk
      cases q6 o hk
    · exact hn (hT.k b o hk hFb)
theorem retW_ok {f:Func} {Qy:List (List S)→Prop} {st:St} {a:Act} {w:World} {g:G} (hT:T w0 K0 nt st a w g) (h:rvs P st f.results.toList fun _ _=>True):∃ v,(results f a.tmps).run P w = .ok v w:=by
  obtain ⟨vs,ss,st'',g'',e1,_,e3,e4,e5⟩:=rvs_ok _ st g _ hT h
  exact ⟨retV vs,results_of e1⟩
theorem spec_ofW {f:FuncId} {fn:Func} {c:Code} {args:S→List S} {b:List (Nat × Res)} {N:Nat} {Ty:List S→Prop} {Qy:List (List S)→Prop} (hf:P.funcs[f]? = some fn) (hb:fn.body=some c) (hc:callable P f=true) (hn:∀ y,(args y).length≤fn.ntmps)
    (hv:∀ w0 K0 l Kc J,J.Ab Kc→YStep Kc P l N Ty J→VWJ P w0 K0 fn.ntmps Kc J c (initY (args (yldS l)) b) [] (retW P fn.results.toList Qy)):ConW P f args b N Ty Qy:=by
  refine ⟨hc,fun l Kc J hJ hY w g us Fo hM hargs hj hres hk hkc=>?_⟩
  have hT:=hM.init0 (nt:=fn.ntmps) rfl hargs (hn _)
  have hTJ:TJ w ⟨g.K,fun k=>lent g b k∨Fo k,[]⟩ fn.ntmps Kc J (initY (args (yldS l)) b) _ w g [] Fo :=
    ⟨hT,hj,fun k hF ho=>ho.2 (.inr hF),hres,hk,hkc⟩
  refine calls_of_wp hf hb (wp_mono (hv w _ l Kc J hJ hY _ w g Fo hTJ) fun e a' w' ⟨st',g',pre',Fo',h1,h2⟩=>?_)
  have fin:(Qy pre'∧rvs P st' fn.results.toList fun _ _=>True)→a'.defers=[]∧∃ v,(results fn a'.tmps).run P w' = .ok v w'∧((∃ v',(Ending.returned v) = .returned v')∧∃ ys Fo',Qy ys∧J ys w' Fo'∧Bel w ⟨g.K,fun k=>lent g b k∨Fo k,[]⟩ w w'∧(∀ k o,g.K k o→w'.cell? ⟨k,o,none⟩=w.cell? ⟨k,o,none⟩) ∧
      (∀ k,Fo' k→¬ Old w ⟨g.K,fun k=>lent g b k∨Fo k,[]⟩ k)):=fun hq=>by
    obtain ⟨v,hv⟩:=retW_ok (f:=fn) (Qy:=Qy) h2.t hq.2
    exact ⟨h2.t.defers,v,hv,⟨_,rfl⟩,pre',Fo',hq.1,h2.j,h2.t.below,h2.t.keep,h2.old⟩
  cases e with
  | normal=>exact fin h1
  | ret=>exact fin h1
  | _=>exact h1.elim
theorem BarJ.callW (hJ:J.Ab Kc) {N N' l:Nat} {Ty:List S→Prop} {Qy:List (List S)→Prop} (hY:YStep Kc P l N Ty J) {dst:Option Nat} {f:Operand} {fid:FuncId} {opa:Array Operand} {ats:Array TypeId} {ty:TypeId} {p:String} {af:Array Edge} {cur:St} {k:St→List (List S)→Prop} {m:Keep k}
    {args:S→List S} {b:List (Nat × Res)} (τ:Nat→Nat) (hc:ConW P fid args b N' Ty Qy) (hf:cur.ev f = .c (.fn fid [])) (ha:opa.toList.map cur.ev=renSs τ (args (yldS l)))
    (hb:∀ p∈b,cur.rs (τ p.1)=some (renR τ p.2)) (hinj:(b.map fun p=>τ p.1).Nodup) (hunf:∀ p∈b,∃ ss,p.2 = .box false ss) (hN:pre.length+N'≤N)
    (h:∀ ys,Qy ys→k (St.putd ⟨[],[]⟩ dst .un) (pre++ys)):BarJ P w0 K0 nt Kc J ops ⟨dst,.call ⟨.value f,opa,ats⟩,ty,p,af,none⟩ cur pre k m:=by
  intro a w g Fo hT hok hnd next Q hn
  refine stepWI_of hnd (wanted_step hT.t rfl ?_)
  have hef:=hT.t.ev f
  rw [hf,SR,CR] at hef
  obtain ⟨us0,hfv,hv0⟩:=hef
  rw [VR] at hv0
  subst hv0
  have hargs:SRs g w cur.rs (renSs τ (args (yldS l))) (opa.toList.map a.eval++[]):=by rw [List.append_nil,← ha];exact SRs_map _ _ _ (fun x _=>hT.t.ev x)
  have hexec:=run_call (o:=⟨dst,.call ⟨.value f,opa,ats⟩,ty,p,af,none⟩) (a:=a) (w:=w) (us:=[]) hc.1 rfl rfl hfv
  unfold Oper.wp
  rw [hexec,Oper.upon_enter]
  refine (hc.calls hb hinj hunf hJ hY hN hT hargs).mono ?_
  rintro e w' ⟨⟨v,rfl⟩,ys,Fo',hq,hT'⟩
  have hput:T w0 K0 nt (St.putd ⟨[],[]⟩ dst .un) (a.put dst v) w' g:=hT'.t.putd (opOk_dst hok) (by simp [SR])
  exact hn _ _ _ w' g Fo' (h ys hq) ⟨hput,hT'.j,hT'.old,(fun i r b hi=>by cases dst <;> cases hi),hT'.k,hT'.kc⟩
@[simp ↓] theorem vdJ_nil (pl:List (Nat × Bool)) (j:Nat) (st0:St) (l:List Rec) (cur:St) (K:St→List (List S)→Prop):vdJ P w0 K0 nt Kc J ops [] pl j st0 l cur pre K=force (tick cur) fun cur=>K cur pre:=by rw [vdJ];rfl
@[simp ↓] theorem vdJ_bar (o:Oper) (r:List Oper) (m:Nat) (pl:List (Nat × Bool)) (j:Nat) (st0:St) (l:List Rec) (cur:St) (K:St→List (List S)→Prop) :
    vdJ P w0 K0 nt Kc J ops (o::r) ((m,true)::pl) j st0 l cur pre K=force (tick cur) fun cur=>BarJ P w0 K0 nt Kc J ops o cur pre (fun st' pre'=>vdJ P w0 K0 nt Kc J ops r pl (j+1) st' [] st' pre' K) .mk:=by rw [vdJ];rfl
@[simp ↓] theorem vdJ_op (o:Oper) (r:List Oper) (m:Nat) (pl:List (Nat × Bool)) (j:Nat) (st0:St) (l:List Rec) (cur:St) (K:St→List (List S)→Prop) :
    vdJ P w0 K0 nt Kc J ops (o::r) ((m,false)::pl) j st0 l cur pre K=force (tick cur) fun cur=>force (tick (rdOf cur o)) fun rd=>force (tick (restr cur rd)) fun sR=>veff P ops sR o fun e=>force (tick e) fun e=>chk m st0 l e rd=true∧force (tick (l++[⟨j,e,rd⟩])) fun l=>vdJ P w0 K0 nt Kc J ops r pl (j+1) st0 l (cur.app e) pre K:=by rw [vdJ];rfl
end
section
variable {P:Program} {w0:World} {K0:K0T} {nt:Nat} {ops:Array Oper} {Kc:Nat→Nat→Prop} {J:Oth} {pre:List (List S)}
def vroundsJ (P:Program) (w0:World) (K0:K0T) (nt:Nat) (Kc:Nat→Nat→Prop) (J:Oth) (c:Code) (Q:Exit→St→List (List S)→Prop):Nat→St→List (List S)→Prop
  | 0,_,_=>False
  | n+1,st,pre=>VWJ P w0 K0 nt Kc J c st pre (seqJ (vroundsJ P w0 K0 nt Kc J c Q n) Q)
theorem vroundsJ_ok {c:Code} {Q:Exit→St→List (List S)→Prop} : ∀ (n:Nat) (st:St) (pre:List (List S)),vroundsJ P w0 K0 nt Kc J c Q n st pre→∀ a w g Fo,TJ w0 K0 nt Kc J st a w g pre Fo →
    Code.rounds P c (fun e a w=>∃ st' g' pre' Fo',Q e st' pre'∧TJ w0 K0 nt Kc J st' a w g' pre' Fo') n a w
  | 0,_,_,h,_,_,_,_,_=>h.elim
  | n+1,st,pre,h,a,w,g,Fo,hT=>by
    rw [Code.rounds]
    refine wp_mono (h a w g Fo hT) fun e a' w' ⟨st',g',pre',Fo',h1,h2⟩=>?_
    cases e with
    | normal=>exact vroundsJ_ok n st' pre' h1 a' w' g' Fo' h2
    | _=>exact ⟨st',g',pre',Fo',h1,h2⟩
theorem VWJ.rounds {c:Code} {st:St} {Q:Exit→St→List (List S)→Prop} (n:Nat) (h:vroundsJ P w0 K0 nt Kc J c Q n st pre):VWJ P w0 K0 nt Kc J (.loop c) st pre Q :=
  fun a w g Fo hT=>wp_loop_rounds n (vroundsJ_ok n st pre h a w g Fo hT)
theorem vroundsJ_succ (c:Code) (Q:Exit→St→List (List S)→Prop) (n:Nat) (st:St):vroundsJ P w0 K0 nt Kc J c Q (n+1) st pre=VWJ P w0 K0 nt Kc J c st pre (seqJ (vroundsJ P w0 K0 nt Kc J c Q n) Q):=rfl
theorem BarJ.gf (X:S) {o:Oper} {y:Nat} {cur:St} {k:St→List (List S)→Prop} {m:Keep k} (hg:gflag ops cur o.guard=some false) (hd:o.dst=some y)
    (h:k (cur.put y (.g false X)) pre):BarJ P w0 K0 nt Kc J ops o cur pre k m:=by
  intro a w g Fo hT hok hnd next Q hn
  refine stepWI_of hnd ?_
  have hw:=gflag_ok hT.t hg o rfl
  unfold stepW
  rw [hw,if_neg (by decide),hd]
  refine hn _ _ _ w g Fo h ⟨hT.t.put (opOk_dst hok y hd) ?_,hT.j,hT.old,fun i r b hr=>hT.res i r b hr,hT.k,hT.kc⟩
  rw [SR]
  exact ⟨fun e=>Bool.noConfusion e,fun _=>rfl⟩
end
end Go.VL
namespace Go.Proofs.YtlphpbcafplnbaaGreat
open Go.VL Go.RowKit
def ndC (k:List UInt8) (v:Int):List C:=[.sl false [[str k]],.sl false [[i64 v]],.sl true []]
theorem cloneK (k:List UInt8):Con Tryz.prog 253 [.c (.sl false [[str k]])] [.c (.sl false [[str k]])]:=by
  refine Con.frz (rs:=[.fr false 1 [[str k]] 0]) ?_ 0 rfl
  refine spec_of Tryz.func253 rfl (by kernel_rfl) (by simp [Tryz.f253]) (fun w0 K0=>vc_ok _ _ _ (by kernel_rfl) ?_)
  simp only [Tryz.f253]
  simp -dsimp [maxLen]
theorem cloneI (v:Int):Con Tryz.prog 254 [.c (.sl false [[i64 v]])] [.c (.sl false [[i64 v]])]:=by
  refine Con.frz (rs:=[.fr false 1 [[i64 v]] 0]) ?_ 0 rfl
  refine spec_of Tryz.func254 rfl (by kernel_rfl) (by simp [Tryz.f254]) (fun w0 K0=>vc_ok _ _ _ (by kernel_rfl) ?_)
  simp only [Tryz.f254]
  simp -dsimp [maxLen]
theorem isNaN1 (a:List UInt8):Con Tryz.prog 269 [.c (str a)] [.c (bln false)]:=by
  refine spec_of Tryz.func269 rfl (by kernel_rfl) (by simp [Tryz.f269]) (fun w0 K0=>vc_ok _ _ _ (by kernel_rfl) ?_)
  simp only [Tryz.f269]
  simp -dsimp
theorem isNaN2 (a:List UInt8):Con Tryz.prog 265 [.c (str a)] [.c (bln false)]:=by
  refine spec_of Tryz.func265 rfl (by kernel_rfl) (by simp [Tryz.f265]) (fun w0 K0=>vc_ok _ _ _ (by kernel_rfl) ?_)
  simp only [Tryz.f265]
  simp -dsimp
set_option maxRecDepth 4000 in
set_option maxHeartbeats 4000000 in
theorem less_spec (a b:List UInt8):Con Tryz.prog 264 [.c (str a),.c (str b)] [.c (bln (Op.bytesLess a b))]:=by
  refine spec_of Tryz.func264 rfl (by kernel_rfl) (by simp [Tryz.f264]) (fun w0 K0=>vc_ok _ _ _ (by kernel_rfl) ?_)
  simp only [Tryz.f264]
  simp -dsimp
  refine VC.mk _ (isNaN1 a) ?_
  simp -dsimp
  refine VG.mk [.c (bln false)] _ (fun h=>Bool.noConfusion h) rfl ?_
  simp -dsimp
set_option maxRecDepth 4000 in
set_option maxHeartbeats 4000000 in
theorem bs_lt (k a:List UInt8) (h:Op.bytesLess k a=true):Con Tryz.prog 257 [.c (.sl false [[str k]]),.c (str a)] [.c (i64 1),.c (bln false)]:=by
  refine spec_of Tryz.func257 rfl (by kernel_rfl) (by simp [Tryz.f257]) (fun w0 K0=>vx_ok (H:=fun i=>i == 8) _ _ _ (by kernel_rfl) ?_)
  simp only [Tryz.f257]
  simp -dsimp
  have m0:IntKind.i64.wrap ((IntKind.u64.wrap 1).fdiv (2 ^ min 1 IntKind.u64.bits))=0:=by decide
  refine VL.rounds 2 (by kernel_rfl) ?_
  simp -dsimp [m0]
  refine VC.mk _ (less_spec k a) ?_
  simp -dsimp [h,m0]
  refine VL.hand (by kernel_rfl) ?_
  refine VRS.run 10 ?_
  simp -dsimp
  refine VRS.gf (.c (.v (.bool false))) (by simp [gflag,gslot,St.get,vlook]) rfl ?_
  refine VRS.fin ?_
  simp -dsimp
  refine VG.mk [.c (bln false)] _ (fun h=>Bool.noConfusion h) rfl ?_
  simp -dsimp
  refine VG.mk [.c (bln false)] _ (fun h=>Bool.noConfusion h) rfl ?_
  simp -dsimp
set_option maxRecDepth 4000 in
set_option maxHeartbeats 4000000 in
theorem bs_ge (k a:List UInt8) (h:Op.bytesLess k a=false):Con Tryz.prog 257 [.c (.sl false [[str k]]),.c (str a)] [.c (i64 0),.c (bln (decide (k=a)))]:=by
  refine spec_of Tryz.func257 rfl (by kernel_rfl) (by simp [Tryz.f257]) (fun w0 K0=>vc_ok _ _ _ (by kernel_rfl) ?_)
  simp only [Tryz.f257]
  simp -dsimp
  have m0:IntKind.i64.wrap ((IntKind.u64.wrap 1).fdiv (2 ^ min 1 IntKind.u64.bits))=0:=by decide
  refine VL.rounds 2 (by kernel_rfl) ?_
  simp -dsimp [m0]
  refine VC.mk _ (less_spec k a) ?_
  by_cases e:k=a
  · subst e
    simp -dsimp [h,m0]
    refine VG.mk [.c (bln false)] _ (fun h=>Bool.noConfusion h) rfl ?_
    simp -dsimp
    refine VG.mk [.c (bln false)] _ (fun h=>Bool.noConfusion h) rfl ?_
    simp -dsimp
  · simp -dsimp [h,m0,e]
    refine VG.mk _ _ (fun _=>isNaN2 k) rfl ?_
    simp -dsimp
    refine VG.mk [.c (bln false)] _ (fun h=>Bool.noConfusion h) rfl ?_
    simp -dsimp
set_option maxRecDepth 4000 in
set_option maxHeartbeats 4000000 in
theorem leafD (k:List UInt8) (v:Int):Con Tryz.prog 245 [.c (.dp (ndC k v))] [.c (bln true)]:=by
  refine spec_of Tryz.func245 rfl (by kernel_rfl) (by simp [Tryz.f245]) (fun w0 K0=>vc_ok _ _ _ (by kernel_rfl) ?_)
  simp only [Tryz.f245]
  simp -dsimp [ndC]
set_option maxRecDepth 4000 in
set_option maxHeartbeats 4000000 in
theorem copiedD (k:List UInt8) (v:Int):Con Tryz.prog 251 [.c (.dp (ndC k v))] [.c (.dp (ndC k v))]:=by
  refine spec_of Tryz.func251 rfl (by kernel_rfl) (by simp [Tryz.f251]) (fun w0 K0=>vc_ok _ _ _ (by kernel_rfl) ?_)
  simp only [Tryz.f251]
  simp -dsimp [ndC]
  refine VL.draw (by kernel_rfl) [(0,false),(1,false),(3,false),(7,false),(15,false),(0,false),(32,false),(96,false),(224,false),(511,true),(1023,true),(2047,true),(4095,true)] (by kernel_rfl) ?_
  simp -dsimp
  refine VCE.mk _ (cloneK k) ?_
  simp -dsimp
  refine VC.mk _ (cloneI v) ?_
  simp -dsimp
  refine VL.fixptr 3 1088 ?_
  simp -dsimp
  refine VL.rounds 1 (by kernel_rfl) ?_
  simp -dsimp
  rfl
set_option maxRecDepth 4000 in
set_option maxHeartbeats 4000000 in
theorem ndFindD (k:List UInt8) (v:Int) (a:List UInt8) (n:Int) (b:Bool) (h:Con Tryz.prog 257 [.c (.sl false [[str k]]),.c (str a)] [.c (i64 n),.c (bln b)]):Con Tryz.prog 244 [.c (.dp (ndC k v)),.c (str a)] [.c (i64 n),.c (bln b)]:=by
  refine spec_of Tryz.func244 rfl (by kernel_rfl) (by simp [Tryz.f244]) (fun w0 K0=>vc_ok _ _ _ (by kernel_rfl) ?_)
  simp only [Tryz.f244]
  simp -dsimp [ndC]
  refine VC.mk _ h ?_
  simp -dsimp
def isKV (x:List S):Prop:=∃ (k:List UInt8) (v:Int),x=[.c (str k),.c (i64 v)]
set_option maxRecDepth 4000 in
set_option maxHeartbeats 8000000 in
theorem walk_lt (N:Nat) (k:List UInt8) (v:Int) (a b:List UInt8) (h:Op.bytesLess k a=true):ConW Tryz.prog 252 (fun y=>[.c (.dp (ndC k v)),.c (str a),.c (str b),y]) [] N isKV (fun ys=>ys=[]):=by
  refine spec_ofW Tryz.func252 rfl (by kernel_rfl) (by simp [Tryz.f252]) (fun w0 K0 lp Kc J hJ hY=>?_)
  simp only [Tryz.f252]
  refine VWJ.plain hJ (by kernel_rfl) (fun w1 K1=>?_)
  simp -dsimp [initY,initEnv]
  refine VC.mk _ (ndFindD k v a 1 false (bs_lt k a h)) ?_
  simp -dsimp
  refine VL.rounds 2 (by kernel_rfl) ?_
  simp -dsimp [ndC]
  refine VC.mk _ (leafD k v) ?_
  simp -dsimp [ndC]
  refine VG.mk [.c (bln false)] _ (fun h=>Bool.noConfusion h) rfl ?_
  simp -dsimp [ndC]
  simp [retW]
set_option maxRecDepth 4000 in
set_option maxHeartbeats 8000000 in
theorem walk_hit (k:List UInt8) (v:Int) (a b:List UInt8) (h:Op.bytesLess k a=false) (hb:b≠[]) (hc:cmpB k b = -1):ConW Tryz.prog 252 (fun y=>[.c (.dp (ndC k v)),.c (str a),.c (str b),y]) [] 1 isKV (fun ys=>ys=[[.c (str k),.c (i64 v)]]):=by
  refine spec_ofW Tryz.func252 rfl (by kernel_rfl) (by simp [Tryz.f252]) (fun w0 K0 lp Kc J hJ hY=>?_)
  simp only [Tryz.f252]
  refine VWJ.seq (VWJ.plain hJ (by kernel_rfl) (fun w1 K1=>?_))
  simp -dsimp [initY,initEnv]
  refine VWJ.seq (VWJ.plain hJ (by kernel_rfl) (fun w1 K1=>?_))
  simp -dsimp
  refine VC.mk _ (ndFindD k v a 0 _ (bs_ge k a h)) ?_
  simp -dsimp
  refine VWJ.seq (VWJ.block (VWJ.rounds 2 ?_))
  rw [vroundsJ_succ]
  refine VWJ.seq (VWJ.plain hJ (by kernel_rfl) (fun w1 K1=>?_))
  simp -dsimp [ndC]
  refine VWJ.seq (VWJ.block (VWJ.seq (VWJ.plain hJ (by kernel_rfl) (fun w1 K1=>?_))))
  simp -dsimp
  refine VC.mk _ (leafD k v) ?_
  simp -dsimp [ndC]
  refine VG.mk [.c (bln false)] _ (fun h=>Bool.noConfusion h) rfl ?_
  simp -dsimp [ndC]
  refine VWJ.seq (VWJ.plain hJ (by kernel_rfl) (fun w1 K1=>?_))
  simp -dsimp
  refine VWJ.seq (VWJ.draw hJ (by kernel_rfl) [(0,true),(1,true),(3,true),(7,false),(15,false),(31,false),(63,false),(7,false),(255,false),(511,false),(7,false),(2047,true),(4095,true),(8191,true),(16383,true),(32767,false),(32767,false),(98303,false),(229375,false),(491519,false),(32767,false),(2064383,false),(4161535,false),(32767,false),(8421375,false),(25198591,false),(58753023,false),(32767,false),(260079615,false),(528515071,false),(1073741823,true),(2147483647,true),(4294967295,true)] (by kernel_rfl) (by kernel_rfl) ?_)
  simp -dsimp
  refine BarJ.run hJ ?_
  simp -dsimp [hb]
  refine BarJ.run hJ ?_
  simp -dsimp [hb]
  refine BarJ.run hJ ?_
  simp -dsimp [hb]
  refine BarJ.run hJ ?_
  simp -dsimp [hb]
  refine VG.mk _ _ (fun _=>strCmp_spec k b) rfl ?_
  simp -dsimp [hc]
  refine BarJ.run hJ ?_
  simp -dsimp
  refine BarJ.run hJ ?_
  simp -dsimp
  refine BarJ.run hJ ?_
  simp -dsimp
  refine BarJ.yield (m:=.mk) hJ hY rfl rfl rfl [.c (str k),.c (i64 v)] rfl (by simp [flagOf,St.ev,St.get,vlook]) ⟨_,_,rfl⟩ (by simp [flatS,flatC]) (by simp) ?_
  simp -dsimp
  refine BarJ.run hJ ?_
  simp -dsimp
  refine BarJ.run hJ ?_
  simp -dsimp
  refine VWJ.plain hJ (by kernel_rfl) (fun w1 K1=>?_)
  simp -dsimp
  refine VWJ.plain hJ (by kernel_rfl) (fun w1 K1=>?_)
  simp -dsimp
  rw [vroundsJ_succ]
  refine VWJ.plain hJ (by kernel_rfl) (fun w1 K1=>?_)
  simp -dsimp [ndC]
  refine VC.mk _ (leafD k v) ?_
  simp -dsimp [ndC]
  refine VG.mk [.c (bln false)] _ (fun h=>Bool.noConfusion h) rfl ?_
  simp -dsimp [ndC]
  refine VWJ.plain hJ (by kernel_rfl) (fun w1 K1=>?_)
  simp -dsimp
  simp [retW]
set_option maxRecDepth 4000 in
set_option maxHeartbeats 8000000 in
theorem walk_ge (N:Nat) (k:List UInt8) (v:Int) (a b:List UInt8) (h:Op.bytesLess k a=false) (hb:b≠[]) (hc:cmpB k b=1):ConW Tryz.prog 252 (fun y=>[.c (.dp (ndC k v)),.c (str a),.c (str b),y]) [] N isKV (fun ys=>ys=[]):=by
  refine spec_ofW Tryz.func252 rfl (by kernel_rfl) (by simp [Tryz.f252]) (fun w0 K0 lp Kc J hJ hY=>?_)
  simp only [Tryz.f252]
  refine VWJ.seq (VWJ.plain hJ (by kernel_rfl) (fun w1 K1=>?_))
  simp -dsimp [initY,initEnv]
  refine VWJ.seq (VWJ.plain hJ (by kernel_rfl) (fun w1 K1=>?_))
  simp -dsimp
  refine VC.mk _ (ndFindD k v a 0 _ (bs_ge k a h)) ?_
  simp -dsimp
  refine VWJ.seq (VWJ.block (VWJ.rounds 2 ?_))
  rw [vroundsJ_succ]
  refine VWJ.seq (VWJ.plain hJ (by kernel_rfl) (fun w1 K1=>?_))
  simp -dsimp [ndC]
  refine VWJ.seq (VWJ.block (VWJ.seq (VWJ.plain hJ (by kernel_rfl) (fun w1 K1=>?_))))
  simp -dsimp
  refine VC.mk _ (leafD k v) ?_
  simp -dsimp [ndC]
  refine VG.mk [.c (bln false)] _ (fun h=>Bool.noConfusion h) rfl ?_
  simp -dsimp [ndC]
  refine VWJ.seq (VWJ.plain hJ (by kernel_rfl) (fun w1 K1=>?_))
  simp -dsimp
  refine VWJ.seq (VWJ.draw hJ (by kernel_rfl) [(0,true),(1,true),(3,true),(7,false),(15,false),(31,false),(63,false),(7,false),(255,false),(511,false),(7,false),(2047,true),(4095,true),(8191,true),(16383,true),(32767,false),(32767,false),(98303,false),(229375,false),(491519,false),(32767,false),(2064383,false),(4161535,false),(32767,false),(8421375,false),(25198591,false),(58753023,false),(32767,false),(260079615,false),(528515071,false),(1073741823,true),(2147483647,true),(4294967295,true)] (by kernel_rfl) (by kernel_rfl) ?_)
  simp -dsimp
  refine BarJ.run hJ ?_
  simp -dsimp [hb]
  refine BarJ.run hJ ?_
  simp -dsimp [hb]
  refine BarJ.run hJ ?_
  simp -dsimp [hb]
  refine BarJ.run hJ ?_
  simp -dsimp [hb]
  refine VG.mk _ _ (fun _=>strCmp_spec k b) rfl ?_
  simp -dsimp [hc]
  refine BarJ.run hJ ?_
  simp -dsimp
  refine BarJ.run hJ ?_
  simp -dsimp
  refine BarJ.run hJ ?_
  simp -dsimp
  refine BarJ.gf (m:=.mk) (.c (.v (.bool true))) rfl rfl ?_
  simp -dsimp
  refine BarJ.run hJ ?_
  simp -dsimp
  refine BarJ.run hJ ?_
  simp -dsimp
  refine VWJ.plain hJ (by kernel_rfl) (fun w1 K1=>?_)
  simp -dsimp
  simp [retW]
end Go.Proofs.YtlphpbcafplnbaaGreat
namespace Go.VL
open Go.RowKit
section
variable {P:Program}
theorem M.initPins {B0:Nat} {args:List S} {b:List (Nat × Res)} {w:World} {g:G} {us:List Value} {nt:Nat} (hbn:∀ p∈b,p.1<B0) (hM:M w ⟨g.K,lent g b,[]⟩ (lk b) w g) (hargs:SRs g w (lk b) args us) (hn:args.length≤nt) :
    T w ⟨g.K,lent g b,[]⟩ nt (initB B0 args b fun k=>us.getD k undef) { tmps:=us.toArray++Array.replicate (nt-us.toArray.size) undef,defers:=[] } w ⟨g.K,fun i=>if i<B0 then g.loc i else undef⟩:=by
  obtain ⟨hl,hs⟩:=(SRs_iff _ _).1 hargs
  let uf:Nat→Value:=fun k=>us.getD k undef
  let g1:G:=⟨g.K,fun i=>if i<B0 then g.loc i else undef⟩
  have hcmp:∀ j,Cmp g (lk b) g1 (initB B0 args b uf).rs j:=by
    intro j
    rw [show Cmp g (lk b) g1 (initB B0 args b uf).rs j=Cmp g (lk b) g1 (initB B0 args b uf).rs j from rfl]
    by_cases hj:j<B0
    · have e:=rs_initB B0 args b uf hbn j
      rw [if_pos hj] at e
      exact Cmp.same e (by show (if j<B0 then g.loc j else undef)=_;rw [if_pos hj])
    · have e:=rs_initB B0 args b uf hbn j
      rw [if_neg hj] at e
      refine ⟨fun fz ss q=>?_,fun nil sz xs fx q=>?_,fun kvs q=>?_⟩
      · rw [e] at q;cases h:args[j-B0]? <;> rw [h] at q <;> simp at q
      · rw [e] at q;cases h:args[j-B0]? <;> rw [h] at q <;> simp at q
      · rw [e] at q;cases h:args[j-B0]? <;> rw [h] at q <;> simp at q
  have hk:Keeps g.K w g1.K w:=Keeps.refl _ _
  show T w ⟨g.K,lent g b,[]⟩ nt (initB B0 args b uf) _ w g1
  refine ⟨hM.below,hM.k0,hM.kold,hM.klt,fun i r hi=>?_,fun i j ri rj hi hj hne k h1 h2=>?_,fun t=>?_,(by simp;omega),rfl,hM.keep⟩
  · have e:=rs_initB B0 args b uf hbn i
    by_cases hi2:i<B0
    · rw [if_pos hi2] at e
      rw [e] at hi
      exact RR.mono' hk (by show (if i<B0 then g.loc i else undef)=_;rw [if_pos hi2]) (fun _ _=>⟨rfl,fun _ k=>k⟩) (fun j _=>hcmp j) (hM.res i r hi)
    · rw [if_neg hi2] at e
      rw [e] at hi
      simp only [Option.map_eq_some_iff] at hi
      obtain ⟨s,h1,rfl⟩:=hi
      refine ⟨by show (if i<B0 then g.loc i else undef)=_;rw [if_neg hi2],?_⟩
      have hlt:=(List.getElem?_eq_some_iff.1 h1).1
      refine SR.mono hk s _ (fun j _=>hcmp j) (hs _ s _ h1 ?_)
      simp only [uf,List.getD_eq_getElem?_getD]
      rw [List.getElem?_eq_getElem (by omega)];rfl
  · have low:∀ n r,(initB B0 args b uf).rs n=some r→∀ k,blk (g1.loc n)=some k→n<B0∧lk b n=some r∧blk (g.loc n)=some k:=by
      intro n r hn' k hk'
      by_cases hlt:n<B0
      · rw [rs_initB B0 args b uf hbn,if_pos hlt] at hn'
        refine ⟨hlt,hn',?_⟩
        rw [show g1.loc n=(if n<B0 then g.loc n else undef) from rfl,if_pos hlt] at hk'
        exact hk'
      · rw [show g1.loc n=(if n<B0 then g.loc n else undef) from rfl,if_neg hlt] at hk'
        cases hk'
    obtain ⟨_,a1,a2⟩:=low i ri hi k h1
    obtain ⟨_,a3,a4⟩:=low j rj hj k h2
    exact hM.dis i j ri rj a1 a3 hne k a2 a4
  · have hg:(initB B0 args b uf).get t=(args[t]?).getD .un:=by
      unfold St.get initB
      rw [vlook_init];simp
    rw [hg]
    cases e:args[t]? with
    | none=>simp [SR]
    | some s =>
      have hlt:=(List.getElem?_eq_some_iff.1 e).1
      refine SR.mono hk s _ (fun j _=>hcmp j) (hs t s _ e ?_)
      simp [Array.getD,hl,hlt]
      omega
theorem T.asFnp {w0:World} {K0:K0T} {nt:Nat} {st:St} {a:Act} {w:World} {g:G} (h:T w0 K0 nt st a w g) (t:Nat) {f:FuncId} {cs:List C} (e:st.get t = .c (.fn f cs)):T w0 K0 nt (st.put t (.fnp f (cs.map .c))) a w g:=by
  refine ⟨h.below,h.k0,h.kold,h.klt,h.res,h.dis,fun t'=>?_,h.nt,h.defers,h.keep⟩
  rw [St.get_put]
  by_cases q:t=t'
  · subst q
    rw [if_pos rfl]
    have:=h.env t
    rw [e,SR,CR] at this
    obtain ⟨us,h1,h2⟩:=this
    rw [SR]
    refine ⟨us,h1,?_⟩
    rw [SRs_iff]
    rw [VR_iff] at h2
    refine ⟨by simpa using h2.1,fun k s u e1 e2=>?_⟩
    simp only [List.getElem?_map,Option.map_eq_some_iff] at e1
    obtain ⟨c,e1,rfl⟩:=e1
    rw [SR]
    exact h2.2 k c u e1 e2
  · rw [if_neg q];exact h.env t'
@[simp ↓] theorem vs_assign_nilFunc (ops:Array Oper) (st:St) (d:Option Nat) (ty:TypeId) (p:String) (af:Array Edge) (K:St→Prop):vstep P ops st ⟨d,.assign (.const .nilFunc),ty,p,af,none⟩ K=K (st.putd d (.c (.v .nilFunc))):=by
  simp [vstep,isPick,vop,vpure,pev,St.ev,ofConst]
  exact Iff.rfl
theorem spec_ofRFB (Bp:Nat) {f:FuncId} {fn:Func} {c1:Code} {blkId:Nat} {args rs as1:List S} {b b':List (Nat × Res)} {fop:Operand} {ps:List Nat} {asg body:Code} {B0 N:Nat} {E:List (Nat × S)} {rsJ:(Nat→Value)→List (List S)→List (Nat × Res)}
    (hf:P.funcs[f]? = some fn) (hb:fn.body=some (c1.seq (.block blkId (.rangeFunc fop ps.toArray asg body)))) (hc:callable P f=true) (hn:args.length≤fn.ntmps) (hbn:∀ p∈b,p.1<Bp) (hlen:as1.length=args.length)
    (stA stR:(Nat→Value)→St) (hcok:codeOk fn.ntmps c1=true)
    (hA:∀ w0 K0 uf,vc P w0 K0 fn.ntmps c1 (initB Bp args b uf) (fun e st'=>e = .normal∧st'.le (stA uf)))
    (hN:∀ w0 K0 uf a w g,T w0 K0 fn.ntmps (stA uf) a w g→T w0 K0 fn.ntmps (stR uf) a w g)
    {Ty:List S→Prop} (hTy:∀ x,Ty x→x.length=ps.length) (hround:∀ uf,RoundOk P fn.ntmps ps asg body B0 E (rsJ uf) N Ty)
    (hok:codeOk fn.ntmps asg=true∧codeOk fn.ntmps body=true) (hfl:flatCode asg=true∧flatCode body=true) (hps:∀ p∈ps,p<fn.ntmps) (hB0:∀ uf pre,∀ p∈rsJ uf pre,p.1<B0)
    (hcl:∀ p∈E,∀ j,p.2.men j=true→j<B0) (hrm:∀ uf pre,∀ p∈rsJ uf pre,∀ j,p.2.ment j=true→j<B0) (hE:(E.map (·.1)).Nodup)
    {gf:FuncId} {caps:List S} {bIt:List (Nat × Res)} {Qy:List (List S)→Prop} (hfop:∀ uf,(stR uf).ev fop = .fnp gf caps) (hcon:ConY P gf caps bIt N Ty Qy) (hbIt:∀ uf,∀ p∈bIt,(stR uf).rs p.1=some p.2)
    (hcc:∀ j,S.mens j caps=true→(lk bIt j).isSome=true) (hcb:∀ p∈bIt,∀ j,p.2.ment j=true→(lk bIt j).isSome=true) (hrs0:∀ uf,∀ p∈rsJ uf [],(stR uf).rs p.1=some p.2) (hap:∀ uf i,(lk bIt i).isSome=true→lk (rsJ uf []) i=none)
    (hrcl:∀ uf,∀ p∈rsJ uf [],∀ j,p.2.ment j=true→(lk (rsJ uf []) j).isSome=true) (hEcl:∀ uf,∀ p∈E,∀ j,p.2.men j=true→(lk (rsJ uf []) j).isSome=true) (hE0:∀ uf,∀ p∈E,(stR uf).get p.1=p.2)
    (hC:∀ uf ys,Qy ys→retQB Bp P fn rs as1 b' uf .normal ⟨E,(rsJ uf ys).map fun p=>(p.1,some p.2)⟩):ConB P f args b rs as1 b':=by
  refine ⟨hc,fun w g us hM hargs=>?_⟩
  have hT:=hM.initPins (nt:=fn.ntmps) hbn hargs hn
  obtain ⟨hl,hs⟩:=(SRs_iff _ _).1 hargs
  obtain ⟨uf,huf⟩:∃ uf:Nat→Value,uf=fun k=>us.getD k undef:=⟨_,rfl⟩
  rw [← huf] at hT
  refine (callsIn_wide (n:=0)).1 (callsIn_of_wp_marks (F:=Fence.wide) (n:=0) hf hb trivial ((wpIn_wide (n:=0)).2 ?_))
  refine wp_seq (wp_mono (vc_ok c1 _ _ hcok (hA w ⟨g.K,lent g b,[]⟩ uf) _ w _ hT) fun e a2 w2 ⟨st2,g2,⟨he,hle⟩,T2⟩=>?_)
  subst he
  have T3:=hN _ _ uf _ _ _ (T2.weaken hle)
  refine wp_block (wp_mono (rangeF_ok hTy (hround uf) hok hfl hps (hB0 uf) hcl (hrm uf) hE (hfop uf) hcon (hbIt uf) hcc hcb (hrs0 uf) (hap uf) (hrcl uf) (hEcl uf) (hE0 uf) T3) fun e a5 w5 ⟨he,ys,D,g5,hQy,ha4,hD5,hDsz,hDo5,hDk5,T4⟩=>?_)
  subst he
  have hdf:a2.defers=[]:=T3.defers
  rw [hdf] at T4 ha4
  have hdf5:a5.defers=[{ target:=.collected D,args:=#[] }]:=T4.defers
  obtain ⟨w6,hw6⟩:∃ w6,w6=w5.putObj D (.deferred none):=⟨_,rfl⟩
  have ho6:∀ k,k≠D→w6.heap[k]? = w5.heap[k]? := fun k hk=>by rw [hw6];exact World.putObj_heap_other hk
  have hs6:w6.heap.size=w5.heap.size:=by rw [hw6];simp
  have hkeep6:Keeps g5.K w5 g5.K w6:=⟨fun _ _ k=>k,fun b o k=>by
    have:b≠D:=fun e=>hDk5 o (e ▸ k)
    simp only [World.cell?];rw [ho6 b this]⟩
  have T6:T w ⟨g.K,lent g b,[{ target:=.collected D,args:=#[] }]⟩ fn.ntmps ⟨E,(rsJ uf ys).map fun p=>(p.1,some p.2)⟩ a5 w6 g5:=by
    refine T4.world (w':=w6) (K':=g5.K) ⟨by rw [hw6];rfl,by rw [hw6];rfl,by rw [hw6];rfl,by rw [hs6];exact Nat.le_refl _,fun k hk=>ho6 k (fun e=>by have:=hk.1;omega),by rw [hw6];exact Nat.le_refl _⟩ hkeep6 T4.kold (fun b o k=>by rw [hs6];exact T4.klt b o k)
      (fun i r b hi hb=>⟨ho6 b (fun e=>hDo5 ⟨i,r,hi,e ▸ hb⟩),fun _ k=>k⟩)
  have h2:T w ⟨g.K,lent g b,[]⟩ fn.ntmps ⟨E,(rsJ uf ys).map fun p=>(p.1,some p.2)⟩ { a5 with defers:=[] } w6 g5 :=
    ⟨⟨T6.below.os,T6.below.tape,T6.below.output,T6.below.size,fun k hk=>T6.below.block k hk,T6.below.drawn⟩,T6.k0,T6.kold,T6.klt,T6.res,T6.dis,T6.env,T6.nt,rfl,T6.keep⟩
  show LeavesInM Fence.wide 0 P fn a5.tmps _ a5.defers .returning w5
  rw [hdf5]
  refine ⟨by simp,.inl ⟨D,w6,rfl,?_,?_⟩⟩
  · rw [hw6];exact run_takeDeferred hD5
  · obtain ⟨vs,ss,st'',g'',e1,⟨rfl,e2,e2'⟩,e3,e4,e5⟩:=rvs_ok _ _ g5 _ h2 (hC uf ys hQy)
    have hw':w6=w6:=rfl
    have hdown:∀ j,Cmp g'' st''.rs g'' (lk b') j:=fun j=>⟨fun fz ss q=>⟨⟨fz,ss,resEnd_ok e2 j _ q⟩,rfl⟩,fun nil sz xs fx q=>⟨⟨nil,xs,fx,resEnd_ok e2 j _ q,rfl⟩,rfl⟩,fun kvs q=>⟨⟨kvs,resEnd_ok e2 j _ q,rfl⟩,rfl⟩⟩
    have hM':M w ⟨g.K,lent g b,[]⟩ (lk b') w6 g'':=by
      refine ⟨e3.below,e3.k0,e3.kold,e3.klt,fun i r hi=>?_,fun i j ri rj hi hj=>e3.dis i j ri rj (resEnd_ok e2 i _ hi) (resEnd_ok e2 j _ hj),e3.keep⟩
      exact RR.mono' (Keeps.refl _ _) rfl (fun _ _=>⟨rfl,fun _ k=>k⟩) (fun j _=>hdown j) (e3.res i r (resEnd_ok e2 i r hi))
    have has:SRs g'' w6 (lk b') as1 us:=by
      rw [SRs_iff]
      refine ⟨by omega,fun k s u q1 q2=>?_⟩
      have h3:=e3.res _ _ (pinsEnd_ok e2' k s q1)
      have h4:=h3.2
      have:uf (0+k)=u:=by simp [huf,q2]
      rw [this] at h4
      exact SR.mono (Keeps.refl _ _) s u (fun j _=>hdown j) h4
    exact ⟨_,results_of e1,vs,g'',rfl,hM',SRs.mono (Keeps.refl _ _) _ _ (fun j _=>hdown j) e4,has⟩
end
end Go.VL
namespace Go.Proofs.YtlphpbcafplnbaaGreat
open Go.VL Go.RowKit
def trC (k:List UInt8) (v:Int):List C:=[i64 8,.dp (ndC k v),i64 1]
def rgC (k:List UInt8) (v:Int) (a b:List UInt8):List C:=[.dp [.dp (trC k v)],.dp [str a],.dp [str b]]
set_option maxRecDepth 4000 in
set_option maxHeartbeats 8000000 in
theorem range1 (N:Nat) (k:List UInt8) (v:Int) (a b:List UInt8) (Qy:List (List S)→Prop) (hw:ConW Tryz.prog 252 (fun y=>[.c (.dp (ndC k v)),.c (str a),.c (str b),y]) [] N isKV Qy):ConY Tryz.prog 250 ((rgC k v a b).map .c) [] N isKV Qy:=by
  refine ConW.toY (spec_ofW Tryz.func250 rfl (by kernel_rfl) (by simp [Tryz.f250,rgC]) (fun w0 K0 lp Kc J hJ hY=>?_))
  simp only [Tryz.f250]
  refine VWJ.draw hJ (by kernel_rfl) [(0,false),(1,false),(3,false),(7,false),(15,false),(0,false),(0,false),(0,false),(255,true)] (by kernel_rfl) (by kernel_rfl) ?_
  simp -dsimp [initY,initEnv,rgC,trC]
  refine VCE.mk _ (copiedD k v) ?_
  simp -dsimp
  refine BarJ.callW hJ hY (fun i=>i) hw rfl (by simp [renSs,renS,St.ev,St.get,vlook]) (by simp) (by simp) (by simp) (by simp) (fun ys hys=>?_)
  simp -dsimp
  simp [retW]
  exact hys
set_option maxRecDepth 4000 in
set_option maxHeartbeats 8000000 in
theorem range_spec (k:List UInt8) (v:Int) (a b:List UInt8):Con Tryz.prog 241 [.c (.dp (trC k v)),.c (str a),.c (str b)] [.c (.fn 250 (rgC k v a b))]:=by
  refine spec_of Tryz.func241 rfl (by kernel_rfl) (by simp [Tryz.f241]) (fun w0 K0=>vc_ok _ _ _ (by kernel_rfl) ?_)
  simp only [Tryz.f241]
  simp -dsimp
  rfl
end Go.Proofs.YtlphpbcafplnbaaGreat
