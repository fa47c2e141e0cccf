/- Contracts of functions of the seat, proved in a logic on data over the model (part VY5). -/
import Derived.RangeFuncLeaves
import Derived.Test.YtlphpbcafplnbaaGreatVY3
set_option linter.unusedSimpArgs false
set_option linter.unusedVariables false
namespace Go.VL
open Go.RowKit
def paramsE:List Nat→List S→List (Nat × S)→List (Nat × S)
  | t::ts,s::ss,E=>paramsE ts ss ((t,s)::E)
  | _,_,E=>E
theorem params_ok {g:G} {w:World} {R:Nat→Option Res} {nt:Nat} : ∀ (ps:List Nat) (x:List S) (us:List Value) (E:List (Nat × S)) (tmps:Array Value),x.length=ps.length→SRs g w R x us→(∀ p∈ps,p<nt)→tmps.size=nt →
    (∀ t,SR g w R (vlook .un E t) (tmps.getD t undef)) →
    ((ps.zip us).foldl (fun tmps p=>tmps.setIfInBounds p.1 p.2) tmps).size=nt∧∀ t,SR g w R (vlook .un (paramsE ps x E) t) (((ps.zip us).foldl (fun tmps p=>tmps.setIfInBounds p.1 p.2) tmps).getD t undef)
  | [],x,us,E,tmps,_,_,_,hs,h=>⟨hs,by simpa [paramsE] using h⟩
  | q::ps,[],us,E,tmps,hl,_,_,_,_=>by simp at hl
  | q::ps,s::x,us,E,tmps,hl,hx,hp,hs,h=>by
    rw [SRs] at hx
    obtain ⟨u,us',rfl,h1,h2⟩:=hx
    have hq:=hp q (by simp)
    refine params_ok ps x us' ((q,s)::E) (tmps.setIfInBounds q u) (by simpa using hl) h2 (fun p hp'=>hp p (by simp [hp'])) (by simpa using hs) (fun t=>?_)
    rw [vlook]
    by_cases e:q=t
    · subst e
      rw [show (q == q)=true from by simp,cond_true]
      have:(tmps.setIfInBounds q u).getD q undef=u:=by simp [Array.getD,hs,hq]
      rw [this];exact h1
    · rw [show (q == t)=false from by simpa using e,cond_false]
      have:(tmps.setIfInBounds q u).getD t undef=tmps.getD t undef:=by
        simp only [Array.getD_eq_getD_getElem?]
        rw [Array.getElem?_setIfInBounds_ne e]
      rw [this];exact h t
theorem vlook_mem {α:Type} (d:α):∀ (E:List (Nat × α)),(E.map (·.1)).Nodup→∀ p∈E,vlook d E p.1=p.2
  | [],_,_,h=>by cases h
  | (k,x)::r,hn,p,hp=>by
    simp only [List.map_cons,List.nodup_cons] at hn
    rw [vlook]
    rcases List.mem_cons.1 hp with rfl | hp
    · simp
    · have:(k == p.1)=false:=by
        simp only [beq_eq_false_iff_ne,ne_eq]
        exact fun e=>hn.1 (e ▸ List.mem_map.2 ⟨p,hp,rfl⟩)
      rw [this,cond_false]
      exact vlook_mem d r hn.2 p hp
theorem vlook_or {α:Type} (d:α):∀ (E:List (Nat × α)) (t:Nat),vlook d E t=d∨∃ p∈E,p.1=t∧vlook d E t=p.2
  | [],_=>.inl rfl
  | (k,x)::r,t=>by
    rw [vlook]
    cases hk:k == t with
    | true=>exact .inr ⟨(k,x),by simp,by simpa using hk,rfl⟩
    | false =>
      rw [cond_false]
      rcases vlook_or d r t with h | ⟨p,h1,h2,h3⟩
      · exact .inl h
      · exact .inr ⟨p,by simp [h1],h2,h3⟩
theorem T.putOther {w1:World} {K1:K0T} {nt:Nat} {st:St} {a:Act} {w:World} {g:G} (h:T w1 K1 nt st a w g) (l:Nat) (o o0:Obj) (ho:w.heap[l]? = some o0) (hl:¬ ownL g st.rs l) (hk:∀ c,¬ g.K l c) :
    T (w.putObj l o) ⟨g.K,ownL g st.rs,a.defers⟩ nt st a (w.putObj l o) g:=by
  have h:=h.reroot
  have hoth:∀ k,k≠l→(w.putObj l o).heap[k]? = w.heap[k]? := fun k hk=>World.putObj_heap_other hk
  have hkeep:Keeps g.K w g.K (w.putObj l o):=⟨fun _ _ k=>k,fun b c k=>by
    have:b≠l:=fun e=>hk c (e ▸ k)
    simp only [World.cell?];rw [hoth b this]⟩
  refine ⟨Bel.refl _ _ _,fun _ _ k=>k,fun _ _ k _=>k,fun b c k=>by simpa using h.klt b c k,fun i r hr=>?_,h.dis,fun t=>SR.mono hkeep _ _ (fun j _=>Cmp.same rfl rfl) (h.env t),h.nt,rfl,fun _ _ _=>rfl⟩
  refine (RR.mono' hkeep rfl (fun b hb=>⟨hoth b (fun e=>hl ⟨i,r,hr,e ▸ hb⟩),fun _ k=>k⟩) (fun j _=>Cmp.same rfl rfl) (h.res i r hr)).blkB fun b hb _ ho=>ho.2 ⟨i,r,hr,hb⟩
structure JRel (w0:World) (K0:K0T) (w:World) (a:Act) (Kc:Nat→Nat→Prop) (E:List (Nat × S)) (l D:Nat) (rec:Loop) (rs:List (Nat × Res)) (W:World) (Fo:Nat→Prop) (g:G):Prop where
  rr:∀ i r,lk rs i=some r→RR g W (lk rs) (fun b=>¬ Old w0 K0 b) i r
  dis:∀ i j r r',lk rs i=some r→lk rs j=some r'→i≠j→∀ b,blk (g.loc i)=some b→blk (g.loc j)≠some b
  kc:∀ b o,Kc b o→g.K b o
  kold:∀ b o,g.K b o→Old w0 K0 b→Kc b o
  klt:∀ b o,g.K b o→b<W.heap.size
  keep:∀ b o,Kc b o→W.cell? ⟨b,o,none⟩=w.cell? ⟨b,o,none⟩
  env:∀ t,SR g W (lk rs) (vlook .un E t) (a.tmps.getD t undef)
  loop:W.heap[l]? = some (.loop rec)
  dfd:W.heap[D]? = some (.deferred (some []))
  apL:¬ ownL g (lk rs) l∧¬ ownL g (lk rs) D
  apK:∀ o,¬ g.K l o∧¬ g.K D o
  size:w0.heap.size≤W.heap.size
  fo:∀ b,Fo b↔(ownL g (lk rs) b∨b=l∨b=D∨∃ o,g.K b o∧¬ Kc b o)
theorem JRel.ab {w0:World} {K0:K0T} {w:World} {a:Act} {Kc:Nat→Nat→Prop} {E:List (Nat × S)} {l D:Nat} {rec:Loop} {rsJ:List (List S)→List (Nat × Res)} :
    Oth.Ab Kc (fun pre W Fo=>∃ g,JRel w0 K0 w a Kc E l D rec (rsJ pre) W Fo g):=by
  refine ⟨fun pre W Fo ⟨g,h⟩ b hb=>?_,fun pre W W' Fo ⟨g,h⟩ _ _ _ hsz _ hF hK=>⟨g,?_⟩⟩
  · rcases (h.fo b).1 hb with ⟨i,r,h1,h2⟩ | rfl | rfl | ⟨o,h1,_⟩
    · exact (h.rr i r h1).lt h2
    · exact (Array.getElem?_eq_some_iff.1 h.loop).1
    · exact (Array.getElem?_eq_some_iff.1 h.dfd).1
    · exact h.klt b o h1
  · have hkeep:Keeps g.K W g.K W':=⟨fun _ _ k=>k,fun b o k=>by
      by_cases hc:Kc b o
      · exact hK b o hc
      · simp only [World.cell?];rw [hF b ((h.fo b).2 (.inr (.inr (.inr ⟨o,k,hc⟩))))]⟩
    refine ⟨fun i r hr=>RR.mono' hkeep rfl (fun b hb=>⟨hF b ((h.fo b).2 (.inl ⟨i,r,hr,hb⟩)),fun _ k=>k⟩) (fun j _=>Cmp.same rfl rfl) (h.rr i r hr),h.dis,h.kc,h.kold,fun b o k=>Nat.lt_of_lt_of_le (h.klt b o k) hsz,fun b o k=>(hK b o k).trans (h.keep b o k),
      fun t=>SR.mono hkeep _ _ (fun j _=>Cmp.same rfl rfl) (h.env t),by rw [hF l ((h.fo l).2 (.inr (.inl rfl)))];exact h.loop,by rw [hF D ((h.fo D).2 (.inr (.inr (.inl rfl))))];exact h.dfd,h.apL,h.apK,Nat.le_trans h.size hsz,h.fo⟩
def RoundOk (P:Program) (nt:Nat) (ps:List Nat) (asg body:Code) (B0:Nat) (E:List (Nat × S)) (rsJ:List (List S)→List (Nat × Res)) (N:Nat) (Ty:List S→Prop):Prop :=
  ∀ w1 K1 (uf:Nat→Value) pre (x:List S),pre.length<N→Ty x→(x.all flatS)=true →
    vc P w1 K1 nt asg ⟨paramsE ps x E,((rsJ pre).map fun p=>(p.1,some p.2))++pinsOf B0 uf 0 (E.map (·.2))⟩
      (fun e st1=>e = .normal∧∀ w2 K2,vc P w2 K2 nt body st1 (fun e st2=>e = .normal∧resEnd st2 (rsJ (pre++[x]))∧pinsEnd B0 st2 uf 0 (E.map (·.2))))
section
variable {P:Program} {w0:World} {K0:K0T} {nt:Nat}
theorem roundY {ps:List Nat} {asg body:Code} {B0 N:Nat} {E:List (Nat × S)} {rsJ:List (List S)→List (Nat × Res)} {Ty:List S→Prop} (hTy:∀ x,Ty x→x.length=ps.length) (hround:RoundOk P nt ps asg body B0 E rsJ N Ty)
    (hok:codeOk nt asg=true∧codeOk nt body=true) (hfl:flatCode asg=true∧flatCode body=true) (hps:∀ p∈ps,p<nt) (hB0:∀ pre,∀ p∈rsJ pre,p.1<B0)
    (hcl:∀ p∈E,∀ j,p.2.men j=true→j<B0) (hrm:∀ pre,∀ p∈rsJ pre,∀ j,p.2.ment j=true→j<B0) (hE:(E.map (·.1)).Nodup)
    {w:World} {a:Act} {Kc:Nat→Nat→Prop} {l D:Nat} {fn:FuncId} (hnt:a.tmps.size=nt) :
    YStep Kc P l N Ty (fun pre W Fo=>∃ g,JRel w0 K0 w a Kc E l D { state:=.ready,pending:=none,fn,tmps:=a.tmps,params:=ps.toArray,assign:=asg,body,defers:=D } (rsJ pre) W Fo g):=by
  intro pre x us W Fo ⟨g,h⟩ hN hxt hxf hd
  have hxl:=hTy x hxt
  obtain ⟨rec,hrec⟩:∃ rec:Loop,rec = { state:=.ready,pending:=none,fn,tmps:=a.tmps,params:=ps.toArray,assign:=asg,body,defers:=D } := ⟨_,rfl⟩
  rw [← hrec] at h
  have hul:us.length=ps.length:=by
    have:=((SRs_iff _ _).1 hd).1;omega
  let uf:Nat→Value:=fun k=>((E.map fun p=>a.tmps.getD p.1 undef)[k]?).getD undef
  let g1:G:=⟨g.K,fun i=>if i<B0 then g.loc i else undef⟩
  let st0:St:=⟨paramsE ps x E,((rsJ pre).map fun p=>(p.1,some p.2))++pinsOf B0 uf 0 (E.map (·.2))⟩
  let KW:K0T:=⟨g.K,ownL g (lk (rsJ pre)),[]⟩
  have hrs0:∀ i,st0.rs i=if i<B0 then lk (rsJ pre) i else ((E.map (·.2))[i-B0]?).map fun s=>.pin (uf (i-B0)) s:=fun i=>rs_initB B0 (E.map Prod.snd) (rsJ pre) uf (hB0 pre) i
  have hl1:∀ j,j<B0→g1.loc j=g.loc j:=fun j hj=>by show (if j<B0 then g.loc j else undef)=_;rw [if_pos hj]
  have hl2:∀ j,¬ j<B0→g1.loc j=undef:=fun j hj=>by show (if j<B0 then g.loc j else undef)=_;rw [if_neg hj]
  have hcmp:∀ j,j<B0→Cmp g (lk (rsJ pre)) g1 st0.rs j:=fun j hj=>Cmp.same (by rw [hrs0,if_pos hj]) (hl1 j hj)
  have hlkB:∀ i r,lk (rsJ pre) i=some r→i<B0:=fun i r hi=>hB0 pre (i,r) (lk_mem hi)
  have hEv:∀ p∈E,SR g1 W st0.rs p.2 (a.tmps.getD p.1 undef):=fun p hp=>by
    have:=h.env p.1
    rw [vlook_mem _ E hE p hp] at this
    exact SR.mono (g:=g) (g':=g1) (w:=W) (w':=W) (R:=lk (rsJ pre)) (R':=st0.rs) (Keeps.refl _ _) _ _ (fun j hj=>hcmp j (hcl p hp j hj)) this
  have hEe:∀ t,SR g1 W st0.rs (vlook .un E t) (a.tmps.getD t undef):=fun t=>by
    rcases vlook_or S.un E t with e | ⟨p,h1,h2,h3⟩
    · rw [e,SR];trivial
    · rw [h3,← h2];exact hEv p h1
  have hxs:SRs g1 W st0.rs x us:=by
    have:=hd
    unfold DRs at this
    rw [SRs_iff] at this ⊢
    refine ⟨this.1,fun k s u e1 e2=>?_⟩
    have hf:=List.all_eq_true.1 hxf s (List.mem_of_getElem? e1)
    have hs:=this.2 k s u e1 e2
    cases s with
    | c y=>rw [SR] at hs ⊢;exact flat_CR hf hs
    | agg cs =>
      rw [SR] at hs ⊢
      obtain ⟨vs,q1,q2⟩:=hs
      refine ⟨vs,q1,?_⟩
      rw [VR_iff] at q2 ⊢
      exact ⟨q2.1,fun k c u e1 e2=>flat_CR (List.all_eq_true.1 hf c (List.mem_of_getElem? e1)) (q2.2 k c u e1 e2)⟩
    | _=>cases hf
  obtain ⟨htz,htm⟩:=params_ok ps x us E a.tmps hxl hxs hps hnt hEe
  obtain ⟨tmps',htmps⟩:∃ tmps',tmps'=(ps.zip us).foldl (fun tmps p=>tmps.setIfInBounds p.1 p.2) a.tmps:=⟨_,rfl⟩
  rw [← htmps] at htz htm
  have hown:∀ i r b,lk (rsJ pre) i=some r→blk (g.loc i)=some b→¬ Old W KW b:=fun i r b hi hb ho=>ho.2 ⟨i,r,hi,hb⟩
  have hlow:∀ n r,st0.rs n=some r→∀ k,blk (g1.loc n)=some k→n<B0∧lk (rsJ pre) n=some r∧blk (g.loc n)=some k:=by
    intro n r hn' k hk'
    by_cases hlt:n<B0
    · rw [hrs0,if_pos hlt] at hn'
      exact ⟨hlt,hn',by rw [hl1 n hlt] at hk';exact hk'⟩
    · rw [hl2 n hlt] at hk';cases hk'
  have T0:T W KW nt st0 { tmps:=tmps',defers:=[] } W g1:=by
    refine ⟨Bel.refl _ _ _,fun _ _ k=>k,fun _ _ k _=>k,h.klt,fun i r hi=>?_,fun i j ri rj hi hj hne k h1 h2=>?_,htm,htz,rfl,fun _ _ _=>rfl⟩
    · by_cases hlt:i<B0
      · rw [hrs0,if_pos hlt] at hi
        refine (RR.mono' (g:=g) (g':=g1) (w:=W) (w':=W) (R:=lk (rsJ pre)) (R':=st0.rs) (Keeps.refl _ _) (hl1 i hlt) (fun _ _=>⟨rfl,fun _ k=>k⟩) (fun j hj=>hcmp j (hrm pre (i,r) (lk_mem hi) j hj)) (h.rr i r hi)).blkB fun b hb _=>?_
        rw [hl1 i hlt] at hb
        exact hown i r b hi hb
      · rw [hrs0,if_neg hlt] at hi
        simp only [Option.map_eq_some_iff] at hi
        obtain ⟨s,h1,rfl⟩:=hi
        refine ⟨hl2 i hlt,?_⟩
        rw [List.getElem?_map,Option.map_eq_some_iff] at h1
        obtain ⟨p,h1,rfl⟩:=h1
        have hu:uf (i-B0)=a.tmps.getD p.1 undef:=by
          show ((E.map fun p=>a.tmps.getD p.1 undef)[i-B0]?).getD undef=_
          rw [List.getElem?_map,h1];rfl
        rw [hu]
        exact hEv p (List.mem_of_getElem? h1)
    · obtain ⟨_,a1,a2⟩:=hlow i ri hi k h1
      obtain ⟨_,a3,a4⟩:=hlow j rj hj k h2
      exact h.dis i j ri rj a1 a3 hne k a2 a4
  have hll:l<W.heap.size:=(Array.getElem?_eq_some_iff.1 h.loop).1
  have hDl:D<W.heap.size:=(Array.getElem?_eq_some_iff.1 h.dfd).1
  have hlOld:Old W KW l:=⟨hll,h.apL.1⟩
  have hDOld:Old W KW D:=⟨hDl,h.apL.2⟩
  have hrun:=run_yield (P:=P) (args:=us.toArray) h.loop (by rw [hrec];simpa using hul)
  have hfold:((rec.params.zip us.toArray).foldl (fun tmps (t,a)=>tmps.setIfInBounds t a) rec.tmps)=tmps':=by
    rw [hrec,htmps]
    simp
  rw [hfold] at hrun
  have hfn:rec.fn=fn:=by rw [hrec]
  have hasg:rec.assign=asg:=by rw [hrec]
  have hbody:rec.body=body:=by rw [hrec]
  rw [hfn,hasg,hbody] at hrun
  refine ⟨fn,tmps',asg,body,hrun,roundIn_of_wpIn trivial ?_⟩
  refine wpIn_mono (F:=FR (some l)) (vcI_ok asg st0 _ hok.1 hfl.1 (hround W KW uf pre x hN hxt hxf) { tmps:=tmps',defers:=[] } W g1 T0) fun e a1 W1 ⟨st1,g2,⟨he,hb2⟩,T1⟩=>?_
  subst he
  have hl1o:¬ ownL g2 st1.rs l:=fun ⟨i,r,q1,q2⟩=>((T1.res i r q1).block q2).1 hlOld
  have hk1o:∀ c,¬ g2.K l c:=fun c hc=>(h.apK c).1 (T1.kold l c hc hlOld)
  have hrec1:W1.heap[l]? = some (.loop rec):=(T1.below.block l hlOld).trans h.loop
  have hbr:=run_beginRound (P:=P) hrec1 (by rw [hrec])
  show ∃ w₂,_
  refine ⟨_,hbr,?_⟩
  obtain ⟨W2,hW2⟩:∃ W2,W2=W1.putObj l (.loop { rec with state:=.busy }):=⟨_,rfl⟩
  rw [← hW2]
  have T2:=T1.putOther l (.loop { rec with state:=.busy }) _ hrec1 hl1o hk1o
  rw [← hW2] at T2
  have hsz12:W1.heap.size=W2.heap.size:=by rw [hW2];simp
  have hl2l:l<W2.heap.size:=by rw [← hsz12];exact (Array.getElem?_eq_some_iff.1 hrec1).1
  have hW2l:W2.heap[l]? = some (.loop { rec with state:=.busy }):=by rw [hW2];exact World.putObj_heap_same (by rw [hsz12];exact hl2l)
  have hW2o:∀ k,k≠l→W2.heap[k]? = W1.heap[k]? := fun k hk=>by rw [hW2];exact World.putObj_heap_other hk
  refine wpIn_mono (F:=FR (some l)) (vcI_ok body st1 _ hok.2 hfl.2 (hb2 W2 ⟨g2.K,ownL g2 st1.rs,a1.defers⟩) a1 W2 g2 T2) fun e a3 W3 ⟨st2,g3,⟨he,hre,hpi⟩,T3⟩=>?_
  subst he
  have hold12:∀ b,Old W KW b→Old W2 ⟨g2.K,ownL g2 st1.rs,a1.defers⟩ b:=fun b hb=>⟨by rw [← hsz12];exact Nat.lt_of_lt_of_le hb.1 T1.below.size,fun ⟨i,r,q1,q2⟩=>((T1.res i r q1).block q2).1 hb⟩
  have hlOld2:=hold12 l hlOld
  have hDOld2:=hold12 D hDOld
  have hl3:W3.heap[l]? = some (.loop { rec with state:=.busy }):=(T3.below.block l hlOld2).trans hW2l
  have hlD:D≠l:=fun e=>by have:=h.dfd;rw [e,h.loop] at this;cases this
  have hD3:W3.heap[D]? = some (.deferred (some [])):=(T3.below.block D hDOld2).trans ((hW2o D hlD).trans ((T1.below.block D hDOld).trans h.dfd))
  have her:=run_endRound (P:=P) none hl3
  refine ⟨_,_,her,?_⟩
  have hre4:({ ({ rec with state:=.busy } : Loop) with state:=if (none:Option Code).isNone then .ready else .done,pending:=none } : Loop)=rec:=by rw [hrec];rfl
  rw [hre4]
  obtain ⟨W4,hW4⟩:∃ W4,W4=W3.putObj l (.loop rec):=⟨_,rfl⟩
  rw [← hW4]
  have hsz34:W3.heap.size=W4.heap.size:=by rw [hW4];simp
  have hW4o:∀ k,k≠l→W4.heap[k]? = W3.heap[k]? := fun k hk=>by rw [hW4];exact World.putObj_heap_other hk
  have hl3l:l<W3.heap.size:=(Array.getElem?_eq_some_iff.1 hl3).1
  have hW4l:W4.heap[l]? = some (.loop rec):=by rw [hW4];exact World.putObj_heap_same hl3l
  have hl3o:¬ ownL g3 st2.rs l:=fun ⟨i,r,q1,q2⟩=>((T3.res i r q1).block q2).1 hlOld2
  have hD3o:¬ ownL g3 st2.rs D:=fun ⟨i,r,q1,q2⟩=>((T3.res i r q1).block q2).1 hDOld2
  have hk3:∀ b o,g3.K b o→Old W KW b→g.K b o:=fun b o hk ho=>T1.kold b o (T3.kold b o hk (hold12 b ho)) ho
  have hkeep34:Keeps g3.K W3 g3.K W4:=⟨fun _ _ k=>k,fun b o k=>by
    have:b≠l:=fun e=>(h.apK o).1 (e ▸ hk3 b o k (e ▸ hlOld))
    simp only [World.cell?];rw [hW4o b this]⟩
  have hres3:∀ i r,lk (rsJ (pre++[x])) i=some r→st2.rs i=some r:=fun i r hi=>resEnd_ok hre i r hi
  have hdown:∀ j,Cmp g3 st2.rs g3 (lk (rsJ (pre++[x]))) j:=fun j=>⟨fun fz ss q=>⟨⟨fz,ss,hres3 j _ q⟩,rfl⟩,fun nil sz xs fx q=>⟨⟨nil,xs,fx,hres3 j _ q,rfl⟩,rfl⟩,fun m q=>⟨⟨m,hres3 j _ q,rfl⟩,rfl⟩⟩
  have hownB:∀ b,ownL g3 st2.rs b→W.heap.size≤b∨ownL g (lk (rsJ pre)) b:=fun b ⟨i,r,q1,q2⟩=>by
    have h1:=((T3.res i r q1).block q2).1
    refine Classical.byContradiction fun hc=>h1 (hold12 b ⟨by omega,fun ho=>hc (.inr ho)⟩)
  have hown4:∀ b,ownL g3 (lk (rsJ (pre++[x]))) b→ownL g3 st2.rs b:=fun b ⟨i,r,q1,q2⟩=>⟨i,r,hres3 i r q1,q2⟩
  have hKc3:∀ b o,Kc b o→g3.K b o:=fun b o hk=>T3.k0 b o (T1.k0 b o (h.kc b o hk))
  have hcellK:∀ b o,g.K b o→W4.cell? ⟨b,o,none⟩=W.cell? ⟨b,o,none⟩:=fun b o hk=>by
    have hbl:b≠l:=fun e=>(h.apK o).1 (e ▸ hk)
    have e1:=T1.keep b o hk
    have e2:=T3.keep b o (T1.k0 b o hk)
    have e3:W4.cell? ⟨b,o,none⟩=W3.cell? ⟨b,o,none⟩:=by simp only [World.cell?];rw [hW4o b hbl]
    have e4:W2.cell? ⟨b,o,none⟩=W1.cell? ⟨b,o,none⟩:=by simp only [World.cell?];rw [hW2o b hbl]
    rw [e3,e2,e4,e1]
  refine ⟨rfl,fun b=>ownL g3 (lk (rsJ (pre++[x]))) b∨b=l∨b=D∨∃ o,g3.K b o∧¬ Kc b o,⟨g3,?_⟩,?_⟩
  · rw [← hrec]
    refine ⟨fun i r hi=>?_,fun i j r r' hi hj=>T3.dis i j r r' (hres3 i r hi) (hres3 j r' hj),hKc3,fun b o hk ho=>?_,fun b o hk=>by rw [← hsz34];exact T3.klt b o hk,fun b o hk=>(hcellK b o (h.kc b o hk)).trans (h.keep b o hk),fun t=>?_,hW4l,by rw [hW4o D hlD];exact hD3,
      ⟨fun ho=>hl3o (hown4 l ho),fun ho=>hD3o (hown4 D ho)⟩,fun o=>⟨fun hk=>(h.apK o).1 (hk3 l o hk hlOld),fun hk=>(h.apK o).2 (hk3 D o hk hDOld)⟩,?_,fun b=>Iff.rfl⟩
    · have hr3:=T3.res i r (hres3 i r hi)
      refine (RR.mono' (g:=g3) (g':=g3) (w:=W3) (w':=W4) (R:=st2.rs) (R':=lk (rsJ (pre++[x]))) hkeep34 rfl (fun b hb=>⟨hW4o b (fun e=>hl3o ⟨i,r,hres3 i r hi,e ▸ hb⟩),fun _ k=>k⟩) (fun j _=>hdown j) hr3).blkB fun b hb _ ho=>?_
      rcases hownB b ⟨i,r,hres3 i r hi,hb⟩ with q | ⟨i',r',q1,q2⟩
      · have:=ho.1;have:=h.size;omega
      · exact ((h.rr i' r' q1).block q2).1 ho
    · refine h.kold b o (hk3 b o hk ⟨Nat.lt_of_lt_of_le ho.1 h.size,fun ⟨i',r',q1,q2⟩=>((h.rr i' r' q1).block q2).1 ho⟩) ho
    · rcases vlook_or S.un E t with e | ⟨p,q1,q2,q3⟩
      · rw [e,SR];trivial
      · obtain ⟨k,hk,rfl⟩:=List.mem_iff_getElem.1 q1
        have hp:=pinsEnd_ok hpi k E[k].2 (by simp [hk])
        have hr3:=(T3.res _ _ hp).2
        have hu:uf (0+k)=a.tmps.getD E[k].1 undef:=by
          show ((E.map fun p=>a.tmps.getD p.1 undef)[0+k]?).getD undef=_
          simp [hk]
        rw [hu] at hr3
        rw [q3,← q2]
        exact SR.mono hkeep34 _ _ (fun j _=>hdown j) hr3
    · have:=T1.below.size
      have:=T3.below.size
      have:=h.size
      omega
  · have hs1:=T1.below.size
    have hs3:=T3.below.size
    refine ⟨?_,?_,?_,by omega,?_,fun k hk hF=>?_,fun b o hk=>hcellK b o (h.kc b o hk),fun k hk=>?_⟩
    · rw [hW4];exact T3.below.os.trans (by rw [hW2];exact T1.below.os)
    · rw [hW4];exact T3.below.tape.trans (by rw [hW2];exact T1.below.tape)
    · rw [hW4];exact T3.below.output.trans (by rw [hW2];exact T1.below.output)
    · have d3:=T3.below.drawn
      have d1:=T1.below.drawn
      rw [hW4]
      refine Nat.le_trans d1 (Nat.le_trans ?_ d3)
      rw [hW2];exact Nat.le_refl _
    · have hkl:k≠l:=fun e=>hF ((h.fo k).2 (.inr (.inl e)))
      have hkO:Old W KW k:=⟨hk,fun ho=>hF ((h.fo k).2 (.inl ho))⟩
      rw [hW4o k hkl,T3.below.block k (hold12 k hkO),hW2o k hkl,T1.below.block k hkO]
    · have own:∀ b,ownL g3 st2.rs b→Fo b∨W.heap.size≤b:=fun b hb=>by
        rcases hownB b hb with q | q
        · exact .inr q
        · exact .inl ((h.fo b).2 (.inl q))
      rcases hk with ho | rfl | rfl | ⟨o,q1,q2⟩
      · exact own k (hown4 k ho)
      · exact .inl ((h.fo _).2 (.inr (.inl rfl)))
      · exact .inl ((h.fo _).2 (.inr (.inr (.inl rfl))))
      · refine Classical.byContradiction fun hc=>?_
        simp only [not_or,Nat.not_le] at hc
        have hkO:Old W KW k:=⟨hc.2,fun ho=>hc.1 ((h.fo k).2 (.inl ho))⟩
        exact hc.1 ((h.fo k).2 (.inr (.inr (.inr ⟨o,hk3 k o q1 hkO,q2⟩))))
theorem rangeF_ok {st:St} {a:Act} {w:World} {g:G} {fop:Operand} {ps:List Nat} {asg body:Code} {B0 N:Nat} {E:List (Nat × S)} {rsJ:List (List S)→List (Nat × Res)} {Ty:List S→Prop} (hTy:∀ x,Ty x→x.length=ps.length) (hround:RoundOk P nt ps asg body B0 E rsJ N Ty)
    (hok:codeOk nt asg=true∧codeOk nt body=true) (hfl:flatCode asg=true∧flatCode body=true) (hps:∀ p∈ps,p<nt) (hB0:∀ pre,∀ p∈rsJ pre,p.1<B0)
    (hcl:∀ p∈E,∀ j,p.2.men j=true→j<B0) (hrm:∀ pre,∀ p∈rsJ pre,∀ j,p.2.ment j=true→j<B0) (hE:(E.map (·.1)).Nodup)
    {gf:FuncId} {caps:List S} {bIt:List (Nat × Res)} {Qy:List (List S)→Prop} (hf:st.ev fop = .fnp gf caps) (hcon:ConY P gf caps bIt N Ty Qy) (hbIt:∀ p∈bIt,st.rs p.1=some p.2)
    (hcc:∀ j,S.mens j caps=true→(lk bIt j).isSome=true) (hcb:∀ p∈bIt,∀ j,p.2.ment j=true→(lk bIt j).isSome=true) (hrs0:∀ p∈rsJ [],st.rs p.1=some p.2) (hap:∀ i,(lk bIt i).isSome=true→lk (rsJ []) i=none)
    (hrcl:∀ p∈rsJ [],∀ j,p.2.ment j=true→(lk (rsJ []) j).isSome=true) (hEcl:∀ p∈E,∀ j,p.2.men j=true→(lk (rsJ []) j).isSome=true) (hE0:∀ p∈E,st.get p.1=p.2) (hT:T w0 K0 nt st a w g) :
    (Code.rangeFunc fop ps.toArray asg body).wp P (fun e a' w'=>e = .normal∧∃ ys D g',Qy ys∧a' = { a with defers:={ target:=.collected D,args:=#[] } :: a.defers } ∧ w'.heap[D]? = some (.deferred (some []))∧w0.heap.size≤D ∧
      ¬ ownL g' (lk (rsJ ys)) D∧(∀ o,¬ g'.K D o)∧T w0 ⟨K0.K,K0.L,{ target:=.collected D,args:=#[] } :: a.defers⟩ nt ⟨E,(rsJ ys).map fun p=>(p.1,some p.2)⟩ a' w' g') a w:=by
  refine (wpIn_wide (n:=1)).1 (wpIn_rangeFunc (F:=Fence.wide) fun fn _=>?_)
  have hfv:=hT.ev fop
  rw [hf,SR] at hfv
  obtain ⟨us,hfe,hus⟩:=hfv
  have eg:∀ args w,(callFunc gf args).run P w = .ok (.enter gf args) w:=run_callable hcon.1
  obtain ⟨rec,hrec⟩:∃ rec:Loop,rec = { state:=.ready,pending:=none,fn,tmps:=a.tmps,params:=ps.toArray,assign:=asg,body,defers:=w.heap.size } := ⟨_,rfl⟩
  obtain ⟨W1,hW1⟩:∃ W1,(w.alloc (.deferred (some []))).alloc (.loop rec)=W1:=⟨_,rfl⟩
  have hsz:W1.heap.size=w.heap.size+2:=by rw [← hW1];simp
  have hlo:∀ k,k<w.heap.size→W1.heap[k]? = w.heap[k]? := fun k hk=>by
    rw [← hW1];exact (Below.heap_alloc _ _ k (by simp;omega)).trans (Below.heap_alloc _ _ k hk)
  have hL1:W1.heap[w.heap.size+1]? = some (.loop rec):=by
    rw [← hW1];have:=World.alloc_heap_new (w.alloc (.deferred (some []))) (.loop rec);rwa [World.size_alloc] at this
  have hD1:W1.heap[w.heap.size]? = some (.deferred (some [])):=by
    rw [← hW1];exact (Below.heap_alloc _ _ _ (by simp)).trans (World.alloc_heap_new w _)
  have hos:W1.os=w.os∧W1.tape=w.tape∧W1.output=w.output∧W1.drawn=w.drawn:=by rw [← hW1];exact ⟨rfl,rfl,rfl,rfl⟩
  refine ⟨w.heap.size+1,[{ target:=.collected w.heap.size,args:=#[] }],W1,{ target:=.fn (.func gf) us.toArray,args:=#[.func (.yield (w.heap.size+1)) #[] #[]] },W1,gf,
    #[.func (.yield (w.heap.size+1)) #[] #[]]++us.toArray,W1,?_,?_,fun _ _=>trivial,?_,fun _=>Nat.le_refl _,?_⟩
  · rw [← hW1,hrec];exact run_enterLoop_outer _ _ _ _ _
  · simp only [resolve,hfe]
    simp [go_sem]
  · simp [invoke,go_sem,eg]
  have hkeep1:Keeps g.K w g.K W1:=⟨fun _ _ k=>k,fun b o k=>by simp only [World.cell?];rw [hlo b (hT.klt b o k)]⟩
  have hbl:∀ i r,lk bIt i=some r→st.rs i=some r:=fun i r hi=>hbIt (i,r) (lk_mem hi)
  have hrl:∀ i r,lk (rsJ []) i=some r→st.rs i=some r:=fun i r hi=>hrs0 (i,r) (lk_mem hi)
  have hcmpB:∀ j,(lk bIt j).isSome=true→Cmp g st.rs g (lk bIt) j:=fun j hj=>by
    obtain ⟨r,hr⟩:=Option.isSome_iff_exists.1 hj
    exact Cmp.same (by rw [hr,hbl j r hr]) rfl
  have hcmpR:∀ j,(lk (rsJ []) j).isSome=true→Cmp g st.rs g (lk (rsJ [])) j:=fun j hj=>by
    obtain ⟨r,hr⟩:=Option.isSome_iff_exists.1 hj
    exact Cmp.same (by rw [hr,hrl j r hr]) rfl
  let Fo:Nat→Prop:=fun b=>ownL g (lk (rsJ [])) b∨b=w.heap.size+1∨b=w.heap.size∨∃ o,g.K b o∧¬ g.K b o
  have hownlt:∀ b,ownL g (lk (rsJ [])) b→b<w.heap.size:=fun b ⟨i,r,h1,h2⟩=>(hT.res i r (hrl i r h1)).lt h2
  have hJ0:JRel w0 K0 w a g.K E (w.heap.size+1) w.heap.size rec (rsJ []) W1 Fo g:=by
    refine ⟨fun i r hi=>?_,fun i j r r' hi hj=>hT.dis i j r r' (hrl i r hi) (hrl j r' hj),fun _ _ k=>k,fun _ _ k _=>k,fun b o k=>by have:=hT.klt b o k;omega,fun b o k=>hkeep1.cell b o k,fun t=>?_,hL1,hD1,⟨fun h=>by have:=hownlt _ h;omega,fun h=>by have:=hownlt _ h;omega⟩,fun o=>⟨fun h=>by have:=hT.klt _ _ h;omega,fun h=>by have:=hT.klt _ _ h;omega⟩,by have:=hT.below.size;omega,fun b=>Iff.rfl⟩
    · have hr:=hT.res i r (hrl i r hi)
      exact RR.mono' (g:=g) (g':=g) (w:=w) (w':=W1) (R:=st.rs) (R':=lk (rsJ [])) hkeep1 rfl (fun b hb=>⟨hlo b (hr.lt hb),fun _ k=>k⟩) (fun j hj=>hcmpR j (hrcl (i,r) (lk_mem hi) j hj)) hr
    · rcases vlook_or S.un E t with e | ⟨p,q1,q2,q3⟩
      · rw [e,SR];trivial
      · have:=hT.env t
        rw [q3,← q2]
        rw [← q2,hE0 p q1] at this
        exact SR.mono (g:=g) (g':=g) (w:=w) (w':=W1) (R:=st.rs) (R':=lk (rsJ [])) hkeep1 _ _ (fun j hj=>hcmpR j (hEcl p q1 j hj)) this
  have hY:=roundY (w0:=w0) (K0:=K0) hTy hround hok hfl hps hB0 hcl hrm hE (w:=w) (a:=a) (Kc:=g.K) (l:=w.heap.size+1) (D:=w.heap.size) (fn:=fn) hT.nt
  rw [← hrec] at hY
  have hM:M W1 ⟨g.K,fun k=>lent g bIt k∨Fo k,[]⟩ (lk bIt) W1 g:=by
    refine ⟨Bel.refl _ _ _,fun _ _ k=>k,fun _ _ k _=>k,fun b o k=>by have:=hT.klt b o k;omega,fun i r hi=>?_,fun i j r r' hi hj=>hT.dis i j r r' (hbl i r hi) (hbl j r' hj),fun _ _ _=>rfl⟩
    have hr:=hT.res i r (hbl i r hi)
    exact (RR.mono' (g:=g) (g':=g) (w:=w) (w':=W1) (R:=st.rs) (R':=lk bIt) hkeep1 rfl (fun b hb=>⟨hlo b (hr.lt hb),fun _ k=>k⟩) (fun j hj=>hcmpB j (hcb (i,r) (lk_mem hi) j hj)) hr).blkB fun b hb _ ho=>ho.2 (.inl ⟨i,r,hi,hb⟩)
  have hargs:SRs g W1 (lk bIt) (.c (.v (.func (.yield (w.heap.size+1)) #[] #[]))::caps) (.func (.yield (w.heap.size+1)) #[] #[]::us):=by
    rw [SRs]
    refine ⟨_,_,rfl,by rw [SR,CR];exact ⟨rfl,rfl⟩,?_⟩
    exact SRs.mono (g:=g) (g':=g) (w:=w) (w':=W1) (R:=st.rs) (R':=lk bIt) hkeep1 _ _ (fun j hj=>hcmpB j (hcc j hj)) hus
  have harr:(.func (.yield (w.heap.size+1)) #[] #[]::us:List Value).toArray = #[.func (.yield (w.heap.size+1)) #[] #[]]++us.toArray:=by simp
  have hcall:=hcon.2 (w.heap.size+1) g.K _ JRel.ab hY W1 g _ Fo hM hargs ⟨g,hJ0⟩ (fun i r k hi hk hF=>?_) (fun _ _ k _=>k) (fun _ _ k=>k)
  · rw [harr] at hcall
    refine ((callsIn_wide (n:=1-1)).2 hcall).mono fun e w' ⟨⟨v,he⟩,ys,Fo',hQ,⟨g4,h4⟩,hbel,hcell,hFo⟩=>?_
    subst he
    have hend:=run_endLoop (P:=P) h4.loop (by rw [hrec];simp)
    rw [show rec.pending=none from by rw [hrec]] at hend
    refine ⟨none,_,hend,?_⟩
    obtain ⟨w4,hw4⟩:∃ w4,w4=w'.putObj (w.heap.size+1) (.loop { rec with state:=.exhausted,pending:=none }):=⟨_,rfl⟩
    rw [← hw4]
    have ho4:∀ k,k≠w.heap.size+1→w4.heap[k]? = w'.heap[k]? := fun k hk=>by rw [hw4];exact World.putObj_heap_other hk
    have hs4:w'.heap.size=w4.heap.size:=by rw [hw4];simp
    have hkeep4:Keeps g4.K w' g4.K w4:=⟨fun _ _ k=>k,fun b o k=>by
      have:b≠w.heap.size+1:=fun e=>(h4.apK o).1 (e ▸ k)
      simp only [World.cell?];rw [ho4 b this]⟩
    have hoF:∀ k,Old w0 K0 k→Old W1 ⟨g.K,fun k=>lent g bIt k∨Fo k,[]⟩ k:=fun k hk=>by
      have h1:=hk.1
      have h2:=hT.below.size
      refine ⟨by omega,fun hl=>?_⟩
      rcases hl with ⟨i,r,q1,q2⟩ | ⟨i,r,q1,q2⟩ | q | q | ⟨o,q1,q2⟩
      · exact ((hT.res i r (hbl i r q1)).block q2).1 hk
      · exact ((hT.res i r (hrl i r q1)).block q2).1 hk
      · omega
      · omega
      · exact q2 q1
    refine ⟨rfl,ys,w.heap.size,g4,hQ,rfl,by rw [ho4 _ (by omega)];exact h4.dfd,hT.below.size,h4.apL.2,fun o=>(h4.apK o).2,?_⟩
    have hsb:=hT.below.size
    have hse:=hbel.size
    refine ⟨⟨?_,?_,?_,by omega,fun k hk=>?_,?_⟩,fun b o k=>h4.kc b o (hT.k0 b o k),fun b o k ho=>hT.kold b o (h4.kold b o k ho) ho,fun b o k=>by rw [← hs4];exact h4.klt b o k,fun i r hi=>?_,fun i j r r' hi hj=>h4.dis i j r r' hi hj,fun t=>?_,hT.nt,rfl,fun b o k=>?_⟩
    · rw [hw4];exact hbel.os.trans (hos.1.trans hT.below.os)
    · rw [hw4];exact hbel.tape.trans (hos.2.1.trans hT.below.tape)
    · rw [hw4];exact hbel.output.trans (hos.2.2.1.trans hT.below.output)
    · have h1:=hk.1
      rw [ho4 k (by omega),hbel.block k (hoF k hk),hlo k (by omega)]
      exact hT.below.block k hk
    · rw [hw4]
      refine Nat.le_trans hT.below.drawn ?_
      have:=hbel.drawn
      rw [hos.2.2.2] at this
      exact this
    · have hr:=h4.rr i r hi
      exact RR.mono' (g:=g4) (g':=g4) (w:=w') (w':=w4) (R:=lk (rsJ ys)) (R':=lk (rsJ ys)) hkeep4 rfl (fun b hb=>⟨ho4 b (fun e=>h4.apL.1 ⟨i,r,hi,e ▸ hb⟩),fun _ k=>k⟩) (fun j _=>Cmp.same rfl rfl) hr
    · exact SR.mono (g:=g4) (g':=g4) (w:=w') (w':=w4) (R:=lk (rsJ ys)) (R':=lk (rsJ ys)) hkeep4 _ _ (fun j _=>Cmp.same rfl rfl) (h4.env t)
    · have hg:=hT.k0 b o k
      have hb:b≠w.heap.size+1:=fun e=>by have:=hT.klt b o hg;omega
      have e1:w4.cell? ⟨b,o,none⟩=w'.cell? ⟨b,o,none⟩:=by simp only [World.cell?];rw [ho4 b hb]
      rw [e1,h4.keep b o hg]
      exact hT.keep b o k
  · rcases hF with ⟨j,r',q1,q2⟩ | q | q | ⟨o,q1,q2⟩
    · have hne:i≠j:=fun e=>by
        have:=hap i (by rw [hi];rfl)
        rw [e,q1] at this;cases this
      exact hT.dis i j _ _ (hbl i r hi) (hrl j r' q1) hne k hk q2
    · have:=(hT.res i r (hbl i r hi)).lt hk;omega
    · have:=(hT.res i r (hbl i r hi)).lt hk;omega
    · exact q2 q1
end
section
variable {P:Program}
theorem results_of {fn:Func} {tmps:Array Value} {w:World} {vs:List Value} (e1:(fn.results.toList.mapM (resOf tmps)).run P w = .ok vs w):(results fn tmps).run P w = .ok (retV vs) w:=by
  have hres:results fn tmps=(do let vs ← fn.results.mapM (resOf tmps);pure (if h:vs.size=1 then vs[0] else .tuple vs)):=by
    unfold results
    congr 1
  have hm:(fn.results.mapM (resOf tmps)).run P w = .ok vs.toArray w:=by
    rw [← Array.toArray_toList (xs:=fn.results),List.mapM_toArray]
    simp only [Sem.run_map,e1,Result.andThen_ok]
  rw [hres,Sem.run_bind,hm,Result.andThen_ok,Sem.run_pure]
  congr 1
  cases vs with
  | nil=>rfl
  | cons v r=>cases r with
    | nil=>rfl
    | cons _ _=>simp [retV]
end
end Go.VL
