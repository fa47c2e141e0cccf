/- Contracts of functions of the seat, proved in a logic on data over the model (part AE). -/
import Derived.Test.YtlphpbcafplnbaaGreatV34
import Derived.Test.YtlphpbcafplnbaaGreatV16
import Derived.Recover
import Derived.Test.YtlphpbcafplnbaaGreatV28
import Derived.Test.YtlphpbcafplnbaaGreatAD
set_option linter.unusedSimpArgs false
set_option linter.unusedVariables false
namespace Go.VL
open Go.RowKit
def plainRts (vs:List Value):List Rt:=vs.map fun v=>.c (.v v)
def plainSs (vs:List Value):List S:=vs.map fun v=>.c (.v v)
theorem ConB.seen {P:Program} {f:FuncId} (hc:callable P f=true) {nil:Bool} {sz:Nat} {xs:List (List C)} {fx:Nat} {ds:List S} {rvs:List Value} (hds:∀ s∈ds,∃ c,s=S.c c)
    (h:Con P f (.c (.sl nil xs)::ds) (plainRts rvs)) :
    ConB P f (.own 1 xs.length::ds) [(1,.arr nil sz xs fx)] (plainSs rvs) (.own 1 xs.length::ds) [(1,.arr nil sz xs fx)]:=by
  refine ⟨hc,fun w g us hM hargs=>?_⟩
  have hb1:lk [(1,Res.arr nil sz xs fx)] 1=some (.arr nil sz xs fx):=rfl
  rw [SRs] at hargs
  obtain ⟨u1,us1,rfl,hu1,hds1⟩:=hargs
  rw [SR] at hu1
  have e1:=hu1 nil sz xs fx hb1 rfl
  have hres:=hM.res 1 _ hb1
  obtain ⟨K1,hsub,hlt1,hrow⟩:∃ K1:Nat→Nat→Prop,(∀ b o,g.K b o→K1 b o)∧(∀ b o,K1 b o→b<w.heap.size)∧CR K1 w (.sl nil xs) (g.loc 1):=by
    rcases hres with ⟨h1,h2,h3,_⟩ | ⟨h0,b,cap,cur,E,q1,q2,q3,q4,q5,q6,q7,q8,q9⟩
    · exact ⟨g.K,fun _ _ h=>h,hM.klt,by rw [CR];exact .inl ⟨h1,h2,h3⟩⟩
    · have hbl:b<w.heap.size:=(Array.getElem?_eq_some_iff.1 q3).1
      refine ⟨fun b' o=>g.K b' o∨(b'=b∧o<xs.length*sz),fun _ _ h=>.inl h,fun b' o hk=>?_,?_⟩
      · rcases hk with hk | ⟨rfl,_⟩
        · exact hM.klt b' o hk
        · exact hbl
      · have kp:Keeps g.K w (fun b' o=>g.K b' o∨(b'=b∧o<xs.length*sz)) w:=⟨fun _ _ h=>.inl h,fun _ _ _=>rfl⟩
        have:RR ⟨fun b' o=>g.K b' o∨(b'=b∧o<xs.length*sz),g.loc⟩ w (fun _=>none) (fun _=>True) 1 (.arr nil sz xs xs.length):=by
          refine .inr ⟨h0,b,cap,cur,E,q1,trivial,q3,q4,q5,q6,Nat.le_refl _,q8.mono kp,fun o=>⟨fun hk=>?_,fun ho=>.inr ⟨rfl,ho⟩⟩⟩
          rcases hk with hk | ⟨_,hk⟩
          · have:=(q9 o).1 hk
            have:=Nat.mul_le_mul_right sz q7
            omega
          · exact hk
        exact this.datum
  have hdr:DRs K1 w (.c (.sl nil xs)::ds) (u1::us1):=by
    unfold DRs
    rw [SRs]
    refine ⟨u1,us1,rfl,?_,?_⟩
    · rw [SR,e1];exact hrow
    · rw [SRs_iff] at hds1 ⊢
      refine ⟨hds1.1,fun k s u hs hu=>?_⟩
      obtain ⟨c,rfl⟩:=hds s (List.mem_of_getElem? hs)
      have:=hds1.2 k _ u hs hu
      rw [SR] at this ⊢
      exact CR.mono ⟨hsub,fun _ _ _=>rfl⟩ c u this
  refine ((h w K1 (u1::us1) hlt1 hdr).calls hc).mono fun e w' ⟨vs,he,hbel,K',p1,p2,p3,p4⟩=>?_
  have hkeep:Keeps g.K w g.K w':=⟨fun _ _ h=>h,fun b o hk=>by
    have:=hM.klt b o hk
    simp only [World.cell?];rw [hbel.block b this]⟩
  have hsz:=hbel.size
  refine ⟨vs,g,he,⟨⟨hbel.os,hbel.tape,hbel.output,hsz,fun k hk=>hbel.block k hk.1,hbel.drawn⟩,fun _ _ h=>h,hM.kold,fun b o hk=>Nat.lt_of_lt_of_le (hM.klt b o hk) hsz,fun i r hi=>?_,hM.dis,fun b o hk=>hkeep.cell b o hk⟩,?_,?_⟩
  · have hr:=hM.res i r hi
    have hir:r = .arr nil sz xs fx:=(Prod.mk.inj (List.mem_singleton.1 (lk_mem hi))).2
    subst hir
    refine RR.mono hkeep rfl (fun b hb=>⟨?_,fun _ h=>h⟩) (fun fz ss e=>by cases e) (fun v s e=>by cases e) (fun m e=>by cases e) hr
    have hlt:b<w.heap.size:=hr.lt hb
    exact hbel.block b hlt
  · obtain ⟨r1,r2,_⟩:=p4
    rw [SRs_iff]
    unfold plainSs plainRts at *
    rw [List.length_map] at r1
    refine ⟨by rw [List.length_map];exact r1,fun k s u hs hu=>?_⟩
    rw [List.getElem?_map] at hs
    cases hk:rvs[k]? with
    | none=>rw [hk] at hs;simp at hs
    | some v =>
      rw [hk] at hs
      simp at hs
      subst hs
      have:=r2 k (.c (.v v)) u (by rw [List.getElem?_map,hk];rfl) hu
      rw [RtR,CR] at this
      rw [SR,CR]
      exact this
  · rw [SRs]
    refine ⟨u1,us1,rfl,?_,?_⟩
    · rw [SR];intro nil' sz' xs' fx' hr hl;exact hu1 nil' sz' xs' fx' hr hl
    · rw [SRs_iff] at hds1 ⊢
      refine ⟨hds1.1,fun k s u hs hu=>?_⟩
      obtain ⟨c,rfl⟩:=hds s (List.mem_of_getElem? hs)
      have:=hds1.2 k _ u hs hu
      rw [SR] at this ⊢
      exact CR.mono hkeep c u this
theorem renSs_c (τ:Nat→Nat):∀ cs:List C,renSs τ (cs.map S.c)=cs.map S.c
  | []=>rfl
  | c::r=>by rw [List.map_cons,renSs,renS,renSs_c τ r]
theorem nams_plain:∀ rvs:List Value,S.nams (plainSs rvs)=[]
  | []=>rfl
  | v::r=>by
    have:=nams_plain r
    unfold plainSs at *
    rw [List.map_cons,S.nams,this];rfl
theorem VCL.seen {P:Program} {st:St} {d:Option Nat} {K:St→Prop} {f:FuncId} {i n:Nat} {cs:List C} (nil:Bool) (sz:Nat) (xs:List (List C)) (fx:Nat) (rvs:List Value) (hc:callable P f=true)
    (h:Con P f (.c (.sl nil xs)::cs.map S.c) (plainRts rvs)) (hn:n=xs.length) (hr:st.rs i=Option.some (Res.arr nil sz xs fx))
    (hk:force (tick ((lendSt st (fun _=>i) [] [(1,Res.arr nil sz xs fx)]).putd d (retS (fun _=>i) (plainSs rvs)))) K):VCL P d st f [] (.own i n::cs.map S.c) K .mk:=by
  subst hn
  have hcon:=ConB.seen hc (sz:=sz) (fx:=fx) (fun s hs=>by
    obtain ⟨c,_,rfl⟩:=List.mem_map.1 hs
    exact ⟨c,rfl⟩) h
  refine VCL.lend [(1,Res.arr nil sz xs fx)] [(1,Res.arr nil sz xs fx)] (.own 1 xs.length::cs.map S.c) _ _ (fun _=>i) [] ⟨hcon,?_,?_,?_,?_,?_,?_,?_⟩ hk
  · rw [renSs,renS,renSs_c]
  · intro p hp;simp at hp;subst hp;exact hr
  · simp
  · simp
  · intro p hp;simp at hp;subst hp;simp [Res.nam]
  · intro j hj
    exfalso
    rw [nams_plain] at hj;simp at hj
  · intro p hp;simp at hp;subst hp
    right
    refine ⟨_,rfl,?_⟩
    rw [keptP]
    exact .inl ⟨rfl,rfl,rfl,nil,sz,xs,fx,nil,xs,fx,rfl,rfl,rfl,rfl⟩
def ConD (P:Program) (f:FuncId) (args:List S) (b:List (Nat × Res)) (u u':FrameMode) (args':List S) (b':List (Nat × Res)):Prop :=
  ∀ (w:World) (g:G) (us:List Value),M w ⟨g.K,lent g b,[]⟩ (lk b) w g→SRs g w (lk b) args us →
    CallsD P f us.toArray u w fun e u1 w'=>(∃ v,e = .returned v)∧u1=u'∧∃ g',M w ⟨g.K,lent g b,[]⟩ (lk b') w' g'∧SRs g' w' (lk b') args' us
structure LendD (P:Program) (st:St) (fid:FuncId) (args:List S) (b b':List (Nat × Res)) (as0 as1:List S) (τ:Nat→Nat) (C:List Nat) (u u':FrameMode):Prop where
  con:ConD P fid as0 b u u' as1 b'
  args:args=renSs τ as0
  pre:∀ p∈b,st.rs (τ p.1)=some (renR τ p.2)
  inj:(b'.map fun p=>τ p.1).Nodup
  sub:∀ p∈b,p.1∈b'.map (·.1)
  cl:∀ p∈b',∀ j∈p.2.nam,j∈b'.map (·.1)
  kept:∀ p∈b',τ p.1∈C∨∃ r,lk b p.1=some r∧keptP r p.2 p.1 as0 as1
section
variable {P:Program} {w0:World} {K0:K0T} {nt:Nat} {st:St} {a:Act} {w:World} {g:G}
theorem LendD.calls {fid:FuncId} {args:List S} {b b':List (Nat × Res)} {as0 as1:List S} {τ:Nat→Nat} {C:List Nat} {u u':FrameMode} (L:LendD P st fid args b b' as0 as1 τ C u u') (h:T w0 K0 nt st a w g) {us:List Value} (hu:SRs g w st.rs args us) :
    CallsD P fid us.toArray u w fun e u1 w'=>(∃ v,e = .returned v)∧u1=u'∧∃ g',T w0 K0 nt (lendSt st τ C b') a w' g':=by
  have hb:∀ i r,lk b i=some r→st.rs (τ i)=some (renR τ r):=fun i r hi=>L.pre (i,r) (lk_mem hi)
  have inj:∀ i j,(lk b' i).isSome=true→(lk b' j).isSome=true→τ i=τ j→i=j:=by
    intro i j hi hj e
    obtain ⟨ri,hri⟩:=Option.isSome_iff_exists.1 hi
    obtain ⟨rj,hrj⟩:=Option.isSome_iff_exists.1 hj
    exact (Prod.mk.inj (nodup_inj L.inj (lk_mem hri) (lk_mem hrj) e)).1
  have sub:∀ i,(lk b i).isSome=true→(lk b' i).isSome=true:=fun i hi=>by
    obtain ⟨r,hr⟩:=Option.isSome_iff_exists.1 hi
    exact lk_some.1 (L.sub _ (lk_mem hr))
  rw [L.args] at hu
  have hu':=SRs_ren1 hb as0 us hu
  have hM0:M w ⟨g.K,lent ⟨g.K,fun i=>g.loc (τ i)⟩ b,[]⟩ (lk b) w ⟨g.K,fun i=>g.loc (τ i)⟩:=by
    refine ⟨Bel.refl _ _ _,fun _ _ k=>k,fun _ _ k _=>k,h.klt,fun i r hi=>?_,fun i j ri rj hi hj hne k h1 h2=>?_,fun _ _ _=>rfl⟩
    · exact RR_ren1 hb (fun k hk ho=>ho.2 ⟨i,r,hi,hk⟩) (h.res _ _ (hb i r hi))
    · exact h.dis _ _ _ _ (hb i ri hi) (hb j rj hj) (fun e=>hne (inj i j (sub i (by rw [hi];rfl)) (sub j (by rw [hj];rfl)) e)) k h1 h2
  refine (L.con w _ us hM0 hu').mono fun e u1 w' ⟨he,hu1,g0,hM,has⟩=>?_
  obtain ⟨g',k1,k2,k3,k4⟩:=T.lend h (st':=lendSt st τ C b') (C:=C) hb hM inj (fun i r hi j hj=>lk_some.1 (L.cl (i,r) (lk_mem hi) j (r.nam_of hj))) sub (fun i r' hi=>by
      rcases L.kept (i,r') (lk_mem hi) with hc | ⟨r,h1,h2⟩
      · exact .inl hc
      · obtain ⟨q1,q2⟩:=keptP_ok h1 hi as0 as1 us h2 hu' has
        exact .inr ⟨r,h1,q1,q2⟩) rfl (fun i r hi=>by
      show vlook none ((b'.map fun p=>(τ p.1,some (renR τ p.2)))++(st.clrL C).res) (τ i)=_
      rw [look_app,if_pos (List.mem_map.2 ⟨(i,r),lk_mem hi,rfl⟩)]
      exact look_in L.inj hi) (fun n hn=>by
      show vlook none ((b'.map fun p=>(τ p.1,some (renR τ p.2)))++(st.clrL C).res) n=_
      rw [look_app,if_neg (fun hm=>by
        obtain ⟨p,hp,e⟩:=List.mem_map.1 hm
        exact hn p.1 (lk_some.1 (List.mem_map.2 ⟨p,hp,rfl⟩)) e)]
      rfl)
  exact ⟨he,hu1,g',k1⟩
theorem T.pins (h:T w0 K0 nt st a w g) (B0:Nat) (hB:∀ p∈st.res,p.1<B0) (ss:List S) (us:List Value) (hs:SRs g w st.rs ss us) :
    ∃ g',T w0 K0 nt ⟨st.env,st.res++pinsOf B0 (fun k=>us.getD k undef) 0 ss⟩ a w g':=by
  obtain ⟨hl,hs⟩:=(SRs_iff _ _).1 hs
  let uf:Nat→Value:=fun k=>us.getD k undef
  let g1:G:=⟨g.K,fun i=>if i<B0 then g.loc i else undef⟩
  have look:∀ (l m:List (Nat × Option Res)) (i:Nat),(∀ p∈l,p.1<B0)→(∀ p∈m,B0≤p.1)→vlook none (l++m) i=if i<B0 then vlook none l i else vlook none m i:=by
    intro l m i
    induction l with
    | nil =>
      intro _ hm
      simp only [List.nil_append]
      by_cases hi:i<B0
      · rw [if_pos hi]
        induction m with
        | nil=>rfl
        | cons p m ih =>
          have:=hm p (by simp)
          have hk:(p.1 == i)=false:=by simp;omega
          simp only [vlook,hk,cond_false]
          exact ih (fun q hq=>hm q (by simp [hq]))
      · rw [if_neg hi]
    | cons p l ih =>
      intro hl hm
      have h1:=hl p (by simp)
      have:=ih (fun q hq=>hl q (by simp [hq])) hm
      simp only [List.cons_append,vlook]
      cases hk:p.1 == i with
      | true=>simp at hk;subst hk;simp [h1]
      | false=>simpa using this
  have hpin:∀ (l:List S) (k:Nat),∀ p∈pinsOf B0 uf k l,B0≤p.1:=by
    intro l
    induction l with
    | nil=>intro k p hp;simp [pinsOf] at hp
    | cons s l ih =>
      intro k p hp
      rw [pinsOf] at hp
      rcases List.mem_cons.1 hp with rfl | hp
      · simp
      · exact ih _ _ hp
  let st1:St:=⟨st.env,st.res++pinsOf B0 uf 0 ss⟩
  have hrs:∀ i,st1.rs i=if i<B0 then st.rs i else (ss[i-B0]?).map fun s=>.pin (uf (i-B0)) s:=by
    intro i
    show vlook none (st.res++pinsOf B0 uf 0 ss) i=_
    rw [look _ _ _ hB (hpin ss 0),look_pins]
    by_cases hi:i<B0
    · rw [if_pos hi,if_pos hi];rfl
    · rw [if_neg hi,if_neg hi]
      by_cases h2:i-B0<ss.length
      · rw [dif_pos (by omega),List.getElem?_eq_getElem h2];rfl
      · rw [dif_neg (by omega),List.getElem?_eq_none (by omega)];rfl
  have hcmp:∀ j,Cmp g st.rs g1 st1.rs j:=by
    intro j
    have e:=hrs j
    by_cases hj:j<B0
    · rw [if_pos hj] at e
      exact Cmp.same e (by show (if j<B0 then g.loc j else undef)=_;rw [if_pos hj])
    · rw [if_neg hj] at e
      refine ⟨fun fz ss' q=>?_,fun nil sz xs fx q=>?_,fun kvs q=>?_⟩
      · rw [e] at q;cases h:ss[j-B0]? <;> rw [h] at q <;> simp at q
      · rw [e] at q;cases h:ss[j-B0]? <;> rw [h] at q <;> simp at q
      · rw [e] at q;cases h:ss[j-B0]? <;> rw [h] at q <;> simp at q
  have hk:Keeps g.K w g1.K w:=Keeps.refl _ _
  refine ⟨g1,h.below,h.k0,h.kold,h.klt,fun i r hi=>?_,fun i j ri rj hi hj hne k h1 h2=>?_,fun t=>SR.mono hk _ _ (fun j _=>hcmp j) (h.env t),h.nt,h.defers,h.keep⟩
  · have e:=hrs i
    by_cases hi2:i<B0
    · rw [if_pos hi2] at e
      rw [show St.rs _ i=st1.rs i from rfl,e] at hi
      exact RR.mono' hk (by show (if i<B0 then g.loc i else undef)=_;rw [if_pos hi2]) (fun _ _=>⟨rfl,fun _ k=>k⟩) (fun j _=>hcmp j) (h.res i r hi)
    · rw [if_neg hi2] at e
      rw [show St.rs _ i=st1.rs i from rfl,e] at hi
      simp only [Option.map_eq_some_iff] at hi
      obtain ⟨s,h1,rfl⟩:=hi
      refine ⟨by show (if i<B0 then g.loc i else undef)=_;rw [if_neg hi2],?_⟩
      have hlt:=(List.getElem?_eq_some_iff.1 h1).1
      refine SR.mono hk s _ (fun j _=>hcmp j) (hs _ s _ h1 ?_)
      simp only [uf,List.getD_eq_getElem?_getD]
      rw [List.getElem?_eq_getElem (by omega)];rfl
  · have low:∀ n r,st1.rs n=some r→∀ k,blk (g1.loc n)=some k→n<B0∧st.rs n=some r∧blk (g.loc n)=some k:=by
      intro n r hn' k hk'
      by_cases hlt:n<B0
      · rw [hrs,if_pos hlt] at hn'
        refine ⟨hlt,hn',?_⟩
        rw [show g1.loc n=(if n<B0 then g.loc n else undef) from rfl,if_pos hlt] at hk'
        exact hk'
      · rw [show g1.loc n=(if n<B0 then g.loc n else undef) from rfl,if_neg hlt] at hk'
        cases hk'
    obtain ⟨_,a1,a2⟩:=low i ri hi k h1
    obtain ⟨_,a3,a4⟩:=low j rj hj k h2
    exact h.dis i j ri rj a1 a3 hne k a2 a4
theorem wpOpsS_cons {ops:Array Oper} {Q:Exit→Act→List Frame→World→Prop} {i:Nat} {rest:List Nat} {o:Oper} {cs:List Frame} (ho:ops[i]? = some o)
    (h:stepW P ops o a w (fun a' w'=>wpOpsS P ops Q rest a' cs w') (fun e a' w'=>Q e a' cs w')):wpOpsS P ops Q (i::rest) a cs w:=by
  unfold wpOpsS
  rw [ho]
  unfold stepW at h
  simp only
  by_cases hw:Region.wanted o (yielded ops a.tmps)=true
  · rw [if_pos hw] at h ⊢
    unfold Oper.wp at h
    split
    · rename_i w' hr
      rw [hr] at h
      exact h.elim
    · exact h
  · rw [if_neg hw] at h ⊢
    exact h
theorem vr_okS {ops:Array Oper} {Q:Exit→Act→List Frame→World→Prop} {cs:List Frame} : ∀ (l:List Oper) (js:List Nat) (st:St) (a:Act) (w:World) (g:G) (K:St→Prop),(js.map fun j=>ops[j]?)=l.map some→T w0 K0 nt st a w g→(l.all (opOk nt))=true→vr P ops l st K →
    (∀ st' a' w' g',K st'→T w0 K0 nt st' a' w' g'→Q .normal a' cs w')→wpOpsS P ops Q js a cs w
  | [],js,st,a,w,g,K,hj,h,_,hv,hn=>by
    have:js=[]:=by simpa using hj
    subst this
    exact hn _ _ _ _ hv h
  | o::r,[],st,a,w,g,K,hj,h,hok,hv,hn=>by simp at hj
  | o::r,j::js,st,a,w,g,K,hj,h,hok,hv,hn=>by
    simp only [List.all_cons,Bool.and_eq_true] at hok
    simp only [List.map_cons,List.cons.injEq] at hj
    exact wpOpsS_cons hj.1 (vstepL_ok h hok.1 hv _ _ (fun st' a' w' g' h1 h2=>vr_okS r js st' a' w' g' K hj.2 h2 hok.2 h1 hn))
end
section
variable {P:Program} {w0:World} {K0:K0T} {nt:Nat} {st:St} {a:Act} {w:World} {g:G}
theorem T.defer (h:T w0 K0 nt st a w g) (ds:List Deferred):T w0 ⟨K0.K,K0.L,ds⟩ nt st { a with defers:=ds } w g :=
  ⟨⟨h.below.os,h.below.tape,h.below.output,h.below.size,fun k hk=>h.below.block k hk,h.below.drawn⟩,h.k0,h.kold,h.klt,h.res,h.dis,h.env,h.nt,rfl,h.keep⟩
theorem M.init (B0:Nat) {args:List S} {b:List (Nat × Res)} {us:List Value} (hM:M w ⟨g.K,lent g b,[]⟩ (lk b) w g) (hargs:SRs g w (lk b) args us) (hn:args.length≤nt) (hbn:∀ p∈b,p.1<B0) :
    ∃ g1:G,T w ⟨g.K,lent g b,[]⟩ nt (initB B0 args b fun k=>us.getD k undef) { tmps:=us.toArray++Array.replicate (nt-us.toArray.size) undef,defers:=[] } w g1:=by
  obtain ⟨hl,hs⟩:=(SRs_iff _ _).1 hargs
  let uf:Nat→Value:=fun k=>us.getD k undef
  let g1:G:=⟨g.K,fun i=>if i<B0 then g.loc i else undef⟩
  have hcmp:∀ j,Cmp g (lk b) g1 (initB B0 args b uf).rs j:=by
    intro j
    by_cases hj:j<B0
    · have e:=rs_initB B0 args b uf hbn j
      rw [if_pos hj] at e
      exact Cmp.same e (by show (if j<B0 then g.loc j else undef)=_;rw [if_pos hj])
    · have e:=rs_initB B0 args b uf hbn j
      rw [if_neg hj] at e
      refine ⟨fun fz ss q=>?_,fun nil sz xs fx q=>?_,fun kvs q=>?_⟩
      · rw [e] at q;cases h:args[j-B0]? <;> rw [h] at q <;> simp at q
      · rw [e] at q;cases h:args[j-B0]? <;> rw [h] at q <;> simp at q
      · rw [e] at q;cases h:args[j-B0]? <;> rw [h] at q <;> simp at q
  have hk:Keeps g.K w g1.K w:=Keeps.refl _ _
  refine ⟨g1,hM.below,hM.k0,hM.kold,hM.klt,fun i r hi=>?_,fun i j ri rj hi hj hne k h1 h2=>?_,fun t=>?_,(by simp;omega),rfl,hM.keep⟩
  · have e:=rs_initB B0 args b uf hbn i
    by_cases hi2:i<B0
    · rw [if_pos hi2] at e
      rw [e] at hi
      exact RR.mono' hk (by show (if i<B0 then g.loc i else undef)=_;rw [if_pos hi2]) (fun _ _=>⟨rfl,fun _ k=>k⟩) (fun j _=>hcmp j) (hM.res i r hi)
    · rw [if_neg hi2] at e
      rw [e] at hi
      simp only [Option.map_eq_some_iff] at hi
      obtain ⟨s,h1,rfl⟩:=hi
      refine ⟨by show (if i<B0 then g.loc i else undef)=_;rw [if_neg hi2],?_⟩
      have hlt:=(List.getElem?_eq_some_iff.1 h1).1
      refine SR.mono hk s _ (fun j _=>hcmp j) (hs _ s _ h1 ?_)
      simp only [uf,List.getD_eq_getElem?_getD]
      rw [List.getElem?_eq_getElem (by omega)];rfl
  · have low:∀ n r,(initB B0 args b uf).rs n=some r→∀ k,blk (g1.loc n)=some k→n<B0∧lk b n=some r∧blk (g.loc n)=some k:=by
      intro n r hn' k hk'
      by_cases hlt:n<B0
      · rw [rs_initB B0 args b uf hbn,if_pos hlt] at hn'
        refine ⟨hlt,hn',?_⟩
        rw [show g1.loc n=(if n<B0 then g.loc n else undef) from rfl,if_pos hlt] at hk'
        exact hk'
      · rw [show g1.loc n=(if n<B0 then g.loc n else undef) from rfl,if_neg hlt] at hk'
        cases hk'
    obtain ⟨_,a1,a2⟩:=low i ri hi k h1
    obtain ⟨_,a3,a4⟩:=low j rj hj k h2
    exact hM.dis i j ri rj a1 a3 hne k a2 a4
  · have hg:(initB B0 args b uf).get t=(args[t]?).getD .un:=by
      unfold St.get initB
      rw [vlook_init];simp
    show SR g1 w (initB B0 args b uf).rs ((initB B0 args b uf).get t) _
    rw [hg]
    cases e:args[t]? with
    | none=>simp [SR]
    | some s =>
      have hlt:=(List.getElem?_eq_some_iff.1 e).1
      refine SR.mono hk s _ (fun j _=>hcmp j) (hs t s _ e ?_)
      simp [Array.getD,hl,hlt]
      omega
theorem M.fin (B0:Nat) {as1:List S} {b b':List (Nat × Res)} {us:List Value} {g0:G} {w1:World} (h:T w1 ⟨g0.K,lent g0 b,[]⟩ nt st a w g) (hlen:as1.length=us.length) (h1:resEnd st b') (h2:pinsEnd B0 st (fun k=>us.getD k undef) 0 as1) :
    M w1 ⟨g0.K,lent g0 b,[]⟩ (lk b') w g∧SRs g w (lk b') as1 us:=by
  have hdown:∀ j,Cmp g st.rs g (lk b') j:=fun j=>⟨fun fz ss q=>⟨⟨fz,ss,resEnd_ok h1 j _ q⟩,rfl⟩,fun nil sz xs fx q=>⟨⟨nil,xs,fx,resEnd_ok h1 j _ q,rfl⟩,rfl⟩,fun kvs q=>⟨⟨kvs,resEnd_ok h1 j _ q,rfl⟩,rfl⟩⟩
  refine ⟨⟨h.below,h.k0,h.kold,h.klt,fun i r hi=>?_,fun i j ri rj hi hj=>h.dis i j ri rj (resEnd_ok h1 i _ hi) (resEnd_ok h1 j _ hj),h.keep⟩,?_⟩
  · exact RR.mono' (Keeps.refl _ _) rfl (fun _ _=>⟨rfl,fun _ k=>k⟩) (fun j _=>hdown j) (h.res i r (resEnd_ok h1 i r hi))
  · rw [SRs_iff]
    refine ⟨by omega,fun k s u q1 q2=>?_⟩
    have h3:=h.res _ _ (pinsEnd_ok h2 k s q1)
    have h4:=h3.2
    have:(us.getD (0+k) undef)=u:=by simp [q2]
    rw [this] at h4
    exact SR.mono (Keeps.refl _ _) s u (fun j _=>hdown j) h4
def RecOf (u:FrameMode) (rv:Value) (u':FrameMode):Prop :=
  (u = .returning∧rv = .nilIface∧u' = .returning)∨(u = .panicking (chainOf rv)∧u' = .panicking [{ v:=rv,recovered:=true }])
theorem RecOf.idle:RecOf .returning .nilIface .returning:=.inl ⟨rfl,rfl,rfl⟩
theorem RecOf.panic (pv:Value):RecOf (.panicking (chainOf pv)) pv (.panicking [{ v:=pv,recovered:=true }]):=.inr ⟨rfl,rfl⟩
theorem settle_idle:settle .returning = .returning:=rfl
theorem settle_panic (pv:Value):settle (.panicking [{ v:=pv,recovered:=true }]) = .returning:=rfl
def endD (B0:Nat) (as1:List S) (b':List (Nat × Res)) (uf:Nat→Value):Exit→St→Prop
  | .normal,st=>resEnd st b'∧pinsEnd B0 st uf 0 as1
  | .ret,st=>resEnd st b'∧pinsEnd B0 st uf 0 as1
  | _,_=>False
theorem spec_ofRec (B0:Nat) {f:FuncId} {fn:Func} {id x y:Nat} {tI d ty0 ty1:TypeId} {p0 p1:String} {af0 af1:Array Edge} {ops:List Oper} {rest:Code} {args as1:List S} {b b':List (Nat × Res)} {u u':FrameMode} {rv:Value} {s6:S}
    (hf:P.funcs[f]? = some fn)
    (hb:fn.body=some (.seq (.region id (⟨some x,.call ⟨.builtin .recover,#[],#[]⟩,ty0,p0,af0,none⟩::⟨some y,.typeAssert (.tmp x) tI d true,ty1,p1,af1,none⟩::ops).toArray false) rest))
    (hres:fn.results = #[]) (hn:args.length≤fn.ntmps) (hx:x<fn.ntmps) (hy:y<fn.ntmps) (hok:(ops.all (opOk fn.ntmps))=true) (hbn:∀ p∈b,p.1<B0) (hlen:as1.length=args.length)
    (hrec:RecOf u rv u') (hone:rv.oneCell'=true) (h6:∀ w,∃ u6,(Instr.typeAssert rv tI d true).run P w = .ok u6 w∧∀ (g:G) R,SR g w R s6 u6)
    (hv:∀ w0 K0 uf,vr P (⟨some x,.call ⟨.builtin .recover,#[],#[]⟩,ty0,p0,af0,none⟩::⟨some y,.typeAssert (.tmp x) tI d true,ty1,p1,af1,none⟩::ops).toArray ops (((initB B0 args b uf).put x (.c (.v rv))).put y s6)
      fun st=>VW P w0 K0 fn.ntmps rest st (endD B0 as1 b' uf)):ConD P f args b u u' as1 b':=by
  intro w g us hM hargs
  obtain ⟨g1,hT⟩:=M.init (nt:=fn.ntmps) B0 hM hargs hn hbn
  have hul:us.length=args.length:=((SRs_iff _ _).1 hargs).1
  refine callsD_of_wpS hf hb fun c₀ cs hu=>?_
  apply wpS_seq
  apply wpS_region
  generalize hops:(⟨some x,.call ⟨.builtin .recover,#[],#[]⟩,ty0,p0,af0,none⟩::⟨some y,.typeAssert (.tmp x) tI d true,ty1,p1,af1,none⟩::ops:List Oper).toArray=OPS at hv ⊢
  have hsz:OPS.size=ops.length+2:=by rw [← hops];simp
  have hr:List.range OPS.size=0::1::(List.range ops.length).map (· + 2):=by
    rw [hsz,List.range_succ_eq_map,List.range_succ_eq_map]
    simp [Function.comp_def]
  rw [hr]
  have e0:OPS[0]? = some ⟨some x,.call ⟨.builtin .recover,#[],#[]⟩,ty0,p0,af0,none⟩:=by rw [← hops];rfl
  have e1:OPS[1]? = some ⟨some y,.typeAssert (.tmp x) tI d true,ty1,p1,af1,none⟩:=by rw [← hops];rfl
  have tail:∀ (a:Act) (st:St) (g:G),T w ⟨g1.K,fun _=>True,[]⟩ fn.ntmps st a w g→True:=fun _ _ _ _=>trivial
  let a0:Act:={ tmps:=us.toArray++Array.replicate (fn.ntmps-us.toArray.size) undef,defers:=[] }
  have main:∀ (csn:List Frame),csn = { c₀ with mode:=u' } :: cs→wpOpsS P OPS (Exit.thenS (rest.wpS P (bodyPostS P fn c₀ cs fun e u1 w'=>(∃ v,e = .returned v)∧u1=u'∧∃ g',M w ⟨g.K,lent g b,[]⟩ (lk b') w' g'∧SRs g' w' (lk b') as1 us)) (bodyPostS P fn c₀ cs fun e u1 w'=>(∃ v,e = .returned v)∧u1=u'∧∃ g',M w ⟨g.K,lent g b,[]⟩ (lk b') w' g'∧SRs g' w' (lk b') as1 us))
      (1::(List.range ops.length).map (· + 2)) (a0.put (some x) rv) csn w:=by
    intro csn hcs
    have hT1:=hT.put (t:=x) (s:=.c (.v rv)) (u:=rv) hx (by rw [SR,CR];exact ⟨rfl,hone⟩)
    obtain ⟨u6,r6,s6'⟩:=h6 w
    have hT2:=hT1.put (t:=y) (s:=s6) (u:=u6) hy (s6' _ _)
    refine wpOpsS_cons e1 ?_
    unfold stepW
    have hw1:Region.wanted (⟨some y,.typeAssert (.tmp x) tI d true,ty1,p1,af1,none⟩:Oper) (yielded OPS (a0.put (some x) rv).tmps)=true:=by simp [Region.wanted]
    rw [if_pos hw1]
    have hev:(a0.put (some x) rv).eval (.tmp x)=rv:=by
      have hs:=hT1.env x
      rw [St.get_put,if_pos rfl,SR,CR] at hs
      exact hs.1
    refine ow_value (u:=u6) (w':=w) (by simp only [execOp,hev,Sem.run_bind,r6,Result.andThen_ok,Sem.run_pure]) ?_
    refine vr_okS ops _ _ _ w _ _ ?_ hT2 hok (hv w ⟨g.K,lent g b,[]⟩ _) (fun st' a' w' g' h1 h2=>?_)
    · apply List.ext_getElem?
      intro k
      simp only [List.getElem?_map,List.getElem?_range',List.map_map]
      by_cases hk:k<ops.length
      · rw [List.getElem?_range hk,List.getElem?_eq_getElem hk]
        simp only [Option.map_some,Function.comp_apply]
        rw [← hops]
        simp [hk]
      · rw [List.getElem?_eq_none (by simpa using hk),List.getElem?_eq_none (by simpa using hk)]
        rfl
    · show rest.wpS P _ a' csn w'
      refine wpS_of_wp (wp_mono (h1 a' w' g' h2) fun e a2 w2 ⟨st2,g2,q1,q2⟩=>?_)
      have fin:(resEnd st2 b'∧pinsEnd B0 st2 (fun k=>us.getD k undef) 0 as1)→a2.defers=[]∧∃ u'',csn = { c₀ with mode:=u'' } :: cs∧∃ v,(results fn a2.tmps).run P w2 = .ok v w2∧((∃ v',Ending.returned v = .returned v')∧u''=u'∧∃ g',M w ⟨g.K,lent g b,[]⟩ (lk b') w2 g'∧SRs g' w2 (lk b') as1 us):=fun ⟨k1,k2⟩=>by
        obtain ⟨m1,m2⟩:=M.fin B0 q2 (by omega) k1 k2
        refine ⟨q2.defers,u',hcs,.tuple #[],?_,⟨_,rfl⟩,rfl,g2,m1,m2⟩
        simp [results,hres]
      cases e with
      | normal=>exact fin q1
      | ret=>exact fin q1
      | _=>exact q1.elim
  show wpOpsS P OPS _ (0::1::(List.range ops.length).map (· + 2)) a0 (c₀::cs) w
  unfold wpOpsS
  rw [e0]
  simp only
  rw [if_pos (by simp [Region.wanted])]
  have hrun:(execOp a0.eval (⟨some x,.call ⟨.builtin .recover,#[],#[]⟩,ty0,p0,af0,none⟩:Oper)).run P w = .ok .recover w:=by
    simp only [execOp,resolve,Sem.run_bind,Sem.run_pure,Result.andThen_ok]
    rfl
  rw [hrun]
  simp only
  rcases hrec with ⟨rfl,rfl,rfl⟩ | ⟨rfl,rfl⟩
  · have hr:recoverD (c₀::cs)=none:=by simp [recoverD,hu]
    rw [hr]
    refine main _ ?_
    cases c₀
    simp only at hu
    subst hu
    rfl
  · have hr:recoverD (c₀::cs)=some (rv,{ c₀ with mode:=.panicking [{ v:=rv,recovered:=true }] } :: cs):=by simp [recoverD,hu,chainOf]
    rw [hr]
    exact main _ rfl
def LeaveOK (P:Program) (fn:Func) (fc:FuncId) (n:Nat) (rs:List Rt) (B0:Nat) (uf:Nat→Value) (u:FrameMode) (st:St):Prop :=
  ∃ (ss:List S) (b b':List (Nat × Res)) (as0 as1:List S) (τ:Nat→Nat) (C:List Nat) (u':FrameMode),ss.length=n∧pinsEnd B0 st uf 0 ss∧LendD P st fc ss b b' as0 as1 τ C u u'∧settle u' = .returning ∧
    rvs P (lendSt st τ C b') fn.results.toList fun ss' st''=>asRts st'' ss' rs∧(ownNames ss' rs).Nodup
def leaveQ (P:Program) (fn:Func) (fc:FuncId) (n:Nat) (rs:List Rt) (B0:Nat) (uf:Nat→Value):Exit→St→Prop
  | .normal,st=>LeaveOK P fn fc n rs B0 uf .returning st
  | .ret,st=>LeaveOK P fn fc n rs B0 uf .returning st
  | .panic ch,st=>LeaveOK P fn fc n rs B0 uf (.panicking ch) st
  | _,_=>False
def deferQ (P:Program) (fn:Func) (c2:Code) (x:Nat) (caps:List Operand) (fc:FuncId) (rs:List Rt) (B0:Nat):Exit→St→Prop
  | .normal,st=>(∀ p∈st.res,p.1<B0)∧∀ w0 K0 uf,VW P w0 K0 fn.ntmps c2 ⟨(x,.un)::st.env,st.res++pinsOf B0 uf 0 (caps.map st.ev)⟩ (leaveQ P fn fc caps.length rs B0 uf)
  | _,_=>False
theorem spec_ofDefer (B0:Nat) {f fc:FuncId} {fn:Func} {c0 c2:Code} {id x:Nat} {caps:List Operand} {ty1 ty2:TypeId} {p1 p2:String} {af1 af2:Array Edge} {args:List S} {rs:List Rt}
    (hf:P.funcs[f]? = some fn) (hb:fn.body=some (.seq c0 (.seq (.region id #[⟨some x,.makeFunc (.func fc) #[] caps.toArray,ty1,p1,af1,none⟩,⟨none,.defer ⟨.value (.tmp x),#[],#[]⟩,ty2,p2,af2,none⟩] false) c2)))
    (hc:callable P f=true) (hcc:callable P fc=true) (hn:args.length≤fn.ntmps) (hx:x<fn.ntmps)
    (hv:∀ w0 K0,VW P w0 K0 fn.ntmps c0 (initSt args) (deferQ P fn c2 x caps fc rs B0)):Con P f args rs:=by
  refine Con.of hc fun w K us hK hargs=>?_
  have hT:=T.init (n:=fn.ntmps) hK hargs hn
  refine calls_of_wp_defers hf hb (wp_seq (wp_mono (hv w ⟨K,fun _=>False,[]⟩ _ w _ hT) fun e a1 w1 ⟨st1,g1,h1,h2⟩=>?_))
  cases e with
  | normal =>
    obtain ⟨hB,hV⟩:=h1
    refine wp_seq (wp_region_list ?_)
    let vs:List Value:=caps.map a1.eval
    let fv:Value:=.func (.func fc) #[] vs.toArray
    have hsv:SRs g1 w1 st1.rs (caps.map st1.ev) vs:=SRs_map _ _ _ fun c _=>h2.ev c
    show wpList P _ _ [_,_] a1 w1
    unfold wpList
    rw [if_pos (by simp [Region.wanted])]
    refine .inl (ow_value (u:=fv) (w':=w1) (by simp [execOp,Instr.makeFunc,fv,vs]) ?_)
    unfold wpList
    rw [if_pos (by simp [Region.wanted])]
    have hT1:=h2.put (t:=x) (s:=.un) (u:=fv) hx (by rw [SR];trivial)
    let dd:Deferred:={ target:=.fn (.func fc) vs.toArray,args:=#[] }
    have hfe:(a1.put (some x) fv).eval (.tmp x)=fv:=by
      have:(a1.tmps.setIfInBounds x fv).getD x undef=fv:=by simp [Array.getD,h2.nt,hx]
      exact this
    have hrun:(execOp (a1.put (some x) fv).eval (⟨none,.defer ⟨.value (.tmp x),#[],#[]⟩,ty2,p2,af2,none⟩:Oper)).run P w1 = .ok (.defer dd) w1:=by
      simp [execOp,resolve,hfe,Deferred.ofValue,fv,dd]
    refine .inl ?_
    unfold Oper.wp
    rw [hrun,Oper.upon_defer]
    unfold wpList
    obtain ⟨g2,h3⟩:=hT1.pins B0 hB (caps.map st1.ev) vs hsv
    have h4:T w ⟨K,fun _=>False,[dd]⟩ fn.ntmps ⟨(x,.un)::st1.env,st1.res++pinsOf B0 (fun k=>vs.getD k undef) 0 (caps.map st1.ev)⟩ ({ (a1.put (some x) fv) with defers:=dd::(a1.put (some x) fv).defers }.put none undef) w1 g2:=by
      have h5:(a1.put (some x) fv).defers=[]:=h3.defers
      have h6:=h3.defer [dd]
      rw [h5]
      exact h6
    show c2.wp P _ _ w1
    refine wp_mono (hV w ⟨K,fun _=>False,[dd]⟩ (fun k=>vs.getD k undef) _ w1 g2 h4) fun e a2 w2 ⟨st2,g3,q1,q2⟩=>?_
    have hd2:a2.defers=[dd]:=q2.defers
    have fin:∀ u,u≠.run→LeaveOK P fn fc caps.length rs B0 (fun k=>vs.getD k undef) u st2→Leaves P fn a2.tmps (fun e w'=>∃ vs:List Value,e = .returned (retV vs)∧BelowD w.heap.size w w' ∧
      ∃ K':Nat→Nat→Prop,(∀ b o,K b o→K' b o)∧(∀ b o,K' b o→b<w.heap.size→K b o)∧(∀ b o,K' b o→b<w'.heap.size)∧RtRs K' w' w.heap.size rs vs) a2.defers u w2:=by
      intro u hu ⟨ss,b,b',as0,as1,τ,C,u',hsl,hpin,L,hset,hrv⟩
      rw [hd2]
      have hlv:vs.length=caps.length:=by simp [vs]
      have hss:SRs g3 w2 st2.rs ss vs:=by
        rw [SRs_iff]
        refine ⟨by omega,fun k s u1 k1 k2=>?_⟩
        have h5:=(q2.res _ _ (pinsEnd_ok hpin k s k1)).2
        have:(vs.getD (0+k) undef)=u1:=by simp [k2]
        rw [this] at h5
        exact h5
      refine leaves_cons (f:=fc) (args:=vs.toArray) hu (by simp [invoke,run_callable hcc]) ?_
      refine (L.calls q2 hss).mono fun e u1 w3 ⟨⟨v,he⟩,hu1,g4,h5⟩=>?_
      subst he
      subst hu1
      simp only
      rw [hset]
      obtain ⟨vs',ss',st'',g'',r1,⟨r2,r2'⟩,r3,r4,r5⟩:=rvs_ok _ _ g4 _ h5 hrv
      refine ⟨retV vs',?_,vs',rfl,⟨⟨r3.below.os,r3.below.tape,r3.below.output,r3.below.size,fun k hk=>r3.below.block k ⟨hk,fun h=>h⟩⟩,r3.below.drawn⟩,g''.K,r3.k0,fun b o k hb=>r3.kold b o k ⟨hb,fun h=>h⟩,r3.klt,(asRts_ok r3 (fun _ h=>h) ss' rs vs' r4 r2 r2').1⟩
      have hres:results fn a2.tmps=(do let vs ← fn.results.mapM (resOf a2.tmps);pure (if h:vs.size=1 then vs[0] else .tuple vs)):=by
        unfold results
        congr 1
      have hm:(fn.results.mapM (resOf a2.tmps)).run P w3 = .ok vs'.toArray w3:=by
        rw [← Array.toArray_toList (xs:=fn.results),List.mapM_toArray]
        simp only [Sem.run_map,r1,Result.andThen_ok]
      rw [hres,Sem.run_bind,hm,Result.andThen_ok,Sem.run_pure]
      congr 1
      match vs' with
      | []=>rfl
      | [x]=>rfl
      | x::y::r=>simp [retV]
    cases e with
    | normal=>exact fin _ (by simp) q1
    | ret=>exact fin _ (by simp) q1
    | panic ch=>exact fin _ (by simp) q1
    | _=>exact q1.elim
  | _=>exact h1.elim
end
end Go.VL
namespace Go.Proofs.YtlphpbcafplnbaaGreat
open Go.VL Go.RowKit
def evB (v:Val) (c:Int):List (Nat × Res):=[(1,.box false [.c (i64 v.kind),.c (i64 v.int),.c (str v.text)]),(2,.box false [.c (i64 c)])]
theorem assert_nil (w:World):∃ u6,(Instr.typeAssert .nilIface 20 395 true).run Tryz.prog w = .ok u6 w∧∀ (g:G) R,SR g w R (.tup [.agg [i64 0],.c (bln false)]) u6:=by
  refine ⟨.tuple #[.agg #[.int .i64 0],.bool false],?_,fun g R=>?_⟩
  · kernel_rfl
  · simp only [SR,SRs]
    refine ⟨_,rfl,_,_,rfl,⟨_,rfl,?_⟩,_,_,rfl,?_,rfl⟩
    · simp only [VR]
      exact ⟨_,_,rfl,by rw [CR];exact ⟨rfl,rfl⟩,rfl⟩
    · rw [CR];exact ⟨rfl,rfl⟩
theorem assert_none (c:Int) (w:World):∃ u6,(Instr.typeAssert (noneV c) 20 395 true).run Tryz.prog w = .ok u6 w∧∀ (g:G) R,SR g w R (.tup [.agg [i64 c],.c (bln true)]) u6:=by
  refine ⟨.tuple #[.agg #[.int .i64 c],.bool true],?_,fun g R=>?_⟩
  · kernel_rfl
  · simp only [SR,SRs]
    refine ⟨_,rfl,_,_,rfl,⟨_,rfl,?_⟩,_,_,rfl,?_,rfl⟩
    · simp only [VR]
      exact ⟨_,_,rfl,by rw [CR];exact ⟨rfl,rfl⟩,rfl⟩
    · rw [CR];exact ⟨rfl,rfl⟩
set_option maxRecDepth 4000 in
set_option maxHeartbeats 4000000 in
theorem evalD_idle (v:Val) (c:Int):ConD Tryz.prog 287 [.ptr 1 0,.ptr 2 0] (evB v c) .returning .returning [.ptr 1 0,.ptr 2 0] (evB v c):=by
  refine spec_ofRec 1000 (fn:=Tryz.f287) (s6:=.tup [.agg [i64 0],.c (bln false)]) Tryz.func287 rfl rfl (by simp [Tryz.f287]) (by simp [Tryz.f287]) (by simp [Tryz.f287]) (by kernel_rfl) (by simp [evB]) rfl .idle rfl assert_nil (fun w0 K0 uf=>?_)
  simp only [Tryz.f287]
  simp -dsimp [evB]
  refine vc_ok _ _ _ (by kernel_rfl) ?_
  simp -dsimp [endD]
set_option maxRecDepth 4000 in
set_option maxHeartbeats 4000000 in
theorem evalD_panic (v:Val) (c0 c:Int):ConD Tryz.prog 287 [.ptr 1 0,.ptr 2 0] (evB v c0) (.panicking (chainOf (noneV c))) (.panicking [{ v:=noneV c,recovered:=true }]) [.ptr 1 0,.ptr 2 0] (evB ⟨0,0,[]⟩ c):=by
  refine spec_ofRec 1000 (fn:=Tryz.f287) (s6:=.tup [.agg [i64 c],.c (bln true)]) Tryz.func287 rfl rfl (by simp [Tryz.f287]) (by simp [Tryz.f287]) (by simp [Tryz.f287]) (by kernel_rfl) (by simp [evB]) rfl (.panic _) rfl (assert_none c) (fun w0 K0 uf=>?_)
  simp only [Tryz.f287]
  simp -dsimp [evB]
  refine vc_ok _ _ _ (by kernel_rfl) ?_
  simp -dsimp [endD]
  refine VL.draw (by kernel_rfl) [(0,false),(0,false),(2,false),(1,false),(15,true)] (by kernel_rfl) ?_
  simp -dsimp [endD]
def evV:Ev→Val
  | .ok v=>v
  | .no _=>⟨0,0,[]⟩
def evC:Ev→Int
  | .ok _=>0
  | .no c=>c
set_option maxRecDepth 4000 in
set_option maxHeartbeats 4000000 in
theorem Eval_ok (t:Tm) (rn:Bool) (row:List Val) (v:Val) (h:Con Tryz.prog 288 [.agg t.cells,.c (.sl rn (vals row))] [.ag v.cells]) :
    Con Tryz.prog 286 [.agg t.cells,.c (.sl rn (vals row))] [.ag v.cells,.c (i64 0)]:=by
  obtain ⟨op,kind,tv,place,nl,args⟩:=t
  rw [Tm.cells_mk] at h ⊢
  refine spec_ofDefer 1000 (fn:=Tryz.f286) (fc:=287) (x:=6) (caps:=[.tmp 4,.tmp 5]) Tryz.func286 rfl (by kernel_rfl) (by kernel_rfl) (by simp [Tryz.f286]) (by simp [Tryz.f286]) (fun w0 K0=>vc_ok _ _ _ (by kernel_rfl) ?_)
  simp only [Tryz.f286]
  simp -dsimp
  simp only [deferQ]
  refine ⟨by simp,fun w0 K0 uf=>vc_ok _ _ _ (by kernel_rfl) ?_⟩
  simp -dsimp
  refine VC.mk _ h ?_
  simp -dsimp [Val.cells]
  simp only [leaveQ]
  refine ⟨[.ptr 256 0,.ptr 320 0],evB v 0,evB v 0,[.ptr 1 0,.ptr 2 0],[.ptr 1 0,.ptr 2 0],fun i=>if i=1 then 256 else 320,[],.returning,rfl,by simp,⟨evalD_idle v 0,by simp,by simp [evB],by simp [evB],by simp [evB],by simp [evB,Res.nam,S.nams,S.nam],?_⟩,settle_idle,?_⟩
  · simp [evB,lk,vlook,keptP]
  · simp -dsimp [evB]
set_option maxRecDepth 4000 in
set_option maxHeartbeats 4000000 in
theorem Eval_no (t:Tm) (rn:Bool) (row:List Val) (c:Int) (h:ConP Tryz.prog 288 [.agg t.cells,.c (.sl rn (vals row))] (noneV c)) :
    Con Tryz.prog 286 [.agg t.cells,.c (.sl rn (vals row))] [.ag (⟨0,0,[]⟩:Val).cells,.c (i64 c)]:=by
  obtain ⟨op,kind,tv,place,nl,args⟩:=t
  rw [Tm.cells_mk] at h ⊢
  refine spec_ofDefer 1000 (fn:=Tryz.f286) (fc:=287) (x:=6) (caps:=[.tmp 4,.tmp 5]) Tryz.func286 rfl (by kernel_rfl) (by kernel_rfl) (by simp [Tryz.f286]) (by simp [Tryz.f286]) (fun w0 K0=>vc_ok _ _ _ (by kernel_rfl) ?_)
  simp only [Tryz.f286]
  simp -dsimp
  simp only [deferQ]
  refine ⟨by simp,fun w0 K0 uf=>vx_ok (H:=fun n=>n == 2) _ _ _ (by kernel_rfl) ?_⟩
  simp -dsimp
  refine VL.panicAt 2 (by kernel_rfl) ?_
  simp -dsimp
  refine VPN.call rfl rfl ⟨_,⟨trivial,trivial,trivial⟩,h,?_⟩
  simp -dsimp
  simp only [leaveQ]
  refine ⟨[.ptr 256 0,.ptr 320 0],evB ⟨0,0,[]⟩ 0,evB ⟨0,0,[]⟩ c,[.ptr 1 0,.ptr 2 0],[.ptr 1 0,.ptr 2 0],fun i=>if i=1 then 256 else 320,[],.panicking [{ v:=noneV c,recovered:=true }],rfl,by simp,⟨evalD_panic ⟨0,0,[]⟩ 0 c,by simp,by simp [evB],by simp [evB],by simp [evB],by simp [evB,Res.nam,S.nams,S.nam],?_⟩,settle_panic _,?_⟩
  · simp [evB,lk,vlook,keptP]
  · simp -dsimp [evB,Val.cells]
theorem Eval_spec (t:Tm) (ht:t.Ok) (rn:Bool) (row:List Val) (hrow:∀ v∈row,fits64 v.int=true) :
    Con Tryz.prog 286 [.agg t.cells,.c (.sl rn (vals row))] [.ag (evV (evalT row t)).cells,.c (i64 (evC (evalT row t)))]:=by
  have h:=eval_spec rn row hrow t ht
  cases e:evalT row t with
  | ok v=>rw [e] at h;exact Eval_ok t rn row v h.2
  | no c=>rw [e] at h;exact Eval_no t rn row c h
end Go.Proofs.YtlphpbcafplnbaaGreat

