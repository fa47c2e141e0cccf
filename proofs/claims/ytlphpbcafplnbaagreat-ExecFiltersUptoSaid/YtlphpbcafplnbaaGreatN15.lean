/- Contracts of functions of the seat, proved in a logic on data over the model (part N15). -/
import Derived.Test.YtlphpbcafplnbaaGreatN10
import Derived.Test.YtlphpbcafplnbaaGreatR4
import Derived.Test.YtlphpbcafplnbaaGreatBE
set_option linter.unusedSimpArgs false
set_option linter.unusedVariables false
namespace Go.VL
open Go.RowKit
section
variable {P:Program}
theorem M.initPins {B0:Nat} {args:List S} {b:List (Nat × Res)} {w:World} {g:G} {us:List Value} {nt:Nat} (hbn:∀ p∈b,p.1<B0) (hM:M w ⟨g.K,lent g b,[]⟩ (lk b) w g) (hargs:SRs g w (lk b) args us) (hn:args.length≤nt) :
    T w ⟨g.K,lent g b,[]⟩ nt (initB B0 args b fun k=>us.getD k undef) { tmps:=us.toArray++Array.replicate (nt-us.toArray.size) undef,defers:=[] } w ⟨g.K,fun i=>if i<B0 then g.loc i else undef⟩:=by
  obtain ⟨hl,hs⟩:=(SRs_iff _ _).1 hargs
  let uf:Nat→Value:=fun k=>us.getD k undef
  let g1:G:=⟨g.K,fun i=>if i<B0 then g.loc i else undef⟩
  have hcmp:∀ j,Cmp g (lk b) g1 (initB B0 args b uf).rs j:=by
    intro j
    rw [show Cmp g (lk b) g1 (initB B0 args b uf).rs j=Cmp g (lk b) g1 (initB B0 args b uf).rs j from rfl]
    by_cases hj:j<B0
    · have e:=rs_initB B0 args b uf hbn j
      rw [if_pos hj] at e
      exact Cmp.same e (by show (if j<B0 then g.loc j else undef)=_;rw [if_pos hj])
    · have e:=rs_initB B0 args b uf hbn j
      rw [if_neg hj] at e
      refine ⟨fun fz ss q=>?_,fun nil sz xs fx q=>?_,fun kvs q=>?_⟩
      · rw [e] at q;cases h:args[j-B0]? <;> rw [h] at q <;> simp at q
      · rw [e] at q;cases h:args[j-B0]? <;> rw [h] at q <;> simp at q
      · rw [e] at q;cases h:args[j-B0]? <;> rw [h] at q <;> simp at q
  have hk:Keeps g.K w g1.K w:=Keeps.refl _ _
  show T w ⟨g.K,lent g b,[]⟩ nt (initB B0 args b uf) _ w g1
  refine ⟨hM.below,hM.k0,hM.kold,hM.klt,fun i r hi=>?_,fun i j ri rj hi hj hne k h1 h2=>?_,fun t=>?_,(by simp;omega),rfl,hM.keep⟩
  · have e:=rs_initB B0 args b uf hbn i
    by_cases hi2:i<B0
    · rw [if_pos hi2] at e
      rw [e] at hi
      exact RR.mono' hk (by show (if i<B0 then g.loc i else undef)=_;rw [if_pos hi2]) (fun _ _=>⟨rfl,fun _ k=>k⟩) (fun j _=>hcmp j) (hM.res i r hi)
    · rw [if_neg hi2] at e
      rw [e] at hi
      simp only [Option.map_eq_some_iff] at hi
      obtain ⟨s,h1,rfl⟩:=hi
      refine ⟨by show (if i<B0 then g.loc i else undef)=_;rw [if_neg hi2],?_⟩
      have hlt:=(List.getElem?_eq_some_iff.1 h1).1
      refine SR.mono hk s _ (fun j _=>hcmp j) (hs _ s _ h1 ?_)
      simp only [uf,List.getD_eq_getElem?_getD]
      rw [List.getElem?_eq_getElem (by omega)];rfl
  · have low:∀ n r,(initB B0 args b uf).rs n=some r→∀ k,blk (g1.loc n)=some k→n<B0∧lk b n=some r∧blk (g.loc n)=some k:=by
      intro n r hn' k hk'
      by_cases hlt:n<B0
      · rw [rs_initB B0 args b uf hbn,if_pos hlt] at hn'
        refine ⟨hlt,hn',?_⟩
        rw [show g1.loc n=(if n<B0 then g.loc n else undef) from rfl,if_pos hlt] at hk'
        exact hk'
      · rw [show g1.loc n=(if n<B0 then g.loc n else undef) from rfl,if_neg hlt] at hk'
        cases hk'
    obtain ⟨_,a1,a2⟩:=low i ri hi k h1
    obtain ⟨_,a3,a4⟩:=low j rj hj k h2
    exact hM.dis i j ri rj a1 a3 hne k a2 a4
  · have hg:(initB B0 args b uf).get t=(args[t]?).getD .un:=by
      unfold St.get initB
      rw [vlook_init];simp
    rw [hg]
    cases e:args[t]? with
    | none=>simp [SR]
    | some s =>
      have hlt:=(List.getElem?_eq_some_iff.1 e).1
      refine SR.mono hk s _ (fun j _=>hcmp j) (hs t s _ e ?_)
      simp [Array.getD,hl,hlt]
      omega
theorem T.asFnp {w0:World} {K0:K0T} {nt:Nat} {st:St} {a:Act} {w:World} {g:G} (h:T w0 K0 nt st a w g) (t:Nat) {f:FuncId} {cs:List C} (e:st.get t = .c (.fn f cs)):T w0 K0 nt (st.put t (.fnp f (cs.map .c))) a w g:=by
  refine ⟨h.below,h.k0,h.kold,h.klt,h.res,h.dis,fun t'=>?_,h.nt,h.defers,h.keep⟩
  rw [St.get_put]
  by_cases q:t=t'
  · subst q
    rw [if_pos rfl]
    have:=h.env t
    rw [e,SR,CR] at this
    obtain ⟨us,h1,h2⟩:=this
    rw [SR]
    refine ⟨us,h1,?_⟩
    rw [SRs_iff]
    rw [VR_iff] at h2
    refine ⟨by simpa using h2.1,fun k s u e1 e2=>?_⟩
    simp only [List.getElem?_map,Option.map_eq_some_iff] at e1
    obtain ⟨c,e1,rfl⟩:=e1
    rw [SR]
    exact h2.2 k c u e1 e2
  · rw [if_neg q];exact h.env t'
@[simp ↓] theorem vs_assign_nilFunc (ops:Array Oper) (st:St) (d:Option Nat) (ty:TypeId) (p:String) (af:Array Edge) (K:St→Prop):vstep P ops st ⟨d,.assign (.const .nilFunc),ty,p,af,none⟩ K=K (st.putd d (.c (.v .nilFunc))):=by
  simp [vstep,isPick,vop,vpure,pev,St.ev,ofConst]
  exact Iff.rfl
theorem spec_ofRFB (Bp:Nat) {f:FuncId} {fn:Func} {c1:Code} {blkId:Nat} {args rs as1:List S} {b b':List (Nat × Res)} {fop:Operand} {ps:List Nat} {asg body:Code} {B0 N:Nat} {E:List (Nat × S)} {rsJ:(Nat→Value)→List (List S)→List (Nat × Res)}
    (hf:P.funcs[f]? = some fn) (hb:fn.body=some (c1.seq (.block blkId (.rangeFunc fop ps.toArray asg body)))) (hc:callable P f=true) (hn:args.length≤fn.ntmps) (hbn:∀ p∈b,p.1<Bp) (hlen:as1.length=args.length)
    (stA stR:(Nat→Value)→St) (hcok:codeOk fn.ntmps c1=true)
    (hA:∀ w0 K0 uf,vc P w0 K0 fn.ntmps c1 (initB Bp args b uf) (fun e st'=>e = .normal∧st'.le (stA uf)))
    (hN:∀ w0 K0 uf a w g,T w0 K0 fn.ntmps (stA uf) a w g→T w0 K0 fn.ntmps (stR uf) a w g)
    {Ty:List S→Prop} (hTy:∀ x,Ty x→x.length=ps.length) (hround:∀ uf,RoundOk P fn.ntmps ps asg body B0 E (rsJ uf) N Ty)
    (hok:codeOk fn.ntmps asg=true∧codeOk fn.ntmps body=true) (hfl:flatCode asg=true∧flatCode body=true) (hps:∀ p∈ps,p<fn.ntmps) (hB0:∀ uf pre,∀ p∈rsJ uf pre,p.1<B0)
    (hcl:∀ p∈E,∀ j,p.2.men j=true→j<B0) (hrm:∀ uf pre,∀ p∈rsJ uf pre,∀ j,p.2.ment j=true→j<B0) (hE:(E.map (·.1)).Nodup)
    {gf:FuncId} {caps:List S} {bIt:List (Nat × Res)} {Qy:List (List S)→Prop} (hfop:∀ uf,(stR uf).ev fop = .fnp gf caps) (hcon:ConY P gf caps bIt N Ty Qy) (hbIt:∀ uf,∀ p∈bIt,(stR uf).rs p.1=some p.2)
    (hcc:∀ j,S.mens j caps=true→(lk bIt j).isSome=true) (hcb:∀ p∈bIt,∀ j,p.2.ment j=true→(lk bIt j).isSome=true) (hrs0:∀ uf,∀ p∈rsJ uf [],(stR uf).rs p.1=some p.2) (hap:∀ uf i,(lk bIt i).isSome=true→lk (rsJ uf []) i=none)
    (hrcl:∀ uf,∀ p∈rsJ uf [],∀ j,p.2.ment j=true→(lk (rsJ uf []) j).isSome=true) (hEcl:∀ uf,∀ p∈E,∀ j,p.2.men j=true→(lk (rsJ uf []) j).isSome=true) (hE0:∀ uf,∀ p∈E,(stR uf).get p.1=p.2)
    (hC:∀ uf ys,Qy ys→retQB Bp P fn rs as1 b' uf .normal ⟨E,(rsJ uf ys).map fun p=>(p.1,some p.2)⟩):ConB P f args b rs as1 b':=by
  refine ⟨hc,fun w g us hM hargs=>?_⟩
  have hT:=hM.initPins (nt:=fn.ntmps) hbn hargs hn
  obtain ⟨hl,hs⟩:=(SRs_iff _ _).1 hargs
  obtain ⟨uf,huf⟩:∃ uf:Nat→Value,uf=fun k=>us.getD k undef:=⟨_,rfl⟩
  rw [← huf] at hT
  refine (callsIn_wide (n:=0)).1 (callsIn_of_wp_marks (F:=Fence.wide) (n:=0) hf hb trivial ((wpIn_wide (n:=0)).2 ?_))
  refine wp_seq (wp_mono (vc_ok c1 _ _ hcok (hA w ⟨g.K,lent g b,[]⟩ uf) _ w _ hT) fun e a2 w2 ⟨st2,g2,⟨he,hle⟩,T2⟩=>?_)
  subst he
  have T3:=hN _ _ uf _ _ _ (T2.weaken hle)
  refine wp_block (wp_mono (rangeF_ok hTy (hround uf) hok hfl hps (hB0 uf) hcl (hrm uf) hE (hfop uf) hcon (hbIt uf) hcc hcb (hrs0 uf) (hap uf) (hrcl uf) (hEcl uf) (hE0 uf) T3) fun e a5 w5 ⟨he,ys,D,g5,hQy,ha4,hD5,hDsz,hDo5,hDk5,T4⟩=>?_)
  subst he
  have hdf:a2.defers=[]:=T3.defers
  rw [hdf] at T4 ha4
  have hdf5:a5.defers=[{ target:=.collected D,args:=#[] }]:=T4.defers
  obtain ⟨w6,hw6⟩:∃ w6,w6=w5.putObj D (.deferred none):=⟨_,rfl⟩
  have ho6:∀ k,k≠D→w6.heap[k]? = w5.heap[k]? := fun k hk=>by rw [hw6];exact World.putObj_heap_other hk
  have hs6:w6.heap.size=w5.heap.size:=by rw [hw6];simp
  have hkeep6:Keeps g5.K w5 g5.K w6:=⟨fun _ _ k=>k,fun b o k=>by
    have:b≠D:=fun e=>hDk5 o (e ▸ k)
    simp only [World.cell?];rw [ho6 b this]⟩
  have T6:T w ⟨g.K,lent g b,[{ target:=.collected D,args:=#[] }]⟩ fn.ntmps ⟨E,(rsJ uf ys).map fun p=>(p.1,some p.2)⟩ a5 w6 g5:=by
    refine T4.world (w':=w6) (K':=g5.K) ⟨by rw [hw6];rfl,by rw [hw6];rfl,by rw [hw6];rfl,by rw [hs6];exact Nat.le_refl _,fun k hk=>ho6 k (fun e=>by have:=hk.1;omega),by rw [hw6];exact Nat.le_refl _⟩ hkeep6 T4.kold (fun b o k=>by rw [hs6];exact T4.klt b o k)
      (fun i r b hi hb=>⟨ho6 b (fun e=>hDo5 ⟨i,r,hi,e ▸ hb⟩),fun _ k=>k⟩)
  have h2:T w ⟨g.K,lent g b,[]⟩ fn.ntmps ⟨E,(rsJ uf ys).map fun p=>(p.1,some p.2)⟩ { a5 with defers:=[] } w6 g5 :=
    ⟨⟨T6.below.os,T6.below.tape,T6.below.output,T6.below.size,fun k hk=>T6.below.block k hk,T6.below.drawn⟩,T6.k0,T6.kold,T6.klt,T6.res,T6.dis,T6.env,T6.nt,rfl,T6.keep⟩
  show LeavesInM Fence.wide 0 P fn a5.tmps _ a5.defers .returning w5
  rw [hdf5]
  refine ⟨by simp,.inl ⟨D,w6,rfl,?_,?_⟩⟩
  · rw [hw6];exact run_takeDeferred hD5
  · obtain ⟨vs,ss,st'',g'',e1,⟨rfl,e2,e2'⟩,e3,e4,e5⟩:=rvs_ok _ _ g5 _ h2 (hC uf ys hQy)
    have hw':w6=w6:=rfl
    have hdown:∀ j,Cmp g'' st''.rs g'' (lk b') j:=fun j=>⟨fun fz ss q=>⟨⟨fz,ss,resEnd_ok e2 j _ q⟩,rfl⟩,fun nil sz xs fx q=>⟨⟨nil,xs,fx,resEnd_ok e2 j _ q,rfl⟩,rfl⟩,fun kvs q=>⟨⟨kvs,resEnd_ok e2 j _ q,rfl⟩,rfl⟩⟩
    have hM':M w ⟨g.K,lent g b,[]⟩ (lk b') w6 g'':=by
      refine ⟨e3.below,e3.k0,e3.kold,e3.klt,fun i r hi=>?_,fun i j ri rj hi hj=>e3.dis i j ri rj (resEnd_ok e2 i _ hi) (resEnd_ok e2 j _ hj),e3.keep⟩
      exact RR.mono' (Keeps.refl _ _) rfl (fun _ _=>⟨rfl,fun _ k=>k⟩) (fun j _=>hdown j) (e3.res i r (resEnd_ok e2 i r hi))
    have has:SRs g'' w6 (lk b') as1 us:=by
      rw [SRs_iff]
      refine ⟨by omega,fun k s u q1 q2=>?_⟩
      have h3:=e3.res _ _ (pinsEnd_ok e2' k s q1)
      have h4:=h3.2
      have:uf (0+k)=u:=by simp [huf,q2]
      rw [this] at h4
      exact SR.mono (Keeps.refl _ _) s u (fun j _=>hdown j) h4
    exact ⟨_,results_of e1,vs,g'',rfl,hM',SRs.mono (Keeps.refl _ _) _ _ (fun j _=>hdown j) e4,has⟩
end
end Go.VL
namespace Go.Proofs.YtlphpbcafplnbaaGreat
open Go.VL Go.RowKit
def trC (k:List UInt8) (v:Int):List C:=[i64 8,.dp (ndC k v),i64 1]
def rgC (k:List UInt8) (v:Int) (a b:List UInt8):List C:=[.dp [.dp (trC k v)],.dp [str a],.dp [str b]]
set_option maxRecDepth 4000 in
set_option maxHeartbeats 8000000 in
theorem range1 (N:Nat) (k:List UInt8) (v:Int) (a b:List UInt8) (Qy:List (List S)→Prop) (hw:ConW Tryz.prog 252 (fun y=>[.c (.dp (ndC k v)),.c (str a),.c (str b),y]) [] N isKV Qy):ConY Tryz.prog 250 ((rgC k v a b).map .c) [] N isKV Qy:=by
  refine ConW.toY (spec_ofW Tryz.func250 rfl (by kernel_rfl) (by simp [Tryz.f250,rgC]) (fun w0 K0 lp Kc J hJ hY=>?_))
  simp only [Tryz.f250]
  refine VWJ.draw hJ (by kernel_rfl) [(0,false),(1,false),(3,false),(7,false),(15,false),(0,false),(0,false),(0,false),(255,true)] (by kernel_rfl) (by kernel_rfl) ?_
  simp -dsimp [initY,initEnv,rgC,trC]
  refine VCE.mk _ (copiedD k v) ?_
  simp -dsimp
  refine BarJ.callW hJ hY (fun i=>i) hw rfl (by simp [renSs,renS,St.ev,St.get,vlook]) (by simp) (by simp) (by simp) (by simp) (fun ys hys=>?_)
  simp -dsimp
  simp [retW]
  exact hys
set_option maxRecDepth 4000 in
set_option maxHeartbeats 8000000 in
theorem range_spec (k:List UInt8) (v:Int) (a b:List UInt8):Con Tryz.prog 241 [.c (.dp (trC k v)),.c (str a),.c (str b)] [.c (.fn 250 (rgC k v a b))]:=by
  refine spec_of Tryz.func241 rfl (by kernel_rfl) (by simp [Tryz.f241]) (fun w0 K0=>vc_ok _ _ _ (by kernel_rfl) ?_)
  simp only [Tryz.f241]
  simp -dsimp
  rfl
def oB (nil:Bool) (xs:List Int):List (Nat × Res):=[(5,.box false [.own 6 xs.length]),(6,.arr nil (if nil then 0 else 1) (xs.map fun x=>[i64 x]) 0)]
def tkJ (nil:Bool) (xs:List Int) (k:List UInt8) (v:Int) (a b:List UInt8) (uf:Nat→Value):List (Nat × Res):=oB nil xs++[(7,.pin (uf 0) (.c (.dp (trC k v)))),(8,.pin (uf 1) (.c (str a))),(9,.pin (uf 2) (.c (str b))),(10,.pin (uf 3) (.ptr 5 0))]
def kvV:List S→Int
  | [_,.c (.v (.int _ v))]=>v
  | _=>0
set_option maxRecDepth 4000 in
set_option maxHeartbeats 8000000 in
theorem takeNo (k:List UInt8) (v:Int) (a b:List UInt8) (nil:Bool) (xs:List Int) (hw:ConW Tryz.prog 252 (fun y=>[.c (.dp (ndC k v)),.c (str a),.c (str b),y]) [] 0 isKV (fun ys=>ys=[])) :
    ConB Tryz.prog 240 [.c (.dp (trC k v)),.c (str a),.c (str b),.ptr 5 0] (oB nil xs) [] [.c (.dp (trC k v)),.c (str a),.c (str b),.ptr 5 0] (oB nil xs):=by
  refine spec_ofRFB 7 (B0:=1000) (E:=[(3,.ptr 5 0)]) (rsJ:=fun uf _=>tkJ nil xs k v a b uf) (bIt:=[]) (N:=0) (Ty:=isKV) (ps:=[13,14]) (fn:=Tryz.f240) (Qy:=fun ys=>ys=[]) (gf:=250) (caps:=(rgC k v a b).map .c) Tryz.func240 rfl (by kernel_rfl) (by simp [Tryz.f240]) (by simp [oB]) rfl
    (fun uf=>⟨[(12,.c (.fn 250 (rgC k v a b))),(3,.ptr 5 0)],(tkJ nil xs k v a b uf).map fun p:Nat × Res=>(p.1,some p.2)⟩)
    (fun uf=>⟨[(12,.fnp 250 ((rgC k v a b).map .c)),(12,.c (.fn 250 (rgC k v a b))),(3,.ptr 5 0)],(tkJ nil xs k v a b uf).map fun p:Nat × Res=>(p.1,some p.2)⟩)
    (by kernel_rfl) ?_ (fun w0 K0 uf a w g h=>h.asFnp 12 rfl) (fun x ⟨t,u,ht⟩=>by rw [ht];rfl) ?_ ⟨by kernel_rfl,by kernel_rfl⟩ ⟨by kernel_rfl,by kernel_rfl⟩ ?_ ?_ ?_ ?_ ?_ (fun _=>rfl) (range1 0 k v a b _ hw) ?_ ?_ ?_ ?_ ?_ ?_ ?_ ?_ ?_
  · intro w0 K0 uf
    simp -dsimp [initB,initEnv,pinsOf,oB]
    refine VC.mk _ (range_spec k v a b) ?_
    simp -dsimp [tkJ,oB]
    simp [St.le]
  · intro uf w1 K1 uf' pre x hpre
    omega
  · simp [Tryz.f240]
  · simp [tkJ,oB]
  · simp [S.men]
  · intro uf pre p hp j hj
    simp [tkJ,oB] at hp
    rcases hp with rfl | rfl | rfl | rfl | rfl | rfl <;> simp [Res.ment,S.mens,S.men] at hj <;> omega
  · simp
  · simp
  · simp [rgC,S.mens,S.men]
  · simp
  · intro uf p hp
    simp [tkJ,oB] at hp
    rcases hp with rfl | rfl | rfl | rfl | rfl | rfl <;> simp [tkJ,oB,St.rs,vlook]
  · simp [lk,vlook]
  · intro uf p hp j hj
    simp [tkJ,oB] at hp
    rcases hp with rfl | rfl | rfl | rfl | rfl | rfl <;> simp [Res.ment,S.mens,S.men] at hj <;> subst hj <;> simp [tkJ,oB,lk,vlook]
  · simp [S.men,tkJ,oB,lk,vlook]
  · simp [St.get,vlook]
  · rintro uf ys rfl
    simp [retQB,Tryz.f240,tkJ,oB,resEnd,pinsEnd]
set_option maxRecDepth 4000 in
set_option maxHeartbeats 8000000 in
theorem takeHit (k:List UInt8) (v:Int) (a b:List UInt8) (hw:ConW Tryz.prog 252 (fun y=>[.c (.dp (ndC k v)),.c (str a),.c (str b),y]) [] 1 isKV (fun ys=>ys=[[.c (str k),.c (i64 v)]])) :
    ConB Tryz.prog 240 [.c (.dp (trC k v)),.c (str a),.c (str b),.ptr 5 0] (oB true []) [] [.c (.dp (trC k v)),.c (str a),.c (str b),.ptr 5 0] (oB false [v]):=by
  refine spec_ofRFB 7 (B0:=1000) (E:=[(3,.ptr 5 0)]) (rsJ:=fun uf pre=>tkJ pre.isEmpty (pre.map kvV) k v a b uf) (bIt:=[]) (N:=1) (Ty:=isKV) (ps:=[13,14]) (fn:=Tryz.f240) (Qy:=fun ys=>ys=[[.c (str k),.c (i64 v)]]) (gf:=250) (caps:=(rgC k v a b).map .c) Tryz.func240 rfl (by kernel_rfl) (by simp [Tryz.f240]) (by simp [oB]) rfl
    (fun uf=>⟨[(12,.c (.fn 250 (rgC k v a b))),(3,.ptr 5 0)],(tkJ true [] k v a b uf).map fun p:Nat × Res=>(p.1,some p.2)⟩)
    (fun uf=>⟨[(12,.fnp 250 ((rgC k v a b).map .c)),(12,.c (.fn 250 (rgC k v a b))),(3,.ptr 5 0)],(tkJ true [] k v a b uf).map fun p:Nat × Res=>(p.1,some p.2)⟩)
    (by kernel_rfl) ?_ (fun w0 K0 uf a w g h=>h.asFnp 12 rfl) (fun x ⟨t,u,ht⟩=>by rw [ht];rfl) ?_ ⟨by kernel_rfl,by kernel_rfl⟩ ⟨by kernel_rfl,by kernel_rfl⟩ ?_ ?_ ?_ ?_ ?_ (fun _=>rfl) (range1 1 k v a b _ hw) ?_ ?_ ?_ ?_ ?_ ?_ ?_ ?_ ?_
  · intro w0 K0 uf
    simp -dsimp [initB,initEnv,pinsOf,oB]
    refine VC.mk _ (range_spec k v a b) ?_
    simp -dsimp [tkJ,oB]
    simp [St.le]
  · intro uf w1 K1 uf' pre x hpre
    obtain rfl:pre=[]:=by cases pre with | nil=>rfl | cons _ _=>simp at hpre
    rintro ⟨k',v',rfl⟩ _
    simp -dsimp [tkJ,oB,paramsE,pinsOf,kvV]
    exact fun _=>by simp [maxLen]
  · simp [Tryz.f240]
  · simp [tkJ,oB]
  · simp [S.men]
  · intro uf pre p hp j hj
    simp [tkJ,oB] at hp
    rcases hp with rfl | rfl | rfl | rfl | rfl | rfl <;> simp [Res.ment,S.mens,S.men] at hj <;> omega
  · simp
  · simp
  · simp [rgC,S.mens,S.men]
  · simp
  · intro uf p hp
    simp [tkJ,oB] at hp
    rcases hp with rfl | rfl | rfl | rfl | rfl | rfl <;> simp [tkJ,oB,St.rs,vlook]
  · simp [lk,vlook]
  · intro uf p hp j hj
    simp [tkJ,oB] at hp
    rcases hp with rfl | rfl | rfl | rfl | rfl | rfl <;> simp [Res.ment,S.mens,S.men] at hj <;> subst hj <;> simp [tkJ,oB,lk,vlook]
  · simp [S.men,tkJ,oB,lk,vlook]
  · simp [St.get,vlook]
  · rintro uf ys rfl
    simp [retQB,Tryz.f240,tkJ,oB,resEnd,pinsEnd,kvV]
end Go.Proofs.YtlphpbcafplnbaaGreat
namespace Go.VL
open Go.RowKit
section
variable {P:Program} {w0:World} {K0:K0T} {nt:Nat} {OPS:Array Oper} {st:St}
theorem fill_two (a b:Addr) (z:Array Value) (hz:z.size=2):Instr.fill (fun i=>some (i*1,1)) z [(0,.pointer (some a)),(1,.pointer (some b))]=some #[.pointer (some a),.pointer (some b)]:=by
  obtain ⟨l⟩:=z
  match l,hz with
  | [x,y],_=>simp [Instr.fill,Value.cells]
theorem VRS.bs2 {y:Nat} {t el ty:TypeId} {x0 x1:Operand} {z:Value} {p:String} {af:Array Edge} {l:List Oper} {K:St→Prop} (i j:Nat) (fi fj:Bool) (si sj:List S)
    (h0:st.ev x0 = .ptr i 0) (h1:st.ev x1 = .ptr j 0) (hi:st.rs i=some (.box fi si)) (hj:st.rs j=some (.box fj sj)) (ht:P.underlying t=some (.slice el)) (hs:tySz P el=some (false,1)) (hz:zeroOf P el=some z) (hzl:z.cells.size=1) (hni:64*y≠i) (hnj:64*y≠j)
    (h:VRS P w0 K0 nt OPS l (((st.clr (64*y)).setR (64*y) (some (.map (.rows false 1 [[.ptr i 0],[.ptr j 0]])))).put y (.mp (64*y))) K):VRS P w0 K0 nt OPS (⟨some y,.buildSlice t 2 #[(0,x0),(1,x1)],ty,p,af,none⟩::l) st K:=by
  refine VRS.step fun hok a w g hT next Q hn'=>wanted_step hT rfl ?_
  have hd:=opOk_dst hok
  have e0:=hT.ev x0
  rw [h0] at e0
  have s0:=e0
  rw [SR] at e0
  obtain ⟨b0,_,hu0⟩:=e0 _ _ hi
  have e1:=hT.ev x1
  rw [h1] at e1
  have s1:=e1
  rw [SR] at e1
  obtain ⟨b1,_,hu1⟩:=e1 _ _ hj
  have hrun:(execOp a.eval ⟨some y,.buildSlice t 2 #[(0,x0),(1,x1)],ty,p,af,none⟩).run P w = .ok (.value (.slice (some ⟨w.heap.size,0,none⟩) 2 2)) (w.alloc (.cells #[a.eval x0,a.eval x1] el)):=by
    simp only [execOp,Instr.buildSlice,Sem.run_bind,run_underlying ht,Result.andThen_ok,run_sizeOf hs]
    rw [if_neg (by decide),if_neg (by decide)]
    have e:(Array.map (fun q:Nat × Operand=>(q.1,a.eval q.2)) #[(0,x0),(1,x1)]).toList=[(0,.pointer (some ⟨b0,0,none⟩)),(1,.pointer (some ⟨b1,0,none⟩))]:=by simp [hu0,hu1]
    have hf:=fill_two ⟨b0,0,none⟩ ⟨b1,0,none⟩ (Array.map (fun q=>z.cells[q % z.cells.size]!) (Array.range (2*1))) (by simp)
    simp only [Sem.run_bind,run_zero hz,Result.andThen_ok,Sem.run_pure,e,hf,newRow,run_newObj,World.alloc_eq,hu0,hu1]
  obtain ⟨g1,m1,m2,m3,m4⟩:=hT.newrows (64*y) 1 [[.ptr i 0],[.ptr j 0]] #[a.eval x0,a.eval x1] el 2 _ (.inl rfl) (fun k e hk=>by
      match k,hk with
      | 0,hk =>
        simp at hk;subst hk
        refine ⟨rfl,fun q s' hq=>?_⟩
        match q,hq with
        | 0,hq=>simp at hq;subst hq;exact ⟨a.eval x0,by simp,s0,by rw [hu0];rfl⟩
      | 1,hk =>
        simp at hk;subst hk
        refine ⟨rfl,fun q s' hq=>?_⟩
        match q,hq with
        | 0,hq=>simp at hq;subst hq;exact ⟨a.eval x1,by simp,s1,by rw [hu1];rfl⟩) (by simp [S.mens,S.men,hni,hnj,Ne.symm hni,Ne.symm hnj]) (by simp) (by simp [maxLen]) (by simp)
  refine ow_value hrun (hn' _ _ _ g1 h ?_)
  refine T.put m1 (hd y rfl) ?_
  rw [SR]
  intro m _
  rw [m2];rfl
theorem VRS.lenM {y:Nat} {t ty:TypeId} {x:Operand} {p:String} {af:Array Edge} {l:List Oper} {K:St→Prop} (i sz:Nat) (xs:List (List S))
    (hx:st.ev x = .mp i) (hr:st.rs i=some (.map (.rows false sz xs))) (ht:isSl P t=true)
    (hk:VRS P w0 K0 nt OPS l (st.put y (.c (.v (.int .i64 xs.length)))) K):VRS P w0 K0 nt OPS (⟨some y,.call ⟨.builtin .len,#[x],#[t]⟩,ty,p,af,none⟩::l) st K:=by
  refine VRS.step fun hok a w g hT next Q hn'=>wanted_step hT rfl ?_
  have hd:=opOk_dst hok
  have hex:=hT.ev x
  rw [hx,SR] at hex
  have hu:=hex _ hr
  obtain ⟨e,he⟩:=isSl_some ht
  rcases hT.res i _ hr with ⟨q,_⟩ | ⟨_,b,cap,cur,E,hl,_⟩
  · cases q
  rw [hl] at hu
  have hrun:(execOp a.eval ⟨some y,.call ⟨.builtin .len,#[x],#[t]⟩,ty,p,af,none⟩).run P w = .ok (.value (.int .i64 xs.length)) w:=by
    simp [execOp,invoke,resolve,hu,builtin,Builtin.len_,run_underlying he,goInt,Sem.run_bind,Result.andThen_ok]
  refine ow_value hrun (hn' _ _ w g hk ?_)
  exact hT.put (hd y rfl) (by simp [SR,CR,Value.oneCell'])
end
def vroundsX (P:Program) (w0:World) (K0:K0T) (nt:Nat) (HH:Nat→Bool) (c:Code) (Q:Exit→St→Prop):Nat→St→Prop
  | 0,_=>False
  | n+1,st=>vx P w0 K0 nt HH c st (seqQ (vroundsX P w0 K0 nt HH c Q n) Q)
section
variable {P:Program} {w0:World} {K0:K0T} {nt:Nat}
theorem vroundsX_ok {HH:Nat→Bool} {c:Code} {Q:Exit→St→Prop} (hok:codeOk nt c=true):∀ (n:Nat) (st:St),vroundsX P w0 K0 nt HH c Q n st→∀ a w g,T w0 K0 nt st a w g →
    Code.rounds P c (fun e a w=>∃ st' g',Q e st'∧T w0 K0 nt st' a w g') n a w
  | 0,_,h,_,_,_,_=>h.elim
  | n+1,st,h,a,w,g,hT=>by
    rw [Code.rounds]
    refine wp_mono (vx_ok c st _ hok h a w g hT) fun e a' w' ⟨st',g',h1,h2⟩=>?_
    cases e with
    | normal=>exact vroundsX_ok hok n st' h1 a' w' g' h2
    | _=>exact ⟨st',g',h1,h2⟩
theorem VL.roundsX {c:Code} {st:St} {Q:Exit→St→Prop} {m1:Keep (Code.loop c)} {m2:Keep Q} (n:Nat) (HH:Nat→Bool) (hok:codeOk nt c=true) (h:vroundsX P w0 K0 nt HH c Q n st):VL P w0 K0 nt (.loop c) st Q m1 m2 :=
  fun a w g hT=>wp_loop_rounds n (vroundsX_ok hok n st h a w g hT)
@[simp] theorem vroundsX_succ (HH:Nat→Bool) (c:Code) (Q:Exit→St→Prop) (n:Nat) (st:St):vroundsX P w0 K0 nt HH c Q (n+1) st=vx P w0 K0 nt HH c st (seqQ (vroundsX P w0 K0 nt HH c Q n) Q):=rfl
end
end Go.VL
namespace Go.Proofs.YtlphpbcafplnbaaGreat
open Go.VL Go.RowKit
theorem way_0:Con Tryz.prog 249 [.c (i64 0)] [.c (.sl true [])]:=by
  refine Con.frz (rs:=[.fr true 0 [] 0]) ?_ 0 rfl
  refine spec_of Tryz.func249 rfl (by kernel_rfl) (by simp [Tryz.f249]) (fun w0 K0=>vc_ok _ _ _ (by kernel_rfl) ?_)
  simp only [Tryz.f249]
  simp -dsimp
  refine VL.rounds 1 (by kernel_rfl) ?_
  simp -dsimp
def chN (j:Nat):Int:=if j≤38 then 2 ^ (j+2) else 0
def chL (j:Nat):List Int:=(List.range j).map fun t=>chN (t+1)
theorem chL_snoc (j:Nat):chL (j+1)=chL j++[chN (j+1)]:=by simp [chL,List.range_succ]
theorem ch1:∀ k:Fin 39,bits BinOp.and IntKind.i64 (chN k) (IntKind.i64.wrap (-chN k))=chN k:=by decide +kernel
theorem ch2:∀ k:Fin 39,bits BinOp.or IntKind.i64 (bits BinOp.andNot IntKind.i64 (chN k) (chN k)) (IntKind.i64.wrap (chN k*2 ^ min 1 IntKind.i64.bits))=2*chN k:=by decide +kernel
theorem ch3:∀ k:Fin 39,(decide (1099511627776<2*chN k)=false→2*chN k=chN (k+1))∧(decide (1099511627776<2*chN k)=true→chN (k+1)=0):=by decide +kernel
set_option maxRecDepth 4000 in
set_option maxHeartbeats 8000000 in
theorem way_4:Con Tryz.prog 249 [.c (i64 4)] [.fr false 1 ((chL 39).map fun x=>[i64 x]) 0]:=by
  refine spec_of Tryz.func249 rfl (by kernel_rfl) (by simp [Tryz.f249]) (fun w0 K0=>vc_ok _ _ _ (by kernel_rfl) ?_)
  simp only [Tryz.f249]
  simp -dsimp
  refine VL.loop (ι:=Nat) (fun j=>⟨[(0,.c (i64 (chN j))),(3,.own 192 j)],[(192,some (.arr (decide (j=0)) (if j=0 then 0 else 1) ((chL j).map fun x=>[i64 x]) 0))]⟩) (fun j=>j≤39) (fun j=>40-j) 0 (by kernel_rfl) (by decide) ?_ ?_
  · simp [St.le,chL,chN]
  intro j hj
  simp -dsimp
  refine VIf.mk (fun h=>?_) (fun h=>?_)
  · have hj38:j<39:=by
      have hf:∀ k:Fin 40,(chN k != 0)=true→k.1<39:=by decide
      exact hf ⟨j,by omega⟩ h
    have e1:=ch1 ⟨j,hj38⟩
    have e2:=ch2 ⟨j,hj38⟩
    have e3:=ch3 ⟨j,hj38⟩
    simp only at e1 e2 e3
    have hz:((chL j).map fun x=>[i64 x]).length=j:=by simp [chL]
    simp -dsimp [e1,e2]
    refine VIf.mk (fun h2=>?_) (fun h2=>?_)
    · have e4:=e3.2 h2
      simp -dsimp [chL]
      refine ⟨by decide,by omega,j+1,by omega,?_,by omega⟩
      simp [St.le,e4,List.range_succ]
    · have e4:=e3.1 h2
      simp -dsimp [chL]
      refine ⟨by decide,by omega,j+1,by omega,?_,by omega⟩
      simp [St.le,e4,List.range_succ]
  · have:j=39:=by
      have hf:∀ k:Fin 40,(chN k != 0)=false→k.1=39:=by decide
      exact hf ⟨j,by omega⟩ h
    subst this
    simp -dsimp [chL]
theorem chL_len (j:Nat):(chL j).length=j:=by simp [chL]
theorem chL_at (n k:Nat) (h:k<n):((chL n).map fun x=>[i64 x])[k]? = some [i64 (chN (k+1))]:=by
  simp [chL,h]
theorem ch4:∀ k:Fin 40,0≤chN (k+1)∧(5≤chN (k+1)↔k.1<38):=by decide +kernel
def nRight:List Int:=chL 38
set_option maxRecDepth 4000 in
set_option maxHeartbeats 16000000 in
theorem nodes_05 (SI:SortsI):Con Tryz.prog 239 [.agg [i64 0,i64 5]] [.c (.sl true []),.c (.sl false (nRight.map fun x=>[i64 x])),.c (i64 0)]:=by
  refine Con.frz (rs:=[.c (.sl true []),.fr false 1 (nRight.map fun x=>[i64 x]) 0,.c (i64 0)]) ?_ 1 rfl
  refine spec_of Tryz.func239 rfl (by kernel_rfl) (by simp [Tryz.f239]) (fun w0 K0=>vx_ok (H:=fun i=>i == 16 || i == 18) _ _ _ (by kernel_rfl) ?_)
  simp only [Tryz.f239]
  simp -dsimp
  have hc:checkOf ⟨0,5⟩=0:=by decide
  refine VC.mk _ (check_at _ ⟨0,5⟩ rfl) ?_
  have w1:IntKind.i64.wrap 4=4:=by decide
  simp -dsimp [hc,w1]
  refine VL.rounds 3 (by kernel_rfl) ?_
  simp -dsimp
  refine VC.mk _ way_0 ?_
  simp -dsimp [maxLen]
  refine VL.rounds 2 (by kernel_rfl) ?_
  simp -dsimp
  refine VC.mk _ way_4 ?_
  have hL:(chL 39).map (fun x=>[i64 x])++[[i64 0]]=(chL 40).map fun x=>[i64 x]:=rfl
  simp -dsimp [maxLen,hL,chL_len]
  refine VL.loop (ι:=Nat) (fun k=>⟨[(31,.c (i64 k)),(30,.c (i64 40)),(29,.own 1728 40),(22,.agg [i64 0,i64 4]),(23,.c (i64 1)),(1,.ptr 64 0),(2,.ptr 128 0),(3,.ptr 192 0)],
    [(1728,some (.arr false 1 ((chL 40).map fun x=>[i64 x]) 0)),(64,some (.box false [.c (i64 0),.c (i64 5)])),(128,some (.box false [.own 129 0])),(129,some (.arr true 0 [] 0)),(192,some (.box false [.own 193 (min k 38)])),(193,some (.arr (decide (k=0)) (if k=0 then 0 else 1) ((chL (min k 38)).map fun x=>[i64 x]) 0))]⟩) (fun k=>k≤40) (fun k=>40-k) 0 (by kernel_rfl) (by decide) ?_ ?_
  · simp [St.le,chL]
  · intro k hk
    simp -dsimp [chL_len]
    refine VIf.mk (fun h=>?_) (fun h=>?_)
    · have hk':k<40:=by simp at h;omega
      have ha:=chL_at 40 k hk'
      have g1:=ch4 ⟨k,hk'⟩
      simp only at g1
      simp -dsimp [chL_len,ha]
      refine ⟨hk',VIf.mk (fun h1=>?_) (fun h1=>?_)⟩
      · simp at h1;omega
      simp -dsimp
      refine VIf.mk (fun h2=>?_) (fun h2=>?_)
      · have hk8:k<38:=by
          have:=g1.2
          simp at h2
          omega
        have m1:min k 38=k:=by omega
        have m2:min (k+1) 38=k+1:=by omega
        simp -dsimp [chL_len,m1,maxLen]
        refine ⟨by omega,k+1,by omega,?_,by omega⟩
        simp [St.le,m2,chL_snoc]
        exact IntWalk.i64_in _ (by omega)
      · have hk8:¬ k<38:=by
          have:=g1.2
          simp at h2
          omega
        have hk0:k≠0:=by omega
        have m1:min k 38=38:=by omega
        have m2:min (k+1) 38=38:=by omega
        simp -dsimp
        refine ⟨k+1,by omega,?_,by omega⟩
        simp [St.le,m1,m2,hk0]
        exact IntWalk.i64_in _ (by omega)
    · have hk':k=40:=by simp at h;omega
      subst hk'
      simp -dsimp [chL_len]
      refine VL.hand (by kernel_rfl) ?_
      refine VRS.bs2 128 192 false false [.own 129 0] [.own 193 38] rfl rfl rfl rfl (el:=352) (z:=.pointer none) (by kernel_rfl) (by kernel_rfl) (by kernel_rfl) (by kernel_rfl) (by decide) (by decide) ?_
      simp -dsimp
      refine VRS.lenM 3520 1 [[.ptr 128 0],[.ptr 192 0]] rfl rfl (by kernel_rfl) ?_
      refine VRS.fin ?_
      simp -dsimp
      refine VL.roundsX 3 (fun i=>i == 18) (by kernel_rfl) ?_
      simp -dsimp
      refine VL.hand (by kernel_rfl) ?_
      refine VRS.ixM 3520 0 1 [[.ptr 128 0],[.ptr 192 0]] rfl rfl rfl rfl (by decide) (by kernel_rfl) ?_
      refine VRS.ldM (n:=1) 3520 0 0 1 [[.ptr 128 0],[.ptr 192 0]] [.ptr 128 0] (.ptr 128 0) rfl rfl rfl rfl (by kernel_rfl) ?_
      refine VRS.fin ?_
      simp -dsimp
      refine VCL.snap ?_
      simp -dsimp
      refine VC.mk _ SI.nil ?_
      simp -dsimp
      refine VCL.snap ?_
      simp -dsimp
      refine VC.mk _ SI.cnil ?_
      simp -dsimp
      refine VL.hand (by kernel_rfl) ?_
      refine VRS.ixM 3520 1 1 [[.ptr 128 0],[.ptr 192 0]] rfl rfl rfl rfl (by decide) (by kernel_rfl) ?_
      refine VRS.ldM (n:=1) 3520 1 0 1 [[.ptr 128 0],[.ptr 192 0]] [.ptr 192 0] (.ptr 192 0) rfl rfl rfl rfl (by kernel_rfl) ?_
      refine VRS.fin ?_
      simp -dsimp
      have hcs:=SI.con (chL 38) (by rw [chL_len];decide)
      have hs:sortI (chL 38)=chL 38:=List.mergeSort_of_pairwise (by decide +kernel)
      have hcc:=SI.cmp (chL 38) (by rw [chL_len];decide)
      have hc2:Go.Lib.compact (chL 38)=chL 38:=by decide +kernel
      rw [hs] at hcs
      rw [hc2] at hcc
      simp only [chL_len,if_true] at hcs hcc
      refine VCL.lend (rowI 1 (chL 38)) (rowI 1 (chL 38)) [.own 1 38] _ _ (fun _=>193) [] ⟨hcs,?_,?_,?_,?_,?_,?_,?_⟩ ?_
      · simp [renSs,renS]
      · simp [rowI,renR,ints]
      · simp [rowI]
      · simp [rowI]
      · simp [rowI,Res.nam]
      · simp [S.nams]
      · simp [rowI,lk,keptP,ints]
        exact ⟨1,_,⟨rfl,rfl⟩,_,⟨rfl,rfl⟩,by simp [chL_len],by simp [chL_len]⟩
      simp -dsimp [rowI,retS,renSs,renS,renR]
      refine VCL.lend (rowI 1 (chL 38)) (rowI 1 (chL 38)) [.own 1 38] _ _ (fun _=>193) [] ⟨hcc,?_,?_,?_,?_,?_,?_,?_⟩ ?_
      · simp [renSs,renS]
      · simp [rowI,renR,ints]
      · simp [rowI]
      · simp [rowI]
      · simp [rowI,Res.nam]
      · simp [S.nams,S.nam]
        exact ⟨_,List.mem_singleton.2 rfl⟩
      · simp [rowI,lk,keptP,ints]
        exact ⟨1,_,⟨rfl,rfl⟩,_,⟨rfl,rfl⟩,by simp [chL_len],by simp [chL_len]⟩
      simp -dsimp [rowI,retS,renSs,renS,renR,chL_len]
      exact ⟨rfl,chL_len 38⟩
def kL:List UInt8:=keyS 8 3 9223372036854775808
def kU:List UInt8:=keyS 8 9 9223372036854775808
def rtD:List (Nat × Res):=[(1,.box false [.c (.dp (trC kL 0)),.c (.dp (trC kU 0)),.mp 6]),(6,.map (.ents [(.int .i64 0,[.c (i64 3),.c (i64 9)])]))]
theorem chM1:∀ k:Fin 38,chN (k+1)=((2 ^ (k.1+3):Nat):Int)∧(2 ^ (k.1+3):Nat)≤9223372036854775807:=by decide +kernel
theorem chM2:∀ k:Fin 38,k.1≠0→Op.bytesLess kL (keyS (2 ^ (k.1+3)) 0 0)=true:=by decide +kernel
theorem w_first:ConW Tryz.prog 252 (fun y=>[.c (.dp (ndC kL 0)),.c (str (keyS 0 0 0)),.c (str (keyS 5 0 0)),y]) [] 0 isKV (fun ys=>ys=[]):=walk_ge 0 kL 0 (keyS 0 0 0) (keyS 5 0 0) (by decide +kernel) (by decide +kernel) (by decide +kernel)
theorem w_hit:ConW Tryz.prog 252 (fun y=>[.c (.dp (ndC kL 0)),.c (str (keyS 8 0 0)),.c (str (keyS 8 5 0)),y]) [] 1 isKV (fun ys=>ys=[[.c (str kL),.c (i64 0)]]):=walk_hit kL 0 (keyS 8 0 0) (keyS 8 5 0) (by decide +kernel) (by decide +kernel) (by decide +kernel)
theorem w_no (k:Nat) (hk:k<38) (h0:k≠0):ConW Tryz.prog 252 (fun y=>[.c (.dp (ndC kL 0)),.c (str (keyS (2 ^ (k+3)) 0 0)),.c (str (keyS (2 ^ (k+3)) 5 0)),y]) [] 0 isKV (fun ys=>ys=[]):=walk_lt 0 kL 0 _ _ (chM2 ⟨k,hk⟩ h0)
theorem nR_at (k:Nat) (h:k<38):(nRight.map fun x=>[i64 x])[k]? = some [i64 ((2 ^ (k+3):Nat):Int)]:=by
  rw [show nRight=chL 38 from rfl,chL_at 38 k h,(chM1 ⟨k,h⟩).1]
theorem nR_len:nRight.length=38:=chL_len 38
set_option maxRecDepth 4000 in
set_option maxHeartbeats 32000000 in
theorem overlap_05 (SI:SortsI):ConB Tryz.prog 234 [.ptr 1 0,.agg [i64 0,i64 5]] rtD [.own 577 1,.c (i64 0)] [.ptr 1 0,.agg [i64 0,i64 5]] (rtD++[(577,.arr false 1 [[i64 0]] 0)]):=by
  refine spec_ofB 7 Tryz.func234 rfl (by kernel_rfl) (by simp [Tryz.f234]) (by simp [rtD]) rfl (fun w0 K0 uf=>vc_ok _ _ _ (by kernel_rfl) ?_)
  simp only [Tryz.f234]
  simp -dsimp [initB,initEnv,pinsOf,rtD]
  refine VC.mk _ (nodes_05 SI) ?_
  simp -dsimp
  refine VL.rounds 1 (by kernel_rfl) ?_
  simp -dsimp
  refine VL.draw (by kernel_rfl) [(0,false),(0,false),(2,false),(6,false),(14,false),(0,false),(32,false),(96,false),(0,false),(256,false),(992,false),(2047,true)] (by kernel_rfl) ?_
  simp -dsimp
  refine VCE.mk _ (keyM 0 0 (by decide) (by decide)) ?_
  simp -dsimp
  refine VCE.mk _ (keyM 5 0 (by decide) (by decide)) ?_
  simp -dsimp
  refine VCP.lend (oB true []) (oB true []) [.c (.dp (trC kL 0)),.c (str (keyS 0 0 0)),.c (str (keyS 5 0 0)),.ptr 5 0] _ _ (fun i=>if i=5 then 576 else 577) [577] ⟨takeNo kL 0 _ _ true [] w_first,?_,?_,?_,?_,?_,?_,?_⟩ ?_
  · simp [renSs,renS]
  · simp [oB,renR,renSs,renS]
  · simp [oB]
  · simp [oB]
  · simp [oB,Res.nam,S.nams,S.nam]
  · simp [S.nams]
  · simp [oB,lk,keptP]
  simp -dsimp [oB,retS,renSs,renS,renR]
  refine VL.loop (ι:=Nat) (fun k=>⟨[(60,.c (i64 k)),(59,.c (i64 38)),(58,.c (.sl false (nRight.map fun x=>[i64 x]))),(10,.fnp 240 [.ptr 576 0]),(9,.ptr 576 0),(3,.ptr 192 0),(0,.ptr 1 0)],
    [(576,some (.box false [.own 577 (if k=0 then 0 else 1)])),(577,some (.arr (decide (k=0)) (if k=0 then 0 else 1) (if k=0 then [] else [[i64 0]]) 0)),(192,some (.box false [.c (i64 0),.c (i64 5)])),(1,some (.box false [.c (.dp (trC kL 0)),.c (.dp (trC kU 0)),.mp 6])),(6,some (.map (.ents [(.int .i64 0,[.c (i64 3),.c (i64 9)])]))),(7,some (.pin (uf 0) (.ptr 1 0))),(8,some (.pin (uf 1) (.agg [i64 0,i64 5])))]⟩) (fun k=>k≤38) (fun k=>38-k) 0 (by kernel_rfl) (by decide) ?_ ?_
  · simp [St.le,nR_len,MB.clr,S.clr,S.clrs]
    rfl
  · intro k hk
    simp -dsimp
    refine VIf.mk (fun h=>?_) (fun h=>?_)
    · have hk':k<38:=by simp at h;omega
      have ha:=nR_at k hk'
      have hm:=(chM1 ⟨k,hk'⟩).2
      simp only at hm
      simp -dsimp [nR_len,ha]
      refine ⟨hk',VL.draw (by kernel_rfl) [(0,false),(0,false),(2,false),(6,false),(14,false),(0,false),(32,false),(0,false),(0,false),(256,false),(992,false),(2047,true)] (by kernel_rfl) ?_⟩
      simp -dsimp
      refine VCE.mk _ (keyM (2 ^ (k+3)) 0 hm (by decide)) ?_
      simp -dsimp
      refine VCE.mk _ (keyM (2 ^ (k+3)) 5 hm (by decide)) ?_
      simp -dsimp
      by_cases h0:k=0
      · subst h0
        refine VCP.lend (oB true []) (oB false [0]) [.c (.dp (trC kL 0)),.c (str (keyS 8 0 0)),.c (str (keyS 8 5 0)),.ptr 5 0] _ _ (fun i=>if i=5 then 576 else 577) [577] ⟨takeHit kL 0 _ _ w_hit,?_,?_,?_,?_,?_,?_,?_⟩ ?_
        · simp [renSs,renS]
        · simp [oB,renR,renSs,renS]
        · simp [oB]
        · simp [oB]
        · simp [oB,Res.nam,S.nams,S.nam]
        · simp [S.nams]
        · simp [oB,lk,keptP]
        simp -dsimp [oB,retS,renSs,renS,renR]
        refine ⟨1,by omega,?_,by omega⟩
        simp [St.le]
        rfl
      · refine VCP.lend (oB false [0]) (oB false [0]) [.c (.dp (trC kL 0)),.c (str (keyS (2 ^ (k+3)) 0 0)),.c (str (keyS (2 ^ (k+3)) 5 0)),.ptr 5 0] _ _ (fun i=>if i=5 then 576 else 577) [577] ⟨takeNo kL 0 _ _ false [0] (w_no k hk' h0),?_,?_,?_,?_,?_,?_,?_⟩ ?_
        · simp [renSs,renS]
        · simp [oB,renR,renSs,renS,h0]
        · simp [oB]
        · simp [oB]
        · simp [oB,Res.nam,S.nams,S.nam]
        · simp [S.nams]
        · simp [oB,lk,keptP]
        simp -dsimp [oB,retS,renSs,renS,renR]
        refine ⟨k+1,by omega,?_,by omega⟩
        simp [St.le]
        exact ⟨IntWalk.i64_in _ (by omega),rfl⟩
    · obtain rfl:k=38:=by simp at h;omega
      simp -dsimp
      have hcs:=SI.con [0] (by decide)
      have hs:sortI [0]=[0]:=List.mergeSort_of_pairwise (by decide)
      rw [hs] at hcs
      refine VCL.lend (rowI 1 [0]) (rowI 1 [0]) [.own 1 1] _ _ (fun _=>577) [] ⟨hcs,?_,?_,?_,?_,?_,?_,?_⟩ ?_
      · simp [renSs,renS]
      · simp [rowI,renR,ints]
      · simp [rowI]
      · simp [rowI]
      · simp [rowI,Res.nam]
      · simp [S.nams]
      · simp [rowI,lk,keptP,ints]
        exact ⟨1,_,⟨rfl,rfl⟩,_,⟨rfl,rfl⟩,rfl,rfl⟩
      simp -dsimp [rowI,retS,renSs,renS,renR]
      simp [rtD,resEnd,pinsEnd,ints]
end Go.Proofs.YtlphpbcafplnbaaGreat
