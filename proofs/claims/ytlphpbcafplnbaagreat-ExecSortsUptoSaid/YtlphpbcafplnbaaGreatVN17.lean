/- Contracts of functions of the seat, proved in a logic on data over the model (part VN17). -/
import Derived.Test.YtlphpbcafplnbaaGreatV22
import Derived.LoopN
import Derived.Test.YtlphpbcafplnbaaGreatV16
set_option linter.unusedSimpArgs false
set_option linter.unusedVariables false
namespace Go.VL
open Go.RowKit
def pinsOf (B0:Nat) (uf:Nat→Value):Nat→List S→List (Nat × Option Res)
  | _,[]=>[]
  | k,s::r=>(B0+k,some (.pin (uf k) s))::pinsOf B0 uf (k+1) r
def initB (B0:Nat) (args:List S) (b:List (Nat × Res)) (uf:Nat→Value):St:=⟨initEnv 0 args,(b.map fun p=>(p.1,some p.2))++pinsOf B0 uf 0 args⟩
def pinsEnd (B0:Nat) (st:St) (uf:Nat→Value):Nat→List S→Prop
  | _,[]=>True
  | k,s::r=>st.rs (B0+k)=some (.pin (uf k) s)∧pinsEnd B0 st uf (k+1) r
def resEnd (st:St):List (Nat × Res)→Prop
  | []=>True
  | p::r=>st.rs p.1=some p.2∧resEnd st r
def retQB (B0:Nat) (P:Program) (fn:Func) (rs as1:List S) (b':List (Nat × Res)) (uf:Nat→Value):Exit→St→Prop
  | .normal,st=>rvs P st fn.results.toList fun ss st'=>ss=rs∧resEnd st' b'∧pinsEnd B0 st' uf 0 as1
  | .ret,st=>rvs P st fn.results.toList fun ss st'=>ss=rs∧resEnd st' b'∧pinsEnd B0 st' uf 0 as1
  | _,_=>False
theorem look_pins (B0:Nat) (uf:Nat→Value):∀ (l:List S) (k i:Nat) ,vlook none (pinsOf B0 uf k l) i=if h:B0+k≤i∧i<B0+k+l.length then some (.pin (uf (i-B0)) (l[i-B0-k]'(by omega))) else none
  | [],k,i=>by simp [pinsOf]
  | s::r,k,i=>by
    rw [pinsOf,vlook,look_pins B0 uf r (k+1) i]
    by_cases h:B0+k=i
    · subst h
      simp
    · have h':(B0+k == i)=false:=by simpa using h
      rw [h',cond_false]
      by_cases h2:B0+(k+1)≤i∧i<B0+(k+1)+r.length
      · rw [dif_pos h2,dif_pos (by simp only [List.length_cons];omega)]
        congr 2
        have:i-B0-k=(i-B0-(k+1))+1:=by omega
        simp only [this,List.getElem_cons_succ]
      · rw [dif_neg h2,dif_neg (by simp only [List.length_cons];omega)]
theorem look_lk (b:List (Nat × Res)) (l:List (Nat × Option Res)) (i:Nat):vlook none ((b.map fun p=>(p.1,some p.2))++l) i=if (lk b i).isSome then lk b i else vlook none l i:=by
  induction b with
  | nil=>simp [lk]
  | cons p b ih =>
    unfold lk at ih ⊢
    simp only [List.map_cons,List.cons_append,vlook]
    cases p.1 == i with
    | true=>simp
    | false=>simpa using ih
theorem lk_lt {B0:Nat} {b:List (Nat × Res)} (h:∀ p∈b,p.1<B0) {i:Nat} {r:Res} (hi:lk b i=some r):i<B0:=h _ (lk_mem hi)
theorem rs_initB (B0:Nat) (args:List S) (b:List (Nat × Res)) (uf:Nat→Value) (hb:∀ p∈b,p.1<B0) (i:Nat):(initB B0 args b uf).rs i=if i<B0 then lk b i else (args[i-B0]?).map fun s=>.pin (uf (i-B0)) s:=by
  unfold St.rs initB
  rw [look_lk,look_pins]
  by_cases hi:i<B0
  · rw [if_pos hi]
    cases h:lk b i with
    | none=>rw [if_neg (by simp),dif_neg (by omega)]
    | some r=>rw [if_pos (by simp)]
  · rw [if_neg hi]
    have:lk b i=none:=by
      cases h:lk b i with
      | none=>rfl
      | some r=>exact absurd (lk_lt hb h) hi
    rw [this,if_neg (by simp)]
    by_cases h2:i-B0<args.length
    · rw [dif_pos (by omega),List.getElem?_eq_getElem h2];rfl
    · rw [dif_neg (by omega),List.getElem?_eq_none (by omega)];rfl
theorem resEnd_ok {st:St} : ∀ {b:List (Nat × Res)},resEnd st b→∀ i r,lk b i=some r→st.rs i=some r
  | [],_,i,r,h=>by simp [lk] at h
  | p::b,h,i,r,hi=>by
    obtain ⟨h1,h2⟩:=h
    unfold lk at hi
    simp only [List.map_cons,vlook] at hi
    cases hk:p.1 == i with
    | true=>rw [hk] at hi;simp at hi hk;subst hk;subst hi;exact h1
    | false=>rw [hk] at hi;exact resEnd_ok h2 i r hi
theorem pinsEnd_ok {B0:Nat} {st:St} {uf:Nat→Value} : ∀ {l:List S} {k:Nat},pinsEnd B0 st uf k l→∀ j s,l[j]? = some s→st.rs (B0+(k+j))=some (.pin (uf (k+j)) s)
  | [],_,_,j,s,h=>by simp at h
  | x::l,k,h,j,s,hj=>by
    obtain ⟨h1,h2⟩:=h
    cases j with
    | zero=>simp at hj;subst hj;exact h1
    | succ j=>have:=pinsEnd_ok h2 j s (by simpa using hj);rw [show k+(j+1)=k+1+j by omega];exact this
section
variable {P:Program}
theorem spec_ofB (B0:Nat) {f:FuncId} {fn:Func} {c:Code} {args rs as1:List S} {b b':List (Nat × Res)} (hf:P.funcs[f]? = some fn) (hb:fn.body=some c) (hc:callable P f=true) (hn:args.length≤fn.ntmps) (hbn:∀ p∈b,p.1<B0) (hlen:as1.length=args.length)
    (hv:∀ w0 K0 uf,VW P w0 K0 fn.ntmps c (initB B0 args b uf) (retQB B0 P fn rs as1 b' uf)):ConB P f args b rs as1 b':=by
  refine ⟨hc,fun w g us hM hargs=>?_⟩
  obtain ⟨hl,hs⟩:=(SRs_iff _ _).1 hargs
  let uf:Nat→Value:=fun k=>us.getD k undef
  let g1:G:=⟨g.K,fun i=>if i<B0 then g.loc i else undef⟩
  have hcmp:∀ j,Cmp g (lk b) g1 (initB B0 args b uf).rs j:=by
    intro j
    rw [show Cmp g (lk b) g1 (initB B0 args b uf).rs j=Cmp g (lk b) g1 (initB B0 args b uf).rs j from rfl]
    by_cases hj:j<B0
    · have e:=rs_initB B0 args b uf hbn j
      rw [if_pos hj] at e
      exact Cmp.same e (by show (if j<B0 then g.loc j else undef)=_;rw [if_pos hj])
    · have e:=rs_initB B0 args b uf hbn j
      rw [if_neg hj] at e
      refine ⟨fun fz ss q=>?_,fun nil sz xs fx q=>?_,fun kvs q=>?_⟩
      · rw [e] at q;cases h:args[j-B0]? <;> rw [h] at q <;> simp at q
      · rw [e] at q;cases h:args[j-B0]? <;> rw [h] at q <;> simp at q
      · rw [e] at q;cases h:args[j-B0]? <;> rw [h] at q <;> simp at q
  have hk:Keeps g.K w g1.K w:=Keeps.refl _ _
  have hT:T w ⟨g.K,lent g b,[]⟩ fn.ntmps (initB B0 args b uf) { tmps:=us.toArray++Array.replicate (fn.ntmps-us.toArray.size) undef,defers:=[] } w g1:=by
    refine ⟨hM.below,hM.k0,hM.kold,hM.klt,fun i r hi=>?_,fun i j ri rj hi hj hne k h1 h2=>?_,fun t=>?_,(by simp;omega),rfl,hM.keep⟩
    · have e:=rs_initB B0 args b uf hbn i
      by_cases hi2:i<B0
      · rw [if_pos hi2] at e
        rw [e] at hi
        exact RR.mono' hk (by show (if i<B0 then g.loc i else undef)=_;rw [if_pos hi2]) (fun _ _=>⟨rfl,fun _ k=>k⟩) (fun j _=>hcmp j) (hM.res i r hi)
      · rw [if_neg hi2] at e
        rw [e] at hi
        simp only [Option.map_eq_some_iff] at hi
        obtain ⟨s,h1,rfl⟩:=hi
        refine ⟨by show (if i<B0 then g.loc i else undef)=_;rw [if_neg hi2],?_⟩
        have hlt:=(List.getElem?_eq_some_iff.1 h1).1
        refine SR.mono hk s _ (fun j _=>hcmp j) (hs _ s _ h1 ?_)
        simp only [uf,List.getD_eq_getElem?_getD]
        rw [List.getElem?_eq_getElem (by omega)];rfl
    · have low:∀ n r,(initB B0 args b uf).rs n=some r→∀ k,blk (g1.loc n)=some k→n<B0∧lk b n=some r∧blk (g.loc n)=some k:=by
        intro n r hn' k hk'
        by_cases hlt:n<B0
        · rw [rs_initB B0 args b uf hbn,if_pos hlt] at hn'
          refine ⟨hlt,hn',?_⟩
          rw [show g1.loc n=(if n<B0 then g.loc n else undef) from rfl,if_pos hlt] at hk'
          exact hk'
        · rw [show g1.loc n=(if n<B0 then g.loc n else undef) from rfl,if_neg hlt] at hk'
          cases hk'
      obtain ⟨_,a1,a2⟩:=low i ri hi k h1
      obtain ⟨_,a3,a4⟩:=low j rj hj k h2
      exact hM.dis i j ri rj a1 a3 hne k a2 a4
    · have hg:(initB B0 args b uf).get t=(args[t]?).getD .un:=by
        unfold St.get initB
        rw [vlook_init];simp
      rw [hg]
      cases e:args[t]? with
      | none=>simp [SR]
      | some s =>
        have hlt:=(List.getElem?_eq_some_iff.1 e).1
        refine SR.mono hk s _ (fun j _=>hcmp j) (hs t s _ e ?_)
        simp [Array.getD,hl,hlt]
        omega
  refine calls_of_wp hf hb (wp_mono (hv w _ uf _ w _ hT) fun e a' w' ⟨st',g',h1,h2⟩=>?_)
  have fin:(rvs P st' fn.results.toList fun ss st'=>ss=rs∧resEnd st' b'∧pinsEnd B0 st' uf 0 as1)→a'.defers=[]∧∃ v,(results fn a'.tmps).run P w' = .ok v w' ∧
      ∃ (vs:List Value) (g':G),(Ending.returned v) = .returned (retV vs)∧M w ⟨g.K,lent g b,[]⟩ (lk b') w' g'∧SRs g' w' (lk b') rs vs∧SRs g' w' (lk b') as1 us:=by
    intro hr
    obtain ⟨vs,ss,st'',g'',e1,⟨rfl,e2,e2'⟩,e3,e4,e5⟩:=rvs_ok _ st' g' _ h2 hr
    have hdown:∀ j,Cmp g'' st''.rs g'' (lk b') j:=fun j=>⟨fun fz ss q=>⟨⟨fz,ss,resEnd_ok e2 j _ q⟩,rfl⟩,fun nil sz xs fx q=>⟨⟨nil,xs,fx,resEnd_ok e2 j _ q,rfl⟩,rfl⟩,fun kvs q=>⟨⟨kvs,resEnd_ok e2 j _ q,rfl⟩,rfl⟩⟩
    have hM':M w ⟨g.K,lent g b,[]⟩ (lk b') w' g'':=by
      refine ⟨e3.below,e3.k0,e3.kold,e3.klt,fun i r hi=>?_,fun i j ri rj hi hj=>e3.dis i j ri rj (resEnd_ok e2 i _ hi) (resEnd_ok e2 j _ hj),e3.keep⟩
      exact RR.mono' (Keeps.refl _ _) rfl (fun _ _=>⟨rfl,fun _ k=>k⟩) (fun j _=>hdown j) (e3.res i r (resEnd_ok e2 i r hi))
    have has:SRs g'' w' (lk b') as1 us:=by
      rw [SRs_iff]
      refine ⟨by omega,fun k s u q1 q2=>?_⟩
      have h3:=e3.res _ _ (pinsEnd_ok e2' k s q1)
      have h4:=h3.2
      have:uf (0+k)=u:=by simp [uf,q2]
      rw [this] at h4
      exact SR.mono (Keeps.refl _ _) s u (fun j _=>hdown j) h4
    refine ⟨h2.defers,retV vs,?_,vs,g'',rfl,hM',SRs.mono (Keeps.refl _ _) _ _ (fun j _=>hdown j) e4,has⟩
    have hres:results fn a'.tmps=(do let vs ← fn.results.mapM (resOf a'.tmps);pure (if h:vs.size=1 then vs[0] else .tuple vs)):=by
      unfold results
      congr 1
    have hm:(fn.results.mapM (resOf a'.tmps)).run P w' = .ok vs.toArray w':=by
      rw [← Array.toArray_toList (xs:=fn.results),List.mapM_toArray]
      simp only [Sem.run_map,e1,Result.andThen_ok]
    rw [hres,Sem.run_bind,hm,Result.andThen_ok,Sem.run_pure]
    congr 1
    cases vs with
    | nil=>rfl
    | cons v r=>cases r with
      | nil=>rfl
      | cons _ _=>simp [retV]
  cases e with
  | normal=>exact fin h1
  | ret=>exact fin h1
  | _=>exact h1.elim
end
@[simp] theorem initB_eq (B0:Nat) (args:List S) (b:List (Nat × Res)) (uf:Nat→Value):initB B0 args b uf=⟨initEnv 0 args,(b.map fun p=>(p.1,some p.2))++pinsOf B0 uf 0 args⟩:=rfl
attribute [simp] pinsOf pinsEnd resEnd retQB
abbrev i64 (n:Int):C:=.v (.int .i64 n)
abbrev u64 (n:Int):C:=.v (.int .u64 n)
abbrev bln (b:Bool):C:=.v (.bool b)
abbrev str (l:List UInt8):C:=.v (.string ⟨l.toArray⟩)
@[simp] theorem size_str (l:List UInt8):(ByteArray.mk l.toArray).size=l.length:=rfl
@[simp] theorem str_beq (a b:List UInt8):((ByteArray.mk a.toArray) == (ByteArray.mk b.toArray))=(a == b):=by
  show (a.toArray == b.toArray)=(a == b)
  simp
def u8c (b:UInt8):List C:=[.v (.int .u8 b.toNat)]
@[simp] theorem len_u8c (b:UInt8):(u8c b).length=1:=rfl
theorem bytesOf_map (l:List UInt8):bytesOf (l.map u8c)=some l:=by
  induction l with
  | nil=>rfl
  | cons b l ih =>
    have hb:(b.toNat:Int)<256:=by have:=b.toNat_lt;omega
    simp [bytesOf,ih,u8c,byteOf,hb]
def frzR (st:St) (i:Nat):Option Res→St
  | some (.arr nil sz xs _)=>st.setR i (some (.arr nil sz xs xs.length))
  | _=>st
def St.frz:List Nat→St→St
  | [],st=>st
  | i::r,st=>St.frz r (frzR st i (st.rs i))
structure LI where
  k:Nat
  nl:Bool
  sz:Nat
section
variable {P:Program} (ops:Array Oper) (st:St) (d:Option Nat) (ty:TypeId) (p:String) (af:Array Edge) (K:St→Prop) (j:Nat) (want:Bool)
end
def nilB (r:Option Res) (i k N:Nat) (st1:St) (K:St→Prop):Prop :=
  match r with
  | some (.box false ss)=>ss[k]? = some (.c (.sl true []))∧K (st1.setR i (some (.box false (ss.set k (.own N 0)))))
  | _=>False
@[simp] theorem nilB_box (ss:List S) (i k N:Nat) (st1:St) (K:St→Prop):nilB (some (.box false ss)) i k N st1 K=(ss[k]? = some (.c (.sl true []))∧K (st1.setR i (some (.box false (ss.set k (.own N 0)))))):=rfl
theorem VL.to {P:Program} {w0:World} {K0:K0T} {nt:Nat} {c:Code} {st:St} {Q:Exit→St→Prop} (st':St) (hle:st.le st') (h:VL P w0 K0 nt c st' Q .mk .mk):VL P w0 K0 nt c st Q .mk .mk :=
  fun a w g hT=>h a w g (hT.weaken hle)
section
variable {P:Program} {w0:World} {K0:K0T} {nt:Nat} {st:St} {a:Act} {w:World} {g:G}
def someR (b:List (Nat × Res)):List (Nat × Option Res):=b.map fun p=>(p.1,some p.2)
theorem ConB.post {f:FuncId} {args rs as1 rs2 as2:List S} {b b' b2:List (Nat × Res)} (h:ConB P f args b rs as1 b')
    (H:∀ w0 K0 a w g,T w0 K0 2 ⟨[(0,.tup rs),(1,.tup as1)],someR b'⟩ a w g→∃ st2 g',T w0 K0 2 st2 a w g'∧st2.get 0 = .tup rs2∧st2.get 1 = .tup as2∧resEnd st2 b2) :
    ConB P f args b rs2 as2 b2:=by
  refine ⟨h.1,fun w g us hM hu=>(h.2 w g us hM hu).mono fun e w' ⟨vs,g',he,hM',hrs,has⟩=>?_⟩
  have hT:T w ⟨g.K,lent g b,[]⟩ 2 ⟨[(0,.tup rs),(1,.tup as1)],someR b'⟩ { tmps:=#[.tuple vs.toArray,.tuple us.toArray],defers:=[] } w' g':=by
    refine ⟨hM'.below,hM'.k0,hM'.kold,hM'.klt,hM'.res,hM'.dis,fun t=>?_,rfl,rfl,hM'.keep⟩
    match t with
    | 0=>show SR _ _ _ (.tup rs) (.tuple vs.toArray);rw [SR];exact ⟨vs,rfl,hrs⟩
    | 1=>show SR _ _ _ (.tup as1) (.tuple us.toArray);rw [SR];exact ⟨us,rfl,has⟩
    | t+2=>show SR _ _ _ .un _;rw [SR];trivial
  obtain ⟨st2,g2,h1,h2,h3,h4⟩:=H _ _ _ _ _ hT
  have hdown:∀ j,Cmp g2 st2.rs g2 (lk b2) j:=fun j=>⟨fun fz ss q=>⟨⟨fz,ss,resEnd_ok h4 j _ q⟩,rfl⟩,fun nil sz xs fx q=>⟨⟨nil,xs,fx,resEnd_ok h4 j _ q,rfl⟩,rfl⟩,fun kvs q=>⟨⟨kvs,resEnd_ok h4 j _ q,rfl⟩,rfl⟩⟩
  refine ⟨vs,g2,he,⟨h1.below,h1.k0,h1.kold,h1.klt,fun i r hi=>?_,fun i j ri rj hi hj=>h1.dis i j ri rj (resEnd_ok h4 i _ hi) (resEnd_ok h4 j _ hj),h1.keep⟩,?_,?_⟩
  · exact RR.mono' (Keeps.refl _ _) rfl (fun _ _=>⟨rfl,fun _ k=>k⟩) (fun j _=>hdown j) (h1.res i r (resEnd_ok h4 i r hi))
  · have:=h1.env 0
    rw [h2,show (#[Value.tuple vs.toArray,Value.tuple us.toArray]:Array Value).getD 0 undef = .tuple vs.toArray from rfl,SR] at this
    obtain ⟨vs',e,k⟩:=this
    have:vs'=vs:=by simpa using e.symm
    subst this
    exact SRs.mono (Keeps.refl _ _) _ _ (fun j _=>hdown j) k
  · have:=h1.env 1
    rw [h3,show (#[Value.tuple vs.toArray,Value.tuple us.toArray]:Array Value).getD 1 undef = .tuple us.toArray from rfl,SR] at this
    obtain ⟨vs',e,k⟩:=this
    have:vs'=us:=by simpa using e.symm
    subst this
    exact SRs.mono (Keeps.refl _ _) _ _ (fun j _=>hdown j) k
def St.ren (τ:Nat→Nat) (st:St):St:=⟨st.env.map fun p=>(p.1,renS τ p.2),st.res.map fun p=>(τ p.1,p.2.map (renR τ))⟩
theorem get_ren (τ:Nat→Nat) (st:St) (t:Nat):(st.ren τ).get t=renS τ (st.get t):=by
  obtain ⟨env,res⟩:=st
  unfold St.get St.ren
  simp only
  induction env with
  | nil=>rfl
  | cons p l ih =>
    simp only [List.map_cons,vlook]
    cases p.1 == t with
    | true=>rfl
    | false=>exact ih
theorem rs_ren {τ:Nat→Nat} (hτ:∀ i,τ (τ i)=i) (st:St) (i:Nat):(st.ren τ).rs i=(st.rs (τ i)).map (renR τ):=by
  obtain ⟨env,res⟩:=st
  unfold St.rs St.ren
  simp only
  induction res with
  | nil=>rfl
  | cons p l ih =>
    simp only [List.map_cons,vlook]
    have:(τ p.1 == i)=(p.1 == τ i):=by
      rw [Bool.eq_iff_iff,beq_iff_eq,beq_iff_eq]
      exact ⟨fun e=>by rw [← e,hτ],fun e=>by rw [e,hτ]⟩
    rw [this]
    cases p.1 == τ i with
    | true=>rfl
    | false=>exact ih
theorem T.ren {τ:Nat→Nat} (hτ:∀ i,τ (τ i)=i) (h:T w0 K0 nt st a w g):T w0 K0 nt (st.ren τ) a w ⟨g.K,fun i=>g.loc (τ i)⟩:=by
  have hR:∀ j,Ren2 τ g ⟨g.K,fun i=>g.loc (τ i)⟩ st.rs (st.ren τ).rs j:=fun j=>by
    refine ⟨fun r' hr'=>?_,by show g.loc (τ (τ j))=_;rw [hτ]⟩
    rw [rs_ren hτ,hτ,Option.map_eq_some_iff] at hr'
    obtain ⟨r,h1,h2⟩:=hr'
    exact ⟨r,h1,h2.symm⟩
  refine ⟨h.below,h.k0,h.kold,h.klt,fun i r hi=>?_,fun i j ri rj hi hj hne b hb=>?_,fun t=>?_,h.nt,h.defers,h.keep⟩
  · rw [rs_ren hτ,Option.map_eq_some_iff] at hi
    obtain ⟨r0,h1,rfl⟩:=hi
    have:=RR_ren2 (τ:=τ) (g0:=g) (g:=⟨g.K,fun i=>g.loc (τ i)⟩) (R0:=st.rs) (R:=(st.ren τ).rs) (B:=fun b=>¬ Old w0 K0 b) (B0:=fun b=>¬ Old w0 K0 b) rfl (i:=τ i) (fun j _=>hR j) (by show g.loc (τ (τ (τ i)))=_;rw [hτ]) (fun b _ hb=>hb) (h.res _ _ h1)
    rw [hτ] at this
    exact this
  · rw [rs_ren hτ,Option.map_eq_some_iff] at hi hj
    obtain ⟨r0,h1,_⟩:=hi
    obtain ⟨r1,h2,_⟩:=hj
    exact h.dis _ _ _ _ h1 h2 (fun e=>hne (by rw [← hτ i,e,hτ])) b hb
  · rw [get_ren]
    exact SR_ren2 (g0:=g) (g:=⟨g.K,fun i=>g.loc (τ i)⟩) rfl _ _ (fun j _=>hR j) (h.env t)
def swp (i j k:Nat):Nat:=if k=i then j else if k=j then i else k
theorem swp_swp (i j k:Nat):swp i j (swp i j k)=k:=by
  unfold swp
  by_cases h1:k=i
  · subst h1
    by_cases h2:j=k
    · subst h2;simp
    · simp [h2]
  · by_cases h2:k=j
    · subst h2;simp [h1]
    · simp [h1,h2]
theorem ConB.swap (i j:Nat) {f:FuncId} {args rs as1:List S} {b b':List (Nat × Res)} (h:ConB P f args b rs as1 b') {rs2 as2:List S} {b2:List (Nat × Res)} (h1:renSs (swp i j) rs=rs2) (h2:renSs (swp i j) as1=as2) (h3:resEnd (St.ren (swp i j) ⟨[],someR b'⟩) b2):ConB P f args b rs2 as2 b2:=by
  subst h1;subst h2
  refine h.post fun w0 K0 a w g hT=>⟨_,_,hT.ren (swp_swp i j),rfl,rfl,?_⟩
  have e:(St.ren (swp i j) ⟨[(0,.tup rs),(1,.tup as1)],someR b'⟩).rs=(St.ren (swp i j) ⟨[],someR b'⟩).rs:=rfl
  clear h hT
  induction b2 with
  | nil=>trivial
  | cons p r ih=>exact ⟨by rw [e];exact h3.1,ih h3.2⟩
end
theorem Con.frz {P:Program} {f:FuncId} {args:List S} {rs:List Rt} (h:Con P f args rs) (k:Nat) {nil:Bool} {sz:Nat} {xs:List (List C)} {fx:Nat} (hk:rs[k]? = some (.fr nil sz xs fx)) :
    Con P f args (rs.set k (.c (.sl nil xs))):=by
  refine fun w K us hK hu=>(h w K us hK hu).mono fun e w' ⟨vs,he,hb,K',q1,q2,q3,q4⟩=>⟨vs,he,hb,?_⟩
  obtain ⟨r1,r2,r3⟩:=q4
  have hkl:k<rs.length:=(List.getElem?_eq_some_iff.1 hk).1
  obtain ⟨v,hv⟩:∃ v,vs[k]? = some v:=⟨vs[k]'(by omega),List.getElem?_eq_getElem (by omega)⟩
  have hr:=r2 k _ v hk hv
  rcases hr with ⟨rfl,rfl,hl,_⟩ | ⟨rfl,b,cap,cur,E,hl,hB,hh,h4,h5,h6,h7,h8,h9⟩
  · refine ⟨K',q1,q2,q3,by simp [r1],fun j r u hj hu=>?_,fun i j r r' u u' hne hi hj hui huj f1 f2=>?_⟩
    · rw [List.getElem?_set] at hj
      by_cases e:k=j
      · subst e
        rw [if_pos rfl,if_pos hkl] at hj
        cases hj
        rw [hv] at hu
        cases hu
        rw [RtR,CR]
        exact .inl ⟨rfl,rfl,hl⟩
      · rw [if_neg e] at hj
        exact r2 j r u hj hu
    · have nk:∀ {j r},(rs.set k (.c (.sl true [])))[j]? = some r→isFr r=true→rs[j]? = some r:=fun {j r} hj hf=>by
        rw [List.getElem?_set] at hj
        by_cases e:k=j
        · subst e;rw [if_pos rfl,if_pos hkl] at hj;cases hj;cases hf
        · rw [if_neg e] at hj;exact hj
      exact r3 i j r r' u u' hne (nk hi f1) (nk hj f2) hui huj f1 f2
  · have hbl:b<w'.heap.size:=(Array.getElem?_eq_some_iff.1 hh).1
    have hl':v = .slice (some ⟨b,0,none⟩) xs.length cap:=hl
    refine ⟨fun b' o=>K' b' o∨(b'=b∧o<xs.length*sz),fun b' o hk=>.inl (q1 b' o hk),fun b' o hk hlt=>?_,fun b' o hk=>?_,by simp [r1],fun j r u hj hu=>?_,fun i j r r' u u' hne hi hj hui huj f1 f2=>?_⟩
    · rcases hk with hk | ⟨rfl,_⟩
      · exact q2 b' o hk hlt
      · omega
    · rcases hk with hk | ⟨rfl,_⟩
      · exact q3 b' o hk
      · exact hbl
    · have kp:Keeps K' w' (fun b' o=>K' b' o∨(b'=b∧o<xs.length*sz)) w':=⟨fun _ _ h=>.inl h,fun _ _ _=>rfl⟩
      rw [List.getElem?_set] at hj
      by_cases e:k=j
      · subst e
        rw [if_pos rfl,if_pos hkl] at hj
        cases hj
        rw [hv] at hu
        cases hu
        have:RR ⟨fun b' o=>K' b' o∨(b'=b∧o<xs.length*sz),fun _=>v⟩ w' (fun _=>none) (fun b=>w.heap.size≤b) 0 (.arr false sz xs xs.length):=by
          refine .inr ⟨rfl,b,cap,cur,E,hl,hB,hh,h4,h5,h6,Nat.le_refl _,h8.mono kp,fun o=>⟨fun hk=>?_,fun ho=>.inr ⟨rfl,ho⟩⟩⟩
          rcases hk with hk | ⟨_,hk⟩
          · have:=(h9 o).1 hk
            have:=Nat.mul_le_mul_right sz h7
            omega
          · exact hk
        rw [RtR]
        exact this.datum
      · rw [if_neg e] at hj
        have:=r2 j r u hj hu
        cases r with
        | c x=>rw [RtR] at this ⊢;exact CR.mono kp x u this
        | ag cs =>
          rw [RtR] at this ⊢
          obtain ⟨us',e1,e2⟩:=this
          exact ⟨us',e1,VR.mono kp cs us' e2⟩
        | fr nil2 sz2 xs2 fx2 =>
          rw [RtR] at this ⊢
          rcases this with this | ⟨g0,b2,cap2,cur2,E2,g1,g2,g3,g4,g5,g6,g7,g8,g9⟩
          · exact .inl this
          · have hne:b2≠b:=by
              rintro rfl
              have g1':u = .slice (some ⟨b2,0,none⟩) xs2.length cap2:=g1
              exact r3 k j _ _ v u e hk hj hv hu rfl rfl b2 (by rw [hl'];rfl) (by rw [g1'];rfl)
            refine .inr ⟨g0,b2,cap2,cur2,E2,g1,g2,g3,g4,g5,g6,g7,g8.mono kp,fun o=>⟨fun hk=>?_,fun ho=>.inl ((g9 o).2 ho)⟩⟩
            rcases hk with hk | ⟨e2,_⟩
            · exact (g9 o).1 hk
            · exact absurd e2 hne
    · have nk:∀ {j r},(rs.set k (.c (.sl false xs)))[j]? = some r→isFr r=true→rs[j]? = some r:=fun {j r} hj hf=>by
        rw [List.getElem?_set] at hj
        by_cases e:k=j
        · subst e;rw [if_pos rfl,if_pos hkl] at hj;cases hj;cases hf
        · rw [if_neg e] at hj;exact hj
      exact r3 i j r r' u u' hne (nk hi f1) (nk hj f2) hui huj f1 f2
def vrounds (P:Program) (w0:World) (K0:K0T) (nt:Nat) (c:Code) (Q:Exit→St→Prop):Nat→St→Prop
  | 0,_=>False
  | n+1,st=>vc P w0 K0 nt c st (seqQ (vrounds P w0 K0 nt c Q n) Q)
section
variable {P:Program} {w0:World} {K0:K0T} {nt:Nat}
theorem vrounds_ok {c:Code} {Q:Exit→St→Prop} (hok:codeOk nt c=true):∀ (n:Nat) (st:St),vrounds P w0 K0 nt c Q n st→∀ a w g,T w0 K0 nt st a w g →
    Code.rounds P c (fun e a w=>∃ st' g',Q e st'∧T w0 K0 nt st' a w g') n a w
  | 0,_,h,_,_,_,_=>h.elim
  | n+1,st,h,a,w,g,hT=>by
    rw [Code.rounds]
    refine wp_mono (vc_ok c st _ hok h a w g hT) fun e a' w' ⟨st',g',h1,h2⟩=>?_
    cases e with
    | normal=>exact vrounds_ok hok n st' h1 a' w' g' h2
    | _=>exact ⟨st',g',h1,h2⟩
theorem VL.rounds {c:Code} {st:St} {Q:Exit→St→Prop} {m1:Keep (Code.loop c)} {m2:Keep Q} (n:Nat) (hok:codeOk nt c=true) (h:vrounds P w0 K0 nt c Q n st):VL P w0 K0 nt (.loop c) st Q m1 m2 :=
  fun a w g hT=>wp_loop_rounds n (vrounds_ok hok n st h a w g hT)
@[simp] theorem vrounds_succ (c:Code) (Q:Exit→St→Prop) (n:Nat) (st:St):vrounds P w0 K0 nt c Q (n+1) st=vc P w0 K0 nt c st (seqQ (vrounds P w0 K0 nt c Q n) Q):=rfl
end
section
variable {P:Program} (ops:Array Oper) (st:St) (d:Option Nat) (ty:TypeId) (p:String) (af:Array Edge) (K:St→Prop) (j:Nat) (want:Bool)
theorem gs_nilCheck0 (x:Operand):vstep P ops st ⟨d,.nilCheck x,ty,p,af,some (j,want)⟩ K=goG (gsl ops st j want) [flagOf (st.ev x)] (pnil st (peel (st.ev x))) fun s=>K (st.putd d s):=by
  rw [ps_eq];rfl;simp;simp
@[simp ↓] theorem gs_nilCheck (x:Operand):vstep P ops st ⟨d,.nilCheck x,ty,p,af,some (j,want)⟩ K=force (tick (gsl ops st j want)) fun q=>force (tick [flagOf (st.ev x)]) fun fs=>force (tick (pnil st (peel (st.ev x)))) fun r=>goG q fs r fun s=>K (st.putd d s):=gs_nilCheck0 ops st d ty p af K j want x
@[simp] theorem pfieldAddr_un (t:TypeId) (f:Nat):pfieldAddr P st t f S.un=no:=by unfold pfieldAddr;split <;> rfl
@[simp] theorem pload_un (t:TypeId):pload P st t S.un=no:=by unfold pload;split <;> rfl
@[simp] theorem pbinS_un (o:BinOp) (t:TypeId) (y:S):pbinS P st o t S.un y=no:=rfl
end
def chainOf (pv:Value):List PanicEntry:=[{ v:=pv,recovered:=false }]
def ConP (P:Program) (f:FuncId) (args:List S) (pv:Value):Prop :=
  callable P f=true∧∀ (w:World) (K:Nat→Nat→Prop) (us:List Value),(∀ b o,K b o→b<w.heap.size)→DRs K w args us →
    Calls P f us.toArray w fun e w'=>e = .panicked (chainOf pv)∧BelowD w.heap.size w w'
def plainC:List C→Option (List Value)
  | []=>some []
  | .v x::r=>(plainC r).map (x :: ·)
  | _=>none
def vmi (P:Program) (st:St) (o:Oper) (K:St→Prop):Prop :=
  match o.guard,o.op,o.dst with
  | none,.makeInterface t x,some y =>
    match st.ev x with
    | .agg cs=>∃ us,plainC cs=some us∧isIface P t=false∧K (st.put y (.c (.v (.iface t (.agg us.toArray)))))
    | .c (.v u)=>isIface P t=false∧K (st.put y (.c (.v (.iface t u))))
    | _=>False
  | _,_,_=>False
def vpan (P:Program) (ops:Array Oper) (st:St) (o:Oper) (X:Value→St→Prop):Prop :=
  gflag ops st o.guard=some true∧(o.op.operands.toList.all fun x=>flagOf (st.ev x))=true ∧
  match o.op with
  | .panic x =>
    match peel (st.ev x) with
    | .c (.v (.iface t u))=>X (.iface t u) st
    | _=>False
  | .call c =>
    match c.callee with
    | .value f =>
      match peel (st.ev f) with
      | .c (.fn fid caps)=>∃ pv,(frozenDs st (c.args.toList.map fun x=>peel (st.ev x))).2∧ConP P fid ((frozenDs st (c.args.toList.map fun x=>peel (st.ev x))).1++caps.map .c) pv∧X pv st
      | _=>False
    | _=>False
  | _=>False
def vrp (P:Program) (ops:Array Oper):List Oper→St→(Value→St→Prop)→Prop
  | [],_,_=>False
  | o::r,st,X=>vpan P ops st o X∨(vmi P st o fun st'=>vrp P ops r st' X)∨(vstepL P ops st o fun st'=>vrp P ops r st' X)
section
variable {P:Program} {w0:World} {K0:K0T} {nt:Nat} {st:St} {a:Act} {w:World} {g:G} {ops:Array Oper}
end
theorem vw_seq {P:Program} {w0:World} {K0:K0T} {nt:Nat} {x y:Code} {st:St} {Q:Exit→St→Prop} (h:VW P w0 K0 nt x st (seqQ (fun st'=>VW P w0 K0 nt y st' Q) Q)):VW P w0 K0 nt (.seq x y) st Q:=fun a w g hT=>by
  refine wp_seq (wp_mono (h a w g hT) fun e a' w' ⟨st',g',h1,h2⟩=>?_)
  cases e with
  | normal=>exact h1 a' w' g' h2
  | _=>exact ⟨st',g',h1,h2⟩
theorem vw_cond {P:Program} {w0:World} {K0:K0T} {nt:Nat} {c:Operand} {x y:Code} {st:St} {Q:Exit→St→Prop} {b:Bool} (hb:st.ev c = .c (.v (.bool b))) (h1:b=true→VW P w0 K0 nt x st Q) (h2:b=false→VW P w0 K0 nt y st Q):VW P w0 K0 nt (.cond c x y) st Q:=fun a w g hT=>by
  have hc:=hT.ev c
  rw [hb] at hc
  exact wp_cond_split (SR_bool hc) (fun hb=>h1 hb a w g hT) (fun hb=>h2 hb a w g hT)
theorem vw_block {P:Program} {w0:World} {K0:K0T} {nt:Nat} {id:Nat} {c:Code} {st:St} {Q:Exit→St→Prop} (h:VW P w0 K0 nt c st (blkQ id Q)):VW P w0 K0 nt (.block id c) st Q:=fun a w g hT=>by
  refine wp_block (wp_mono (h a w g hT) fun e a' w' ⟨st',g',h1,h2⟩=>?_)
  cases e with
  | exit id' =>
    simp only [Exit.inBlock]
    simp only [blkQ] at h1
    split
    · rename_i e;rw [if_pos e] at h1;exact ⟨st',g',h1,h2⟩
    · rename_i e;rw [if_neg e] at h1;exact ⟨st',g',h1,h2⟩
  | _=>exact ⟨st',g',h1,h2⟩
def vx (P:Program) (w0:World) (K0:K0T) (nt:Nat) (H:Nat→Bool):Code→St→(Exit→St→Prop)→Prop
  | .skip,st,Q=>Q .normal st
  | .label _,st,Q=>Q .normal st
  | .region id ops d,st,Q=>bif d || H id then VW P w0 K0 nt (.region id ops d) st Q else vr P ops ops.toList st (Q .normal)
  | .seq x y,st,Q=>vx P w0 K0 nt H x st (seqQ (fun st'=>vx P w0 K0 nt H y st' Q) Q)
  | .cond c x y,st,Q =>
    match st.ev c with
    | .c (.v (.bool b))=>(b=true→vx P w0 K0 nt H x st Q)∧(b=false→vx P w0 K0 nt H y st Q)
    | _=>False
  | .block id c,st,Q=>vx P w0 K0 nt H c st (blkQ id Q)
  | .exit id,st,Q=>Q (.exit id) st
  | .ret,st,Q=>Q .ret st
  | .loop c,st,Q=>VW P w0 K0 nt (.loop c) st Q
  | .rangeFunc f p as b,st,Q=>VW P w0 K0 nt (.rangeFunc f p as b) st Q
  | .scope b,st,Q=>VW P w0 K0 nt (.scope b) st Q
  | .goto l,st,Q=>VW P w0 K0 nt (.goto l) st Q
  | .refuse why,st,Q=>VW P w0 K0 nt (.refuse why) st Q
theorem vx_ok {P:Program} {w0:World} {K0:K0T} {nt:Nat} {H:Nat→Bool} : ∀ (c:Code) (st:St) (Q:Exit→St→Prop),codeOk nt c=true→vx P w0 K0 nt H c st Q→VW P w0 K0 nt c st Q
  | .skip,st,Q,_,h=>fun a w g hT=>wp_skip ⟨st,g,h,hT⟩
  | .label l,st,Q,_,h=>fun a w g hT=>wp_label ⟨st,g,h,hT⟩
  | .region id ops d,st,Q,hok,h=>fun a w g hT=>by
    rw [vx] at h
    cases hd:(d || H id) with
    | true=>rw [hd] at h;exact h a w g hT
    | false =>
      rw [hd] at h
      have:d=false:=by cases d <;> simp_all
      subst this
      exact wp_region_list (vr_ok ops.toList st a w g _ hT (by simpa [codeOk] using hok) h (fun st' a' w' g' h1 h2=>⟨st',g',h1,h2⟩))
  | .seq x y,st,Q,hok,h=>by
    simp only [codeOk,Bool.and_eq_true] at hok
    rw [vx] at h
    refine vw_seq (vw_mono (vx_ok x st _ hok.1 h) fun e st' h1=>?_)
    cases e with
    | normal=>exact vx_ok y st' Q hok.2 h1
    | _=>exact h1
  | .cond c x y,st,Q,hok,h=>by
    simp only [codeOk,Bool.and_eq_true] at hok
    rw [vx] at h
    split at h
    · rename_i b hb
      exact vw_cond hb (fun hb=>vx_ok x st Q hok.1 (h.1 hb)) (fun hb=>vx_ok y st Q hok.2 (h.2 hb))
    · exact h.elim
  | .block id c,st,Q,hok,h=>by
    rw [vx] at h
    exact vw_block (vx_ok c st _ (by simpa [codeOk] using hok) h)
  | .exit id,st,Q,_,h=>fun a w g hT=>wp_exit ⟨st,g,h,hT⟩
  | .ret,st,Q,_,h=>fun a w g hT=>wp_ret ⟨st,g,h,hT⟩
  | .loop c,st,Q,_,h=>by rw [vx] at h;exact h
  | .rangeFunc f p as b,st,Q,_,h=>by rw [vx] at h;exact h
  | .scope b,st,Q,_,h=>by rw [vx] at h;exact h
  | .goto l,st,Q,_,h=>by rw [vx] at h;exact h
  | .refuse why,st,Q,_,h=>by rw [vx] at h;exact h
section
variable {P:Program} {w0:World} {K0:K0T} {nt:Nat} {H:Nat→Bool}
@[simp ↓] theorem vx_skip (st:St) (Q:Exit→St→Prop):vx P w0 K0 nt H .skip st Q=Q .normal st:=by rw [vx]
def vxR (P:Program) (w0:World) (K0:K0T) (nt:Nat) (b:Bool) (id:Nat) (ops:List Oper) (st:St) (Q:Exit→St→Prop):Prop :=
  bif b then VW P w0 K0 nt (.region id ops.toArray false) st Q else vr P ops.toArray ops st (Q .normal)
@[simp ↓] theorem vx_region (id:Nat) (ops:List Oper) (st:St) (Q:Exit→St→Prop):vx P w0 K0 nt H (.region id ops.toArray false) st Q=force (tick (H id)) fun b=>vxR P w0 K0 nt b id ops st Q:=by rw [vx];rfl
@[simp ↓] theorem vxR_true (id:Nat) (ops:List Oper) (st:St) (Q:Exit→St→Prop):vxR P w0 K0 nt true id ops st Q=VL P w0 K0 nt (.region id ops.toArray false) (tick st) Q .mk .mk:=rfl
@[simp ↓] theorem vxR_false (id:Nat) (ops:List Oper) (st:St) (Q:Exit→St→Prop):vxR P w0 K0 nt false id ops st Q=vr P ops.toArray ops st (Q .normal):=rfl
@[simp ↓] theorem vx_draw (id:Nat) (ops:Array Oper) (st:St) (Q:Exit→St→Prop):vx P w0 K0 nt H (.region id ops true) st Q=VL P w0 K0 nt (.region id ops true) (tick st) Q .mk .mk:=by rw [vx];rfl
@[simp ↓] theorem vx_loop (c:Code) (st:St) (Q:Exit→St→Prop):vx P w0 K0 nt H (.loop c) st Q=VL P w0 K0 nt (.loop c) (tick st) Q .mk .mk:=by rw [vx];rfl
@[simp ↓] theorem vx_seq (x y:Code) (st:St) (Q:Exit→St→Prop):vx P w0 K0 nt H (.seq x y) st Q=vx P w0 K0 nt H x st (seqQ (fun st'=>vx P w0 K0 nt H y st' Q) Q):=by rw [vx]
@[simp ↓] theorem vx_cond (c:Operand) (x y:Code) (st:St) (Q:Exit→St→Prop):vx P w0 K0 nt H (.cond c x y) st Q=force (tick (st.ev c)) fun s=>vcond s (vx P w0 K0 nt H x st Q) (vx P w0 K0 nt H y st Q):=by
  rw [vx];unfold force tick vcond;split <;> simp_all
@[simp ↓] theorem vx_block (id:Nat) (c:Code) (st:St) (Q:Exit→St→Prop):vx P w0 K0 nt H (.block id c) st Q=vx P w0 K0 nt H c st (blkQ id Q):=by rw [vx]
@[simp ↓] theorem vx_exit (id:Nat) (st:St) (Q:Exit→St→Prop):vx P w0 K0 nt H (.exit id) st Q=Q (.exit id) st:=by rw [vx]
@[simp ↓] theorem vx_ret (st:St) (Q:Exit→St→Prop):vx P w0 K0 nt H .ret st Q=Q .ret st:=by rw [vx]
@[simp ↓] theorem seqQ_panic (k:St→Prop) (Q:Exit→St→Prop) (st:St) (ch:List PanicEntry):seqQ k Q (.panic ch) st=Q (.panic ch) st:=rfl
@[simp ↓] theorem blkQ_panic (id:Nat) (Q:Exit→St→Prop) (st:St) (ch:List PanicEntry):blkQ id Q (.panic ch) st=Q (.panic ch) st:=rfl
def VPN (P:Program) (ops:Array Oper) (l:List Oper) (st:St) (X:Value→St→Prop) (_:Keep X):Prop:=vrp P ops l st X
def vrq (P:Program) (ops:Array Oper):Nat→List Oper→St→(Value→St→Prop)→Prop
  | 0,l,st,X=>VPN P ops l st X .mk
  | _+1,[],_,_=>False
  | n+1,o::r,st,X=>vstepL P ops st o fun st'=>vrq P ops n r st' X
@[simp ↓] theorem vrq_zero (ops:Array Oper) (l:List Oper) (st:St) (X:Value→St→Prop):vrq P ops 0 l st X=VPN P ops l (tick st) X .mk:=by unfold vrq;rfl
@[simp ↓] theorem vrq_succ (ops:Array Oper) (n:Nat) (o:Oper) (l:List Oper) (st:St) (X:Value→St→Prop):vrq P ops (n+1) (o::l) st X=force (tick st) fun st=>vstepL P ops st o fun st'=>vrq P ops n l st' X:=rfl
end
def vpanC (P:Program) (st:St) (o:Oper) (X:Value→Prop):Prop :=
  o.guard=none∧match o.op with
  | .call c =>
    match c.callee with
    | .value f =>
      match st.ev f with
      | .c (.fn fid caps)=>(c.args.toList.all fun x=>dataS (st.ev x))=true∧∃ pv,ConP P fid (c.args.toList.map st.ev++caps.map .c) pv∧X pv
      | _=>False
    | _=>False
  | _=>False
section
variable {P:Program} {w0:World} {K0:K0T} {nt:Nat} {ops:Array Oper} {mk:Nat→Nat} {bar:Nat→Bool} {Q:Exit→Act→World→Prop}
def vdp (P:Program) (ops:Array Oper):Nat→List Oper→List (Nat × Bool)→Nat→St→List Rec→St→(Value→Prop)→Prop
  | 0,o::_,_,_,_,_,cur,X=>vpanC P cur o X
  | n+1,o::r,(m,_)::pl,j,st0,l,cur,X =>
    veff P ops (restr cur (rdOf cur o)) o fun e=>chk m st0 l e (rdOf cur o)=true∧vdp P ops n r pl (j+1) st0 (l++[⟨j,e,rdOf cur o⟩]) (cur.app e) X
  | _,_,_,_,_,_,_,_=>False
end
section
variable {P:Program} {w0:World} {K0:K0T} {nt:Nat}
def VPC (P:Program) (st:St) (o:Oper) (X:Value→Prop) (_:Keep X):Prop:=vpanC P st o X
@[simp ↓] theorem vdp_zero (ops:Array Oper) (o:Oper) (r:List Oper) (pl:List (Nat × Bool)) (j:Nat) (st0:St) (l:List Rec) (cur:St) (X:Value→Prop):vdp P ops 0 (o::r) pl j st0 l cur X=VPC P (tick cur) o X .mk:=by unfold vdp;rfl
@[simp ↓] theorem vdp_op (ops:Array Oper) (n:Nat) (o:Oper) (r:List Oper) (m:Nat) (b:Bool) (pl:List (Nat × Bool)) (j:Nat) (st0:St) (l:List Rec) (cur:St) (X:Value→Prop) :
    vdp P ops (n+1) (o::r) ((m,b)::pl) j st0 l cur X=force (tick cur) fun cur=>force (tick (rdOf cur o)) fun rd=>force (tick (restr cur rd)) fun sR=>veff P ops sR o fun e=>force (tick e) fun e=>chk m st0 l e rd=true∧force (tick (l++[⟨j,e,rd⟩])) fun l=>vdp P ops n r pl (j+1) st0 l (cur.app e) X:=by rw [vdp];rfl
end
theorem VL.ren {P:Program} {w0:World} {K0:K0T} {nt:Nat} {c:Code} {st:St} {Q:Exit→St→Prop} (y i N n:Nat) (nil:Bool) (sz:Nat) (xs:List (List C)) (fx:Nat) (E:List (Nat × S)) (R:List (Nat × Option Res))
    (hle:st.le ⟨(y,.own i n)::E,(i,some (.arr nil sz xs fx))::R⟩) (hn:xs.length=n)
    (hE:∀ p∈E,p.1≠y∧p.2.clr i=p.2∧p.2.men N=false)
    (hR:∀ p∈R,p.1≠N∧p.1≠i∧∀ r,p.2=some r→r.clr i=r∧r.men N=false)
    (h:VL P w0 K0 nt c ⟨(y,.own N n)::E,(N,some (.arr nil sz xs fx))::R⟩ Q .mk .mk):VL P w0 K0 nt c st Q .mk .mk:=by
  have look:∀ {α:Type} (d:α) (l:List (Nat × α)) (t:Nat),vlook d l t=d∨∃ p∈l,p.1=t∧vlook d l t=p.2:=by
    intro α d l t
    induction l with
    | nil=>exact .inl rfl
    | cons p r ih =>
      rw [vlook_cons]
      by_cases e:p.1=t
      · rw [show (p.1 == t)=true by simpa using e]
        exact .inr ⟨p,by simp,e,rfl⟩
      · rw [show (p.1 == t)=false by simpa using e]
        rcases ih with q | ⟨p',q1,q2,q3⟩
        · exact .inl q
        · exact .inr ⟨p',by simp [q1],q2,q3⟩
  intro a w g hT
  have hT1:=hT.weaken hle
  by_cases hiN:i=N
  · subst hiN
    exact h a w g hT1
  have hNi:N≠i:=fun e=>hiN e.symm
  have hT2:=T.reown (X:=⟨(y,.own N n)::E,(N,some (.arr nil sz xs fx))::(i,some dead)::R⟩) hT1 i N y [i] (nil:=nil) (sz:=sz) (xs:=xs) (fx:=fx) (n:=n) (.inr (by simp)) (by simpa using hNi) (by simp)
    (by simp) (fun d hd=>?_) (fun m r hm hmD hX=>?_) hn ⟨by simp,by simp⟩ (fun t ht=>?_)
  · obtain ⟨g',h2⟩:=hT2
    refine h a w g' (h2.weaken ⟨fun p hp=>rfl,fun p hp=>?_⟩)
    have hpi:p.1≠i:=by
      rcases List.mem_cons.1 hp with e | e
      · rw [e];exact hNi
      · exact (hR p e).2.1
    have:(i == p.1)=false:=by simpa using fun e=>hpi e.symm
    simp [this]
  · have:d=i:=by simpa using hd
    rw [this]
    have:(N == i)=false:=by simpa using hNi
    simp [this]
  · have hmi:m≠i:=by simpa using hmD
    have e1:(N == m)=false:=by simpa using fun e=>hm e.symm
    have e2:(i == m)=false:=by simpa using fun e=>hmi e.symm
    simp only [rs_mk,vlook_cons,e1,e2,cond_false] at hX ⊢
    rcases look none R m with q | ⟨p,q1,q2,q3⟩
    · rw [q] at hX;cases hX
    · rw [q3] at hX
      obtain ⟨e3,e4⟩:=(hR p q1).2.2 r hX
      rw [q3,hX,e3]
      exact ⟨rfl,e4⟩
  · have e1:(y == t)=false:=by simpa using fun e=>ht e.symm
    simp only [get_mk,vlook_cons,e1,cond_false]
    rcases look S.un E t with q | ⟨p,q1,q2,q3⟩
    · rw [q];exact ⟨rfl,rfl⟩
    · obtain ⟨_,e3,e4⟩:=hE p q1
      rw [q3,e3]
      exact ⟨rfl,e4⟩
end Go.VL
