/- Contracts of functions of the seat, proved in a logic on data over the model (part V24). -/
import Derived.Test.YtlphpbcafplnbaaGreatV28
import Derived.Test.YtlphpbcafplnbaaGreatV26
import Derived.Test.YtlphpbcafplnbaaGreatV16
import Derived.Test.YtlphpbcafplnbaaGreatVM4b
import Derived.LoopN
import Derived.ChangeArms
import Derived.DataReads
import Derived.ChangeOld
import Derived.OpenShut
import Derived.Test.YtlphpbcafplnbaaGreatV15
import Derived.WalkKit
import Derived.ProofKit
import Derived.JoinedCond
import Derived.Carry
set_option linter.unusedSimpArgs false
set_option linter.unusedVariables false
namespace Go.VL
open Go.RowKit
section
variable {P:Program} {w0:World} {K0:K0T} {nt:Nat} {st:St} {a:Act} {w:World} {g:G}
def someR (b:List (Nat × Res)):List (Nat × Option Res):=b.map fun p=>(p.1,some p.2)
theorem ConB.post {f:FuncId} {args rs as1 rs2 as2:List S} {b b' b2:List (Nat × Res)} (h:ConB P f args b rs as1 b')
    (H:∀ w0 K0 a w g,T w0 K0 2 ⟨[(0,.tup rs),(1,.tup as1)],someR b'⟩ a w g→∃ st2 g',T w0 K0 2 st2 a w g'∧st2.get 0 = .tup rs2∧st2.get 1 = .tup as2∧resEnd st2 b2) :
    ConB P f args b rs2 as2 b2:=by
  refine ⟨h.1,fun w g us hM hu=>(h.2 w g us hM hu).mono fun e w' ⟨vs,g',he,hM',hrs,has⟩=>?_⟩
  have hT:T w ⟨g.K,lent g b,[]⟩ 2 ⟨[(0,.tup rs),(1,.tup as1)],someR b'⟩ { tmps:=#[.tuple vs.toArray,.tuple us.toArray],defers:=[] } w' g':=by
    refine ⟨hM'.below,hM'.k0,hM'.kold,hM'.klt,hM'.res,hM'.dis,fun t=>?_,rfl,rfl,hM'.keep⟩
    match t with
    | 0=>show SR _ _ _ (.tup rs) (.tuple vs.toArray);rw [SR];exact ⟨vs,rfl,hrs⟩
    | 1=>show SR _ _ _ (.tup as1) (.tuple us.toArray);rw [SR];exact ⟨us,rfl,has⟩
    | t+2=>show SR _ _ _ .un _;rw [SR];trivial
  obtain ⟨st2,g2,h1,h2,h3,h4⟩:=H _ _ _ _ _ hT
  have hdown:∀ j,Cmp g2 st2.rs g2 (lk b2) j:=fun j=>⟨fun fz ss q=>⟨⟨fz,ss,resEnd_ok h4 j _ q⟩,rfl⟩,fun nil sz xs fx q=>⟨⟨nil,xs,fx,resEnd_ok h4 j _ q,rfl⟩,rfl⟩,fun kvs q=>⟨⟨kvs,resEnd_ok h4 j _ q,rfl⟩,rfl⟩⟩
  refine ⟨vs,g2,he,⟨h1.below,h1.k0,h1.kold,h1.klt,fun i r hi=>?_,fun i j ri rj hi hj=>h1.dis i j ri rj (resEnd_ok h4 i _ hi) (resEnd_ok h4 j _ hj),h1.keep⟩,?_,?_⟩
  · exact RR.mono' (Keeps.refl _ _) rfl (fun _ _=>⟨rfl,fun _ k=>k⟩) (fun j _=>hdown j) (h1.res i r (resEnd_ok h4 i r hi))
  · have:=h1.env 0
    rw [h2,show (#[Value.tuple vs.toArray,Value.tuple us.toArray]:Array Value).getD 0 undef = .tuple vs.toArray from rfl,SR] at this
    obtain ⟨vs',e,k⟩:=this
    have:vs'=vs:=by simpa using e.symm
    subst this
    exact SRs.mono (Keeps.refl _ _) _ _ (fun j _=>hdown j) k
  · have:=h1.env 1
    rw [h3,show (#[Value.tuple vs.toArray,Value.tuple us.toArray]:Array Value).getD 1 undef = .tuple us.toArray from rfl,SR] at this
    obtain ⟨vs',e,k⟩:=this
    have:vs'=us:=by simpa using e.symm
    subst this
    exact SRs.mono (Keeps.refl _ _) _ _ (fun j _=>hdown j) k
def St.ren (τ:Nat→Nat) (st:St):St:=⟨st.env.map fun p=>(p.1,renS τ p.2),st.res.map fun p=>(τ p.1,p.2.map (renR τ))⟩
theorem get_ren (τ:Nat→Nat) (st:St) (t:Nat):(st.ren τ).get t=renS τ (st.get t):=by
  obtain ⟨env,res⟩:=st
  unfold St.get St.ren
  simp only
  induction env with
  | nil=>rfl
  | cons p l ih =>
    simp only [List.map_cons,vlook]
    cases p.1 == t with
    | true=>rfl
    | false=>exact ih
theorem rs_ren {τ:Nat→Nat} (hτ:∀ i,τ (τ i)=i) (st:St) (i:Nat):(st.ren τ).rs i=(st.rs (τ i)).map (renR τ):=by
  obtain ⟨env,res⟩:=st
  unfold St.rs St.ren
  simp only
  induction res with
  | nil=>rfl
  | cons p l ih =>
    simp only [List.map_cons,vlook]
    have:(τ p.1 == i)=(p.1 == τ i):=by
      rw [Bool.eq_iff_iff,beq_iff_eq,beq_iff_eq]
      exact ⟨fun e=>by rw [← e,hτ],fun e=>by rw [e,hτ]⟩
    rw [this]
    cases p.1 == τ i with
    | true=>rfl
    | false=>exact ih
theorem T.ren {τ:Nat→Nat} (hτ:∀ i,τ (τ i)=i) (h:T w0 K0 nt st a w g):T w0 K0 nt (st.ren τ) a w ⟨g.K,fun i=>g.loc (τ i)⟩:=by
  have hR:∀ j,Ren2 τ g ⟨g.K,fun i=>g.loc (τ i)⟩ st.rs (st.ren τ).rs j:=fun j=>by
    refine ⟨fun r' hr'=>?_,by show g.loc (τ (τ j))=_;rw [hτ]⟩
    rw [rs_ren hτ,hτ,Option.map_eq_some_iff] at hr'
    obtain ⟨r,h1,h2⟩:=hr'
    exact ⟨r,h1,h2.symm⟩
  refine ⟨h.below,h.k0,h.kold,h.klt,fun i r hi=>?_,fun i j ri rj hi hj hne b hb=>?_,fun t=>?_,h.nt,h.defers,h.keep⟩
  · rw [rs_ren hτ,Option.map_eq_some_iff] at hi
    obtain ⟨r0,h1,rfl⟩:=hi
    have:=RR_ren2 (τ:=τ) (g0:=g) (g:=⟨g.K,fun i=>g.loc (τ i)⟩) (R0:=st.rs) (R:=(st.ren τ).rs) (B:=fun b=>¬ Old w0 K0 b) (B0:=fun b=>¬ Old w0 K0 b) rfl (i:=τ i) (fun j _=>hR j) (by show g.loc (τ (τ (τ i)))=_;rw [hτ]) (fun b _ hb=>hb) (h.res _ _ h1)
    rw [hτ] at this
    exact this
  · rw [rs_ren hτ,Option.map_eq_some_iff] at hi hj
    obtain ⟨r0,h1,_⟩:=hi
    obtain ⟨r1,h2,_⟩:=hj
    exact h.dis _ _ _ _ h1 h2 (fun e=>hne (by rw [← hτ i,e,hτ])) b hb
  · rw [get_ren]
    exact SR_ren2 (g0:=g) (g:=⟨g.K,fun i=>g.loc (τ i)⟩) rfl _ _ (fun j _=>hR j) (h.env t)
def swp (i j k:Nat):Nat:=if k=i then j else if k=j then i else k
theorem swp_swp (i j k:Nat):swp i j (swp i j k)=k:=by
  unfold swp
  by_cases h1:k=i
  · subst h1
    by_cases h2:j=k
    · subst h2;simp
    · simp [h2]
  · by_cases h2:k=j
    · subst h2;simp [h1]
    · simp [h1,h2]
theorem ConB.swap (i j:Nat) {f:FuncId} {args rs as1:List S} {b b':List (Nat × Res)} (h:ConB P f args b rs as1 b') {rs2 as2:List S} {b2:List (Nat × Res)} (h1:renSs (swp i j) rs=rs2) (h2:renSs (swp i j) as1=as2) (h3:resEnd (St.ren (swp i j) ⟨[],someR b'⟩) b2):ConB P f args b rs2 as2 b2:=by
  subst h1;subst h2
  refine h.post fun w0 K0 a w g hT=>⟨_,_,hT.ren (swp_swp i j),rfl,rfl,?_⟩
  have e:(St.ren (swp i j) ⟨[(0,.tup rs),(1,.tup as1)],someR b'⟩).rs=(St.ren (swp i j) ⟨[],someR b'⟩).rs:=rfl
  clear h hT
  induction b2 with
  | nil=>trivial
  | cons p r ih=>exact ⟨by rw [e];exact h3.1,ih h3.2⟩
end
theorem Con.frz {P:Program} {f:FuncId} {args:List S} {rs:List Rt} (h:Con P f args rs) (k:Nat) {nil:Bool} {sz:Nat} {xs:List (List C)} {fx:Nat} (hk:rs[k]? = some (.fr nil sz xs fx)) :
    Con P f args (rs.set k (.c (.sl nil xs))):=by
  refine fun w K us hK hu=>(h w K us hK hu).mono fun e w' ⟨vs,he,hb,K',q1,q2,q3,q4⟩=>⟨vs,he,hb,?_⟩
  obtain ⟨r1,r2,r3⟩:=q4
  have hkl:k<rs.length:=(List.getElem?_eq_some_iff.1 hk).1
  obtain ⟨v,hv⟩:∃ v,vs[k]? = some v:=⟨vs[k]'(by omega),List.getElem?_eq_getElem (by omega)⟩
  have hr:=r2 k _ v hk hv
  rcases hr with ⟨rfl,rfl,hl,_⟩ | ⟨rfl,b,cap,cur,E,hl,hB,hh,h4,h5,h6,h7,h8,h9⟩
  · refine ⟨K',q1,q2,q3,by simp [r1],fun j r u hj hu=>?_,fun i j r r' u u' hne hi hj hui huj f1 f2=>?_⟩
    · rw [List.getElem?_set] at hj
      by_cases e:k=j
      · subst e
        rw [if_pos rfl,if_pos hkl] at hj
        cases hj
        rw [hv] at hu
        cases hu
        rw [RtR,CR]
        exact .inl ⟨rfl,rfl,hl⟩
      · rw [if_neg e] at hj
        exact r2 j r u hj hu
    · have nk:∀ {j r},(rs.set k (.c (.sl true [])))[j]? = some r→isFr r=true→rs[j]? = some r:=fun {j r} hj hf=>by
        rw [List.getElem?_set] at hj
        by_cases e:k=j
        · subst e;rw [if_pos rfl,if_pos hkl] at hj;cases hj;cases hf
        · rw [if_neg e] at hj;exact hj
      exact r3 i j r r' u u' hne (nk hi f1) (nk hj f2) hui huj f1 f2
  · have hbl:b<w'.heap.size:=(Array.getElem?_eq_some_iff.1 hh).1
    have hl':v = .slice (some ⟨b,0,none⟩) xs.length cap:=hl
    refine ⟨fun b' o=>K' b' o∨(b'=b∧o<xs.length*sz),fun b' o hk=>.inl (q1 b' o hk),fun b' o hk hlt=>?_,fun b' o hk=>?_,by simp [r1],fun j r u hj hu=>?_,fun i j r r' u u' hne hi hj hui huj f1 f2=>?_⟩
    · rcases hk with hk | ⟨rfl,_⟩
      · exact q2 b' o hk hlt
      · omega
    · rcases hk with hk | ⟨rfl,_⟩
      · exact q3 b' o hk
      · exact hbl
    · have kp:Keeps K' w' (fun b' o=>K' b' o∨(b'=b∧o<xs.length*sz)) w':=⟨fun _ _ h=>.inl h,fun _ _ _=>rfl⟩
      rw [List.getElem?_set] at hj
      by_cases e:k=j
      · subst e
        rw [if_pos rfl,if_pos hkl] at hj
        cases hj
        rw [hv] at hu
        cases hu
        have:RR ⟨fun b' o=>K' b' o∨(b'=b∧o<xs.length*sz),fun _=>v⟩ w' (fun _=>none) (fun b=>w.heap.size≤b) 0 (.arr false sz xs xs.length):=by
          refine .inr ⟨rfl,b,cap,cur,E,hl,hB,hh,h4,h5,h6,Nat.le_refl _,h8.mono kp,fun o=>⟨fun hk=>?_,fun ho=>.inr ⟨rfl,ho⟩⟩⟩
          rcases hk with hk | ⟨_,hk⟩
          · have:=(h9 o).1 hk
            have:=Nat.mul_le_mul_right sz h7
            omega
          · exact hk
        rw [RtR]
        exact this.datum
      · rw [if_neg e] at hj
        have:=r2 j r u hj hu
        cases r with
        | c x=>rw [RtR] at this ⊢;exact CR.mono kp x u this
        | ag cs =>
          rw [RtR] at this ⊢
          obtain ⟨us',e1,e2⟩:=this
          exact ⟨us',e1,VR.mono kp cs us' e2⟩
        | fr nil2 sz2 xs2 fx2 =>
          rw [RtR] at this ⊢
          rcases this with this | ⟨g0,b2,cap2,cur2,E2,g1,g2,g3,g4,g5,g6,g7,g8,g9⟩
          · exact .inl this
          · have hne:b2≠b:=by
              rintro rfl
              have g1':u = .slice (some ⟨b2,0,none⟩) xs2.length cap2:=g1
              exact r3 k j _ _ v u e hk hj hv hu rfl rfl b2 (by rw [hl'];rfl) (by rw [g1'];rfl)
            refine .inr ⟨g0,b2,cap2,cur2,E2,g1,g2,g3,g4,g5,g6,g7,g8.mono kp,fun o=>⟨fun hk=>?_,fun ho=>.inl ((g9 o).2 ho)⟩⟩
            rcases hk with hk | ⟨e2,_⟩
            · exact (g9 o).1 hk
            · exact absurd e2 hne
    · have nk:∀ {j r},(rs.set k (.c (.sl false xs)))[j]? = some r→isFr r=true→rs[j]? = some r:=fun {j r} hj hf=>by
        rw [List.getElem?_set] at hj
        by_cases e:k=j
        · subst e;rw [if_pos rfl,if_pos hkl] at hj;cases hj;cases hf
        · rw [if_neg e] at hj;exact hj
      exact r3 i j r r' u u' hne (nk hi f1) (nk hj f2) hui huj f1 f2
section
variable {P:Program} (ops:Array Oper) (st:St) (d:Option Nat) (ty:TypeId) (p:String) (af:Array Edge) (K:St→Prop) (j:Nat) (want:Bool)
end
section
variable {P:Program} {ops:Array Oper} {st:St} {K:St→Prop} {ty:TypeId} {p:String} {af:Array Edge}
def vlkR (P:Program) (dst:Option Nat) (st:St) (t:TypeId) (ok:Bool) (K:St→Prop) (kv:Value) (r:Option Res):Prop :=
  match r,mpT P t with
  | some (.map (.ents kvs)),some (_,d,e)=>match zeroOf P e with
    | some z=>kfits d kv=true∧(kvs.all fun x=>kfits d x.1)=true∧K (st.putd dst (lkS ok (findK kv kvs) z))
    | none=>False
  | _,_=>False
@[simp ↓] theorem vlkup_mp (dst:Option Nat) (t:TypeId) (i:Nat) (kv:Value) (ok:Bool):vlkup P dst st t (.mp i) (.c (.v kv)) ok K=force (tick (st.rs i)) fun r=>vlkR P dst st t ok K kv r:=rfl
theorem vlkR_map (dst:Option Nat) (t kt et:TypeId) (td:TypeDesc) (z:Value) (ok:Bool) (kv:Value) (kvs:List (Value × List S)) (h1:mpT P t=some (kt,td,et)) (h2:zeroOf P et=some z) :
    vlkR P dst st t ok K kv (some (.map (.ents kvs)))=(kfits td kv=true∧(kvs.all fun x=>kfits td x.1)=true∧K (st.putd dst (lkS ok (findK kv kvs) z))):=by
  unfold vlkR;rw [h1];simp only;rw [h2]
def vmuR (P:Program) (dst:Option Nat) (st:St) (t:TypeId) (K:St→Prop) (i:Nat) (kv:Value) (cs:Option (List S)) (r:Option Res):Prop :=
  match cs with
  | some cs=>match r,mpT P t with
    | some (.map (.ents kvs)),some (_,d,_)=>kfits d kv=true∧(kvs.all fun x=>kfits d x.1)=true∧K ((st.setR i (some (.map (.ents (putK kv cs kvs))))).putd dst .un)
    | _,_=>False
  | none=>False
@[simp ↓] theorem vmapUp_mp (dst:Option Nat) (t:TypeId) (i:Nat) (kv:Value) (x:S):vmapUp P dst st t (.mp i) (.c (.v kv)) x K=force (tick (entC st x)) fun cs=>force (tick (st.rs i)) fun r=>vmuR P dst st t K i kv cs r:=by
  show vmapUp P dst st t (.mp i) (.c (.v kv)) x K=vmuR P dst st t K i kv (entC st x) (st.rs i)
  unfold vmapUp vmuR
  cases entC st x <;> rfl
theorem vmuR_map (dst:Option Nat) (t kt et:TypeId) (td:TypeDesc) (i:Nat) (kv:Value) (cs:List S) (kvs:List (Value × List S)) (h1:mpT P t=some (kt,td,et)) :
    vmuR P dst st t K i kv (some cs) (some (.map (.ents kvs)))=(kfits td kv=true∧(kvs.all fun x=>kfits td x.1)=true∧K ((st.setR i (some (.map (.ents (putK kv cs kvs))))).putd dst .un)):=by
  unfold vmuR;rw [h1]
@[simp ↓] theorem vs_lookup (d:Option Nat) (t:TypeId) (m k:Operand) (ok:Bool):vstep P ops st ⟨d,.lookup t m k ok,ty,p,af,none⟩ K=force (tick (st.ev m)) fun m=>force (tick (st.ev k)) fun k=>vlkup P d st t m k ok K:=rfl
@[simp ↓] theorem vs_mapUpdate (d:Option Nat) (t:TypeId) (m k x:Operand):vstep P ops st ⟨d,.mapUpdate t m k x,ty,p,af,none⟩ K=force (tick (st.ev m)) fun m=>force (tick (st.ev k)) fun k=>force (tick (st.ev x)) fun x=>vmapUp P d st t m k x K:=rfl
@[simp ↓] theorem vs_makeMap (x:Nat) (t:TypeId):vstep P ops st ⟨some x,.makeMap t none,ty,p,af,none⟩ K=K (((st.clr (64*x)).setR (64*x) (some (.map (.ents [])))).put x (.mp (64*x))):=rfl
@[simp] theorem entC_agg (a b:C) (cs:List C):entC st (.agg (a::b::cs))=some ((a::b::cs).map .c):=by simp [entC]
@[simp] theorem entS_one (s:S):entS [s]=s:=rfl
@[simp] theorem allCs_map (cs:List C):allCs (cs.map .c)=some cs:=by
  induction cs with
  | nil=>rfl
  | cons c r ih=>simp [allCs,ih]
@[simp] theorem allCs_c (c:C) (r:List S):allCs (.c c::r)=(allCs r).map (c :: ·):=rfl
@[simp] theorem MB.clr_nil (i:Nat):(MB.ents []).clr i = .ents []:=rfl
end
section
variable {P:Program} {ops:Array Oper} {st:St} {K:St→Prop} {ty:TypeId} {p:String} {af:Array Edge}
end
def vrounds (P:Program) (w0:World) (K0:K0T) (nt:Nat) (c:Code) (Q:Exit→St→Prop):Nat→St→Prop
  | 0,_=>False
  | n+1,st=>vc P w0 K0 nt c st (seqQ (vrounds P w0 K0 nt c Q n) Q)
section
variable {P:Program} {w0:World} {K0:K0T} {nt:Nat}
theorem vrounds_ok {c:Code} {Q:Exit→St→Prop} (hok:codeOk nt c=true):∀ (n:Nat) (st:St),vrounds P w0 K0 nt c Q n st→∀ a w g,T w0 K0 nt st a w g →
    Code.rounds P c (fun e a w=>∃ st' g',Q e st'∧T w0 K0 nt st' a w g') n a w
  | 0,_,h,_,_,_,_=>h.elim
  | n+1,st,h,a,w,g,hT=>by
    rw [Code.rounds]
    refine wp_mono (vc_ok c st _ hok h a w g hT) fun e a' w' ⟨st',g',h1,h2⟩=>?_
    cases e with
    | normal=>exact vrounds_ok hok n st' h1 a' w' g' h2
    | _=>exact ⟨st',g',h1,h2⟩
theorem VL.rounds {c:Code} {st:St} {Q:Exit→St→Prop} {m1:Keep (Code.loop c)} {m2:Keep Q} (n:Nat) (hok:codeOk nt c=true) (h:vrounds P w0 K0 nt c Q n st):VL P w0 K0 nt (.loop c) st Q m1 m2 :=
  fun a w g hT=>wp_loop_rounds n (vrounds_ok hok n st h a w g hT)
@[simp] theorem vrounds_succ (c:Code) (Q:Exit→St→Prop) (n:Nat) (st:St):vrounds P w0 K0 nt c Q (n+1) st=vc P w0 K0 nt c st (seqQ (vrounds P w0 K0 nt c Q n) Q):=rfl
end
section
variable {P:Program} (ops:Array Oper) (st:St) (d:Option Nat) (ty:TypeId) (p:String) (af:Array Edge) (K:St→Prop) (j:Nat) (want:Bool)
theorem gs_nilCheck0 (x:Operand):vstep P ops st ⟨d,.nilCheck x,ty,p,af,some (j,want)⟩ K=goG (gsl ops st j want) [flagOf (st.ev x)] (pnil st (peel (st.ev x))) fun s=>K (st.putd d s):=by
  rw [ps_eq];rfl;simp;simp
@[simp ↓] theorem gs_nilCheck (x:Operand):vstep P ops st ⟨d,.nilCheck x,ty,p,af,some (j,want)⟩ K=force (tick (gsl ops st j want)) fun q=>force (tick [flagOf (st.ev x)]) fun fs=>force (tick (pnil st (peel (st.ev x)))) fun r=>goG q fs r fun s=>K (st.putd d s):=gs_nilCheck0 ops st d ty p af K j want x
@[simp] theorem pfieldAddr_un (t:TypeId) (f:Nat):pfieldAddr P st t f S.un=no:=by unfold pfieldAddr;split <;> rfl
@[simp] theorem pload_un (t:TypeId):pload P st t S.un=no:=by unfold pload;split <;> rfl
@[simp] theorem pbinS_un (o:BinOp) (t:TypeId) (y:S):pbinS P st o t S.un y=no:=rfl
end
def Kw (w:World):Nat→Nat→Prop:=fun b _=>b<w.heap.size
def contig (P:Program):Nat→List Field→Option Nat
  | o,[]=>some o
  | o,f::r=>if f.offset=o then contig P (o+P.cellsOf f.type) r else none
def catF (F:TypeId→List C→Prop):List Field→List C→Prop
  | [],xs=>xs=[]
  | f::r,xs=>∃ a b,xs=a++b∧F f.type a∧catF F r b
def catA (F:List C→Prop):Nat→List C→Prop
  | 0,xs=>xs=[]
  | k+1,xs=>∃ a b,xs=a++b∧F a∧catA F k b
def Fits (P:Program) (R:Nat):Nat→TypeId→List C→Prop
  | 0,_,_=>False
  | n+1,t,xs=>match P.underlying t with
    | some .bool=>∃ b,xs=[.v (.bool b)]
    | some (.int k)=>∃ m,xs=[.v (.int k m)]∧(Lit.int k m).wf=true
    | some .string=>∃ s:ByteArray,xs=[.v (.string s)]∧s.size≤maxLen∧s.size≤R
    | some (.slice e)=>∃ nil ys,xs=[.sl nil ys]∧(nil=true→ys=[])∧ys.length≤maxLen∧ys.length*P.bytesOf e≤R∧∀ y∈ys,Fits P R n e y
    | some (.pointer e)=>xs=[.v (.pointer none)]∨∃ ys,xs=[.dp ys]∧Fits P R n e ys
    | some (.struct fs)=>catF (Fits P R n) fs.toList xs
    | some (.array len e)=>catA (Fits P R n e) len xs
    | _=>False
def FitsS (P:Program) (R n:Nat) (t:TypeId) (s:S):Prop :=
  match P.underlying t with
  | some (.struct _)=>∃ xs,s = .agg xs∧Fits P R n t xs
  | some (.array _ _)=>∃ xs,s = .agg xs∧Fits P R n t xs
  | _=>∃ x,s = .c x∧Fits P R n t [x]
theorem fits_int {P:Program} {R n:Nat} {t:TypeId} {xs:List C} {k:IntKind} (hu:P.underlying t=some (.int k)) (h:Fits P R (n+1) t xs):∃ m,xs=[.v (.int k m)]∧(Lit.int k m).wf=true:=by
  unfold Fits at h;rw [hu] at h;exact h
theorem fits_i64 {P:Program} {R n:Nat} {t:TypeId} {xs:List C} (hu:P.underlying t=some (.int .i64)) (h:Fits P R (n+1) t xs):∃ m:Int,xs=[.v (.int .i64 m)]∧-9223372036854775808≤m∧m≤9223372036854775807:=by
  obtain ⟨m,rfl,hm⟩:=fits_int hu h
  exact ⟨m,rfl,by simpa [Lit.wf,IntKind.min,IntKind.max,IntKind.signed,IntKind.bits] using hm⟩
theorem fits_string {P:Program} {R n:Nat} {t:TypeId} {xs:List C} (hu:P.underlying t=some .string) (h:Fits P R (n+1) t xs):∃ l:List UInt8,xs=[.v (.string ⟨l.toArray⟩)]∧l.length≤R:=by
  unfold Fits at h;rw [hu] at h
  obtain ⟨⟨⟨l⟩⟩,rfl,_,hm⟩:=h
  exact ⟨l,rfl,hm⟩
theorem fits_slice {P:Program} {R n:Nat} {t e:TypeId} {xs:List C} (hu:P.underlying t=some (.slice e)) (h:Fits P R (n+1) t xs) :
    ∃ nil ys,xs=[.sl nil ys]∧(nil=true→ys=[])∧ys.length*P.bytesOf e≤R∧∀ y∈ys,Fits P R n e y:=by
  unfold Fits at h;rw [hu] at h
  obtain ⟨nil,ys,h1,h2,_,h3,h4⟩:=h
  exact ⟨nil,ys,h1,h2,h3,h4⟩
theorem fits_struct {P:Program} {R n:Nat} {t:TypeId} {xs:List C} {fs:Array Field} (hu:P.underlying t=some (.struct fs)) (h:Fits P R (n+1) t xs):catF (Fits P R n) fs.toList xs:=by
  unfold Fits at h;rw [hu] at h;exact h
theorem fits_list {P:Program} {R n:Nat} {e:TypeId} {ys:List (List C)} {α:Type} (f:α→List C) (Q:α→Prop) (hf:∀ y,Fits P R n e y→∃ a,y=f a∧Q a) (h:∀ y∈ys,Fits P R n e y):∃ l:List α,ys=l.map f∧∀ a∈l,Q a:=by
  induction ys with
  | nil=>exact ⟨[],rfl,by simp⟩
  | cons y r ih =>
    obtain ⟨l,rfl,h1⟩:=ih (fun z hz=>h z (by simp [hz]))
    obtain ⟨a,rfl,h2⟩:=hf y (h y (by simp))
    refine ⟨a::l,rfl,fun b hb=>?_⟩
    rcases List.mem_cons.1 hb with rfl | hb
    · exact h2
    · exact h1 b hb
theorem FitsS.struct {P:Program} {R n:Nat} {t:TypeId} {s:S} {fs:Array Field} (hu:P.underlying t=some (.struct fs)) (h:FitsS P R n t s):∃ xs,s = .agg xs∧Fits P R n t xs:=by
  unfold FitsS at h;rw [hu] at h;exact h
section
variable {H:Type} {enc:TypeId × Value→H} {P:Program} {w:World} {base:Nat} {spare:Nat→Bool} {held:Bool}
theorem VR_one {K:Nat→Nat→Prop} {c:C} {u:Value} (h:CR K w c u):VR K w [c] [u]:=by
  rw [VR];exact ⟨u,[],rfl,h,by rw [VR]⟩
theorem LR_of_cells {a:Addr} {n:Nat} {us:List Value} {xs:List C} (hc:w.cells? base a n=some us) (hv:VR (Kw w) w xs us) (hn:0<n) (off:Nat) (ho:off=a.off) :
    xs.length=n∧LR (Kw w) w a.block off xs∧a.spot=none:=by
  obtain ⟨h1,h2,h3⟩:=World.cells?_some hc
  have hb:=World.cells?_block hc hn
  obtain ⟨e1,e2⟩:=(VR_iff _ _).1 hv
  have hs:a.spot=none:=by
    have:=h3 0 hn
    rw [show a.add 0=a from rfl] at this
    have hu:us[0]? = some us[0]:=List.getElem?_eq_getElem (by omega)
    rw [hu] at this
    unfold World.cell? at this
    split at this
    · split at this
      · cases this
      · rename_i hsp;simpa using hsp
    · cases this
  subst ho
  refine ⟨by omega,?_,hs⟩
  rw [LR_iff]
  intro k c hk
  have hlt:k<us.length:=by have:=(List.getElem?_eq_some_iff.1 hk).1;omega
  refine ⟨hb,us[k],?_,e2 k c us[k] hk (List.getElem?_eq_getElem hlt)⟩
  have:=h3 k (by omega)
  rw [List.getElem?_eq_getElem hlt] at this
  rw [← this]
  obtain ⟨b,o,s⟩:=a
  simp only at hs
  subst hs
  exact congrArg _ (add_lit b o k).symm
theorem cat_ok {F:TypeId→List C→Prop} (cs:List Value):∀ (fs:List Field) (o:Nat),contig P o fs=some cs.length →
    (∀ f∈fs,∃ a,VR (Kw w) w a ((cs.drop f.offset).take (P.cellsOf f.type))∧F f.type a)→∃ xs,VR (Kw w) w xs (cs.drop o)∧catF F fs xs
  | [],o,h,_=>by
    simp only [contig,Option.some.injEq] at h
    exact ⟨[],by rw [h];simp [VR],rfl⟩
  | f::r,o,h,hf=>by
    unfold contig at h
    split at h
    · rename_i ho
      obtain ⟨a,h1,h2⟩:=hf f (by simp)
      obtain ⟨b,h3,h4⟩:=cat_ok cs r _ h (fun g hg=>hf g (by simp [hg]))
      refine ⟨a++b,?_,a,b,rfl,h2,h4⟩
      have:=VR_append h1 h3
      rw [ho,← List.drop_drop,List.take_append_drop] at this
      exact this
    · cases h
theorem catA_ok {F:List C→Prop} (cs:List Value) (sz:Nat):∀ (k o:Nat),cs.length=o+k*sz →
    (∀ i,i<k→∃ a,VR (Kw w) w a ((cs.drop (o+i*sz)).take sz)∧F a)→∃ xs,VR (Kw w) w xs (cs.drop o)∧catA F k xs
  | 0,o,h,_=>⟨[],by rw [List.drop_of_length_le (by omega),VR],rfl⟩
  | k+1,o,h,hf=>by
    obtain ⟨a,h1,h2⟩:=hf 0 (by omega)
    have e1:o+(k+1)*sz=(o+sz)+k*sz:=by rw [Nat.add_mul];omega
    obtain ⟨b,h3,h4⟩:=catA_ok cs sz k (o+sz) (by omega) (fun i hi=>by
      have:=hf (i+1) (by omega)
      rwa [show o+(i+1)*sz=o+sz+i*sz from by rw [Nat.add_mul];omega] at this)
    refine ⟨a++b,?_,a,b,rfl,h2,h4⟩
    have:=VR_append h1 h3
    rw [Nat.zero_mul,Nat.add_zero,← List.drop_drop,List.take_append_drop] at this
    exact this
theorem mem_weightsAll {e:TypeId} {m:Nat} : ∀ {l:List (DataW H)} {d:DataW H},d∈l→m∈d.weights P e→m∈DataW.weightsAll P e l
  | x::r,d,h,hm=>by
    simp only [DataW.weightsAll,List.mem_append]
    rcases List.mem_cons.1 h with rfl | h
    · exact .inl hm
    · exact .inr (mem_weightsAll h hm)
theorem mem_weightsEach {m:Nat} : ∀ {ts:List TypeId} {l:List (DataW H)} {i:Nat} {t:TypeId} {d:DataW H},ts[i]? = some t→l[i]? = some d→m∈d.weights P t→m∈DataW.weightsEach P ts l
  | [],_,_,_,_,h,_,_=>by simp at h
  | _::_,[],_,_,_,_,h,_=>by simp at h
  | _::_,_::_,0,_,_,h1,h2,hm=>by
    simp only [List.getElem?_cons_zero,Option.some.injEq] at h1 h2
    subst h1;subst h2
    simp only [DataW.weightsEach,List.mem_append]
    exact .inl hm
  | _::_,_::_,i+1,_,_,h1,h2,hm=>by
    simp only [DataW.weightsEach,List.mem_append]
    exact .inr (mem_weightsEach (by simpa using h1) (by simpa using h2) hm)
end
end Go.VL
namespace Go.VL
open Go.RowKit Go.ChangeShapes Go.WideShapes
section
variable {H:Type} {enc:TypeId × Value→H} {P:Program} {w:World} {base:Nat} {spare:Nat→Bool} {held:Bool}
theorem VR_cells {K:Nat→Nat→Prop} {xs:List C} {u:Value} (h:VR K w xs [u]):∃ x,xs=[x]∧CR K w x u:=by
  cases xs with
  | nil=>rw [VR] at h;cases h
  | cons x r =>
    rw [VR] at h
    obtain ⟨u',us',e,h1,h2⟩:=h
    cases e
    cases r with
    | nil=>exact ⟨x,rfl,h1⟩
    | cons y r=>rw [VR] at h2;obtain ⟨_,_,e,_⟩:=h2;cases e
theorem args_back {W W':World} (hl:laidOutB P=true) (hb:Below W.heap.size W W') {sp:Nat→Bool} : ∀ (ts:List TypeId) (vs:List Value) (ds:List (DataW H)) (ps:List MemPlace),
    (∀ t∈ts,P.readableRec t=true∧t<P.types.size)→DataW.TrodAll enc P W 0 (fun _=>true) true ts vs ds ps→(∀ p∈ps,p.block<W.heap.size)→(∀ p∈ps,sp p.block=true)→DataW.TrodAll enc P W' 0 sp true ts vs ds ps
  | [],vs,ds,ps,_,h,_,_=>by
    obtain ⟨rfl,rfl,rfl⟩:=trodAll_nil h
    rfl
  | t::ts,vs,ds,ps,ht,h,hlt,hs=>by
    obtain ⟨v,vs',d,ds',p,q,rfl,rfl,rfl,h1,h2⟩:=trodAll_cons h
    exact ⟨p,q,WideElems.Trod_stays hl (ht t (by simp)).1 (ht t (by simp)).2 h1 (fun x hx=>hb.same (hlt x (by simp [hx]))) (fun x hx=>hs x (by simp [hx])),
      args_back hl hb ts vs' ds' q (fun t h=>ht t (by simp [h])) h2 (fun x hx=>hlt x (by simp [hx])) (fun x hx=>hs x (by simp [hx])),rfl⟩
end
end Go.VL
