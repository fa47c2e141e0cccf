/- Contracts of functions of the seat, proved in a logic on data over the model (part V11). -/
import Derived.Test.YtlphpbcafplnbaaGreatVM3
set_option linter.unusedSimpArgs false
set_option linter.unusedVariables false
namespace Go.VL
open Go.RowKit
def allCs:List S→Option (List C)
  | []=>some []
  | .c x::r=>(allCs r).map (x :: ·)
  | _::_=>none
def entS:List S→S
  | [c]=>c
  | cs=>match allCs cs with
    | some l=>.agg l
    | none=>.st cs
def entC (st:St):S→Option (List S)
  | .agg cs=>if cs.length=1 then none else some (cs.map .c)
  | .st ss=>if ss.length=1 then none else some ss
  | s=>cellsH st s
def vmkMap (dst:Option Nat) (st:St) (K:St→Prop):Prop :=
  match dst with
  | some x=>K (((st.clr (64*x)).setR (64*x) (some (.map (.ents [])))).put x (.mp (64*x)))
  | none=>False
def lkS (ok:Bool) (r:Option (Nat × List S)) (z:Value):S :=
  if ok then .tup [match r with | some y=>entS y.2 | none=>ofConst z,.c (.v (.bool r.isSome))] else match r with | some y=>entS y.2 | none=>ofConst z
def vlkup (P:Program) (dst:Option Nat) (st:St) (t:TypeId) (m k:S) (ok:Bool) (K:St→Prop):Prop :=
  match m,k with
  | .mp i,.c (.v kv)=>match st.rs i,mpT P t with
    | some (.map (.ents kvs)),some (_,d,e)=>match zeroOf P e with
      | some z=>kfits d kv=true∧(kvs.all fun x=>kfits d x.1)=true∧K (st.putd dst (lkS ok (findK kv kvs) z))
      | none=>False
    | _,_=>False
  | _,_=>False
def putK (k:Value) (cs:List S) (kvs:List (Value × List S)):List (Value × List S) :=
  match findK k kvs with
  | some y=>kvs.set y.1 (k,cs)
  | none=>kvs++[(k,cs)]
def vmapUp (P:Program) (dst:Option Nat) (st:St) (t:TypeId) (m k x:S) (K:St→Prop):Prop :=
  match m,k,entC st x with
  | .mp i,.c (.v kv),some cs=>match st.rs i,mpT P t with
    | some (.map (.ents kvs)),some (_,d,_)=>kfits d kv=true∧(kvs.all fun x=>kfits d x.1)=true∧K ((st.setR i (some (.map (.ents (putK kv cs kvs))))).putd dst .un)
    | _,_=>False
  | _,_,_=>False
def vrange (P:Program) (dst:Option Nat) (st:St) (t:TypeId) (m:S) (K:St→Prop):Prop :=
  match dst,m with
  | some x,.mp i=>match st.rs i,mpT P t with
    | some (.map (.ents kvs)),some _=>∀ bm:Nat,K ((((((st.clr (64*x+1)).setR (64*x+1) (some (.pin (.map (some bm)) (S.clr (64*x+1) (.mp i))))).clr (64*x)).setR (64*x) (some (.map (.iter bm kvs.length []))))).put x (.mp (64*x)))
    | _,_=>False
  | _,_=>False
def todoK (n:Nat) (seen:List Nat):List Nat:=(List.range n).filter fun j=>!seen.contains j
def vnext (dst:Option Nat) (st:St) (it:S) (K:St→Prop):Prop :=
  match it with
  | .mp y=>match st.rs y,st.rs (y+1) with
    | some (.map (.iter bm n seen)),some (.pin (.map (some bm')) (.mp i))=>match st.rs i with
      | some (.map (.ents kvs))=>bm=bm'∧n=kvs.length∧(kvs.all fun x=>x.1.oneCell')=true∧(todoK n seen=[]→K (st.putd dst (.tup [.c (.v (.bool false))]))) ∧
          ∀ j k cs,j∈todoK n seen→kvs[j]? = some (k,cs)→K ((st.setR y (some (.map (.iter bm n (seen++[j]))))).putd dst (.tup [.c (.v (.bool true)),.c (.v k),entS cs]))
      | _=>False
    | _,_=>False
  | _=>False
def ventry (dst:Option Nat) (st:St) (it:S) (K:St→Prop):Prop :=
  match it with
  | .mp y=>match st.rs y,st.rs (y+1) with
    | some (.map (.iter bm n seen)),some (.pin (.map (some bm')) (.mp i))=>match st.rs i,seen.getLast? with
      | some (.map (.ents kvs)),some j=>match kvs[j]? with
        | some (k,cs)=>bm=bm'∧n=kvs.length∧k.oneCell'=true∧K (st.putd dst (.tup [.c (.v k),entS cs]))
        | none=>False
      | _,_=>False
    | _,_=>False
  | _=>False
def vsnap (st:St) (s:S) (k:S→St→Prop):Prop :=
  match s with
  | .own i n =>
    match st.rs i with
    | some (.arr nil sz xs _)=>xs.length=n∧k (.c (.sl nil xs)) (st.setR i (some (.arr nil sz xs xs.length)))
    | _=>False
  | s=>k s st
def vsnaps (st:St):List S→(List S→St→Prop)→Prop
  | [],k=>k [] st
  | s::r,k=>vsnap st s fun s' st'=>vsnaps st' r fun r' st''=>k (s'::r') st''
section
variable {P:Program} {w0:World} {K0:K0T} {nt:Nat} {st:St} {a:Act} {w:World} {g:G}
theorem vsnap_ok (h:T w0 K0 nt st a w g) {s:S} {u:Value} {k:S→St→Prop} (hs:SR g w st.rs s u) (hv:vsnap st s k) :
    ∃ s' st' g',k s' st'∧T w0 K0 nt st' a w g'∧SR g' w st'.rs s' u∧(∀ s u,SR g w st.rs s u→SR g' w st'.rs s u)∧g'.loc=g.loc∧Keeps g.K w g'.K w:=by
  have trivial_case:k s st→∃ s' st' g',k s' st'∧T w0 K0 nt st' a w g'∧SR g' w st'.rs s' u∧(∀ s u,SR g w st.rs s u→SR g' w st'.rs s u)∧g'.loc=g.loc∧Keeps g.K w g'.K w :=
    fun hk=>⟨s,st,g,hk,h,hs,fun _ _ h=>h,rfl,Keeps.refl _ _⟩
  unfold vsnap at hv
  split at hv
  · rename_i i n
    split at hv
    · rename_i nil sz xs fx hr
      obtain ⟨hn,hk⟩:=hv
      obtain ⟨g',h1,h2,h3,h4⟩:=h.snap hr
      rw [SR] at hs
      have hu:=hs nil sz xs fx hr hn
      refine ⟨_,_,g',hk,h1,by rw [SR,hu];exact h2,fun s u hsu=>?_,h3,h4⟩
      refine SR.mono h4 s u (fun j _=>?_) hsu
      by_cases e:j=i
      · subst e
        refine ⟨fun fz ss e=>?_,fun nil' sz' xs' fx' e=>?_,fun kvs e=>?_⟩
        · rw [St.rs_setR,if_pos rfl] at e;simp at e
        · rw [St.rs_setR,if_pos rfl] at e;simp at e
          obtain ⟨rfl,rfl,rfl,rfl⟩:=e
          exact ⟨⟨nil,xs,fx,hr,rfl⟩,by rw [h3]⟩
        · rw [St.rs_setR,if_pos rfl] at e;simp at e
      · exact Cmp.same (by rw [St.rs_setR,if_neg (Ne.symm e)]) (by rw [h3])
    · exact hv.elim
  · exact trivial_case hv
theorem vsnaps_ok:∀ (ss:List S) (us:List Value) (st:St) (g:G) (k:List S→St→Prop),T w0 K0 nt st a w g→SRs g w st.rs ss us→vsnaps st ss k →
    ∃ ss' st' g',k ss' st'∧T w0 K0 nt st' a w g'∧SRs g' w st'.rs ss' us∧(∀ s u,SR g w st.rs s u→SR g' w st'.rs s u)∧g'.loc=g.loc∧Keeps g.K w g'.K w
  | [],us,st,g,k,h,hs,hv=>⟨[],st,g,hv,h,hs,fun _ _ h=>h,rfl,Keeps.refl _ _⟩
  | s::r,us,st,g,k,h,hs,hv=>by
    rw [SRs] at hs
    obtain ⟨u,us',rfl,h1,h2⟩:=hs
    rw [vsnaps] at hv
    obtain ⟨s',st',g',k1,k2,k3,k4,k5,k6⟩:=vsnap_ok h h1 hv
    have h2':SRs g' w st'.rs r us':=by
      rw [SRs_iff] at h2 ⊢
      exact ⟨h2.1,fun k s u e1 e2=>k4 s u (h2.2 k s u e1 e2)⟩
    obtain ⟨r',st'',g'',m1,m2,m3,m4,m5,m6⟩:=vsnaps_ok r us' st' g' _ k2 h2' k1
    refine ⟨s'::r',st'',g'',m1,m2,?_,fun s u hh=>m4 s u (k4 s u hh),m5.trans k5,k6.trans m6⟩
    rw [SRs]
    exact ⟨u,us',rfl,m4 _ _ k3,m3⟩
def vsnapm (st:St):List Bool→List S→(List S→St→Prop)→Prop
  | true::m,s::r,k=>vsnap st s fun s' st'=>vsnapm st' m r fun r' st''=>k (s'::r') st''
  | false::m,s::r,k=>vsnapm st m r fun r' st''=>k (s::r') st''
  | _,ss,k=>k ss st
theorem vsnapm_ok:∀ (m:List Bool) (ss:List S) (us:List Value) (st:St) (g:G) (k:List S→St→Prop),T w0 K0 nt st a w g→SRs g w st.rs ss us→vsnapm st m ss k →
    ∃ ss' st' g',k ss' st'∧T w0 K0 nt st' a w g'∧SRs g' w st'.rs ss' us∧(∀ s u,SR g w st.rs s u→SR g' w st'.rs s u)
  | [],ss,us,st,g,k,h,hs,hv=>⟨ss,st,g,hv,h,hs,fun _ _ h=>h⟩
  | true::m,[],us,st,g,k,h,hs,hv=>⟨[],st,g,hv,h,hs,fun _ _ h=>h⟩
  | false::m,[],us,st,g,k,h,hs,hv=>⟨[],st,g,hv,h,hs,fun _ _ h=>h⟩
  | true::m,s::r,us,st,g,k,h,hs,hv=>by
    rw [SRs] at hs
    obtain ⟨u,us',rfl,h1,h2⟩:=hs
    rw [vsnapm] at hv
    obtain ⟨s',st',g',k1,k2,k3,k4,k5,k6⟩:=vsnap_ok h h1 hv
    have h2':SRs g' w st'.rs r us':=by
      rw [SRs_iff] at h2 ⊢
      exact ⟨h2.1,fun k s u e1 e2=>k4 s u (h2.2 k s u e1 e2)⟩
    obtain ⟨r',st'',g'',m1,m2,m3,m4⟩:=vsnapm_ok m r us' st' g' _ k2 h2' k1
    refine ⟨s'::r',st'',g'',m1,m2,?_,fun s u hh=>m4 s u (k4 s u hh)⟩
    rw [SRs]
    exact ⟨u,us',rfl,m4 _ _ k3,m3⟩
  | false::m,s::r,us,st,g,k,h,hs,hv=>by
    rw [SRs] at hs
    obtain ⟨u,us',rfl,h1,h2⟩:=hs
    rw [vsnapm] at hv
    obtain ⟨r',st'',g'',m1,m2,m3,m4⟩:=vsnapm_ok m r us' st g _ h h2 hv
    refine ⟨s::r',st'',g'',m1,m2,?_,m4⟩
    rw [SRs]
    exact ⟨u,us',rfl,m4 _ _ h1,m3⟩
theorem ow_value {o:Oper} {u:Value} {w':World} {next:Act→World→Prop} {Q:Exit→Act→World→Prop} (hr:(execOp a.eval o).run P w = .ok (.value u) w') (h:next (a.put o.dst u) w'):o.wp P a w next Q:=by
  unfold Oper.wp;rw [hr];exact h
theorem ow_skip {o:Oper} {w':World} {next:Act→World→Prop} {Q:Exit→Act→World→Prop} (hr:(execOp a.eval o).run P w = .ok .skip w') (h:next (a.put o.dst undef) w'):o.wp P a w next Q:=by
  unfold Oper.wp;rw [hr];exact h
end
def zcells (N:Nat):Nat→List Value→List S
  | _,[]=>[]
  | k,.slice none 0 0::r=>.own (N+k+1) 0::zcells N (k+1) r
  | k,v::r=>.c (ofVal v)::zcells N (k+1) r
def znils (N:Nat):Nat→List Value→St→St
  | _,[],st=>st
  | k,.slice none 0 0::r,st=>znils N (k+1) r ((st.clr (N+k+1)).setR (N+k+1) (some (.arr true 0 [] 0)))
  | k,_::r,st=>znils N (k+1) r st
def valloc (P:Program) (dst:Option Nat) (st:St) (t:TypeId) (K:St→Prop):Prop :=
  match dst,zeroOf P t with
  | some x,some z =>
    z.cells.all (·.oneCell')=true ∧
      K ((((znils (64*x) 0 z.cells.toList st).clr (64*x)).setR (64*x) (some (.box false (zcells (64*x) 0 z.cells.toList)))).put x (.ptr (64*x) 0))
  | _,_=>False
def vbox (dst:Option Nat) (st:St) (s:S) (K:St→Prop):Prop :=
  match dst with
  | some x=>vsnap st s fun s' st' =>
    match cellsH st' s' with
    | some cs=>S.mens (64*x) cs=false∧K (((st'.clr (64*x)).setR (64*x) (some (.box false cs))).put x (.ptr (64*x) 0))
    | none=>False
  | none=>False
def vstore (P:Program) (st:St) (t:TypeId) (ad s:S) (K:St→Prop):Prop :=
  match ad with
  | .ptr i off =>
    match st.rs i,tySz P t,cellsH st s with
    | some (.box false ss),some (_,n),some cs=>cs.length=n∧off+n≤ss.length∧K (st.setR i (some (.box false (spl ss off cs))))
    | _,_,_=>False
  | .ep i m j o=>vsnap st s fun s' st' =>
    match st'.rs i,tySz P t,cellsS s' with
    | some (.arr nil sz xs fx),some (_,n),some cs=>cs.length=n∧xs.length=m∧j<m∧o+n≤sz∧fx≤j∧K (st'.setR i (some (.arr nil sz (xs.set j (spl (xs.getD j []) o cs)) fx)))
    | _,_,_=>False
  | _=>False
def chunks (s:Nat):Nat→List C→List (List C)
  | 0,_=>[]
  | n+1,l=>l.take s::chunks s n (l.drop s)
def vbuildSlice (P:Program) (dst:Option Nat) (st:St) (t:TypeId) (len:Nat) (parts:List (Nat × S)) (K:St→Prop):Prop :=
  match dst,P.underlying t with
  | some x,some (.slice e) =>
    match tySz P e,zeroOf P e with
    | some (_,s),some z =>
      match cellsS (ofConst z) with
      | some zc=>vsnaps st (parts.map (·.2)) fun ss st' =>
        match pfill (.inr s) (List.replicate len zc).flatten ((parts.map (·.1)).zip ss) with
        | some out=>zc.length=s∧len*s≤16777216∧0<s∧len≤maxLen∧K (((st'.clr (64*x)).setR (64*x) (some (.arr false s (chunks s len out) 0))).put x (.own (64*x) len))
        | none=>False
      | none=>False
    | _,_=>False
  | _,_=>False
def vappend (P:Program) (dst:Option Nat) (st:St) (t xt:TypeId) (d x:S) (K:St→Prop):Prop :=
  match dst,slT P t,P.underlying xt with
  | some y,some (s,B),some (.slice _)=>vsnap st x fun x' st' =>
    match x' with
    | .c (.sl _ ys) =>
      match d with
      | .c (.sl true [])=>(∀ e∈ys,e.length=s)∧0<B∧ys.length*B≤140737488355328∧K (((st'.clr (64*y)).setR (64*y) (some (.arr ys.isEmpty s ys 0))).put y (.own (64*y) ys.length))
      | .own i n =>
        match st'.rs i with
        | some (.arr nil sz xs fx)=>xs.length=n∧(nil=false→sz=s)∧(∀ e∈ys,e.length=s)∧0<B∧(xs.length+ys.length)*B≤140737488355328 ∧
            K (((st'.clr i).setR i (some (.arr (nil && ys.isEmpty) s (xs++ys) fx))).put y (.own i (n+ys.length)))
        | _=>False
      | _=>False
    | _=>False
  | _,_,_=>False
def vmake (P:Program) (dst:Option Nat) (st:St) (t:TypeId) (l c:S) (K:St→Prop):Prop :=
  match dst,slT P t,sint l,sint c with
  | some y,some (s,B),some n,some m =>
    match P.underlying t with
    | some (.slice e)=>match zeroOf P e with
      | some z=>match cellsS (ofConst z) with
        | some zc=>0≤n∧n≤m∧0<B∧m.toNat*B≤140737488355328∧0<s∧K (((st.clr (64*y)).setR (64*y) (some (.arr false s (List.replicate n.toNat zc) 0))).put y (.own (64*y) n.toNat))
        | none=>False
      | none=>False
    | _=>False
  | _,_,_,_=>False
def lendS:S→Bool
  | .own .. => true
  | .ptr .. => true
  | .ep .. => true
  | .pre .. => true
  | .mp _=>true
  | _=>false
def vlend (P:Program) (dst:Option Nat) (st:St) (fid:FuncId) (args:List S) (K:St→Prop):Prop :=
  ∃ m,vsnapm st m args fun args st=>∃ (b b':List (Nat × Res)) (as0 rs as1:List S) (τ:Nat→Nat) (C:List Nat),LendOk P st fid args b b' as0 rs as1 τ C∧K ((lendSt st τ C b').putd dst (retS τ rs))
def vcallA (P:Program) (dst:Option Nat) (st:St) (fid:FuncId) (caps:List C) (args:List S) (K:St→Prop):Prop :=
  vsnaps st args fun ss st'=>(∃ rs,Con P fid (ss++caps.map .c) rs∧K (vret st' dst rs))∨vlend P dst st' fid (ss++caps.map .c) K
def vcallQ (P:Program) (dst:Option Nat) (st:St) (fid:FuncId) (caps:List C) (args:List S) (K:St→Prop) (q:Bool):Prop :=
  match q with
  | true=>vcallA P dst st fid caps args K∨(caps=[]∧vlend P dst st fid args K)
  | false=>vcallA P dst st fid caps args K
def vcall (P:Program) (dst:Option Nat) (st:St) (f:S) (args:List S) (K:St→Prop):Prop :=
  match f with
  | .c (.fn fid caps)=>vcallQ P dst st fid caps args K (args.any lendS)
  | .fnp fid ss=>vlend P dst st fid (args++ss) K
  | _=>False
def vpure (P:Program) (dst:Option Nat) (st:St) (e:Operand→S) (op:Op) (K:St→Prop):Prop :=
  (pev P st e op).2∧K (st.putd dst (pev P st e op).1)
def vloadb (P:Program) (st:St) (t:TypeId) (s:S) (k:S→St→Prop):Prop :=
  match tySz P t,s with
  | some (true,m),.ptr i o =>
    match st.rs i with
    | some (.box _ ss)=>vsnaps st ((ss.drop o).take m) fun ss' st' =>
      match allC ss' with
      | some cs=>cs.length=m∧k (.agg cs) st'
      | none=>False
    | _=>False
  | _,_=>(pload P st t s).2∧k (pload P st t s).1 st
def vcap (st:St) (s:S) (k:C→St→Prop):Prop :=
  match s with
  | .c x=>k x st
  | .ptr i 0 =>
    match st.rs i with
    | some (.box _ ss)=>vsnaps st ss fun ss' st' =>
      match allC ss',st'.rs i with
      | some cs,some (.box _ _)=>k (.dp cs) (st'.setR i (some (.box true (cs.map .c))))
      | _,_=>False
    | _=>False
  | _=>False
def vcaps (st:St):List S→(List C→St→Prop)→Prop
  | [],k=>k [] st
  | s::r,k=>vcap st s fun c st'=>vcaps st' r fun cs st''=>k (c::cs) st''
def S.isOwn:S→Bool
  | .own _ _=>true
  | _=>false
def capR:Option Res→Bool
  | some (.box _ ss)=>ss.any S.isOwn
  | _=>false
def capS (st:St):S→Bool
  | .ptr i _=>capR (st.rs i)
  | _=>false
def capOwn (st:St):List S→Bool
  | []=>false
  | s::r=>capS st s || capOwn st r
def vmf (dst:Option Nat) (st:St) (f:FuncId) (ss:List S) (K:St→Prop) (q:Bool):Prop :=
  match q with
  | true=>K (st.putd dst (.fnp f ss))
  | false=>vcaps st ss fun cs st'=>K (st'.putd dst (.c (.fn f cs)))
def vsliceO (P:Program) (dst:Option Nat) (st:St) (t:TypeId) (x:S) (lo hi:Option S) (K:St→Prop):Prop :=
  match dst,x,lo,hi with
  | some y,.own i n,none,some h =>
    match sint h,st.rs i with
    | some m,some (.arr nil sz xs fx)=>0≤m∧m≤n∧xs.length=n∧fx≤m.toNat∧(esz P t).isSome=true∧K (((st.clr i).setR i (some (.arr nil sz (xs.take m.toNat) fx))).put y (.own i m.toNat))
    | _,_=>False
  | some y,.own i n,some l,none =>
    match sint l,st.rs i with
    | some m,some (.arr nil sz xs _)=>0≤m∧m≤n∧xs.length=n∧(nil=false→esz P t=some sz)∧(esz P t).isSome=true∧K (st.put y (.suf i n m.toNat))
    | _,_=>False
  | _,_,_,_=>False
def vclear (P:Program) (dst:Option Nat) (st:St) (t:TypeId) (x:S) (K:St→Prop):Prop :=
  match dst,x,P.underlying t with
  | none,.suf i n j,some (.slice e) =>
    match st.rs i,tySz P e,zeroOf P e with
    | some (.arr nil sz xs fx),some (_,s),some z =>
      match cellsS (ofConst z) with
      | some zc=>xs.length=n∧fx≤j∧j≤n∧s=sz∧zc.length=s∧0<s∧K (st.setR i (some (.arr nil sz (xs.take j++List.replicate (n-j) zc) fx)))
      | none=>False
    | _,_,_=>False
  | _,_,_=>False
def isOne:Option (Bool × Nat)→Bool
  | some (b,n)=>b && n == 1
  | none=>false
def oneOwn (q:Bool) (is:List Nat) (ss:List S):Option (Nat × Nat) :=
  bif q then
    match is,ss with
    | [0],[.own i n]=>some (i,n)
    | _,_=>none
  else none
def B1 (P:Program) (t:TypeId):Prop:=∀ d:C,pbuild P t [(0,.c d)]=(.agg [d],True)
def vmkI (P:Program) (dst:Option Nat) (st:St) (t:TypeId) (s:S) (K:St→Prop):Prop :=
  match s with
  | .st ss=>vsnaps st ss fun ss' st' =>
    match allC ss' with
    | some cs=>isIface P t=false∧K (st'.putd dst (.c (.ifc t cs)))
    | none=>False
  | s=>vsnap st s fun s' st'=>(pmkI P t s').2∧K (st'.putd dst (pmkI P t s').1)
def methOf (P:Program) (d:TypeId) (name:String):Option FuncId :=
  match P.info? d with
  | some i =>
    match i.methods.find? (·.name == name) with
    | some m =>
      match m.path.toList,m.func,P.underlying d with
      | [],some (_,false),some (.pointer _)=>none
      | [],some (f,false),some _=>some f
      | _,_,_=>none
    | none=>none
  | none=>none
def recvS:S→Option (TypeId × S)
  | .c (.ifc d cs)=>some (d,.agg cs)
  | .c (.ifo d c)=>some (d,.c c)
  | _=>none
def vinv (P:Program) (dst:Option Nat) (st:St) (r:S) (name:String) (args:List S) (K:St→Prop):Prop :=
  ∃ d s f,recvS r=some (d,s)∧methOf P d name=some f∧vsnaps st args fun ss st'=>∃ rs,Con P f (s::ss) rs∧K (vret st' dst rs)
def vop (P:Program) (dst:Option Nat) (st:St) (e:Operand→S) (op:Op) (K:St→Prop):Prop :=
  match op with
  | .assign (.const (.slice none 0 0)) =>
    match dst with
    | some x=>K (((st.clr (64*x)).setR (64*x) (some (.arr true 0 [] 0))).put x (.own (64*x) 0))
    | none=>False
  | .alloc t=>valloc P dst st t K
  | .box _ x=>vbox dst st (e x) K
  | .store t ad x=>vstore P st t (e ad) (e x) K
  | .load t x=>vloadb P st t (e x) fun s st'=>K (st'.putd dst s)
  | .buildSlice t len parts=>vbuildSlice P dst st t len (parts.toList.map fun p=>(p.1,e p.2)) K
  | .makeSlice t l c=>vmake P dst st t (e l) (e c) K
  | .slice t x lo hi mx=>(vsnap st (e x) fun s st'=>(pslice P t s (lo.map e) (hi.map e) (mx.map e)).2∧K (st'.putd dst (pslice P t s (lo.map e) (hi.map e) (mx.map e)).1))∨(mx=none∧vsliceO P dst st t (e x) (lo.map e) (hi.map e) K)
  | .makeFunc (.func f) first cap=>first.toList=[]∧vmf dst st f (cap.toList.map e) K (capOwn st (cap.toList.map e))
  | .build t parts =>
    match oneOwn (isOne (tySz P t)) (parts.toList.map (·.1)) (parts.toList.map fun p=>e p.2) with
    | some (i,n) =>
      match st.rs i with
      | some (.arr _ _ xs _)=>B1 P t∧xs.length=n∧K (st.putd dst (.st [.own i n]))
      | _=>False
    | none=>vsnaps st (parts.toList.map fun p=>e p.2) fun ss st'=>(pbuild P t ((parts.toList.map (·.1)).zip ss)).2∧K (st'.putd dst (pbuild P t ((parts.toList.map (·.1)).zip ss)).1)
  | .makeInterface t x=>vmkI P dst st t (e x) K
  | .makeMap _ none=>vmkMap dst st K
  | .lookup t m k ok=>vlkup P dst st t (e m) (e k) ok K
  | .mapUpdate t m k x=>vmapUp P dst st t (e m) (e k) (e x) K
  | .range t m=>vrange P dst st t (e m) K
  | .next it false=>vnext dst st (e it) K
  | .entry it=>ventry dst st (e it) K
  | .call c =>
    match c.callee with
    | .builtin .append=>match c.argTypes.toList,c.args.toList with
      | [t,xt],[d,x]=>vappend P dst st t xt (e d) (e x) K
      | _,_=>False
    | .value f=>vcall P dst st (e f) (c.args.toList.map e) K
    | .invoke r name=>vinv P dst st (e r) name (c.args.toList.map e) K
    | .builtin .clear=>match c.argTypes.toList,c.args.toList with
      | [t],[x]=>vclear P dst st t (e x) K
      | _,_=>False
    | _=>vpure P dst st e op K
  | _=>vpure P dst st e op K
section
variable {P:Program} {w0:World} {K0:K0T} {nt:Nat} {st:St} {a:Act} {w:World} {g:G}
theorem cellsH_ok (h:T w0 K0 nt st a w g) {s:S} {cs:List S} {u:Value} (hc:cellsH st s=some cs) (hs:SR g w st.rs s u):SRs g w st.rs cs u.cells.toList∧∀ v∈u.cells.toList,v.oneCell'=true:=by
  have one:u.oneCell'=true→u.cells = #[u]:=fun h=>by cases u <;> first | rfl | cases h
  have fin:∀ s,SR g w st.rs s u→u.oneCell'=true→SRs g w st.rs [s] u.cells.toList∧∀ v∈u.cells.toList,v.oneCell'=true:=fun s hs h1=>by
    rw [one h1]
    refine ⟨by simp only [SRs];exact ⟨u,[],rfl,hs,rfl⟩,fun v hv=>?_⟩
    simp at hv;subst hv;exact h1
  unfold cellsH at hc
  split at hc
  · cases hc
    have hs':=hs
    rw [SR] at hs'
    exact fin _ hs (CR.one hs')
  · rename_i cs'
    cases hc
    rw [SR] at hs
    obtain ⟨us,rfl,hv⟩:=hs
    have hv':=(VR_iff _ _).1 hv
    show SRs g w st.rs (cs'.map .c) us∧∀ v∈us,v.oneCell'=true
    refine ⟨?_,fun v hm=>?_⟩
    · rw [SRs_iff]
      refine ⟨by simp [hv'.1],fun k s u e1 e2=>?_⟩
      simp only [List.getElem?_map,Option.map_eq_some_iff] at e1
      obtain ⟨c,e1,rfl⟩:=e1
      rw [SR]
      exact hv'.2 k c u e1 e2
    · obtain ⟨k,hk,rfl⟩:=List.mem_iff_getElem.1 hm
      have hk':k<cs'.length:=by have:=hv'.1;omega
      exact CR.one (hv'.2 k cs'[k] _ (by simp [hk']) (by simp))
  · rename_i ss
    cases hc
    rw [SR] at hs
    obtain ⟨us,rfl,h1,h2⟩:=hs
    exact ⟨by simpa [Value.cells] using h1,by simpa [Value.cells] using h2⟩
  · rename_i i o
    split at hc
    · rename_i fz ss hr
      cases hc
      have hs':=hs
      rw [SR] at hs'
      obtain ⟨b,_,rfl⟩:=hs' fz ss hr
      exact fin _ hs rfl
    · cases hc
  · rename_i i n
    split at hc
    · rename_i nil sz xs fx hr
      split at hc
      · rename_i hn
        cases hc
        have hs':=hs
        rw [SR] at hs'
        have hu:=hs' nil sz xs fx hr hn
        refine fin _ hs ?_
        rcases h.res i _ hr with ⟨_,_,e,_⟩ | ⟨_,b,cap,cur,E,e,_⟩ <;> rw [hu,e] <;> rfl
      · cases hc
    · cases hc
  · cases hc
theorem SR.nilown (g:G) (w:World) {R:Nat→Option Res} {N:Nat} (hl:g.loc N = .slice none 0 0):SR g w R (.own N 0) (.slice none 0 0):=by
  rw [SR];intro _ _ _ _ _ _;exact hl.symm
theorem SR.keep {g g':G} {R R':Nat→Option Res} {N:Nat} (hk:g'.K=g.K) (hl:∀ j,j≠N→g'.loc j=g.loc j) (hR:∀ j,j≠N→R' j=(R j).map (Res.clr N)) {w':World} (hw:Keeps g.K w g.K w') {s:S} {u:Value} (hm:s.men N=false) (h:SR g w R s u):SR g' w' R' s u:=by
  refine SR.mono (by rw [hk];exact hw) s u (fun j hj=>?_) h
  have hji:j≠N:=fun e=>by subst e;rw [hj] at hm;cases hm
  refine ⟨fun fz ss' e=>?_,fun nil sz xs fx e=>?_,fun kvs e=>?_⟩
  · rw [hR j hji] at e
    cases hs:R j with
    | none=>simp [hs] at e
    | some r=>cases r with
      | box fz0 ss0=>exact ⟨⟨fz0,ss0,rfl⟩,hl j hji⟩
      | arr _ _ _ _=>simp [hs,Res.clr] at e
      | pin _ _=>simp [hs,Res.clr] at e
      | map _=>simp [hs,Res.clr] at e
  · rw [hR j hji] at e
    cases hs:R j with
    | none=>simp [hs] at e
    | some r=>cases r with
      | box fz0 ss0=>simp [hs,Res.clr] at e
      | arr nil0 sz0 xs0 fx0 =>
        simp [hs,Res.clr] at e
        obtain ⟨rfl,rfl,rfl,rfl⟩:=e
        exact ⟨⟨_,_,_,rfl,rfl⟩,hl j hji⟩
      | pin _ _=>simp [hs,Res.clr] at e
      | map _=>simp [hs,Res.clr] at e
  · rw [hR j hji] at e
    cases hs:R j with
    | none=>simp [hs] at e
    | some r=>cases r with
      | box fz0 ss0=>simp [hs,Res.clr] at e
      | arr _ _ _ _=>simp [hs,Res.clr] at e
      | pin _ _=>simp [hs,Res.clr] at e
      | map k0 =>
        simp [hs,Res.clr] at e
        exact ⟨⟨k0,rfl,by rw [← e,MB.sh_clr]⟩,hl j hji⟩
theorem rs_make (st:St) (N j:Nat) (r:Option Res) (h:j≠N):((st.clr N).setR N r).rs j=(st.rs j).map (Res.clr N):=by
  rw [St.rs_setR,if_neg (Ne.symm h),St.rs_clr]
theorem znils_ok (N:Nat):∀ (vs:List Value) (k:Nat) (st:St) (g:G),T w0 K0 nt st a w g→(∀ v∈vs,v.oneCell'=true) →
    ∃ g',T w0 K0 nt (znils N k vs st) a w g'∧SRs g' w (znils N k vs st).rs (zcells N k vs) vs∧g'.K=g.K∧(∀ s u,(∀ j,k≤j→s.men (N+j+1)=false)→SR g w st.rs s u→SR g' w (znils N k vs st).rs s u)
  | [],k,st,g,h,_=>⟨g,h,by simp [zcells,SRs],rfl,fun _ _ _ h=>h⟩
  | v::r,k,st,g,h,h1=>by
    by_cases hv:v = .slice none 0 0
    · subst hv
      obtain ⟨g1,k1,k2,k3,k4⟩:=h.nilR (N+k+1)
      obtain ⟨g',m1,m2,m3,m4⟩:=znils_ok N r (k+1) _ g1 k1 (fun v hv=>h1 v (by simp [hv]))
      have e1:znils N k (.slice none 0 0::r) st=znils N (k+1) r ((st.clr (N+k+1)).setR (N+k+1) (some (.arr true 0 [] 0))):=by rw [znils]
      have e2:zcells N k (.slice none 0 0::r) = .own (N+k+1) 0::zcells N (k+1) r:=by rw [zcells]
      rw [e1,e2]
      refine ⟨g',m1,?_,m3.trans k4,fun s u hm hs=>m4 s u (fun j hj=>hm j (by omega)) ?_⟩
      · rw [SRs]
        refine ⟨_,_,rfl,m4 _ _ (fun j hj=>by simp [S.men];omega) (SR.nilown g1 w k2),m2⟩
      · exact SR.keep k4 k3 (fun j hj=>rs_make st _ j _ hj) (Keeps.refl _ _) (hm k (Nat.le_refl _)) hs
    · obtain ⟨g',m1,m2,m3,m4⟩:=znils_ok N r (k+1) st g h (fun v hv=>h1 v (by simp [hv]))
      have e1:znils N k (v::r) st=znils N (k+1) r st:=by
        rw [znils];exact hv
      have e2:zcells N k (v::r) = .c (ofVal v)::zcells N (k+1) r:=by
        rw [zcells];exact hv
      rw [e1,e2]
      refine ⟨g',m1,?_,m3,fun s u hm hs=>m4 s u (fun j hj=>hm j (by omega)) hs⟩
      rw [SRs]
      refine ⟨_,_,rfl,?_,m2⟩
      rw [SR]
      exact CR_ofVal _ _ _ (h1 v (by simp))
theorem zcells_men (N:Nat):∀ (vs:List Value) (k:Nat),S.mens N (zcells N k vs)=false
  | [],k=>by simp [zcells,S.mens]
  | v::r,k=>by
    by_cases hv:v = .slice none 0 0
    · subst hv
      have e2:zcells N k (.slice none 0 0::r) = .own (N+k+1) 0::zcells N (k+1) r:=by rw [zcells]
      rw [e2,S.mens,zcells_men N r (k+1)]
      simp [S.men]
      omega
    · have e2:zcells N k (v::r) = .c (ofVal v)::zcells N (k+1) r:=by
        rw [zcells];exact hv
      rw [e2,S.mens,zcells_men N r (k+1)]
      simp [S.men]
theorem T.putp (h:T w0 K0 nt st a w g) {N t b:Nat} (ht:t<nt) (hl:g.loc N = .pointer (some ⟨b,0,none⟩)):T w0 K0 nt (st.put t (.ptr N 0)) (a.put (some t) (.pointer (some ⟨b,0,none⟩))) w g :=
  h.put ht (by rw [SR];intro _ _ _;exact ⟨b,hl,rfl⟩)
theorem T.puto (h:T w0 K0 nt st a w g) {N t n:Nat} {v:Value} (ht:t<nt) (hl:g.loc N=v):T w0 K0 nt (st.put t (.own N n)) (a.put (some t) v) w g :=
  h.put ht (by rw [SR];intro _ _ _ _ _ _;exact hl.symm)
variable {o:Oper} {K:St→Prop} {e:Operand→S} {next:Act→World→Prop} {Q:Exit→Act→World→Prop}
theorem valloc_ok (h:T w0 K0 nt st a w g) (hd:∀ t,o.dst=some t→t<nt) {t:TypeId} (ho:o.op = .alloc t) (hv:valloc P o.dst st t K) (hn:∀ st' a' w' g',K st'→T w0 K0 nt st' a' w' g'→next a' w'):o.wp P a w next Q:=by
  unfold valloc at hv
  split at hv
  · rename_i x z hx hz
    obtain ⟨h1,hK⟩:=hv
    have h1':∀ v∈z.cells.toList,v.oneCell'=true:=fun v hv=>Array.all_eq_true_iff_forall_mem.1 h1 v (by simpa using hv)
    obtain ⟨g1,k1,k2,k3,k4⟩:=znils_ok (64*x) z.cells.toList 0 st g h h1'
    obtain ⟨g2,m1,m2,m3,m4⟩:=k1.newbox (64*x) _ _ t k2 h1' (zcells_men _ _ _)
    have hr:(execOp a.eval o).run P w = .ok (.value (.pointer (some ⟨w.heap.size,0,none⟩))) (w.alloc (.cells z.cells.toList.toArray t)):=by
      simp [execOp,ho,Instr.alloc,run_zero hz,newVar,newRow]
    refine ow_value hr (hn _ _ _ g2 hK ?_)
    rw [hx]
    exact m1.putp (hd x hx) m2
  · exact hv.elim
theorem vbox_ok (h:T w0 K0 nt st a w g) (hd:∀ t,o.dst=some t→t<nt) {t:TypeId} {x:Operand} (ho:o.op = .box t x) (he:SR g w st.rs (e x) (a.eval x)) (hv:vbox o.dst st (e x) K) (hn:∀ st' a' w' g',K st'→T w0 K0 nt st' a' w' g'→next a' w'):o.wp P a w next Q:=by
  unfold vbox at hv
  split at hv
  · rename_i y hy
    obtain ⟨s',st',g',k1,k2,k3,k4,k5,k6⟩:=vsnap_ok h he hv
    split at k1
    · rename_i cs hcs
      obtain ⟨hm,hK⟩:=k1
      obtain ⟨c1,c2⟩:=cellsH_ok k2 hcs k3
      obtain ⟨g2,m1,m2,m3,m4⟩:=k2.newbox (64*y) _ _ t c1 c2 hm
      have hr:(execOp a.eval o).run P w = .ok (.value (.pointer (some ⟨w.heap.size,0,none⟩))) (w.alloc (.cells (a.eval x).cells.toList.toArray t)):=by
        simp [execOp,ho,Instr.box,newVar,newRow]
      refine ow_value hr (hn _ _ _ g2 hK ?_)
      rw [hy]
      exact m1.putp (hd y hy) m2
    · exact k1.elim
  · exact hv.elim
theorem vstore_ok (h:T w0 K0 nt st a w g) (hdst:o.dst=none) {t:TypeId} {ad x:Operand} (ho:o.op = .store t ad x) (ha:SR g w st.rs (e ad) (a.eval ad)) (he:SR g w st.rs (e x) (a.eval x)) (hv:vstore P st t (e ad) (e x) K) (hn:∀ st' a' w' g',K st'→T w0 K0 nt st' a' w' g'→next a' w'):o.wp P a w next Q:=by
  have hrun:∀ w',(Instr.storeAt t (a.eval ad) (a.eval x)).run P w = .ok () w'→(execOp a.eval o).run P w = .ok .skip w':=fun w' hr=>by simp [execOp,ho,hr]
  unfold vstore at hv
  split at hv
  · rename_i i off hea
    split at hv
    · rename_i ss agg n cs hr ht hcs
      obtain ⟨h1,h2,hK⟩:=hv
      obtain ⟨c1,c2⟩:=cellsH_ok h hcs he
      rw [hea] at ha
      obtain ⟨w',r1,r2⟩:=h.store_box (P:=P) hr ht ha c1 c2 h1 h2
      refine ow_skip (hrun w' r1) ?_
      rw [hdst]
      exact hn _ _ _ _ hK r2
    · exact hv.elim
  · rename_i i m j off hea
    obtain ⟨s',st',g',k1,k2,k3,k4,k5,k6⟩:=vsnap_ok h he hv
    split at k1
    · rename_i nil sz xs fx agg n cs hr ht hcs
      obtain ⟨h1,h2,h3,h4,h5,hK⟩:=k1
      rw [hea] at ha
      obtain ⟨w',r1,r2⟩:=k2.store_arr (P:=P) hr ht (k4 _ _ ha) h2 h3 (cellsS_VR hcs k3) (cellsS_one hcs k3) h1 h4 h5
      refine ow_skip (hrun w' r1) ?_
      rw [hdst]
      exact hn _ _ _ _ hK r2
    · exact k1.elim
  · exact hv.elim
theorem vpure_ok (h:T w0 K0 nt st a w g) (hd:∀ t,o.dst=some t→t<nt) (he:∀ x∈o.op.operands.toList,SR g w st.rs (e x) (a.eval x)) (hv:vpure P o.dst st e o.op K) (hn:∀ st' a' w' g',K st'→T w0 K0 nt st' a' w' g'→next a' w'):o.wp P a w next Q:=by
  obtain ⟨h1,h2⟩:=hv
  obtain ⟨u,r1,r2⟩:=pev_ok h o e he h1
  exact ow_value r1 (hn _ _ _ _ h2 (h.putd hd r2))
end
end Go.VL
