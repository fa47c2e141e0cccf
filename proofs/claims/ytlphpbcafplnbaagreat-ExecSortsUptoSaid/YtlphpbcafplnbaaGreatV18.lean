/- Contracts of functions of the seat, proved in a logic on data over the model (part V18). -/
import Derived.Test.YtlphpbcafplnbaaGreatV17
set_option linter.unusedSimpArgs false
set_option linter.unusedVariables false
namespace Go.VL
open Go.RowKit
structure Eff where
  d:Option Nat
  s:S
  rs:List (Nat × Res)
  fr:Bool
def St.setRs (st:St) (l:List (Nat × Res)):St:=l.foldl (fun st p=>st.setR p.1 (some p.2)) st
def St.app (st:St) (e:Eff):St:=(st.setRs e.rs).putd e.d e.s
def Eqv (st st':St):Prop:=st.get=st'.get∧st.rs=st'.rs
theorem Eqv.refl (st:St):Eqv st st:=⟨rfl,rfl⟩
theorem Eqv.symm {st st':St} (h:Eqv st st'):Eqv st' st:=⟨h.1.symm,h.2.symm⟩
theorem Eqv.trans {x y z:St} (h:Eqv x y) (h':Eqv y z):Eqv x z:=⟨h.1.trans h'.1,h.2.trans h'.2⟩
theorem Eqv.setR {x y:St} (h:Eqv x y) (i:Nat) (r:Option Res):Eqv (x.setR i r) (y.setR i r) :=
  ⟨by rw [St.get_setR,St.get_setR];exact h.1,by funext j;rw [St.rs_setR,St.rs_setR,h.2]⟩
theorem Eqv.put {x y:St} (h:Eqv x y) (t:Nat) (s:S):Eqv (x.put t s) (y.put t s) :=
  ⟨by funext j;rw [St.get_put,St.get_put,h.1],by rw [St.rs_put,St.rs_put];exact h.2⟩
theorem Eqv.putd {x y:St} (h:Eqv x y) (t:Option Nat) (s:S):Eqv (x.putd t s) (y.putd t s):=by
  cases t with
  | none=>exact h
  | some t=>exact h.put t s
theorem Eqv.setRs {x y:St} (h:Eqv x y) (l:List (Nat × Res)):Eqv (x.setRs l) (y.setRs l):=by
  induction l generalizing x y with
  | nil=>exact h
  | cons p r ih=>exact ih (h.setR p.1 (some p.2))
theorem Eqv.app {x y:St} (h:Eqv x y) (e:Eff):Eqv (x.app e) (y.app e):=(h.setRs e.rs).putd e.d e.s
def Res.men (i:Nat):Res→Bool
  | .box _ ss=>S.mens i ss
  | .arr .. => false
  | .map m=>m.men i
  | .pin _ s=>s.men i
structure Clean (i:Nat) (st:St):Prop where
  get:∀ t,(st.get t).men i=false
  rs:∀ j r,st.rs j=some r→r.men i=false
mutual
theorem S.clr_id {i:Nat} : ∀ (s:S),s.men i=false→s.clr i=s
  | .c _,_=>rfl
  | .agg _,_=>rfl
  | .un,_=>rfl
  | .tup ss,h=>by rw [S.men] at h;rw [S.clr,S.clrs_id ss h]
  | .fnp f ss,h=>by rw [S.men] at h;rw [S.clr,S.clrs_id ss h]
  | .st ss,h=>by rw [S.men] at h;rw [S.clr,S.clrs_id ss h]
  | .own j _,h=>by rw [S.men] at h;rw [S.clr,h];rfl
  | .ptr j _,h=>by rw [S.men] at h;rw [S.clr,h];rfl
  | .ep j _ _ _,h=>by rw [S.men] at h;rw [S.clr,h];rfl
  | .suf j _ _,h=>by rw [S.men] at h;rw [S.clr,h];rfl
  | .mp j,h=>by rw [S.men] at h;rw [S.clr,h];rfl
  | .me j _ _,h=>by rw [S.men] at h;rw [S.clr,h];rfl
  | .pre j _ _,h=>by rw [S.men] at h;rw [S.clr,h];rfl
  | .cut j _ _,h=>by rw [S.men] at h;rw [S.clr,h];rfl
  | .g _ s,h=>by rw [S.men] at h;rw [S.clr,S.clr_id s h]
theorem S.clrs_id {i:Nat} : ∀ (ss:List S),S.mens i ss=false→S.clrs i ss=ss
  | [],_=>rfl
  | s::r,h=>by
    rw [S.mens,Bool.or_eq_false_iff] at h
    rw [S.clrs,S.clr_id s h.1,S.clrs_id r h.2]
end
theorem S.clrs_map (i:Nat):∀ (ss:List S),ss.map (S.clr i)=S.clrs i ss
  | []=>rfl
  | s::r=>by rw [List.map_cons,S.clrs,S.clrs_map i r]
theorem Res.clr_id {i:Nat} (r:Res) (h:r.men i=false):r.clr i=r:=by
  cases r with
  | box fz ss=>rw [Res.clr,S.clrs_map,S.clrs_id ss h]
  | arr=>rfl
  | map m =>
    rw [Res.clr,MB.clr,MB.map_id' m fun s hs=>S.clr_id s (by
      cases hx:s.men i with
      | false=>rfl
      | true=>have:=MB.men_of hs hx;rw [show m.men i=false from h] at this;cases this)]
  | pin v s=>rw [Res.clr,S.clr_id s h]
theorem Clean.clr {i:Nat} {st:St} (h:Clean i st):Eqv (st.clr i) st:=by
  refine ⟨?_,?_⟩
  · funext t;rw [St.get_clr,S.clr_id _ (h.get t)]
  · funext j
    rw [St.rs_clr]
    cases e:st.rs j with
    | none=>rfl
    | some r=>rw [Option.map_some,Res.clr_id r (h.rs j r e)]
theorem Clean.eqv {i:Nat} {st st':St} (h:Clean i st) (e:Eqv st' st):Clean i st':=⟨fun t=>by rw [e.1];exact h.get t,fun j r hr=>h.rs j r (by rw [← e.2];exact hr)⟩
theorem Clean.setR {i:Nat} {st:St} (h:Clean i st) {j:Nat} {r:Res} (hr:r.men i=false):Clean i (st.setR j (some r)):=by
  refine ⟨fun t=>by rw [St.get_setR];exact h.get t,fun k r' e=>?_⟩
  rw [St.rs_setR] at e
  split at e
  · cases e;exact hr
  · exact h.rs k r' e
theorem Clean.put {i:Nat} {st:St} (h:Clean i st) {t:Nat} {s:S} (hs:s.men i=false):Clean i (st.put t s):=by
  refine ⟨fun t'=>?_,h.rs⟩
  rw [St.get_put]
  split
  · exact hs
  · exact h.get t'
theorem Clean.fresh {i:Nat} {st:St} (h:Clean i st) (r:Option Res):Eqv ((st.clr i).setR i r) (st.setR i r):=h.clr.setR i r
def dataS:S→Bool
  | .c _=>true
  | .agg _=>true
  | _=>false
theorem vsnaps_data (st:St):∀ (ss:List S) (k:List S→St→Prop),ss.all dataS=true→k ss st→vsnaps st ss k
  | [],_,_,h=>h
  | s::r,k,hd,h=>by
    simp only [List.all_cons,Bool.and_eq_true] at hd
    cases s with
    | c x=>rw [vsnaps];simp only [vsnap];exact vsnaps_data st r _ hd.2 h
    | agg x=>rw [vsnaps];simp only [vsnap];exact vsnaps_data st r _ hd.2 h
    | _=>simp [dataS] at hd
def rt1 (N:Nat):Rt→S × List (Nat × Res)
  | .c x=>(.c x,[])
  | .ag cs=>(.agg cs,[])
  | .fr nil sz xs fx=>(.own N xs.length,[(N,.arr nil sz xs fx)])
def rtsE (N:Nat):List Rt→List S × List (Nat × Res)
  | []=>([],[])
  | r::rest=>((rt1 N r).1::(rtsE (N+1) rest).1,(rt1 N r).2++(rtsE (N+1) rest).2)
def retEff (dst:Option Nat) (rs:List Rt):Eff :=
  match dst,rs with
  | none,_=>⟨none,.un,[],true⟩
  | some d,[r]=>⟨some d,(rt1 (64*d) r).1,(rt1 (64*d) r).2,true⟩
  | some d,rs=>⟨some d,.tup (rtsE (64*d+1) rs).1,(rtsE (64*d+1) rs).2,true⟩
def znE (N:Nat):Nat→List Value→List (Nat × Res)
  | _,[]=>[]
  | k,.slice none 0 0::r=>(N+k+1,.arr true 0 [] 0)::znE N (k+1) r
  | k,_::r=>znE N (k+1) r
def veAlloc (P:Program) (dst:Option Nat) (t:TypeId) (k:Eff→Prop):Prop :=
  match dst,zeroOf P t with
  | some x,some z=>z.cells.all (·.oneCell')=true∧k ⟨some x,.ptr (64*x) 0,znE (64*x) 0 z.cells.toList++[(64*x,.box false (zcells (64*x) 0 z.cells.toList))],true⟩
  | _,_=>False
def veStore (P:Program) (st:St) (t:TypeId) (ad s:S) (k:Eff→Prop):Prop :=
  match ad with
  | .ptr i off =>
    match st.rs i,tySz P t,cellsH st s with
    | some (.box false ss),some (_,n),some cs=>cs.length=n∧off+n≤ss.length∧k ⟨none,.un,[(i,.box false (spl ss off cs))],false⟩
    | _,_,_=>False
  | .ep i m j o =>
    match st.rs i,tySz P t,cellsS s with
    | some (.arr nil sz xs fx),some (_,n),some cs=>dataS s=true∧cs.length=n∧xs.length=m∧j<m∧o+n≤sz∧fx≤j∧k ⟨none,.un,[(i,.arr nil sz (xs.set j (spl (xs.getD j []) o cs)) fx)],false⟩
    | _,_,_=>False
  | _=>False
def veBuild (P:Program) (dst:Option Nat) (t:TypeId) (len:Nat) (parts:List (Nat × S)) (k:Eff→Prop):Prop :=
  match dst,P.underlying t with
  | some x,some (.slice e) =>
    match tySz P e,zeroOf P e with
    | some (_,s),some z =>
      match cellsS (ofConst z) with
      | some zc =>
        match pfill (.inr s) (List.replicate len zc).flatten ((parts.map (·.1)).zip (parts.map (·.2))) with
        | some out=>(parts.map (·.2)).all dataS=true∧zc.length=s∧len*s≤16777216∧0<s∧len≤maxLen∧k ⟨some x,.own (64*x) len,[(64*x,.arr false s (chunks s len out) 0)],true⟩
        | none=>False
      | none=>False
    | _,_=>False
  | _,_=>False
def dead:Res:=.pin undef .un
def veOpd (st:St) (x:S):Option (List (List C) × List (Nat × Res)) :=
  match x with
  | .c (.sl _ ys)=>some (ys,[])
  | .own j m =>
    match st.rs j with
    | some (.arr _ _ ys _)=>if ys.length=m then some (ys,[(j,dead)]) else none
    | _=>none
  | _=>none
def veAppend (P:Program) (dst:Option Nat) (st:St) (t xt:TypeId) (d x:S) (k:Eff→Prop):Prop :=
  match dst,slT P t,P.underlying xt,veOpd st x with
  | some y,some (s,B),some (.slice _),some (ys,kl) =>
    match d with
    | .c (.sl true [])=>kl.all (fun p=>p.1 != 64*y)=true∧(∀ e∈ys,e.length=s)∧0<B∧ys.length*B≤140737488355328∧k ⟨some y,.own (64*y) ys.length,kl++[(64*y,.arr ys.isEmpty s ys 0)],true⟩
    | .own i n =>
      match st.rs i with
      | some (.arr nil sz xs fx)=>kl.all (fun p=>p.1 != 64*y && p.1 != i)=true∧(i != 64*y)=true∧xs.length=n∧(nil=false→sz=s)∧(∀ e∈ys,e.length=s)∧0<B∧(xs.length+ys.length)*B≤140737488355328 ∧
          k ⟨some y,.own (64*y) (n+ys.length),kl++[(i,dead),(64*y,.arr (nil && ys.isEmpty) s (xs++ys) fx)],true⟩
      | _=>False
    | _=>False
  | _,_,_,_=>False
def vopd (st:St):List S→(List S→List (Nat × Res)→St→Prop)→Prop
  | [],k=>k [] [] st
  | .own j m::r,k=>match st.rs j with
    | some (.arr nil _ ys _)=>ys.length=m∧vopd (st.setR j (some dead)) r fun a l st'=>k (.c (.sl nil ys)::a) ((j,dead)::l) st'
    | _=>False
  | s::r,k=>vopd st r fun a l st'=>k (s::a) l st'
def addE (l:List (Nat × Res)) (e:Eff):Eff:=⟨e.d,e.s,l++e.rs,e.fr⟩
def veCall (P:Program) (st:St) (dst:Option Nat) (f:S) (args:List S) (k:Eff→Prop):Prop :=
  vopd st args fun args l st'=>∃ rs,pcall P st' f args rs∧k (addE l (retEff dst rs))
inductive VO:St→List S→List S→List (Nat × Res)→St→Prop where
  | nil (st:St):VO st [] [] [] st
  | own (st:St) (j:Nat) (b:Bool) (sz:Nat) (ys:List (List C)) (fx:Nat) (r a:List S) (l:List (Nat × Res)) (st':St) (h:st.rs j=some (.arr b sz ys fx)) (h2:VO (st.setR j (some dead)) r a l st'):VO st (.own j ys.length::r) (.c (.sl b ys)::a) ((j,dead)::l) st'
  | skip (st:St) (s:S) (r a:List S) (l:List (Nat × Res)) (st':St) (h2:VO st r a l st'):VO st (s::r) (s::a) l st'
theorem vopd_VO:∀ (ss:List S) (st:St) (k:List S→List (Nat × Res)→St→Prop),vopd st ss k→∃ a l st',VO st ss a l st'∧k a l st'
  | [],st,k,h=>⟨[],[],st,VO.nil st,h⟩
  | s::r,st,k,h=>by
    have sk:(vopd st r fun a l st'=>k (s::a) l st')→∃ a l st',VO st (s::r) a l st'∧k a l st':=fun h=>by
      obtain ⟨a,l,st',h1,h2⟩:=vopd_VO r st _ h
      exact ⟨_,_,_,VO.skip st s r a l st' h1,h2⟩
    cases s with
    | own j m =>
      rw [vopd] at h
      split at h
      · rename_i b sz ys fx hr
        obtain ⟨rfl,h⟩:=h
        obtain ⟨a,l,st',h1,h2⟩:=vopd_VO r _ _ h
        exact ⟨_,_,_,VO.own st j b sz ys fx r a l st' hr h1,h2⟩
      · exact h.elim
    | _=>exact sk (by simpa only [vopd] using h)
def vePure (P:Program) (st:St) (o:Oper) (k:Eff→Prop):Prop :=
  (pev P st st.ev o.op).2∧(pev P st st.ev o.op).1.kn st.rs=true∧k ⟨o.dst,(pev P st st.ev o.op).1,[],false⟩
def veBld (P:Program) (st:St) (dst:Option Nat) (t:TypeId) (is:List Nat) (ss:List S) (k:Eff→Prop):Prop :=
  vopd st ss fun a l st'=>(pbuild P t (is.zip a)).2∧(pbuild P t (is.zip a)).1.kn st'.rs=true∧k ⟨dst,(pbuild P t (is.zip a)).1,l,false⟩
def veCut (P:Program) (st:St) (dst:Option Nat) (t:TypeId) (x h m:S) (k:Eff→Prop):Prop :=
  match x with
  | .own i n=>match st.rs i,sint h,sint m with
    | some (.arr _ _ xs _),some p,some q=>p=q∧0≤p∧p≤n∧xs.length=n∧(esz P t).isSome=true∧k ⟨dst,.cut i n p.toNat,[],false⟩
    | _,_,_=>False
  | _=>False
def veApC (P:Program) (st:St) (dst:Option Nat) (t xt:TypeId) (i n m:Nat) (x:S) (k:Eff→Prop):Prop :=
  vopd st [x] fun a l st'=>match dst,slT P t,P.underlying xt,a,st'.rs i with
    | some y,some (s,B),some (.slice _),[.c (.sl _ ys)],some (.arr nil sz xs _)=>xs.length=n∧m≤n∧(nil=false→sz=s)∧(∀ e∈ys,e.length=s)∧0<ys.length∧0<B∧(m+ys.length)*B≤140737488355328 ∧
        k ⟨some y,.own (64*y) (m+ys.length),l++[(64*y,.arr false s (xs.take m++ys) 0)],true⟩
    | _,_,_,_,_=>False
def veGB (P:Program) (ops:Array Oper) (st:St) (o:Oper) (k:Eff→Prop):Prop :=
  match o.op with
  | .buildSlice t len parts=>gflag ops st o.guard=some true∧(o.op.operands.toList.all fun x=>flagOf (st.ev x))=true∧veBuild P o.dst t len (parts.toList.map fun p=>(p.1,peel (st.ev p.2))) k
  | .call c =>
    match c.callee with
    | .value f=>(c.args.toList.map fun x=>peel (st.ev x)).any lendS=true∧gflag ops st o.guard=some true∧(o.op.operands.toList.all fun x=>flagOf (st.ev x))=true∧veCall P st o.dst (peel (st.ev f)) (c.args.toList.map fun x=>peel (st.ev x)) k
    | _=>False
  | _=>False
def veLook (P:Program) (dst:Option Nat) (st:St) (t:TypeId) (m k:S) (ok:Bool) (kE:Eff→Prop):Prop :=
  match m,k with
  | .mp i,.c (.v kv)=>match st.rs i,mpT P t with
    | some (.map (.ents kvs)),some (_,d,e)=>match zeroOf P e with
      | some z=>kfits d kv=true∧(kvs.all fun x=>kfits d x.1)=true∧kE ⟨dst,lkS ok (findK kv kvs) z,[],false⟩
      | none=>False
    | _,_=>False
  | _,_=>False
def veff (P:Program) (ops:Array Oper) (st:St) (o:Oper) (k:Eff→Prop):Prop :=
  match o.guard,o.op with
  | none,.alloc t=>veAlloc P o.dst t k
  | none,.store t ad x=>veStore P st t (st.ev ad) (st.ev x) k
  | none,.buildSlice t len parts=>veBuild P o.dst t len (parts.toList.map fun p=>(p.1,st.ev p.2)) k
  | none,.lookup t m x ok=>veLook P o.dst st t (st.ev m) (st.ev x) ok k
  | none,.build t parts=>veBld P st o.dst t (parts.toList.map (·.1)) (parts.toList.map fun p=>st.ev p.2) k
  | none,.slice t x none (some h) (some m)=>veCut P st o.dst t (st.ev x) (st.ev h) (st.ev m) k
  | none,.call c =>
    match c.callee with
    | .value f=>veCall P st o.dst (st.ev f) (c.args.toList.map st.ev) k
    | .builtin .append =>
      match c.argTypes.toList,c.args.toList with
      | [t,xt],[d,x]=>match st.ev d with
        | .cut i n m=>veApC P st o.dst t xt i n m (st.ev x) k
        | _=>veAppend P o.dst st t xt (st.ev d) (st.ev x) k
      | _,_=>False
    | _=>vePure P st o k
  | none,.pick .. => PStep P ops st o fun s=>s.kn st.rs=true∧k ⟨o.dst,s,[],false⟩
  | none,_=>vePure P st o k
  | some _,_=>(PStep P ops st o fun s=>s.kn st.rs=true∧k ⟨o.dst,s,[],false⟩)∨veGB P ops st o k
def Eff.mods (e:Eff):List Nat:=e.rs.map (·.1)
def Res.isPin:Res→Bool
  | .pin .. => true
  | _=>false
def news:List (Nat × Res)→List Nat
  | []=>[]
  | p::r=>bif p.2.isPin then news r else p.1::news r
def Eff.news (e:Eff):List Nat:=VL.news e.rs
theorem news_sub:∀ (l:List (Nat × Res)),∀ i∈news l,i∈l.map (·.1)
  | [],i,h=>by simp [news] at h
  | p::r,i,h=>by
    rw [news] at h
    cases hp:p.2.isPin with
    | true=>rw [hp] at h;exact List.mem_cons_of_mem _ (news_sub r i h)
    | false =>
      rw [hp] at h
      rcases List.mem_cons.1 h with rfl | h
      · simp
      · exact List.mem_cons_of_mem _ (news_sub r i h)
theorem news_mods:∀ (l:List (Nat × Res)),(∀ p∈l,p.2.isPin=false)→news l=l.map (·.1)
  | [],_=>rfl
  | p::r,h=>by rw [news,h p (by simp),List.map_cons,news_mods r (fun q hq=>h q (by simp [hq]))];rfl
theorem Eff.news_sub (e:Eff):∀ i∈e.news,i∈e.mods:=VL.news_sub e.rs
section
variable {P:Program} {w0:World} {K0:K0T} {nt:Nat} {st:St} {a:Act} {w:World} {g:G} {ops:Array Oper}
theorem T.eqv {st':St} (h:T w0 K0 nt st a w g) (e:Eqv st' st):T w0 K0 nt st' a w g:=h.congr e.1 e.2
theorem vrets_eqv:∀ (rs:List Rt) (N:Nat) (x y:St),Eqv x y→(∀ i∈(rtsE N rs).2.map (·.1),Clean i y)→Eqv (vrets x N rs).2 (y.setRs (rtsE N rs).2)∧(vrets x N rs).1=(rtsE N rs).1
  | [],_,_,_,h,_=>⟨h,rfl⟩
  | .c c::rest,N,x,y,h,hc=>by
    obtain ⟨h1,h2⟩:=vrets_eqv rest (N+1) x y h (by simpa [rtsE,rt1] using hc)
    exact ⟨h1,by simp only [vrets,vret1,rtsE,rt1,h2]⟩
  | .ag c::rest,N,x,y,h,hc=>by
    obtain ⟨h1,h2⟩:=vrets_eqv rest (N+1) x y h (by simpa [rtsE,rt1] using hc)
    exact ⟨h1,by simp only [vrets,vret1,rtsE,rt1,h2]⟩
  | .fr nil sz xs fx::rest,N,x,y,h,hc=>by
    have hN:Clean N y:=hc N (by simp [rtsE,rt1])
    have he:Eqv ((x.clr N).setR N (some (.arr nil sz xs fx))) (y.setR N (some (.arr nil sz xs fx))) :=
      ((hN.eqv h).fresh _).trans (h.setR _ _)
    obtain ⟨h1,h2⟩:=vrets_eqv rest (N+1) _ _ he (fun i hi=>(hc i (by simp [rtsE,rt1] at hi ⊢;exact .inr hi)).setR rfl)
    exact ⟨h1,by simp only [vrets,vret1,rtsE,rt1,h2]⟩
theorem znils_eqv (N:Nat):∀ (l:List Value) (k:Nat) (x y:St),Eqv x y→(∀ i∈(znE N k l).map (·.1),Clean i y)→Eqv (znils N k l x) (y.setRs (znE N k l))
  | [],_,_,_,h,_=>h
  | v::r,k,x,y,h,hc=>by
    by_cases hv:v = .slice none 0 0
    · subst hv
      rw [znils,znE]
      have hN:Clean (N+k+1) y:=hc _ (by rw [znE];simp)
      have he:Eqv ((x.clr (N+k+1)).setR (N+k+1) (some (.arr true 0 [] 0))) (y.setR (N+k+1) (some (.arr true 0 [] 0))):=((hN.eqv h).fresh _).trans (h.setR _ _)
      exact znils_eqv N r (k+1) _ _ he (fun i hi=>(hc i (by rw [znE,List.map_cons];exact List.mem_cons_of_mem _ hi)).setR rfl)
    · have e1:znils N k (v::r) x=znils N (k+1) r x:=by
        rw [znils];intro h;exact hv h
      have e2:znE N k (v::r)=znE N (k+1) r:=by
        rw [znE];intro h;exact hv h
      rw [e1,e2]
      rw [e2] at hc
      exact znils_eqv N r (k+1) x y h hc
theorem St.setRs_append (st:St) (l m:List (Nat × Res)):st.setRs (l++m)=(st.setRs l).setRs m:=by
  unfold St.setRs;rw [List.foldl_append]
theorem Clean.setRs {i:Nat} : ∀ (l:List (Nat × Res)) {st:St},Clean i st→(∀ p∈l,p.2.men i=false)→Clean i (st.setRs l)
  | [],_,h,_=>h
  | p::r,_,h,hl=>Clean.setRs r (h.setR (hl p (by simp))) (fun q hq=>hl q (by simp [hq]))
theorem cellsH_sub {sR:St} (h:RSub sR.rs st.rs) {s:S} {cs:List S} (hc:cellsH sR s=some cs):cellsH st s=some cs:=by
  cases s with
  | own i n =>
    simp only [cellsH] at hc ⊢
    cases e:sR.rs i with
    | none=>rw [e] at hc;simp at hc
    | some r=>rw [e] at hc;rw [h.eq e];exact hc
  | ptr i n =>
    simp only [cellsH] at hc ⊢
    cases e:sR.rs i with
    | none=>rw [e] at hc;simp at hc
    | some r=>rw [e] at hc;rw [h.eq e];exact hc
  | _=>exact hc
theorem znE_pin {N:Nat} : ∀ (l:List Value) (k:Nat),∀ p∈znE N k l,p.2.isPin=false
  | [],_,p,hp=>by simp [znE] at hp
  | v::r,k,p,hp=>by
    by_cases hv:v = .slice none 0 0
    · subst hv
      rw [znE] at hp
      rcases List.mem_cons.1 hp with rfl | hp
      · rfl
      · exact znE_pin r (k+1) p hp
    · have e2:znE N k (v::r)=znE N (k+1) r:=by
        rw [znE];intro h;exact hv h
      rw [e2] at hp
      exact znE_pin r (k+1) p hp
theorem rt1_pin (N:Nat) (r:Rt):∀ p∈(rt1 N r).2,p.2.isPin=false:=by
  cases r with
  | c x=>simp [rt1]
  | ag x=>simp [rt1]
  | fr nil sz xs fx=>intro p hp;simp [rt1] at hp;subst hp;rfl
theorem rtsE_pin:∀ (rs:List Rt) (N:Nat),∀ p∈(rtsE N rs).2,p.2.isPin=false
  | [],_,p,h=>by simp [rtsE] at h
  | r::rest,N,p,h=>by
    rw [rtsE] at h
    rcases List.mem_append.1 h with h | h
    · exact rt1_pin N r p h
    · exact rtsE_pin rest (N+1) p h
theorem retEff_pin (d:Option Nat) (rs:List Rt):∀ p∈(retEff d rs).rs,p.2.isPin=false:=by
  unfold retEff
  split
  · intro p hp;simp at hp
  · exact rt1_pin _ _
  · exact rtsE_pin _ _
theorem znE_arr {N:Nat} : ∀ (l:List Value) (k:Nat),∀ p∈znE N k l,∀ i,p.2.men i=false
  | [],_,p,hp,_=>by simp [znE] at hp
  | v::r,k,p,hp,i=>by
    by_cases hv:v = .slice none 0 0
    · subst hv
      rw [znE] at hp
      rcases List.mem_cons.1 hp with rfl | hp
      · rfl
      · exact znE_arr r (k+1) p hp i
    · have e2:znE N k (v::r)=znE N (k+1) r:=by
        rw [znE];intro h;exact hv h
      rw [e2] at hp
      exact znE_arr r (k+1) p hp i
mutual
theorem SR.unclr {g:G} {w:World} {R:Nat→Option Res} {i:Nat} (hR:R i=none):∀ (s:S) (u:Value),SR g w R (s.clr i) u→SR g w R s u
  | .c x,u,h=>by rw [S.clr] at h;exact h
  | .agg cs,u,h=>by rw [S.clr] at h;exact h
  | .tup ss,u,h=>by
    rw [S.clr,SR] at h
    obtain ⟨us,h1,h2⟩:=h
    rw [SR]
    exact ⟨us,h1,SRs.unclr hR ss us h2⟩
  | .fnp f ss,u,h=>by
    rw [S.clr,SR] at h
    obtain ⟨us,h1,h2⟩:=h
    rw [SR]
    exact ⟨us,h1,SRs.unclr hR ss us h2⟩
  | .st ss,u,h=>by
    rw [S.clr,SR] at h
    obtain ⟨us,h1,h2,h3⟩:=h
    rw [SR]
    exact ⟨us,h1,SRs.unclr hR ss us h2,h3⟩
  | .own j n,u,h=>by
    by_cases hj:j=i
    · subst hj
      rw [SR,hR]
      intro _ _ _ _ e;cases e
    · have:(j == i)=false:=by simpa using hj
      rw [S.clr,this] at h;exact h
  | .ptr j n,u,h=>by
    by_cases hj:j=i
    · subst hj
      rw [SR,hR]
      intro _ _ e;cases e
    · have:(j == i)=false:=by simpa using hj
      rw [S.clr,this] at h;exact h
  | .ep j n a b,u,h=>by
    by_cases hj:j=i
    · subst hj
      rw [SR,hR]
      intro _ _ _ _ e;cases e
    · have:(j == i)=false:=by simpa using hj
      rw [S.clr,this] at h;exact h
  | .mp j,u,h=>by
    by_cases hj:j=i
    · subst hj
      rw [SR,hR]
      intro _ e;cases e
    · have:(j == i)=false:=by simpa using hj
      rw [S.clr,this] at h;exact h
  | .suf j n a,u,h=>by
    by_cases hj:j=i
    · subst hj
      rw [SR,hR]
      intro _ _ _ _ e;cases e
    · have:(j == i)=false:=by simpa using hj
      rw [S.clr,this] at h;exact h
  | .pre j n m,u,h=>by
    by_cases hj:j=i
    · subst hj
      rw [SR,hR]
      intro _ _ _ _ e;cases e
    · have:(j == i)=false:=by simpa using hj
      rw [S.clr,this] at h;exact h
  | .cut j n m,u,h=>by
    by_cases hj:j=i
    · subst hj
      rw [SR,hR]
      intro _ _ _ _ e;cases e
    · have:(j == i)=false:=by simpa using hj
      rw [S.clr,this] at h;exact h
  | .me j _ _,u,h=>by
    by_cases hj:j=i
    · subst hj
      rw [SR,hR]
      intro _ _ _ e;cases e
    · have:(j == i)=false:=by simpa using hj
      rw [S.clr,this] at h;exact h
  | .g b s,u,h=>by
    rw [S.clr,SR] at h
    rw [SR]
    exact ⟨fun hb=>SR.unclr hR s u (h.1 hb),h.2⟩
  | .un,u,h=>by rw [SR];trivial
theorem SRs.unclr {g:G} {w:World} {R:Nat→Option Res} {i:Nat} (hR:R i=none):∀ (ss:List S) (us:List Value),SRs g w R (S.clrs i ss) us→SRs g w R ss us
  | [],us,h=>by rw [S.clrs] at h;exact h
  | s::r,us,h=>by
    rw [S.clrs,SRs] at h
    obtain ⟨u,us',h1,h2,h3⟩:=h
    rw [SRs]
    exact ⟨u,us',h1,SR.unclr hR s u h2,SRs.unclr hR r us' h3⟩
end
theorem T.reown {A X:St} (h:T w0 K0 nt A a w g) (i N y:Nat) (D:List Nat) {nil:Bool} {sz:Nat} {xs:List (List C)} {fx n:Nat} (hiN:i=N∨i∈D) (hND:N ∉ D)
    (hAi:A.rs i=some (.arr nil sz xs fx)) (hXN:X.rs N=some (.arr nil sz xs fx)) (hD:∀ d∈D,X.rs d=some dead)
    (hoth:∀ m r,m≠N→m ∉ D→X.rs m=some r→A.rs m=some (r.clr i)∧r.men N=false) (hn:xs.length=n)
    (hy:A.get y = .own i n∧X.get y = .own N n) (henv:∀ t,t≠y→A.get t=(X.get t).clr i∧(X.get t).men N=false) :
    ∃ g',T w0 K0 nt X a w g':=by
  let g':G:=⟨g.K,fun m=>if m=N then g.loc i else if m∈D then undef else g.loc m⟩
  have hgN:g'.loc N=g.loc i:=if_pos rfl
  have hgD:∀ d∈D,g'.loc d=undef:=fun d hd=>by
    show (if d=N then g.loc i else if d∈D then undef else g.loc d)=_
    have:d≠N:=fun e=>by rw [e] at hd;exact hND hd
    rw [if_neg this,if_pos hd]
  have hgo:∀ m,m≠N→m ∉ D→g'.loc m=g.loc m:=fun m h1 h2=>by
    show (if m=N then g.loc i else if m∈D then undef else g.loc m)=_
    rw [if_neg h1,if_neg h2]
  have tr:∀ (s:S) (u:Value),s.men N=false→SR g w A.rs (s.clr i) u→SR g' w X.rs s u:=by
    intro s u hm hs
    have h1:SR g w (fun m=>if m=i then none else A.rs m) (s.clr i) u:=SR.mono (Keeps.refl _ _) _ u (fun m hmm=>by
      have:=(S.men_clr i m s hmm).1
      exact Cmp.same (if_neg this) rfl) hs
    have h2:=SR.unclr (if_pos rfl) s u h1
    refine SR.mono (g:=g) (g':=g') (w':=w) (R':=X.rs) (Keeps.refl _ _) s u (fun m hmm=>?_) h2
    have hmN:m≠N:=fun e=>by rw [e,hm] at hmm;cases hmm
    by_cases hmD:m∈D
    · rw [show Cmp g (fun m=>if m=i then none else A.rs m) g' X.rs m=Cmp g (fun m=>if m=i then none else A.rs m) g' X.rs m from rfl]
      refine ⟨fun fz ss e=>?_,fun nil sz xs fx e=>?_,fun kvs e=>?_⟩ <;> rw [hD m hmD] at e <;> simp [dead] at e
    · have hmi:m≠i:=fun e=>by
        rcases hiN with q | q
        · exact hmN (e.trans q)
        · exact hmD (e ▸ q)
      refine ⟨fun fz ss e=>?_,fun nil sz xs fx e=>?_,fun kvs e=>?_⟩
      · obtain ⟨q,_⟩:=hoth m _ hmN hmD e
        exact ⟨⟨fz,ss.map (S.clr i),(if_neg hmi).trans q⟩,hgo m hmN hmD⟩
      · obtain ⟨q,_⟩:=hoth m _ hmN hmD e
        exact ⟨⟨nil,xs,fx,(if_neg hmi).trans q,rfl⟩,hgo m hmN hmD⟩
      · obtain ⟨q,_⟩:=hoth m _ hmN hmD e
        exact ⟨⟨kvs.clr i,(if_neg hmi).trans q,MB.sh_clr i kvs⟩,hgo m hmN hmD⟩
  refine ⟨g',h.below,h.k0,h.kold,h.klt,fun m r hm=>?_,fun m1 m2 r1 r2 q1 q2 hne b hb=>?_,fun t=>?_,h.nt,h.defers,h.keep⟩
  · by_cases hmN:m=N
    · subst hmN
      rw [hXN] at hm
      cases hm
      have:=h.res i _ hAi
      rcases this with q | ⟨q0,b,cap,cur,E,q1,q2⟩
      · exact .inl ⟨q.1,q.2.1,hgN.trans q.2.2.1,q.2.2.2⟩
      · exact .inr ⟨q0,b,cap,cur,E,hgN.trans q1,q2⟩
    · by_cases hmD:m∈D
      · rw [hD m hmD] at hm
        cases hm
        exact ⟨hgD m hmD,by rw [SR];trivial⟩
      · obtain ⟨q,hrm⟩:=hoth m r hmN hmD hm
        have hl:=hgo m hmN hmD
        have hr:=h.res m _ q
        cases r with
        | box fz ss =>
          obtain ⟨b,cur,E,e1,e2,e3,e4,e5,e6⟩:=hr
          refine ⟨b,cur,E,hl.trans e1,e2,e3,by simpa using e4,fun k s hs=>?_,e6⟩
          obtain ⟨u,m1,m2,m3⟩:=e5 k (s.clr i) (by simp [hs])
          have hms:s.men N=false:=by
            cases hx:s.men N with
            | false=>rfl
            | true =>
              exfalso
              have:=mens_of (List.mem_of_getElem? hs) hx
              have h3:S.mens N ss=false:=hrm
              rw [h3] at this;cases this
          exact ⟨u,m1,tr s u hms m2,m3⟩
        | arr nil sz xs fx =>
          rcases hr with q | ⟨q0,b,cap,cur,E,q1,q2⟩
          · exact .inl ⟨q.1,q.2.1,hl.trans q.2.2.1,q.2.2.2⟩
          · exact .inr ⟨q0,b,cap,cur,E,hl.trans q1,q2⟩
        | pin v s=>exact ⟨hl.trans hr.1,tr s v hrm hr.2⟩
        | map mb =>
          have:=MR.tr (g:=g) (R:=A.rs) (w:=w) (g':=g') (w':=w) (R':=X.rs) (B':=fun b=>¬ Old w0 K0 b) (i:=m) (i':=m) (f1:=S.clr i) (f2:=fun s=>s) (m:=mb) hl (fun b e=>⟨rfl,fun _ k=>k,fun hx=>hx⟩) (fun s hs u hu=>tr s u (by
            cases hx:s.men N with
            | false=>rfl
            | true =>
              exfalso
              have:=MB.men_of hs hx
              have h3:mb.men N=false:=hrm
              rw [h3] at this;cases this) hu) hr
          rwa [MB.map_id] at this
  · have key:∀ m r,X.rs m=some r→m ∉ D→∃ r',A.rs (if m=N then i else m)=some r'∧g'.loc m=g.loc (if m=N then i else m):=by
      intro m r hm hmD
      by_cases hmN:m=N
      · subst hmN;rw [if_pos rfl];exact ⟨_,hAi,hgN⟩
      · rw [if_neg hmN];exact ⟨_,(hoth m r hmN hmD hm).1,hgo m hmN hmD⟩
    by_cases d1:m1∈D
    · rw [hgD m1 d1] at hb;cases hb
    · by_cases d2:m2∈D
      · rw [hgD m2 d2];intro e;cases e
      · obtain ⟨r1',a1,a2⟩:=key m1 r1 q1 d1
        obtain ⟨r2',a3,a4⟩:=key m2 r2 q2 d2
        rw [a2] at hb
        rw [a4]
        refine h.dis _ _ r1' r2' a1 a3 (fun e=>hne ?_) b hb
        have nD:∀ m,m ∉ D→m≠N→m≠i:=fun m h1 h2 e=>by
          rcases hiN with q | q
          · exact h2 (e.trans q)
          · exact h1 (e ▸ q)
        by_cases n1:m1=N
        · by_cases n2:m2=N
          · exact n1.trans n2.symm
          · rw [if_pos n1,if_neg n2] at e
            exact absurd e.symm (nD m2 d2 n2)
        · by_cases n2:m2=N
          · rw [if_neg n1,if_pos n2] at e
            exact absurd e (nD m1 d1 n1)
          · rw [if_neg n1,if_neg n2] at e;exact e
  · by_cases ht:t=y
    · subst ht
      rw [hy.2,SR]
      intro nil' sz' xs' fx' e1 e2
      rw [hXN] at e1
      cases e1
      have:=h.env t
      rw [hy.1,SR] at this
      rw [hgN]
      exact this _ _ _ _ hAi hn
    · obtain ⟨q1,q2⟩:=henv t ht
      have:=h.env t
      rw [q1] at this
      exact tr _ _ q2 this
theorem veOpd_some {st:St} {x:S} {ys:List (List C)} {kl:List (Nat × Res)} (h:veOpd st x=some (ys,kl)) :
    (kl=[]∧∃ nilx,∀ k:S→St→Prop,k (.c (.sl nilx ys)) st→vsnap st x k) ∨
    (∃ j nilx sz fx,kl=[(j,dead)]∧st.rs j=some (.arr nilx sz ys fx)∧∀ k:S→St→Prop,k (.c (.sl nilx ys)) (st.setR j (some (.arr nilx sz ys ys.length)))→vsnap st x k):=by
  unfold veOpd at h
  split at h
  · simp at h
    obtain ⟨rfl,rfl⟩:=h
    exact .inl ⟨rfl,_,fun k hk=>hk⟩
  · rename_i j m
    split at h
    · rename_i nilx sz ys' fx hr
      split at h
      · rename_i hm
        simp at h
        obtain ⟨rfl,rfl⟩:=h
        refine .inr ⟨j,nilx,sz,fx,rfl,hr,fun k hk=>?_⟩
        unfold vsnap
        simp only [hr]
        exact ⟨hm,hk⟩
      · simp at h
    · simp at h
  · simp at h
theorem veOpd_sub {sR:St} (h:RSub sR.rs st.rs) {x:S} {r:List (List C) × List (Nat × Res)} (hx:veOpd sR x=some r):veOpd st x=some r:=by
  cases x with
  | own j m =>
    unfold veOpd at hx ⊢
    cases e:sR.rs j with
    | none=>simp only [e] at hx;cases hx
    | some r'=>simp only [e] at hx;simp only [h.eq e];exact hx
  | c y=>cases y <;> first | exact hx | cases hx
  | _=>exact hx
theorem veAppend_ok {y:Nat} {t xt:TypeId} {d x:S} {k:Eff→Prop} (hv:veAppend P (some y) st t xt d x k):∃ e,k e∧e.d=some y∧∀ (st':St),RSub st.rs st'.rs→(e.fr=true→∀ i∈e.news,Clean i st') →
    vappend P (some y) st' t xt d x fun A=>∀ (a:Act) (w:World) (g:G),T w0 K0 nt A a w g→∃ g',T w0 K0 nt (st'.app e) a w g':=by
  unfold veAppend at hv
  split at hv
  · rename_i y' s B el ys kl hy ht hxt hx
    cases hy
    split at hv
    · obtain ⟨h1,h2,h3,h4,h5⟩:=hv
      refine ⟨_,h5,rfl,fun st' hsub hc=>?_⟩
      have hx':=veOpd_sub hsub hx
      unfold vappend
      simp only [ht,hxt]
      rcases veOpd_some hx' with ⟨rfl,nilx,hsn⟩ | ⟨j,nilx,sz,fx,rfl,hr,hsn⟩
      · have hN:=hc rfl (64*y) (by simp [Eff.news,news,Res.isPin])
        refine hsn _ ⟨h2,h3,h4,fun a w g hT=>⟨g,hT.eqv ?_⟩⟩
        exact ((hN.fresh _).put _ _).symm
      · simp [dead] at h1
        have hN:=hc rfl (64*y) (by simp [Eff.news,news,Res.isPin,dead])
        refine hsn _ ⟨h2,h3,h4,fun a w g hT=>?_⟩
        refine hT.reown (64*y) (64*y) y [j] (nil:=ys.isEmpty) (sz:=s) (xs:=ys) (fx:=0) (n:=ys.length) (.inl rfl) (by simpa using Ne.symm h1) ?_ ?_ ?_ ?_ rfl ⟨?_,?_⟩ ?_
        · simp [St.rs_setR]
        · simp [St.app,St.setRs,St.putd,St.rs_setR]
        · simp [St.app,St.setRs,St.putd,St.rs_setR,Ne.symm h1]
        · intro m r hm hmD hX
          simp at hmD
          simp [St.app,St.setRs,St.putd,St.rs_setR,Ne.symm hm,Ne.symm hmD] at hX
          have hmen:=hN.rs m r hX
          refine ⟨?_,hmen⟩
          rw [St.rs_put,St.rs_setR,if_neg (Ne.symm hm),St.rs_clr,St.rs_setR,if_neg (Ne.symm hmD),hX]
          rfl
        · simp [St.get_put]
        · simp [St.app,St.setRs,St.putd,St.get_put]
        · intro t' ht'
          have e1:(st'.app ⟨some y,.own (64*y) ys.length,[(j,dead)]++[(64*y,.arr ys.isEmpty s ys 0)],true⟩).get t'=st'.get t':=by
            simp [St.app,St.setRs,St.putd,St.get_put,Ne.symm ht']
          rw [e1]
          refine ⟨?_,hN.get t'⟩
          rw [St.get_put,if_neg (Ne.symm ht'),St.get_setR,St.get_clr,St.get_setR]
    · rename_i i n
      split at hv
      · rename_i nil sz xs fx hri
        obtain ⟨h1,h0,hn,hsz,h2,h3,h4,h5⟩:=hv
        have h0:i≠64*y:=by simpa using h0
        refine ⟨_,h5,rfl,fun st' hsub hc=>?_⟩
        have hx':=veOpd_sub hsub hx
        have hri':=hsub.eq hri
        unfold vappend
        simp only [ht,hxt]
        rcases veOpd_some hx' with ⟨rfl,nilx,hsn⟩ | ⟨j,nilx,szj,fxj,rfl,hr,hsn⟩
        · have hN:=hc rfl (64*y) (by simp [Eff.news,news,Res.isPin,dead])
          refine hsn _ ?_
          simp only [hri']
          refine ⟨hn,hsz,h2,h3,h4,fun a w g hT=>?_⟩
          refine hT.reown i (64*y) y [i] (nil:=nil && ys.isEmpty) (sz:=s) (xs:=xs++ys) (fx:=fx) (n:=n+ys.length) (.inr (by simp)) (by simpa using Ne.symm h0) ?_ ?_ ?_ ?_ (by simp [hn]) ⟨?_,?_⟩ ?_
          · simp [St.rs_setR]
          · simp [St.app,St.setRs,St.putd,St.rs_setR]
          · simp [St.app,St.setRs,St.putd,St.rs_setR,Ne.symm h0]
          · intro m r hm hmD hX
            simp at hmD
            simp [St.app,St.setRs,St.putd,St.rs_setR,Ne.symm hm,Ne.symm hmD] at hX
            have hmen:=hN.rs m r hX
            refine ⟨?_,hmen⟩
            rw [St.rs_put,St.rs_setR,if_neg (Ne.symm hmD),St.rs_clr,hX]
            rfl
          · simp [St.get_put]
          · simp [St.app,St.setRs,St.putd,St.get_put]
          · intro t' ht'
            have e1:(st'.app ⟨some y,.own (64*y) (n+ys.length),[]++[(i,dead),(64*y,.arr (nil && ys.isEmpty) s (xs++ys) fx)],true⟩).get t'=st'.get t':=by
              simp [St.app,St.setRs,St.putd,St.get_put,Ne.symm ht']
            rw [e1]
            refine ⟨?_,hN.get t'⟩
            rw [St.get_put,if_neg (Ne.symm ht'),St.get_setR,St.get_clr]
        · simp [dead] at h1
          obtain ⟨h1,h1'⟩:=h1
          have hN:=hc rfl (64*y) (by simp [Eff.news,news,Res.isPin,dead])
          refine hsn _ ?_
          simp only [St.rs_setR,if_neg h1',hri']
          refine ⟨hn,hsz,h2,h3,h4,fun a w g hT=>?_⟩
          refine hT.reown i (64*y) y [j,i] (nil:=nil && ys.isEmpty) (sz:=s) (xs:=xs++ys) (fx:=fx) (n:=n+ys.length) (.inr (by simp)) (by simp [Ne.symm h0,Ne.symm h1]) ?_ ?_ ?_ ?_ (by simp [hn]) ⟨?_,?_⟩ ?_
          · simp [St.rs_setR]
          · simp [St.app,St.setRs,St.putd,St.rs_setR]
          · simp [St.app,St.setRs,St.putd,St.rs_setR,Ne.symm h0,Ne.symm h1]
          · intro m r hm hmD hX
            simp at hmD
            obtain ⟨d1,d2⟩:=hmD
            simp [St.app,St.setRs,St.putd,St.rs_setR,Ne.symm hm,Ne.symm d1,Ne.symm d2] at hX
            have hmen:=hN.rs m r hX
            refine ⟨?_,hmen⟩
            rw [St.rs_put,St.rs_setR,if_neg (Ne.symm d2),St.rs_clr,St.rs_setR,if_neg (Ne.symm d1),hX]
            rfl
          · simp [St.get_put]
          · simp [St.app,St.setRs,St.putd,St.get_put]
          · intro t' ht'
            have e1:(st'.app ⟨some y,.own (64*y) (n+ys.length),[(j,dead)]++[(i,dead),(64*y,.arr (nil && ys.isEmpty) s (xs++ys) fx)],true⟩).get t'=st'.get t':=by
              simp [St.app,St.setRs,St.putd,St.get_put,Ne.symm ht']
            rw [e1]
            refine ⟨?_,hN.get t'⟩
            rw [St.get_put,if_neg (Ne.symm ht'),St.get_setR,St.get_clr,St.get_setR]
      · exact hv.elim
    · exact hv.elim
  · exact hv.elim
def killG (g:G) (j:Nat):G:=⟨g.K,fun i=>if i=j then undef else g.loc i⟩
theorem killG_keeps (g:G) (j:Nat) (w:World):Keeps g.K w (killG g j).K w:=Keeps.refl _ _
theorem T.kill (h:T w0 K0 nt st a w g) (j:Nat):T w0 K0 nt (st.setR j (some dead)) a w (killG g j)∧∀ i,Cmp g st.rs (killG g j) (st.setR j (some dead)).rs i:=by
  have hc:∀ i,Cmp g st.rs (killG g j) (st.setR j (some dead)).rs i:=by
    intro i
    by_cases e:i=j
    · subst e
      refine ⟨fun fz ss q=>?_,fun nil sz xs fx q=>?_,fun kvs q=>?_⟩
      · rw [St.rs_setR,if_pos rfl] at q;simp [dead] at q
      · rw [St.rs_setR,if_pos rfl] at q;simp [dead] at q
      · rw [St.rs_setR,if_pos rfl] at q;simp [dead] at q
    · exact Cmp.same (by rw [St.rs_setR,if_neg (Ne.symm e)]) (by show (if i=j then undef else g.loc i)=_;rw [if_neg e])
  refine ⟨⟨h.below,h.k0,h.kold,h.klt,fun i r hi=>?_,fun i i' r r' hi hi' hne b hb=>?_,fun t=>?_,h.nt,h.defers,h.keep⟩,hc⟩
  · by_cases e:i=j
    · subst e
      rw [St.rs_setR,if_pos rfl] at hi
      simp only [Option.some.injEq] at hi
      subst hi
      refine ⟨?_,by rw [SR];trivial⟩
      show (if i=i then undef else g.loc i)=undef
      rw [if_pos rfl]
    · rw [St.rs_setR,if_neg (Ne.symm e)] at hi
      exact RR.mono' (killG_keeps g j w) (by show (if i=j then undef else g.loc i)=_;rw [if_neg e]) (fun _ _=>⟨rfl,fun _ k=>k⟩) (fun i _=>hc i) (h.res i r hi)
  · simp only [killG] at hb ⊢
    by_cases e:i=j
    · rw [if_pos e] at hb;cases hb
    · rw [if_neg e] at hb
      by_cases e':i'=j
      · rw [if_pos e'];simp [blk,undef]
      · rw [if_neg e']
        rw [St.rs_setR,if_neg (Ne.symm e)] at hi
        rw [St.rs_setR,if_neg (Ne.symm e')] at hi'
        exact h.dis i i' r r' hi hi' hne b hb
  · exact SR.mono (killG_keeps g j w) _ _ (fun i _=>hc i) (h.env t)
theorem Cmp.trans {g g' g'':G} {R R' R'':Nat→Option Res} {i:Nat} (h:Cmp g R g' R' i) (h':Cmp g' R' g'' R'' i):Cmp g R g'' R'' i:=by
  refine ⟨fun fz ss q=>?_,fun nil sz xs fx q=>?_,fun kvs q=>?_⟩
  · obtain ⟨⟨fz',ss',q'⟩,l'⟩:=h'.1 fz ss q
    obtain ⟨k,l⟩:=h.1 fz' ss' q'
    exact ⟨k,l'.trans l⟩
  · obtain ⟨⟨nil',xs',fx',q',e'⟩,l'⟩:=h'.2.1 nil sz xs fx q
    obtain ⟨⟨nil2,xs2,fx2,q2,e2⟩,l⟩:=h.2.1 nil' sz xs' fx' q'
    exact ⟨⟨nil2,xs2,fx2,q2,by rw [e2,e']⟩,l'.trans l⟩
  · obtain ⟨⟨kvs',q',s'⟩,l'⟩:=h'.2.2 kvs q
    obtain ⟨⟨kvs2,q2,s2⟩,l⟩:=h.2.2 kvs' q'
    exact ⟨⟨kvs2,q2,s2.trans s'⟩,l'.trans l⟩
theorem VO_dead {sR sR':St} {ss as:List S} {l:List (Nat × Res)} (h:VO sR ss as l sR'):∀ p∈l,p.2=dead:=by
  induction h with
  | nil=>intro p hp;cases hp
  | own st j b sz ys fx r a l st' _ _ ih =>
    intro p hp
    rcases List.mem_cons.1 hp with rfl | hp
    · rfl
    · exact ih p hp
  | skip st s r a l st' _ ih=>exact ih
theorem news_dead:∀ (l m:List (Nat × Res)),(∀ p∈l,p.2=dead)→news (l++m)=news m
  | [],m,_=>rfl
  | p::l,m,h=>by
    rw [List.cons_append,news,h p (by simp)]
    exact news_dead l m (fun q hq=>h q (by simp [hq]))
theorem app_addE (st:St) (l:List (Nat × Res)) (e:Eff):st.app (addE l e)=(st.setRs l).app e:=by
  simp only [St.app,addE,St.setRs_append]
theorem VO_ok {sR sR':St} {ss as:List S} {l:List (Nat × Res)} (hv:VO sR ss as l sR'):∀ (st:St) (g:G) (us:List Value),T w0 K0 nt st a w g→RSub sR.rs st.rs→SRs g w sR.rs ss us →
    ∃ g',T w0 K0 nt (st.setRs l) a w g'∧RSub sR'.rs (st.setRs l).rs∧SRs g' w sR'.rs as us∧Keeps g.K w g'.K w∧∀ i,Cmp g sR.rs g' sR'.rs i:=by
  induction hv with
  | nil sR=>exact fun st g us h hR hs=>⟨g,h,hR,hs,Keeps.refl _ _,fun i=>Cmp.same rfl rfl⟩
  | own sR j b sz ys fx r as l sR' hj h2 ih =>
    intro st g us h hR hs
    rw [SRs] at hs
    obtain ⟨u,us',rfl,h3,h4⟩:=hs
    rw [SR] at h3
    have hu:=h3 b sz ys fx hj rfl
    obtain ⟨g1,k1,k2,k3,k4⟩:=h.snap (hR.eq hj)
    obtain ⟨m1,m2⟩:=k1.kill j
    have hE:Eqv (st.setR j (some dead)) ((st.setR j (some (.arr b sz ys ys.length))).setR j (some dead)):=by
      refine ⟨rfl,funext fun i=>?_⟩
      rw [St.rs_setR,St.rs_setR,St.rs_setR]
      by_cases e:j=i
      · rw [if_pos e,if_pos e]
      · rw [if_neg e,if_neg e,if_neg e]
    have m3:T w0 K0 nt (st.setR j (some dead)) a w _:=m1.eqv hE
    have hR2:RSub (sR.setR j (some dead)).rs (st.setR j (some dead)).rs:=fun i=>by
      rw [St.rs_setR,St.rs_setR]
      by_cases e:j=i
      · rw [if_pos e,if_pos e];exact .inr rfl
      · rw [if_neg e,if_neg e];exact hR i
    have hcm:∀ i,Cmp g sR.rs (killG g1 j) (sR.setR j (some dead)).rs i:=by
      intro i
      by_cases e:i=j
      · subst e
        refine ⟨fun fz ss q=>?_,fun nil sz xs fx q=>?_,fun kvs q=>?_⟩
        · rw [St.rs_setR,if_pos rfl] at q;simp [dead] at q
        · rw [St.rs_setR,if_pos rfl] at q;simp [dead] at q
        · rw [St.rs_setR,if_pos rfl] at q;simp [dead] at q
      · exact Cmp.same (by rw [St.rs_setR,if_neg (Ne.symm e)]) (by show (if i=j then undef else g1.loc i)=_;rw [if_neg e,k3])
    obtain ⟨g',n1,n2,n3,n4,n5⟩:=ih (st.setR j (some dead)) _ us' m3 hR2 (SRs.mono (k4.trans (killG_keeps g1 j w)) _ _ (fun i _=>hcm i) h4)
    refine ⟨g',n1,n2,?_,k4.trans n4,fun i=>(hcm i).trans (n5 i)⟩
    rw [SRs]
    refine ⟨u,us',rfl,?_,n3⟩
    rw [SR,hu]
    exact CR.mono n4 _ _ k2
  | skip sR s r as l sR' h2 ih =>
    intro st g us h hR hs
    rw [SRs] at hs
    obtain ⟨u,us',rfl,h3,h4⟩:=hs
    obtain ⟨g',n1,n2,n3,n4,n5⟩:=ih st g us' h hR h4
    refine ⟨g',n1,n2,?_,n4,n5⟩
    rw [SRs]
    exact ⟨u,us',rfl,SR.mono n4 _ _ (fun i _=>n5 i) h3,n3⟩
theorem veCall_ok2 {o:Oper} {sR:St} (hok:opOk nt o=true) {c:Call} {f:Operand} (ho:o.op = .call c) (hcal:c.callee = .value f) (e0:Operand→S) {k:Eff→Prop} (hv:veCall P sR o.dst (e0 f) (c.args.toList.map e0) k) :
    ∃ e,k e∧e.d=o.dst∧∀ (st:St) (a:Act) (w:World) (g:G),T w0 K0 nt st a w g→RSub sR.rs st.rs→(∀ x∈o.op.operands.toList,SR g w sR.rs (e0 x) (a.eval x))→(e.fr=true→∀ i∈e.news,Clean i st) →
      ∀ (next:Act→World→Prop) (Q:Exit→Act→World→Prop),(∀ a' w' g',T w0 K0 nt (st.app e) a' w' g'→next a' w')→o.wp P a w next Q:=by
  have hd:=opOk_dst hok
  obtain ⟨args',l,sR',hvo,rs,h1,h2⟩:=vopd_VO _ _ _ hv
  have hed:(addE l (retEff o.dst rs)).d=o.dst:=by
    unfold addE retEff
    simp only
    split <;> simp_all
  refine ⟨_,h2,hed,fun st0 a w g0 h0 hR0 he hc0 next Q hn0=>?_⟩
  obtain ⟨g,h,hR1,hS1,hk1,hcm1⟩:=VO_ok hvo st0 g0 (c.args.toList.map a.eval) h0 hR0 (SRs_map _ _ _ (fun x hx=>he x (by rw [ho];simp [Op.operands,Call.operands,hcal];exact .inr (by simpa using hx))))
  have hn:∀ a' w' g',T w0 K0 nt ((st0.setRs l).app (retEff o.dst rs)) a' w' g'→next a' w':=fun a' w' g' q=>hn0 a' w' g' (by rw [app_addE];exact q)
  have hc:(retEff o.dst rs).fr=true→∀ i∈(retEff o.dst rs).news,Clean i (st0.setRs l):=fun hf i hi =>
    Clean.setRs l (hc0 hf i (by unfold Eff.news addE;rw [news_dead l _ (VO_dead hvo)];exact hi)) (fun p hp=>by rw [VO_dead hvo p hp];rfl)
  have hef:SR g w sR'.rs (e0 f) (a.eval f):=SR.mono hk1 _ _ (fun i _=>hcm1 i) (he f (by rw [ho];simp [Op.operands,Call.operands,hcal]))
  clear hn0 hc0 he hR0 h0 hvo hcm1
  generalize st0.setRs l=st at *
  refine pcall3_ok h hR1 ho hcal hef hS1 h1 (fun vs w' g' hT p4 hlow hsz=>?_)
  have hB:w0.heap.size≤w.heap.size:=h.below.size
  have hB':w0.heap.size≤w'.heap.size:=Nat.le_trans hB hsz
  have hlow':∀ i r b,st.rs i=some r→blk (g'.loc i)=some b→b<w.heap.size∨∃ v∈([]:List Value),blk v=some b:=fun i r b hi hb=>.inl (hlow i r b hi hb)
  cases hdst:o.dst with
  | none=>rw [hdst] at hn;exact hn _ _ _ hT
  | some y =>
    rw [hdst] at hn hc
    have hlen:=p4.1
    have hy:=hd y hdst
    have hc:∀ i∈(retEff (some y) rs).mods,Clean i st:=by
      have hc:=hc (by unfold retEff;split <;> rfl)
      unfold Eff.news at hc
      rw [news_mods _ (retEff_pin (some y) rs)] at hc
      exact hc
    have two:∀ rs',rs=rs'→(∀ r,rs'≠[r])→next (a.put (some y) (retV vs)) w':=by
      intro rs' e hne
      subst e
      have hE:retEff (some y) rs=⟨some y,.tup (rtsE (64*y+1) rs).1,(rtsE (64*y+1) rs).2,true⟩:=by
        match rs,hne with
        | [],_=>rfl
        | [r],h'=>exact absurd rfl (h' r)
        | _::_::_,_=>rfl
      rw [hE] at hn hc
      obtain ⟨g2,m1,m2,m3,m4,m5⟩:=T.rets hB' rs vs st _ (64*y+1) w.heap.size [] hT hlow' p4 hB (by simp)
      obtain ⟨q1,q2⟩:=vrets_eqv rs (64*y+1) st st (Eqv.refl _) hc
      have hv:retV vs = .tuple vs.toArray:=by
        unfold retV
        split
        · rename_i v
          exfalso
          match rs,hlen with
          | [x],_=>exact hne x rfl
        · rfl
      rw [hv]
      refine hn _ _ g2 ((m1.put (t:=y) (s:=.tup (vrets st (64*y+1) rs).1) (u:=.tuple vs.toArray) hy (by rw [SR];exact ⟨vs,rfl,m2⟩)).eqv (Eqv.symm ?_))
      rw [q2]
      exact q1.put _ _
    cases rs with
    | nil=>exact two [] rfl (by simp)
    | cons r rest =>
      cases rest with
      | cons r2 rest=>exact two _ rfl (by simp)
      | nil =>
        cases vs with
        | nil=>simp at hlen
        | cons v vs =>
          cases vs with
          | cons v' vs=>simp at hlen
          | nil =>
            have hE:retEff (some y) [r]=⟨some y,(rt1 (64*y) r).1,(rt1 (64*y) r).2,true⟩:=rfl
            rw [hE] at hn hc
            obtain ⟨g2,m1,m2,m3,m4,m5⟩:=T.rets hB' [r] [v] st _ (64*y) w.heap.size [] hT hlow' p4 hB (by simp)
            obtain ⟨q1,q2⟩:=vrets_eqv [r] (64*y) st st (Eqv.refl _) (by simpa [rtsE,Eff.mods] using hc)
            have e1:(vrets st (64*y) [r]).1=[(vret1 st (64*y) r).1]:=rfl
            have e2:(rtsE (64*y) [r]).1=[(rt1 (64*y) r).1]:=rfl
            have e3:(rtsE (64*y) [r]).2=(rt1 (64*y) r).2:=by simp [rtsE]
            rw [e1,SRs] at m2
            obtain ⟨u,us',p1,p2,_⟩:=m2
            simp at p1
            rw [e1,e2] at q2
            rw [e3] at q1
            have q3:(vret1 st (64*y) r).1=(rt1 (64*y) r).1:=by simpa using q2
            refine hn _ _ g2 ((m1.put (t:=y) (s:=(rt1 (64*y) r).1) (u:=v) hy ?_).eqv (Eqv.symm (q1.put _ _)))
            rw [← q3,p1.1]
            exact p2
theorem run_bounds3 {w:World} {len cap:Nat} {k k':IntKind} {h:Int} (h0:0≤h) (h2:h≤cap):(Instr.sliceBounds true len cap none (some (.int k h)) (some (.int k' h))).run P w = .ok (0,h.toNat,h.toNat) w:=by
  have eh:=Int.toNat_of_nonneg h0
  simp [Instr.sliceBounds,Instr.sliceBound,asIntOf, *]
theorem veApC_ok {o:Oper} {sR:St} (hd:∀ t,o.dst=some t→t<nt) {t xt:TypeId} {d x:Operand} (ho:o.op = .call { callee:=.builtin .append,args:=#[d,x],argTypes:=#[t,xt] }) {i n m:Nat} (hde:sR.ev d = .cut i n m) {k:Eff→Prop} (hv:veApC P sR o.dst t xt i n m (sR.ev x) k) :
    ∃ e,k e∧e.d=o.dst∧∀ (st:St) (a:Act) (w:World) (g:G),T w0 K0 nt st a w g→Seen ops o sR st→(e.fr=true→∀ i∈e.news,Clean i st) →
      ∀ (next:Act→World→Prop) (Q:Exit→Act→World→Prop),(∀ a' w' g',T w0 K0 nt (st.app e) a' w' g'→next a' w')→o.wp P a w next Q:=by
  obtain ⟨as,l,sR',hvo,h1⟩:=vopd_VO _ _ _ hv
  split at h1
  · rename_i y s B el nlx ys nil sz xs fx hy ht hxt hri
    obtain ⟨hn,hmn,hsz,hys,hy0,hB0,hB,hk⟩:=h1
    refine ⟨_,hk,hy.symm,fun st a w g h hs hc next Q hnx=>?_⟩
    obtain ⟨g1,hT,hR,hS,hkp,hcm⟩:=VO_ok hvo st g [a.eval x] h hs.rs (by
      rw [SRs]
      exact ⟨_,[],rfl,hs.sr h x (by rw [ho];simp [Op.operands,Call.operands]),by rw [SRs]⟩)
    rw [SRs] at hS
    obtain ⟨ux,us',e1,hux,_⟩:=hS
    cases e1
    rw [SR] at hux
    have hud:=hs.sr h d (by rw [ho];simp [Op.operands,Call.operands])
    have hud1:SR g1 w sR'.rs (sR.ev d) (a.eval d):=SR.mono hkp _ _ (fun i _=>hcm i) hud
    rw [hde,SR] at hud1
    obtain ⟨aa,cap,hl,hu⟩:=hud1 _ _ _ _ hri hn
    have hN:Clean (64*y) (st.setRs l):=Clean.setRs l (hc rfl (64*y) (by unfold Eff.news;simp only;rw [news_dead l _ (VO_dead hvo)];simp [news,Res.isPin])) (fun p hp=>by rw [VO_dead hvo p hp];rfl)
    obtain ⟨news,src,hh⟩:=src_of_CR (P:=P) hux hys
    obtain ⟨el',ti,z,t1,t2,t3,t4,t5,rfl,rfl⟩:=slT_some ht
    have hrs:=hR.eq hri
    have h63:m+ys.length≤maxLen:=by
      have:(m+ys.length)*1≤(m+ys.length)*ti.bytes:=Nat.mul_le_mul_left _ hB0
      simp only [maxLen];omega
    have fin:∀ (base:Option Addr) (olds:List Value),a.eval d = .slice base m m→(Builtin.firstCells ti.size m (.slice base m m)).run P w.drew = .ok olds.toArray w.drew→Holds g1.K w ti.size (xs.take m) olds.toArray→olds.length=(xs.take m).length*ti.size→(xs.take m).length=m→o.wp P a w next Q:=by
      intro base olds hb hfc hho hol hml
      have hrun:=run_app_grow (ty:=o.type) t1 hxt (fun k=>by simp) t2 t3 src hfc (by omega) h63 hB
      have hge:=grownCap_ge w (m+ys.length) m el'
      have hle:=grownCap_le_maxLen w (m+ys.length) m el' h63
      generalize grownCap w (m+ys.length) m el'=cc at *
      have hcur:Holds g1.K w ti.size (xs.take m++ys) (olds.toArray++news.toArray++Builtin.zeroCells z.cells (cc-(m+ys.length))):=by
        have:=Holds.append (rest:=(Builtin.zeroCells z.cells (cc-(m+ys.length))).toList) hho (by simp [hol]) hh
        have e1:(olds.toArray.toList.take ((xs.take m).length*ti.size))=olds:=by rw [List.toList_toArray,← hol,List.take_length]
        rw [e1] at this
        have e2:(olds++news++(Builtin.zeroCells z.cells (cc-(m+ys.length))).toList).toArray=olds.toArray++news.toArray++Builtin.zeroCells z.cells (cc-(m+ys.length)):=by
          apply Array.ext';simp
        rw [e2] at this
        exact this
      obtain ⟨g2,m1,m2,m3,m4⟩:=hT.newarr (64*y) ti.size (xs.take m++ys) _ el' cc _ (.inr rfl) hcur (by rw [List.length_append,hml];exact hge) hle (by
        simp only [Array.size_append,List.size_toArray,size_zeroCells,t4,hol,src.size,hml,← Nat.add_mul]
        congr 1
        omega)
      refine ow_value (append_run ho (by rw [hb];exact hrun)) (hnx _ _ g2 ?_)
      rw [hy]
      have hp:=T.puto (n:=m+ys.length) m1 (hd y hy) (v:=.slice (some ⟨w.heap.size,0,none⟩) (m+ys.length) cc) (by rw [m2,List.length_append,hml])
      refine hp.eqv ?_
      rw [show (⟨some y,.own (64*y) (m+ys.length),l++[(64*y,.arr false ti.size (xs.take m++ys) 0)],true⟩:Eff)=addE l ⟨some y,.own (64*y) (m+ys.length),[(64*y,.arr false ti.size (xs.take m++ys) 0)],true⟩ from rfl,app_addE]
      exact ((hN.fresh _).put _ _).symm
    have hml:(xs.take m).length=m:=by rw [List.length_take];omega
    rcases hT.res i _ hrs with ⟨e1,e2,e3,_⟩ | ⟨e0,b,cap',cur,E,e3,q2,q3,q4,q5,q6,q7,q8,q9⟩
    · rw [e3] at hl
      cases hl
      subst e2
      simp only [List.length_nil] at hn
      obtain rfl:m=0:=by omega
      exact fin none [] hu (by simp [Builtin.firstCells]) (fun j e h=>by simp at h) (by simp) hml
    · rw [e3] at hl
      cases hl
      have hse:=hsz e0
      subst hse
      have hcl:(xs.take m).length*ti.size≤cur.size:=by
        rw [hml,q6];exact Nat.mul_le_mul_right _ (by omega)
      have hol:(cur.toList.take (m*ti.size)).length=m*ti.size:=by rw [hml] at hcl;simp;omega
      refine fin _ (cur.toList.take (m*ti.size)) hu (run_firstCells_some (P:=P) w.drew ti.size m ⟨b,0,none⟩ _ _ _ hol (fun j v hj=>by
          rw [add_lit,Nat.zero_add,World.cell?_drew,cell_of_heap q3]
          rw [List.getElem?_take] at hj
          split at hj
          · simpa using hj
          · cases hj)) ?_ (by rw [hml];exact hol) hml
      intro j e hj
      rw [List.getElem?_take] at hj
      split at hj
      · rename_i hjm
        obtain ⟨k1,k2⟩:=q8 j e hj
        refine ⟨k1,fun k c hc=>?_⟩
        obtain ⟨u,f1,f2⟩:=k2 k c hc
        refine ⟨u,?_,f2⟩
        have hklt:k<ti.size:=by rw [← k1];exact (List.getElem?_eq_some_iff.1 hc).1
        have:j*ti.size+k<m*ti.size:=by
          have:(j+1)*ti.size≤m*ti.size:=Nat.mul_le_mul_right _ (by omega)
          rw [Nat.add_mul] at this;omega
        rw [List.getElem?_toArray,List.getElem?_take,if_pos this]
        simpa using f1
      · cases hj
  · exact h1.elim
theorem veff_ok {o:Oper} {sR:St} (hok:opOk nt o=true) {k:Eff→Prop} (hv:veff P ops sR o k) :
    ∃ e,k e∧e.d=o.dst∧∀ (st:St) (a:Act) (w:World) (g:G),T w0 K0 nt st a w g→Seen ops o sR st→(e.fr=true→∀ i∈e.news,Clean i st) →
      ∀ (next:Act→World→Prop) (Q:Exit→Act→World→Prop),(∀ a' w' g',T w0 K0 nt (st.app e) a' w' g'→next a' w')→stepW P ops o a w next Q:=by
  have hd:=opOk_dst hok
  have ps:(PStep P ops sR o fun s=>s.kn sR.rs=true∧k ⟨o.dst,s,[],false⟩)→∃ e,k e∧e.d=o.dst∧∀ (st:St) (a:Act) (w:World) (g:G),T w0 K0 nt st a w g→Seen ops o sR st→(e.fr=true→∀ i∈e.news,Clean i st) →
      ∀ (next:Act→World→Prop) (Q:Exit→Act→World→Prop),(∀ a' w' g',T w0 K0 nt (st.app e) a' w' g'→next a' w')→stepW P ops o a w next Q:=fun hv=>by
    obtain ⟨s,h1,h2⟩:=PStep2_ok (w0:=w0) (K0:=K0) hok hv
    exact ⟨_,h1,rfl,fun st a w g h hs _ next Q hn=>h2 st a w g h hs next Q hn⟩
  have un:∀ {a:Act} {w:World} {next:Act→World→Prop} {Q:Exit→Act→World→Prop},o.guard=none→o.wp P a w next Q→stepW P ops o a w next Q:=by
    intro a w next Q hg h
    unfold stepW
    have:Region.wanted o (yielded ops a.tmps)=true:=by simp [Region.wanted,hg]
    rw [this,if_pos rfl]
    exact h
  have pp:o.guard=none→vePure P sR o k→∃ e,k e∧e.d=o.dst∧∀ (st:St) (a:Act) (w:World) (g:G),T w0 K0 nt st a w g→Seen ops o sR st→(e.fr=true→∀ i∈e.news,Clean i st) →
      ∀ (next:Act→World→Prop) (Q:Exit→Act→World→Prop),(∀ a' w' g',T w0 K0 nt (st.app e) a' w' g'→next a' w')→stepW P ops o a w next Q:=fun hg hv=>by
    obtain ⟨h1,h2,h3⟩:=hv
    refine ⟨_,h3,rfl,fun st a w g h hs _ next Q hn=>?_⟩
    obtain ⟨u,r1,r2⟩:=pev_ok (h.bare hs.rs) o sR.ev (fun x hx=>hs.sr h x hx) (by rw [pev_bare];exact h1)
    rw [pev_bare] at r2
    unfold stepW
    have:Region.wanted o (yielded ops a.tmps)=true:=by simp [Region.wanted,hg]
    rw [this,if_pos rfl]
    exact ow_value r1 (hn _ w g (h.putd hd (SR.up hs.rs h2 r2)))
  unfold veff at hv
  split at hv
  · rename_i t hg ho
    unfold veAlloc at hv
    split at hv
    · rename_i x z hx hz
      obtain ⟨h1,h2⟩:=hv
      refine ⟨_,h2,hx.symm,fun st a w g h hs hc next Q hn=>un hg ?_⟩
      have hc:∀ i∈(znE (64*x) 0 z.cells.toList++[(64*x,Res.box false (zcells (64*x) 0 z.cells.toList))]).map (·.1),Clean i st:=by
        rw [← news_mods _ (fun p hp=>?_)]
        · exact hc rfl
        · rcases List.mem_append.1 hp with hp | hp
          · exact znE_pin _ _ p hp
          · simp at hp;subst hp;rfl
      refine valloc_ok (K:=fun st'=>Eqv st' (st.app ⟨some x,.ptr (64*x) 0,znE (64*x) 0 z.cells.toList++[(64*x,.box false (zcells (64*x) 0 z.cells.toList))],true⟩)) h hd ho ?_ (fun st' a' w' g' he hT=>hn _ _ _ (hT.eqv he.symm))
      unfold valloc
      rw [hx,hz]
      refine ⟨h1,?_⟩
      have hz1:=znils_eqv (64*x) z.cells.toList 0 st st (Eqv.refl _) (fun i hi=>hc i (by simp at hi ⊢;exact .inl hi))
      have hx1:Clean (64*x) (st.setRs (znE (64*x) 0 z.cells.toList)):=Clean.setRs _ (hc _ (by simp)) (fun p hp=>znE_arr _ _ p hp _)
      have:=((hx1.eqv hz1).fresh (some (.box false (zcells (64*x) 0 z.cells.toList)))).trans (hz1.setR _ _)
      refine (this.put x (.ptr (64*x) 0)).trans ?_
      simp only [St.app,St.setRs_append]
      exact Eqv.refl _
    · exact hv.elim
  · rename_i t ad x hg ho
    have hdn:=opOk_store hok t ad x ho
    unfold veStore at hv
    split at hv
    · rename_i i off had
      split at hv
      · rename_i ss n n' cs hr hty hcs
        obtain ⟨h1,h2,h3⟩:=hv
        refine ⟨_,h3,hdn.symm,fun st a w g h hs _ next Q hn=>un hg ?_⟩
        refine vstore_ok (e:=st.ev) (K:=fun st'=>st'=st.setR i (some (.box false (spl ss off cs)))) h hdn ho (h.ev ad) (h.ev x) ?_ (fun st' a' w' g' he hT=>by subst he;exact hn _ _ _ hT)
        rw [← hs.ev ad (by rw [ho];simp [Op.operands]),← hs.ev x (by rw [ho];simp [Op.operands]),had]
        unfold vstore
        simp only [hs.rs.eq hr,hty,cellsH_sub hs.rs hcs]
        exact ⟨h1,h2,trivial⟩
      · exact hv.elim
    · rename_i i m j off had
      split at hv
      · rename_i nil sz xs fx n n' cs hr hty hcs
        obtain ⟨h0,h1,h2,h3,h4,h5,h6⟩:=hv
        refine ⟨_,h6,hdn.symm,fun st a w g h hs _ next Q hn=>un hg ?_⟩
        refine vstore_ok (e:=st.ev) (K:=fun st'=>st'=st.setR i (some (.arr nil sz (xs.set j (spl (xs.getD j []) off cs)) fx))) h hdn ho (h.ev ad) (h.ev x) ?_ (fun st' a' w' g' he hT=>by subst he;exact hn _ _ _ hT)
        rw [← hs.ev ad (by rw [ho];simp [Op.operands]),← hs.ev x (by rw [ho];simp [Op.operands]),had]
        unfold vstore
        cases hsx:sR.ev x with
        | c y=>rw [hsx] at hcs;simp only [vsnap,hs.rs.eq hr,hty,hcs];exact ⟨h1,h2,h3,h4,h5,trivial⟩
        | agg y=>rw [hsx] at hcs;simp only [vsnap,hs.rs.eq hr,hty,hcs];exact ⟨h1,h2,h3,h4,h5,trivial⟩
        | _=>rw [hsx] at h0;simp [dataS] at h0
      · exact hv.elim
    · exact hv.elim
  · rename_i t len parts hg ho
    unfold veBuild at hv
    split at hv
    · rename_i x e hx hu
      split at hv
      · rename_i b s z hty hz
        split at hv
        · rename_i zc hzc
          split at hv
          · rename_i out hout
            obtain ⟨h0,h1,h2,h3,h4,h5⟩:=hv
            refine ⟨_,h5,hx.symm,fun st a w g h hs hc next Q hn=>un hg ?_⟩
            have hN:=hc rfl (64*x) (by simp [Eff.news,news,Res.isPin])
            refine vbuildSlice_ok (e:=sR.ev) (K:=fun st'=>Eqv st' (st.app ⟨some x,.own (64*x) len,[(64*x,.arr false s (chunks s len out) 0)],true⟩)) h hd ho (fun y hy=>by rw [hs.ev y hy];exact h.ev y) ?_ (fun st' a' w' g' he hT=>hn _ _ _ (hT.eqv he.symm))
            unfold vbuildSlice
            simp only [hx,hu,hty,hz,hzc]
            refine vsnaps_data _ _ _ h0 ?_
            simp only [hout]
            exact ⟨h1,h2,h3,h4,(hN.fresh _).put _ _⟩
          · exact hv.elim
        · exact hv.elim
      · exact hv.elim
    · exact hv.elim
  · rename_i t m x ok hg ho
    unfold veLook at hv
    split at hv
    · rename_i i kv e1 e2
      split at hv
      · rename_i kvs kt d et hr ht
        split at hv
        · rename_i z hz
          obtain ⟨q1,q2,q3⟩:=hv
          refine ⟨_,q3,rfl,fun st a w g h hs _ next Q hn=>un hg ?_⟩
          have e1':st.ev m = .mp i:=by rw [← hs.ev m (by rw [ho];simp [Op.operands])];exact e1
          have e2':st.ev x = .c (.v kv):=by rw [← hs.ev x (by rw [ho];simp [Op.operands])];exact e2
          have hr':=hs.rs.eq hr
          obtain ⟨u,r1,r2⟩:=vlkup_ok (P:=P) (K:=fun st'=>st'=st.app ⟨o.dst,lkS ok (findK kv kvs) z,[],false⟩) (next:=next) h hd (h.ev m) (h.ev x) (t:=t) (ok:=ok) (by
            rw [e1',e2']
            unfold vlkup
            simp only [hr',ht,hz]
            exact ⟨q1,q2,rfl⟩) (fun st' a' w' g' he hT=>by subst he;exact hn _ _ _ hT)
          exact ow_value (o:=o) (u:=u) (w':=w) (by simp [execOp,ho,r1]) r2
        · exact hv.elim
      · exact hv.elim
    · exact hv.elim
  · rename_i t parts hg ho
    obtain ⟨a',l,sR',hvo,h1,h2,h3⟩:=vopd_VO _ _ _ hv
    refine ⟨_,h3,rfl,fun st a w g h hs hc next Q hn=>un hg ?_⟩
    obtain ⟨g',hT,hR,hS,hk,hcm⟩:=VO_ok hvo st g (parts.toList.map fun p=>a.eval p.2) h hs.rs (SRs_map _ _ _ (fun x hx=>hs.sr h x.2 (by
      rw [ho]
      simp only [Op.operands,List.mem_map]
      exact ⟨x,hx,rfl⟩)))
    have hlen:=((SRs_iff _ _).1 hS).1
    have hp:=PartsR_zip (parts.toList.map (·.1)) a' (parts.toList.map fun p=>a.eval p.2) (by rw [← hlen];simp) hS
    obtain ⟨r,r1,r2⟩:=pbuild_ok (P:=P) (vparts:=parts.map fun p=>(p.1,a.eval p.2)) (by
      have e:(parts.map fun p=>(p.1,a.eval p.2)).toList=(parts.toList.map (·.1)).zip (parts.toList.map fun p=>a.eval p.2):=by
        rw [Array.toList_map,List.zip_map']
      rw [e]
      exact hp) h1
    exact ow_value (o:=o) (u:=r) (w':=w) (by simp [execOp,ho,r1]) (hn _ w g' (hT.putd hd (SR.up hR h2 r2)))
  · rename_i t x h m hg ho
    unfold veCut at hv
    split at hv
    · rename_i i n hxe
      split at hv
      · rename_i nil sz xs fx p q hr hp hq
        obtain ⟨rfl,h0,h1,h2,h3,h4⟩:=hv
        refine ⟨_,h4,rfl,fun st a w g hT hs hc next Q hn=>un hg ?_⟩
        have hxs:=hs.sr hT x (by rw [ho];simp [Op.operands])
        have hhs:=hs.sr hT h (by rw [ho];simp [Op.operands])
        have hms:=hs.sr hT m (by rw [ho];simp [Op.operands])
        rw [hxe,SR] at hxs
        have hu:=hxs nil sz xs fx hr h2
        obtain ⟨k1,e1⟩:=sint_eq hp hhs
        obtain ⟨k2,e2⟩:=sint_eq hq hms
        obtain ⟨sz',hes⟩:=Option.isSome_iff_exists.1 h3
        obtain ⟨el,inf,q4,q5,_⟩:=esz_some hes
        have hri:=hs.rs.eq hr
        have key:∀ aa cap,g.loc i = .slice aa n cap→p.toNat≤cap→o.wp P a w next Q:=by
          intro aa cap hl hcap
          have eb:=run_bounds3 (P:=P) (w:=w) (len:=n) (cap:=cap) (k:=k1) (k':=k2) h0 (by omega)
          refine ow_value (u:=.slice aa p.toNat p.toNat) (w':=w) ?_ (hn _ w g (hT.putd hd ?_))
          · rw [hl] at hu
            simp [execOp,ho,hu,e1,e2,Instr.sliceAt,run_underlying q4,Instr.slice,eb,sizeOf,typeInfo,q5,add_lit']
            intro hne
            cases aa with
            | none=>rfl
            | some v=>rfl
          · rw [SR]
            intro nil' sz' xs' fx' _ _
            exact ⟨_,_,hl,rfl⟩
        rcases hT.res i _ hri with ⟨_,e4,e3,_⟩ | ⟨_,b,cap,cur,E,e3,r2,r3,r4,r5,r6,r7,r8,r9⟩
        · subst e4
          simp only [List.length_nil] at h2
          refine key none 0 (by rw [e3,← h2]) (by omega)
        · rw [h2] at e3
          exact key _ _ e3 (by omega)
      · exact hv.elim
    · exact hv.elim
  · rename_i c hg ho
    split at hv
    · rename_i f hcal
      obtain ⟨e,h1,h2,h3⟩:=veCall_ok2 (w0:=w0) (K0:=K0) hok ho hcal sR.ev hv
      exact ⟨e,h1,h2,fun st a w g h hs hc next Q hn=>un hg (h3 st a w g h hs.rs (fun x hx=>hs.sr h x hx) hc next Q hn)⟩
    · rename_i hcal
      split at hv
      · rename_i t xt d x hts has
        have hc:c = { callee:=.builtin .append,args:=#[d,x],argTypes:=#[t,xt] } := by
          obtain ⟨c1,c2,c3⟩:=c
          simp only at hcal hts has
          subst hcal
          have e1:c2 = #[d,x]:=Array.toList_inj.1 has
          have e2:c3 = #[t,xt]:=Array.toList_inj.1 hts
          subst e1;subst e2;rfl
        subst hc
        cases hdst:o.dst with
        | none =>
          rw [hdst] at hv
          split at hv
          · obtain ⟨as,l,sR',hvo,h1⟩:=vopd_VO _ _ _ hv
            exact (show False from h1).elim
          · exact hv.elim
        | some y =>
          rw [hdst] at hv
          split at hv
          · rename_i i n m hde
            obtain ⟨e,h1,h2,h3⟩:=veApC_ok (w0:=w0) (K0:=K0) (ops:=ops) hd ho hde (by rw [hdst];exact hv)
            rw [hdst] at h2
            exact ⟨e,h1,h2,fun st a w g h hs hc next Q hn=>un hg (h3 st a w g h hs hc next Q hn)⟩
          obtain ⟨e,h1,h2,h3⟩:=veAppend_ok (w0:=w0) (K0:=K0) (nt:=nt) hv
          refine ⟨e,h1,h2,fun st a w g h hs hc next Q hn=>un hg ?_⟩
          refine vappend_ok (e:=st.ev) h hd ho (h.ev d) (h.ev x) (by
            rw [hdst,← hs.ev d (by rw [ho];simp [Op.operands,Call.operands]),← hs.ev x (by rw [ho];simp [Op.operands,Call.operands])]
            exact h3 st hs.rs hc) (fun st' a' w' g' he hT=>?_)
          obtain ⟨g'',hT'⟩:=he a' w' g' hT
          exact hn _ _ _ hT'
      · exact hv.elim
    · exact pp hg hv
  · exact ps hv
  · rename_i hg _ _ _ _ _ _ _ _
    exact pp hg hv
  · rcases hv with hv | hv
    · exact ps hv
    unfold veGB at hv
    split at hv
    · rename_i t len parts ho
      obtain ⟨hgf,hfl,hv⟩:=hv
      unfold veBuild at hv
      split at hv
      · rename_i x e hx hu
        split at hv
        · rename_i b s z hty hz
          split at hv
          · rename_i zc hzc
            split at hv
            · rename_i out hout
              obtain ⟨h0,h1,h2,h3,h4,h5⟩:=hv
              refine ⟨_,h5,hx.symm,fun st a w g h hs hc next Q hn=>?_⟩
              have hN:=hc rfl (64*x) (by simp [Eff.news,news,Res.isPin])
              have hw:=gflag_ok h (by rw [← hs.gflag];exact hgf) o rfl
              unfold stepW
              rw [hw,if_pos rfl]
              refine vbuildSlice_ok (e:=fun y=>peel (sR.ev y)) (K:=fun st'=>Eqv st' (st.app ⟨some x,.own (64*x) len,[(64*x,.arr false s (chunks s len out) 0)],true⟩)) h hd ho (fun y hy=>peel_ok (by rw [hs.ev y hy];exact h.ev y) (List.all_eq_true.1 hfl y hy)) ?_ (fun st' a' w' g' he hT=>hn _ _ _ (hT.eqv he.symm))
              unfold vbuildSlice
              simp only [hx,hu,hty,hz,hzc]
              refine vsnaps_data _ _ _ h0 ?_
              simp only [hout]
              exact ⟨h1,h2,h3,h4,(hN.fresh _).put _ _⟩
            · exact hv.elim
          · exact hv.elim
        · exact hv.elim
      · exact hv.elim
    · rename_i c ho
      split at hv
      · rename_i f hcal
        obtain ⟨_,hgf,hfl,hv⟩:=hv
        obtain ⟨e,h1,h2,h3⟩:=veCall_ok2 (w0:=w0) (K0:=K0) hok ho hcal (fun x=>peel (sR.ev x)) hv
        refine ⟨e,h1,h2,fun st a w g h hs hc next Q hn=>?_⟩
        have hw:=gflag_ok h (by rw [← hs.gflag];exact hgf) o rfl
        unfold stepW
        rw [hw,if_pos rfl]
        exact h3 st a w g h hs.rs (fun x hx=>peel_ok (hs.sr h x hx) (List.all_eq_true.1 hfl x hx)) hc next Q hn
      · exact hv.elim
    · exact hv.elim
end
end Go.VL
