/- Contracts of functions of the seat, proved in a logic on data over the model (part V1). -/
import Derived.WalkKit
import Derived.ProofKit
set_option linter.unusedSimpArgs false
set_option linter.unusedVariables false
namespace Go.VL
open Go.RowKit
inductive C where
  | v (x:Value)
  | sl (nil:Bool) (xs:List (List C))
  | dp (cs:List C)
  | fn (f:FuncId) (caps:List C)
  | ifc (d:TypeId) (cs:List C)
  | ifo (d:TypeId) (c:C)
instance:Inhabited C:=⟨.v (.int .i64 0)⟩
mutual
def CR (K:Nat→Nat→Prop) (w:World):C→Value→Prop
  | .v x,u=>u=x∧x.oneCell'=true
  | .sl nil xs,u=>(nil=true∧xs=[]∧u = .slice none 0 0) ∨
      (nil=false∧∃ b o s cap sz,u = .slice (some ⟨b,o,s⟩) xs.length cap∧xs.length≤cap∧cap≤maxLen∧(xs=[]∨s=none)∧ER K w b o sz xs)
  | .dp cs,u=>∃ b o,u = .pointer (some ⟨b,o,none⟩)∧LR K w b o cs
  | .fn f caps,u=>∃ us:List Value,u = .func (.func f) #[] us.toArray∧VR K w caps us
  | .ifc d cs,u=>∃ us:List Value,u = .iface d (.agg us.toArray)∧VR K w cs us
  | .ifo d c,u=>∃ x:Value,u = .iface d x∧CR K w c x
def LR (K:Nat→Nat→Prop) (w:World) (b:Nat):Nat→List C→Prop
  | _,[]=>True
  | o,c::r=>(K b o∧∃ u,w.cell? ⟨b,o,none⟩=some u∧CR K w c u)∧LR K w b (o+1) r
def VR (K:Nat→Nat→Prop) (w:World):List C→List Value→Prop
  | [],us=>us=[]
  | c::r,us=>∃ u us',us=u::us'∧CR K w c u∧VR K w r us'
def ER (K:Nat→Nat→Prop) (w:World) (b:Nat):Nat→Nat→List (List C)→Prop
  | _,_,[]=>True
  | o,sz,e::r=>(e.length=sz∧LR K w b o e)∧ER K w b (o+sz) sz r
end
structure Keeps (K:Nat→Nat→Prop) (w:World) (K':Nat→Nat→Prop) (w':World):Prop where
  sub:∀ b o,K b o→K' b o
  cell:∀ b o,K b o→w'.cell? ⟨b,o,none⟩=w.cell? ⟨b,o,none⟩
theorem Keeps.refl (K:Nat→Nat→Prop) (w:World):Keeps K w K w:=⟨fun _ _ h=>h,fun _ _ _=>rfl⟩
theorem Keeps.trans {K K' K'':Nat→Nat→Prop} {w w' w'':World} (h:Keeps K w K' w') (h':Keeps K' w' K'' w''):Keeps K w K'' w'' :=
  ⟨fun b o k=>h'.sub b o (h.sub b o k),fun b o k=>(h'.cell b o (h.sub b o k)).trans (h.cell b o k)⟩
mutual
theorem CR.mono {K K':Nat→Nat→Prop} {w w':World} (H:Keeps K w K' w'):∀ (c:C) (u:Value),CR K w c u→CR K' w' c u
  | .v x,u,h=>by rw [CR] at h ⊢;exact h
  | .sl nil xs,u,h=>by
    rw [CR] at h ⊢
    rcases h with h | ⟨h1,b,o,s,cap,sz,h2,h3,h4,hs,h5⟩
    · exact .inl h
    · exact .inr ⟨h1,b,o,s,cap,sz,h2,h3,h4,hs,ER.mono H b xs o sz h5⟩
  | .dp cs,u,h=>by
    rw [CR] at h ⊢
    obtain ⟨b,o,h1,h2⟩:=h
    exact ⟨b,o,h1,LR.mono H b cs o h2⟩
  | .fn f caps,u,h=>by
    rw [CR] at h ⊢
    obtain ⟨us,h1,h2⟩:=h
    exact ⟨us,h1,VR.mono H caps us h2⟩
  | .ifc d cs,u,h=>by
    rw [CR] at h ⊢
    obtain ⟨us,h1,h2⟩:=h
    exact ⟨us,h1,VR.mono H cs us h2⟩
  | .ifo d c,u,h=>by
    rw [CR] at h ⊢
    obtain ⟨x,h1,h2⟩:=h
    exact ⟨x,h1,CR.mono H c x h2⟩
theorem LR.mono {K K':Nat→Nat→Prop} {w w':World} (H:Keeps K w K' w') (b:Nat):∀ (cs:List C) (o:Nat),LR K w b o cs→LR K' w' b o cs
  | [],o,h=>by rw [LR];trivial
  | c::r,o,h=>by
    rw [LR] at h ⊢
    obtain ⟨⟨h1,u,h2,h3⟩,h4⟩:=h
    exact ⟨⟨H.sub _ _ h1,u,by rw [H.cell _ _ h1];exact h2,CR.mono H c u h3⟩,LR.mono H b r (o+1) h4⟩
theorem VR.mono {K K':Nat→Nat→Prop} {w w':World} (H:Keeps K w K' w'):∀ (cs:List C) (us:List Value),VR K w cs us→VR K' w' cs us
  | [],us,h=>by rw [VR] at h ⊢;exact h
  | c::r,us,h=>by
    rw [VR] at h ⊢
    obtain ⟨u,us',h1,h2,h3⟩:=h
    exact ⟨u,us',h1,CR.mono H c u h2,VR.mono H r us' h3⟩
theorem ER.mono {K K':Nat→Nat→Prop} {w w':World} (H:Keeps K w K' w') (b:Nat):∀ (xs:List (List C)) (o sz:Nat),ER K w b o sz xs→ER K' w' b o sz xs
  | [],o,sz,h=>by rw [ER];trivial
  | e::r,o,sz,h=>by
    rw [ER] at h ⊢
    obtain ⟨⟨h1,h2⟩,h3⟩:=h
    exact ⟨⟨h1,LR.mono H b e o h2⟩,ER.mono H b r (o+sz) sz h3⟩
end
section forms
variable {K:Nat→Nat→Prop} {w:World}
theorem LR_iff (b:Nat):∀ (cs:List C) (o:Nat),LR K w b o cs↔∀ (k:Nat) (c:C),cs[k]? = some c→K b (o+k)∧∃ u,w.cell? ⟨b,o+k,none⟩=some u∧CR K w c u
  | [],o=>by rw [LR];simp
  | c::r,o=>by
    rw [LR,LR_iff b r (o+1)]
    constructor
    · rintro ⟨h1,h2⟩ k d hk
      cases k with
      | zero=>simp at hk;subst hk;exact h1
      | succ k=>have:=h2 k d (by simpa using hk);rw [show o+(k+1)=o+1+k from by omega];exact this
    · intro h
      refine ⟨by simpa using h 0 c rfl,fun k d hk=>?_⟩
      have:=h (k+1) d (by simpa using hk)
      rwa [show o+(k+1)=o+1+k from by omega] at this
theorem VR_iff:∀ (cs:List C) (us:List Value),VR K w cs us↔us.length=cs.length∧∀ (k:Nat) (c:C) (u:Value),cs[k]? = some c→us[k]? = some u→CR K w c u
  | [],us=>by rw [VR];simp
  | c::r,us=>by
    rw [VR]
    constructor
    · rintro ⟨u,us',rfl,h1,h2⟩
      obtain ⟨h3,h4⟩:=(VR_iff r us').1 h2
      refine ⟨by simp [h3],fun k d x hk hx=>?_⟩
      cases k with
      | zero=>simp at hk hx;subst hk;subst hx;exact h1
      | succ k=>exact h4 k d x (by simpa using hk) (by simpa using hx)
    · rintro ⟨h1,h2⟩
      cases us with
      | nil=>simp at h1
      | cons u us'=>exact ⟨u,us',rfl,h2 0 c u rfl rfl,(VR_iff r us').2 ⟨by simpa using h1,fun k d x hk hx=>h2 (k+1) d x (by simpa using hk) (by simpa using hx)⟩⟩
theorem ER_iff (b sz:Nat):∀ (xs:List (List C)) (o:Nat),ER K w b o sz xs↔∀ (j:Nat) (e:List C),xs[j]? = some e→e.length=sz∧LR K w b (o+j*sz) e
  | [],o=>by rw [ER];simp
  | e::r,o=>by
    rw [ER,ER_iff b sz r (o+sz)]
    constructor
    · rintro ⟨h1,h2⟩ j d hj
      cases j with
      | zero=>simp at hj;subst hj;simpa using h1
      | succ j=>have:=h2 j d (by simpa using hj);rw [show o+(j+1)*sz=o+sz+j*sz from by rw [Nat.add_mul];omega];exact this
    · intro h
      refine ⟨by simpa using h 0 e rfl,fun j d hj=>?_⟩
      have:=h (j+1) d (by simpa using hj)
      rwa [show o+(j+1)*sz=o+sz+j*sz from by rw [Nat.add_mul];omega] at this
mutual
theorem CR.one {c:C} {u:Value} (h:CR K w c u):u.oneCell'=true:=by
  cases c with
  | v x=>rw [CR] at h;obtain ⟨rfl,h⟩:=h;exact h
  | sl nil xs=>rw [CR] at h;rcases h with ⟨_,_,rfl⟩ | ⟨_,b,o,s,cap,sz,rfl,_⟩ <;> rfl
  | dp cs=>rw [CR] at h;obtain ⟨b,o,rfl,_⟩:=h;rfl
  | fn f caps=>rw [CR] at h;obtain ⟨us,rfl,_⟩:=h;rfl
  | ifc d cs=>rw [CR] at h;obtain ⟨us,rfl,_⟩:=h;rfl
  | ifo d c=>rw [CR] at h;obtain ⟨x,rfl,_⟩:=h;rfl
end
end forms
inductive S where
  | c (x:C)
  | agg (cs:List C)
  | tup (ss:List S)
  | own (i n:Nat)
  | ptr (i off:Nat)
  | ep (i n j off:Nat)
  | g (b:Bool) (s:S)
  | st (ss:List S)
  | suf (i n j:Nat)
  | fnp (f:FuncId) (ss:List S)
  | mp (i:Nat)
  | me (i j off:Nat)
  | pre (i n m:Nat)
  | cut (i n m:Nat)
  | un
inductive MB where
  | ents (kvs:List (Value × List S))
  | iter (bm n:Nat) (seen:List Nat)
  | rows (nil:Bool) (sz:Nat) (xs:List (List S))
def MB.sh:MB→Option (Nat × Nat)
  | .rows _ sz xs=>some (sz,xs.length)
  | _=>none
inductive Res where
  | box (fz:Bool) (ss:List S)
  | arr (nil:Bool) (sz:Nat) (xs:List (List C)) (fx:Nat)
  | pin (v:Value) (s:S)
  | map (m:MB)
structure St where
  env:List (Nat × S)
  res:List (Nat × Option Res)
def vlook {α:Type} (d:α):List (Nat × α)→Nat→α
  | [],_=>d
  | (k,x)::r,t=>bif k == t then x else vlook d r t
def St.get (st:St) (t:Nat):S:=vlook .un st.env t
def St.rs (st:St) (i:Nat):Option Res:=vlook none st.res i
def St.put (st:St) (t:Nat) (s:S):St:={ st with env:=(t,s)::st.env }
def St.putd (st:St) (dst:Option Nat) (s:S):St:=match dst with | some t=>st.put t s | none=>st
def St.setR (st:St) (i:Nat) (r:Option Res):St:={ st with res:=(i,r)::st.res }
theorem St.get_put (st:St) (t t':Nat) (s:S):(st.put t s).get t'=if t=t' then s else st.get t':=by
  simp only [St.get,St.put,vlook]
  by_cases h:t=t'
  · subst h;simp
  · have:(t == t')=false:=by simpa using h
    simp [this,h]
theorem St.rs_setR (st:St) (i j:Nat) (r:Option Res):(st.setR i r).rs j=if i=j then r else st.rs j:=by
  simp only [St.rs,St.setR,vlook]
  by_cases h:i=j
  · subst h;simp
  · have:(i == j)=false:=by simpa using h
    simp [this,h]
@[simp] theorem St.rs_put (st:St) (t:Nat) (s:S):(st.put t s).rs=st.rs:=rfl
@[simp] theorem St.get_setR (st:St) (i:Nat) (r:Option Res):(st.setR i r).get=st.get:=rfl
structure G where
  K:Nat→Nat→Prop
  loc:Nat→Value
mutual
def SR (g:G) (w:World) (R:Nat→Option Res):S→Value→Prop
  | .c x,u=>CR g.K w x u
  | .agg cs,u=>∃ us:List Value,u = .agg us.toArray∧VR g.K w cs us
  | .tup ss,u=>∃ us:List Value,u = .tuple us.toArray∧SRs g w R ss us
  | .fnp f ss,u=>∃ us:List Value,u = .func (.func f) #[] us.toArray∧SRs g w R ss us
  | .st ss,u=>∃ us:List Value,u = .agg us.toArray∧SRs g w R ss us∧∀ v∈us,v.oneCell'=true
  | .own i n,u=>∀ nil sz xs fx,R i=some (.arr nil sz xs fx)→xs.length=n→u=g.loc i
  | .ptr i off,u=>∀ fz ss,R i=some (.box fz ss)→∃ b,g.loc i = .pointer (some ⟨b,0,none⟩)∧u = .pointer (some ⟨b,off,none⟩)
  | .ep i n j off,u=>∀ nil sz xs fx,R i=some (.arr nil sz xs fx)→xs.length=n→∃ b cap,g.loc i = .slice (some ⟨b,0,none⟩) n cap∧u = .pointer (some ⟨b,j*sz+off,none⟩)
  | .me i j off,u=>∀ nil sz xs,R i=some (.map (.rows nil sz xs))→j<xs.length→∃ b cap,g.loc i = .slice (some ⟨b,0,none⟩) xs.length cap∧u = .pointer (some ⟨b,j*sz+off,none⟩)
  | .suf i n j,u=>∀ nil sz xs fx,R i=some (.arr nil sz xs fx)→xs.length=n→∃ a c,u = .slice a (n-j) c∧(n-j=0∨∃ b cap,g.loc i = .slice (some ⟨b,0,none⟩) n cap∧a=some ⟨b,j*sz,none⟩)
  | .pre i n m,u=>∀ nil sz xs fx,R i=some (.arr nil sz xs fx)→xs.length=n→∃ a cap,g.loc i = .slice (some a) n cap∧u = .slice (some a) m cap
  | .cut i n m,u=>∀ nil sz xs fx,R i=some (.arr nil sz xs fx)→xs.length=n→∃ a cap,g.loc i = .slice a n cap∧u = .slice a m m
  | .g b s,u=>(b=true→SR g w R s u)∧(b=false→u=undef)
  | .mp i,u=>∀ m,R i=some (.map m)→u=g.loc i
  | .un,_=>True
def SRs (g:G) (w:World) (R:Nat→Option Res):List S→List Value→Prop
  | [],us=>us=[]
  | s::r,us=>∃ u us',us=u::us'∧SR g w R s u∧SRs g w R r us'
end
def blk:Value→Option Nat
  | .pointer (some a)=>some a.block
  | .slice (some a) _ _=>some a.block
  | .map (some b)=>some b
  | _=>none
def Holds (K:Nat→Nat→Prop) (w:World) (sz:Nat) (xs:List (List C)) (cur:Array Value):Prop :=
  ∀ (j:Nat) (e:List C),xs[j]? = some e→e.length=sz∧∀ (k:Nat) (c:C),e[k]? = some c→∃ u,cur[j*sz+k]? = some u∧CR K w c u
def EntR (g:G) (w:World) (R:Nat→Option Res) (cs:List S) (u:Value):Prop:=match cs with
  | [c]=>SR g w R c u∧u.oneCell'=true
  | cs=>∃ us:List Value,u = .agg us.toArray∧SRs g w R cs us∧∀ v∈us,v.oneCell'=true
def MapR (g:G) (w:World) (R:Nat→Option Res):List (Value × List S)→List MapEntry→Prop
  | [],es=>es=[]
  | x::r,es=>∃ e es',es=e::es'∧e.key=x.1∧EntR g w R x.2 e.val∧MapR g w R r es'
def HoldsS (g:G) (w:World) (R:Nat→Option Res) (sz:Nat) (xs:List (List S)) (cur:Array Value):Prop :=
  ∀ (j:Nat) (e:List S),xs[j]? = some e→e.length=sz∧∀ (k:Nat) (s:S),e[k]? = some s→∃ u,cur[j*sz+k]? = some u∧SR g w R s u∧u.oneCell'=true
def MR (g:G) (w:World) (R:Nat→Option Res) (B:Nat→Prop) (i:Nat):MB→Prop
  | .ents kvs=>∃ b es,g.loc i = .map (some b)∧B b∧w.heap[b]? = some (.map es es.size)∧MapR g w R kvs es.toList∧∀ (j:Nat) (e:MapEntry),es[j]? = some e→e.born=j
  | .iter bm n seen=>∃ b,g.loc i = .pointer (some ⟨b,0,none⟩)∧B b∧w.heap[b]? = some (.mapIter (some bm) n seen.toArray n)
  | .rows nil sz xs=>(nil=true∧xs=[]∧g.loc i = .slice none 0 0) ∨
      (nil=false∧∃ b cap cur E,g.loc i = .slice (some ⟨b,0,none⟩) xs.length cap∧B b∧w.heap[b]? = some (.cells cur E (0,0))∧xs.length≤cap∧cap≤maxLen ∧
        cur.size=cap*sz∧HoldsS g w R sz xs cur∧∀ o,¬ g.K b o)
def RR (g:G) (w:World) (R:Nat→Option Res) (B:Nat→Prop) (i:Nat):Res→Prop
  | .box fz ss=>∃ b cur E,g.loc i = .pointer (some ⟨b,0,none⟩)∧B b∧w.heap[b]? = some (.cells cur E (0,0))∧cur.size=ss.length ∧
      (∀ (k:Nat) (s:S),ss[k]? = some s→∃ u,cur[k]? = some u∧SR g w R s u∧u.oneCell'=true)∧(∀ o,g.K b o→fz=true)
  | .arr nil sz xs fx=>(nil=true∧xs=[]∧g.loc i = .slice none 0 0∧fx=0) ∨
      (nil=false∧∃ b cap cur E,g.loc i = .slice (some ⟨b,0,none⟩) xs.length cap∧B b∧w.heap[b]? = some (.cells cur E (0,0))∧xs.length≤cap∧cap≤maxLen ∧
        cur.size=cap*sz∧fx≤xs.length∧Holds g.K w sz xs cur∧∀ o,g.K b o↔o<fx*sz)
  | .pin v s=>g.loc i=undef∧SR g w R s v
  | .map m=>MR g w R B i m
structure K0T where
  K:Nat→Nat→Prop
  L:Nat→Prop
  df:List Deferred
def Old (w0:World) (K0:K0T) (b:Nat):Prop:=b<w0.heap.size∧¬ K0.L b
structure BelowD (B:Nat) (w w':World):Prop extends Below B w w' where
  drawn:w.drawn≤w'.drawn
theorem BelowD.refl (B:Nat) (w:World):BelowD B w w:=⟨Below.refl B w,Nat.le_refl _⟩
theorem BelowD.mono {B B':Nat} {w w':World} (h:BelowD B w w') (hB:B'≤B):BelowD B' w w':=⟨h.toBelow.mono hB,h.drawn⟩
theorem BelowD.alloc {B:Nat} {w w':World} (h:BelowD B w w') (hB:B≤w'.heap.size) (o:Obj):BelowD B w (w'.alloc o):=⟨h.toBelow.alloc hB o,h.drawn⟩
theorem BelowD.drew {B:Nat} {w w':World} (h:BelowD B w w'):BelowD B w w'.drew:=⟨h.toBelow.drew,Nat.le_succ_of_le h.drawn⟩
structure Bel (w0:World) (K0:K0T) (w w':World):Prop where
  os:w'.os=w.os
  tape:w'.tape=w.tape
  output:w'.output=w.output
  size:w.heap.size≤w'.heap.size
  block:∀ k,Old w0 K0 k→w'.heap[k]? = w.heap[k]?
  drawn:w.drawn≤w'.drawn
theorem Bel.refl (w0:World) (K0:K0T) (w:World):Bel w0 K0 w w:=⟨rfl,rfl,rfl,Nat.le_refl _,fun _ _=>rfl,Nat.le_refl _⟩
theorem Bel.trans {w0:World} {K0:K0T} {a b c:World} (h:Bel w0 K0 a b) (k:Bel w0 K0 b c):Bel w0 K0 a c :=
  ⟨k.os.trans h.os,k.tape.trans h.tape,k.output.trans h.output,Nat.le_trans h.size k.size,fun i hi=>(k.block i hi).trans (h.block i hi),Nat.le_trans h.drawn k.drawn⟩
theorem Bel.of {w0:World} {K0:K0T} {w w':World} (h:BelowD w0.heap.size w w'):Bel w0 K0 w w':=⟨h.os,h.tape,h.output,h.size,fun k hk=>h.block k hk.1,h.drawn⟩
structure T (w0:World) (K0:K0T) (nt:Nat) (st:St) (a:Act) (w:World) (g:G):Prop where
  below:Bel w0 K0 w0 w
  k0:∀ b o,K0.K b o→g.K b o
  kold:∀ b o,g.K b o→Old w0 K0 b→K0.K b o
  klt:∀ b o,g.K b o→b<w.heap.size
  res:∀ i r,st.rs i=some r→RR g w st.rs (fun b=>¬ Old w0 K0 b) i r
  dis:∀ i j r r',st.rs i=some r→st.rs j=some r'→i≠j→∀ b,blk (g.loc i)=some b→blk (g.loc j)≠some b
  env:∀ t,SR g w st.rs (st.get t) (a.tmps.getD t undef)
  nt:a.tmps.size=nt
  defers:a.defers=K0.df
  keep:∀ b o,K0.K b o→w.cell? ⟨b,o,none⟩=w0.cell? ⟨b,o,none⟩
end Go.VL
