/- Contracts of functions of the seat, proved in a logic on data over the model (part V20). -/
import Derived.Test.YtlphpbcafplnbaaGreatV19
set_option linter.unusedSimpArgs false
set_option linter.unusedVariables false
namespace Go.VL
open Go.RowKit
mutual
def S.nm:S→List Nat
  | .tup ss=>S.nms ss
  | .fnp f ss=>S.nms ss
  | .st ss=>S.nms ss
  | .own i _=>[i]
  | .ptr i _=>[i]
  | .ep i _ _ _=>[i]
  | .suf i _ _=>[i]
  | .mp i=>[i]
  | .pre i _ _=>[i]
  | .cut i _ _=>[i]
  | .me i _ _=>[i]
  | .g _ s=>S.nm s
  | _=>[]
def S.nms:List S→List Nat
  | []=>[]
  | s::r=>S.nm s++S.nms r
end
def inner (r:Option Res):List Nat :=
  match r with
  | some (.box _ ss)=>S.nms ss
  | some (.map m)=>S.nms m.cells
  | _=>[]
def evs (st:St):List Operand→List S
  | []=>[]
  | x::r=>st.ev x::evs st r
def inners (st:St):List Nat→List Nat
  | []=>[]
  | i::r=>inner (st.rs i)++inners st r
def leafOp:Op→Bool
  | .move _=>true
  | .assign _=>true
  | .nilCheck _=>true
  | .fieldAddr .. => true
  | .extract .. => true
  | _=>false
def rdOf (st:St) (o:Oper):List Nat:=S.nms (evs st o.op.operands.toList)++bif leafOp o.op then [] else inners st (S.nms (evs st o.op.operands.toList))
section
variable (t t' yt:TypeId) (x y:Operand)
@[simp] theorem leafOp_move:leafOp (.move x)=true:=rfl
@[simp] theorem leafOp_assign:leafOp (.assign x)=true:=rfl
@[simp] theorem leafOp_nilCheck:leafOp (.nilCheck x)=true:=rfl
@[simp] theorem leafOp_fieldAddr (n:Nat):leafOp (.fieldAddr t x n)=true:=rfl
@[simp] theorem leafOp_extract (n:Nat):leafOp (.extract x n)=true:=rfl
@[simp] theorem leafOp_load:leafOp (.load t x)=false:=rfl
@[simp] theorem leafOp_store:leafOp (.store t x y)=false:=rfl
@[simp] theorem leafOp_binOp (o:BinOp):leafOp (.binOp o t x y yt)=false:=rfl
@[simp] theorem leafOp_indexAddr:leafOp (.indexAddr t x y)=false:=rfl
@[simp] theorem leafOp_slice (a b c:Option Operand):leafOp (.slice t x a b c)=false:=rfl
@[simp] theorem leafOp_build (l:Array (Nat × Operand)):leafOp (.build t l)=false:=rfl
@[simp] theorem leafOp_buildSlice (n:Nat) (l:Array (Nat × Operand)):leafOp (.buildSlice t n l)=false:=rfl
@[simp] theorem leafOp_alloc:leafOp (.alloc t)=false:=rfl
@[simp] theorem leafOp_call (c:Call):leafOp (.call c)=false:=rfl
@[simp] theorem leafOp_lookup (m k:Operand) (ok:Bool):leafOp (.lookup t m k ok)=false:=rfl
end
def rss (st:St):List Nat→List (Nat × Option Res)
  | []=>[]
  | i::r=>(i,st.rs i)::rss st r
def restr (st:St) (rd:List Nat):St:=⟨st.env,rss st rd⟩
def cleanE (i:Nat):List (Nat × S)→Bool
  | []=>true
  | p::r=>!p.2.men i && cleanE i r
def cleanR (i:Nat):List (Nat × Option Res)→Bool
  | []=>true
  | (_,some r)::l=>!r.men i && cleanR i l
  | (_,none)::l=>cleanR i l
def St.cleanB (st:St) (i:Nat):Bool:=cleanE i st.env && cleanR i st.res
theorem cleanB_ok {st:St} {i:Nat} (h:st.cleanB i=true):Clean i st:=by
  unfold St.cleanB at h
  rw [Bool.and_eq_true] at h
  obtain ⟨h1,h2⟩:=h
  refine ⟨fun t=>?_,fun j r hr=>?_⟩
  · unfold St.get
    generalize st.env=l at h1
    induction l with
    | nil=>rfl
    | cons p l ih =>
      obtain ⟨k,s⟩:=p
      simp only [cleanE,Bool.and_eq_true,Bool.not_eq_true'] at h1
      simp only [vlook]
      cases k == t with
      | true=>exact h1.1
      | false=>exact ih h1.2
  · unfold St.rs at hr
    generalize st.res=l at h2 hr
    induction l with
    | nil=>simp [vlook] at hr
    | cons p l ih =>
      obtain ⟨k,s⟩:=p
      simp only [vlook] at hr
      cases hk:k == j with
      | true =>
        rw [hk] at hr
        simp only [cond_true] at hr
        subst hr
        simp only [cleanR,Bool.and_eq_true,Bool.not_eq_true'] at h2
        exact h2.1
      | false =>
        rw [hk] at hr
        refine ih ?_ hr
        cases s with
        | none=>exact h2
        | some r=>simp only [cleanR,Bool.and_eq_true] at h2;exact h2.2
def pairB (m:Nat) (y:Rec) (e:Eff) (rd:List Nat):Bool :=
  (y.e.mods.all fun i=>tb m y.j || (!rd.contains i && !e.mods.contains i)) &&
  (e.mods.all fun i=>tb m y.j || !y.rd.contains i) &&
  (bif y.e.fr then y.e.mods.all fun i=>tb m y.j || !e.men i else true)
def freshB (st0:St) (l:List Rec) (e:Eff):Bool:=bif e.fr then e.news.all fun i=>st0.cleanB i && l.all fun y=>!y.e.men i else true
def chk (m:Nat) (st0:St) (l:List Rec) (e:Eff) (rd:List Nat):Bool:=(l.all fun y=>pairB m y e rd) && freshB st0 l e
def mvB:Op→Bool
  | .move _=>true
  | _=>false
def isMv (o:Oper):Option Operand :=
  match o.op,o.guard with
  | .move x,none=>some x
  | _,_=>none
theorem isMv_some {o:Oper} {x:Operand} (h:isMv o=some x):o.op = .move x∧o.guard=none:=by
  unfold isMv at h
  split at h
  · rename_i h1 h2;cases h;exact ⟨h1,h2⟩
  · cases h
theorem isMv_none {o:Oper} (h:mvB o.op=false):isMv o=none:=by
  unfold isMv
  split
  · rename_i h1 h2;rw [h1] at h;cases h
  · rfl
@[simp] theorem isMv_assign (d:Option Nat) (ty:TypeId) (p:String) (af:Array Edge) (gd:Option (Nat × Bool)) (x0:Operand):isMv ⟨d,.assign x0,ty,p,af,gd⟩=none:=isMv_none rfl
@[simp] theorem isMv_alloc (d:Option Nat) (ty:TypeId) (p:String) (af:Array Edge) (gd:Option (Nat × Bool)) (x0:TypeId):isMv ⟨d,.alloc x0,ty,p,af,gd⟩=none:=isMv_none rfl
@[simp] theorem isMv_build (d:Option Nat) (ty:TypeId) (p:String) (af:Array Edge) (gd:Option (Nat × Bool)) (x0:TypeId) (x1:Array (Nat × Operand)):isMv ⟨d,.build x0 x1,ty,p,af,gd⟩=none:=isMv_none rfl
@[simp] theorem isMv_buildSlice (d:Option Nat) (ty:TypeId) (p:String) (af:Array Edge) (gd:Option (Nat × Bool)) (x0:TypeId) (x1:Nat) (x2:Array (Nat × Operand)):isMv ⟨d,.buildSlice x0 x1 x2,ty,p,af,gd⟩=none:=isMv_none rfl
@[simp] theorem isMv_load (d:Option Nat) (ty:TypeId) (p:String) (af:Array Edge) (gd:Option (Nat × Bool)) (x0:TypeId) (x1:Operand):isMv ⟨d,.load x0 x1,ty,p,af,gd⟩=none:=isMv_none rfl
@[simp] theorem isMv_store (d:Option Nat) (ty:TypeId) (p:String) (af:Array Edge) (gd:Option (Nat × Bool)) (x0:TypeId) (x1 x2:Operand):isMv ⟨d,.store x0 x1 x2,ty,p,af,gd⟩=none:=isMv_none rfl
@[simp] theorem isMv_nilCheck (d:Option Nat) (ty:TypeId) (p:String) (af:Array Edge) (gd:Option (Nat × Bool)) (x0:Operand):isMv ⟨d,.nilCheck x0,ty,p,af,gd⟩=none:=isMv_none rfl
@[simp] theorem isMv_binOp (d:Option Nat) (ty:TypeId) (p:String) (af:Array Edge) (gd:Option (Nat × Bool)) (x0:BinOp) (x1:TypeId) (x2 x3:Operand) (x4:TypeId):isMv ⟨d,.binOp x0 x1 x2 x3 x4,ty,p,af,gd⟩=none:=isMv_none rfl
@[simp] theorem isMv_slice (d:Option Nat) (ty:TypeId) (p:String) (af:Array Edge) (gd:Option (Nat × Bool)) (x0:TypeId) (x1:Operand) (x2 x3 x4:Option Operand):isMv ⟨d,.slice x0 x1 x2 x3 x4,ty,p,af,gd⟩=none:=isMv_none rfl
@[simp] theorem isMv_fieldAddr (d:Option Nat) (ty:TypeId) (p:String) (af:Array Edge) (gd:Option (Nat × Bool)) (x0:TypeId) (x1:Operand) (x2:Nat):isMv ⟨d,.fieldAddr x0 x1 x2,ty,p,af,gd⟩=none:=isMv_none rfl
@[simp] theorem isMv_indexAddr (d:Option Nat) (ty:TypeId) (p:String) (af:Array Edge) (gd:Option (Nat × Bool)) (x0:TypeId) (x1 x2:Operand):isMv ⟨d,.indexAddr x0 x1 x2,ty,p,af,gd⟩=none:=isMv_none rfl
@[simp] theorem isMv_lookup (d:Option Nat) (ty:TypeId) (p:String) (af:Array Edge) (gd:Option (Nat × Bool)) (x0:TypeId) (x1 x2:Operand) (x3:Bool):isMv ⟨d,.lookup x0 x1 x2 x3,ty,p,af,gd⟩=none:=isMv_none rfl
@[simp] theorem isMv_extract (d:Option Nat) (ty:TypeId) (p:String) (af:Array Edge) (gd:Option (Nat × Bool)) (x0:Operand) (x1:Nat):isMv ⟨d,.extract x0 x1,ty,p,af,gd⟩=none:=isMv_none rfl
@[simp] theorem isMv_call (d:Option Nat) (ty:TypeId) (p:String) (af:Array Edge) (gd:Option (Nat × Bool)) (x0:Call):isMv ⟨d,.call x0,ty,p,af,gd⟩=none:=isMv_none rfl
@[simp] theorem isMv_move (d:Option Nat) (ty:TypeId) (p:String) (af:Array Edge) (x:Operand):isMv ⟨d,.move x,ty,p,af,none⟩=some x:=rfl
@[simp] theorem isMv_moveg (d:Option Nat) (ty:TypeId) (p:String) (af:Array Edge) (q:Nat × Bool) (x:Operand):isMv ⟨d,.move x,ty,p,af,some q⟩=none:=rfl
def vd (P:Program) (ops:Array Oper):List Oper→List (Nat × Bool)→Nat→St→List Rec→St→(St→Prop)→Prop
  | [],_,_,_,_,cur,K=>K cur
  | _::_,[],_,_,_,_,_=>False
  | o::r,(m,b)::pl,j,st0,l,cur,K =>
    bif b then vstepL P ops cur o fun st'=>vd P ops r pl (j+1) st' [] st' K
    else match isMv o with
      | some x=>chk m st0 l ⟨o.dst,cur.ev x,[],false⟩ []=true∧vd P ops r pl (j+1) st0 (l++[⟨j,⟨o.dst,cur.ev x,[],false⟩,[]⟩]) (cur.app ⟨o.dst,cur.ev x,[],false⟩) K
      | none=>veff P ops (restr cur (rdOf cur o)) o fun e=>chk m st0 l e (rdOf cur o)=true∧vd P ops r pl (j+1) st0 (l++[⟨j,e,rdOf cur o⟩]) (cur.app e) K
structure PairOK (mk:Nat→Nat) (y x:Rec):Prop where
  h:tb (mk x.j) y.j=true∨((∀ i∈y.e.mods,i ∉ x.rd∧i ∉ x.e.mods)∧(∀ i∈x.e.mods,i ∉ y.rd)∧(y.e.fr=true→∀ i∈y.e.mods,x.e.men i=false))
theorem pairB_ok {mk:Nat→Nat} {y x:Rec} {m:Nat} (hm:mk x.j=m) (h:pairB m y x.e x.rd=true):PairOK mk y x:=by
  subst hm
  cases ht:tb (mk x.j) y.j with
  | true=>exact ⟨.inl ht⟩
  | false =>
    unfold pairB at h
    rw [ht] at h
    simp only [Bool.false_or,Bool.and_eq_true,List.all_eq_true,Bool.not_eq_true',List.contains_eq_mem,decide_eq_false_iff_not] at h
    obtain ⟨⟨h1,h2⟩,h3⟩:=h
    refine ⟨.inr ⟨h1,h2,fun hf i hi=>?_⟩⟩
    rw [hf] at h3
    simp only [cond_true,List.all_eq_true,Bool.not_eq_true'] at h3
    exact h3 i hi
section
variable {P:Program} {w0:World} {K0:K0T} {nt:Nat} {ops:Array Oper} {mk:Nat→Nat} {bar:Nat→Bool} {Q:Exit→Act→World→Prop}
structure RecOK (P:Program) (w0:World) (K0:K0T) (nt:Nat) (ops:Array Oper) (mk:Nat→Nat) (st0:St) (l:List Rec) (x:Rec):Prop where
  op:∃ o,ops[x.j]? = some o∧x.e.d=o.dst∧∀ (st:St) (a:Act) (w:World) (g:G),T w0 K0 nt st a w g→Seen ops o (restr (appA st0 l) x.rd) st→(x.e.fr=true→∀ i∈x.e.news,Clean i st) →
      ∀ (next:Act→World→Prop) (Q:Exit→Act→World→Prop),(∀ a' w' g',T w0 K0 nt (st.app x.e) a' w' g'→next a' w')→stepW P ops o a w next Q
  pair:∀ y∈l,PairOK mk y x
  fresh:x.e.fr=true→∀ i∈x.e.news,Clean i st0∧∀ y∈l,y.e.men i=false
inductive Good (P:Program) (w0:World) (K0:K0T) (nt:Nat) (ops:Array Oper) (mk:Nat→Nat) (lo:Nat) (st0:St):List Rec→Prop
  | nil:Good P w0 K0 nt ops mk lo st0 []
  | snoc {l:List Rec} {x:Rec} : Good P w0 K0 nt ops mk lo st0 l→x.j=lo+l.length→RecOK P w0 K0 nt ops mk st0 l x→Good P w0 K0 nt ops mk lo st0 (l++[x])
theorem Good.idx {lo:Nat} {st0:St} {l:List Rec} (h:Good P w0 K0 nt ops mk lo st0 l):∀ y∈l,lo≤y.j∧y.j<lo+l.length∧∃ o,ops[y.j]? = some o∧y.e.d=o.dst:=by
  induction h with
  | nil=>simp
  | @snoc l x _ h2 h3 ih =>
    intro y hy
    rw [List.length_append]
    rcases List.mem_append.1 hy with hy | hy
    · obtain ⟨q1,q2,q3⟩:=ih y hy
      exact ⟨q1,by omega,q3⟩
    · simp at hy;subst hy
      obtain ⟨o,o1,o2,_⟩:=h3.op
      exact ⟨by omega,by simp;omega,o,o1,o2⟩
theorem Good.split {lo:Nat} {st0:St} {l:List Rec} (h:Good P w0 K0 nt ops mk lo st0 l) {i:Nat} (h1:lo≤i) (h2:i<lo+l.length) :
    ∃ l1 x l2,l=l1++x::l2∧x.j=i∧RecOK P w0 K0 nt ops mk st0 l1 x∧(∀ y∈l1,y.j<i∧∃ o,ops[y.j]? = some o∧y.e.d=o.dst)∧(∀ y∈l2,i<y.j∧PairOK mk x y∧∃ o,ops[y.j]? = some o∧y.e.d=o.dst):=by
  induction h with
  | nil=>simp at h2;omega
  | @snoc l x hg hj hr ih =>
    by_cases hi:i<lo+l.length
    · obtain ⟨l1,z,l2,rfl,q1,q2,q3,q4⟩:=ih hi
      refine ⟨l1,z,l2++[x],by simp,q1,q2,q3,fun y hy=>?_⟩
      rcases List.mem_append.1 hy with hy | hy
      · exact q4 y hy
      · simp at hy;subst hy
        obtain ⟨o,o1,o2,_⟩:=hr.op
        exact ⟨by omega,hr.pair z (by simp),o,o1,o2⟩
    · have:i=lo+l.length:=by rw [List.length_append] at h2;simp at h2;omega
      refine ⟨l,x,[],rfl,by omega,hr,fun y hy=>?_,by simp⟩
      obtain ⟨q1,q2,q3⟩:=hg.idx y hy
      exact ⟨by omega,q3⟩
structure Lst (n:Nat) (listed:Array Bool) (p:Nat→Bool):Prop where
  size:listed.size=n
  at_:∀ i,i<n→listed.getD i true=p i
def rem (n:Nat) (p:Nat→Bool):Nat:=(List.range n).countP fun i=>!p i
theorem countP_lt {q r:Nat→Bool} {i:Nat} : ∀ (l:List Nat),(∀ x,q x=true→r x=true)→i∈l→r i=true→q i=false→l.countP q<l.countP r
  | [],_,h,_,_=>by simp at h
  | x::l,hqr,h,hr,hq=>by
    rw [List.countP_cons,List.countP_cons]
    have hle:l.countP q≤l.countP r:=List.countP_mono_left fun x _=>hqr x
    by_cases hx:x=i
    · subst hx
      rw [hr,hq];simp;omega
    · have:=countP_lt l hqr (by simpa [Ne.symm hx] using h) hr hq
      have h2:=hqr x
      cases hqx:q x with
      | true=>rw [h2 hqx];simp;omega
      | false=>simp;split <;> omega
def ins (p:Nat→Bool) (i:Nat):Nat→Bool:=fun k=>k == i || p k
theorem rem_ins {n:Nat} {p:Nat→Bool} {i:Nat} (hi:i<n) (hp:p i=false):rem n (ins p i)<rem n p:=by
  unfold rem
  refine countP_lt (i:=i) _ (fun x hx=>?_) (by simpa using hi) (by simp [hp]) (by simp [ins])
  simp only [ins,Bool.not_or,Bool.and_eq_true] at hx
  exact hx.2
theorem Lst.set {n:Nat} {listed:Array Bool} {p:Nat→Bool} (h:Lst n listed p) {i:Nat} (hi:i<n):Lst n (listed.setIfInBounds i true) (ins p i):=by
  refine ⟨by simp [h.size],fun k hk=>?_⟩
  have:=h.at_ k hk
  rw [Array.getD_eq_getD_getElem?] at this ⊢
  by_cases e:i=k
  · subst e
    rw [Array.getElem?_setIfInBounds_self_of_lt (by rw [h.size];exact hi)]
    simp [ins]
  · rw [Array.getElem?_setIfInBounds_ne e,this]
    have:(k == i)=false:=by simpa using Ne.symm e
    simp [ins,this]
theorem ready_spec {listed:Array Bool} {p:Nat→Bool} (h:Lst ops.size listed p) {i:Nat} (hi:i∈Region.ready .any ops listed):i<ops.size∧p i=false∧∃ o,ops[i]? = some o∧∀ e∈o.after,Region.binds .any e=true→e.on<ops.size→p e.on=true:=by
  unfold Region.ready at hi
  simp only [List.mem_filter,List.mem_range,Bool.and_eq_true,Bool.not_eq_true'] at hi
  obtain ⟨h1,h2,h3⟩:=hi
  rw [h.at_ i h1] at h2
  refine ⟨h1,h2,ops[i],by simp [h1],fun e he hb hlt=>?_⟩
  simp only [h1,getElem?_pos,Option.map_some,Option.getD_some,Array.all_eq_true'] at h3
  have:=h3 e he
  rw [hb] at this
  simp only [Bool.not_true,Bool.false_or] at this
  rw [← h.at_ e.on hlt,Array.getD_eq_getD_getElem?]
  rw [Array.getD_eq_getD_getElem?] at this
  have hs:e.on<listed.size:=by rw [h.size];exact hlt
  simp only [hs,getElem?_pos,Option.getD_some] at this ⊢
  exact this
theorem ready_of {listed:Array Bool} {p:Nat→Bool} (hS:Static nt ops mk bar) (h:Lst ops.size listed p) {i:Nat} (hi:i<ops.size) (hp:p i=false) (hb:∀ k,k<i→p k=true):i∈Region.ready .any ops listed:=by
  unfold Region.ready
  simp only [List.mem_filter,List.mem_range,Bool.and_eq_true,Bool.not_eq_true']
  refine ⟨hi,by rw [h.at_ i hi];exact hp,?_⟩
  simp only [hi,getElem?_pos,Option.map_some,Option.getD_some,Array.all_eq_true']
  intro e he
  cases hbe:Region.binds .any e with
  | false=>rfl
  | true =>
    have hlt:=hS.lt i ops[i] e (by simp [hi]) he hbe
    have:=h.at_ e.on (by omega)
    rw [hb e.on hlt] at this
    simp only [Bool.not_true,Bool.false_or]
    rw [Array.getD_eq_getD_getElem?] at this ⊢
    have hs:e.on<listed.size:=by rw [h.size];omega
    simp only [hs,getElem?_pos,Option.getD_some] at this ⊢
    exact this
def Down (n:Nat) (mk:Nat→Nat) (p:Nat→Bool):Prop:=∀ j,j<n→p j=true→∀ k,k<n→tb (mk j) k=true→p k=true
theorem ready_down {listed:Array Bool} {p:Nat→Bool} (hS:Static nt ops mk bar) (h:Lst ops.size listed p) (hd:Down ops.size mk p) {i:Nat} (hi:i∈Region.ready .any ops listed):∀ k,k<ops.size→tb (mk i) k=true→p k=true:=by
  intro k hk ht
  obtain ⟨h1,h2,o,ho,h3⟩:=ready_spec h hi
  obtain ⟨e,he,hb,hc⟩:=hS.dn i o k ho hk ht
  have hlt:=hS.lt i o e ho he hb
  have hp:=h3 e he hb (by omega)
  rcases hc with rfl | hc
  · exact hp
  · exact hd e.on (by omega) hp k hk hc
theorem Down.ins {n:Nat} {p:Nat→Bool} {i:Nat} (h:Down n mk p) (hi:∀ k,k<n→tb (mk i) k=true→p k=true):Down n mk (ins p i):=by
  intro j hj hp k hk ht
  simp only [VL.ins,Bool.or_eq_true,beq_iff_eq] at hp ⊢
  rcases hp with rfl | hp
  · exact .inr (hi k hk ht)
  · exact .inr (h j hj hp k hk ht)
theorem wpOp_of_step {i:Nat} {o:Oper} (ho:ops[i]? = some o) {K:Act→World→Prop} {a:Act} {w:World} (h:stepW P ops o a w K Q):wpOp P ops Q i K a w:=by
  unfold wpOp
  rw [ho]
  unfold stepW at h
  simp only
  split
  · rename_i hw;rw [if_pos hw] at h;exact .inl h
  · rename_i hw;rw [if_neg hw] at h;exact h
theorem rss_look (st:St) (i:Nat):∀ rd:List Nat,vlook none (rss st rd) i=if i∈rd then st.rs i else none
  | []=>by simp [rss]
  | k::r=>by
    rw [rss,vlook]
    by_cases e:k=i
    · subst e;simp
    · have:(k == i)=false:=by simpa using e
      rw [this,cond_false,rss_look st i r]
      simp [Ne.symm e]
theorem restr_rs (st:St) (rd:List Nat) (i:Nat):(restr st rd).rs i=if i∈rd then st.rs i else none:=rss_look st i rd
theorem appF_false:∀ (l:List Rec) (x:St),appF (fun _=>false) x l=x
  | [],_=>rfl
  | _::l,x=>appF_false l x
theorem good_stepS {lo:Nat} {st0:St} {l:List Rec} (hS:Static nt ops mk bar) (hg:Good P w0 K0 nt ops mk lo st0 l) {p:Nat→Bool} (hd:Down ops.size mk p) {i:Nat} (hi:i<ops.size) (h1:lo≤i) (h2:i<lo+l.length) (hp:p i=false)
    (hr:∀ k,k<ops.size→tb (mk i) k=true→p k=true) {a:Act} {w:World} {g:G} (hT:T w0 K0 nt (appF p st0 l) a w g) {next:Act→World→Prop}
    (hn:∀ a' w' g',T w0 K0 nt (appF (ins p i) st0 l) a' w' g'→next a' w'):∃ o,ops[i]? = some o∧stepW P ops o a w next Q:=by
  obtain ⟨l1,x,l2,rfl,hj,hx,hl1,hl2⟩:=hg.split h1 h2
  obtain ⟨o,ho,hxd,hstep⟩:=hx.op
  subst hj
  have size:∀ {j:Nat} {o:Oper},ops[j]? = some o→j<ops.size:=fun ho=>(Array.getElem?_eq_some_iff.1 ho).1
  have before:∀ y∈l1,p y.j=false→(∀ t,y.e.d=some t→t ∉ o.looksAt ops)∧∀ k∈y.e.mods,k ∉ x.rd:=by
    intro y hy hpy
    obtain ⟨hlt,o',ho',hyd⟩:=hl1 y hy
    have hnt:tb (mk x.j) y.j=false:=by
      cases ht:tb (mk x.j) y.j with
      | false=>rfl
      | true=>rw [hr y.j (size ho') ht] at hpy;cases hpy
    refine ⟨fun t ht=>?_,fun k hk=>?_⟩
    · rcases hS.ap y.j x.j o' o hlt ho' ho with q | q
      · rw [q] at hnt;cases hnt
      · exact (Oper.apart_spec q).1 t (by rw [← hyd];exact ht)
    · rcases (hx.pair y hy).h with q | q
      · rw [q] at hnt;cases hnt
      · exact (q.1 k hk).1
  have behind:∀ y∈l2,p y.j=true→(∀ t,y.e.d=some t→t ∉ o.looksAt ops)∧(∀ k∈y.e.mods,k ∉ x.rd)∧Apart x.e y.e∧(x.e.fr=true→∀ k∈x.e.mods,y.e.men k=false):=by
    intro y hy hpy
    obtain ⟨hlt,hpair,o',ho',hyd⟩:=hl2 y hy
    have hnt:tb (mk y.j) x.j=false:=by
      cases ht:tb (mk y.j) x.j with
      | false=>rfl
      | true=>rw [hd y.j (size ho') hpy x.j hi ht] at hp;cases hp
    have hap:=(hS.ap x.j y.j o o' hlt ho ho').resolve_left (by rw [hnt];simp)
    have hpr:=hpair.h.resolve_left (by rw [hnt];simp)
    obtain ⟨a1,a2,a3⟩:=Oper.apart_spec hap
    exact ⟨fun t ht=>a3 t (by rw [← hyd];exact ht),fun k hk=>hpr.2.1 k hk,⟨fun t ht=>by rw [hyd];exact a2 t (by rw [← hxd];exact ht),fun k hk=>(hpr.1 k hk).2⟩,hpr.2.2⟩
  have hsplit:appF p st0 (l1++x::l2)=appF p (appF p st0 l1) l2:=by
    rw [appF_append,appF_cons,hp];rfl
  have get_eq:∀ t,t∈o.looksAt ops→(appA st0 l1).get t=(appF p st0 (l1++x::l2)).get t:=by
    intro t ht
    rw [hsplit]
    have e2:(appF p (appF p st0 l1) l2).get t=(appF (fun _=>false) (appF p st0 l1) l2).get t:=appF_get l2 _ _ (fun y hy hyd=>by
      cases hpy:p y.j with
      | false=>rfl
      | true=>exact absurd ht ((behind y hy hpy).1 t hyd)) rfl
    rw [e2,appF_false,← appF_true]
    refine appF_get l1 _ _ (fun y hy hyd=>?_) rfl
    cases hpy:p y.j with
    | true=>rfl
    | false=>exact absurd ht ((before y hy hpy).1 t hyd)
  have rs_eq:∀ k,k∈x.rd→(appA st0 l1).rs k=(appF p st0 (l1++x::l2)).rs k:=by
    intro k hk
    rw [hsplit]
    have e2:(appF p (appF p st0 l1) l2).rs k=(appF (fun _=>false) (appF p st0 l1) l2).rs k:=appF_rs l2 _ _ (fun y hy hyd=>by
      cases hpy:p y.j with
      | false=>rfl
      | true=>exact absurd hk ((behind y hy hpy).2.1 k hyd)) rfl
    rw [e2,appF_false,← appF_true]
    refine appF_rs l1 _ _ (fun y hy hyd=>?_) rfl
    cases hpy:p y.j with
    | true=>rfl
    | false=>exact absurd hk ((before y hy hpy).2 k hyd)
  have hseen:Seen ops o (restr (appA st0 l1) x.rd) (appF p st0 (l1++x::l2)):=by
    refine ⟨fun z hz=>?_,fun j b t hgd ht=>?_,fun k=>?_⟩
    · cases z with
      | tmp t=>exact get_eq t (List.mem_append_left _ (List.mem_filterMap.2 ⟨.tmp t,hz,rfl⟩))
      | _=>rfl
    · refine get_eq t (List.mem_append_right _ ?_)
      unfold gslot at ht
      simp [hgd,ht]
    · rw [restr_rs]
      by_cases hk:k∈x.rd
      · rw [if_pos hk];exact .inr (rs_eq k hk)
      · rw [if_neg hk];exact .inl rfl
  have hclean:x.e.fr=true→∀ k∈x.e.news,Clean k (appF p st0 (l1++x::l2)):=by
    intro hf k hk
    obtain ⟨c1,c2⟩:=hx.fresh hf k hk
    refine Clean.appF _ c1 (fun y hy hpy=>?_)
    rcases List.mem_append.1 hy with hy | hy
    · exact c2 y hy
    · rcases List.mem_cons.1 hy with rfl | hy
      · rw [hp] at hpy;cases hpy
      · exact (behind y hy hpy).2.2.2 hf k (x.e.news_sub k hk)
  refine ⟨o,ho,hstep _ a w g hT hseen hclean next Q (fun a' w' g' hT'=>hn a' w' g' (hT'.eqv ?_))⟩
  have f1:appF (ins p x.j) st0 (l1++x::l2)=appF p ((appF p st0 l1).app x.e) l2:=by
    rw [appF_append,appF_cons]
    have:ins p x.j x.j=true:=by simp [ins]
    rw [this]
    simp only [cond_true]
    have g1:appF (ins p x.j) st0 l1=appF p st0 l1:=appF_congr l1 _ (fun y hy=>by
      have:=(hl1 y hy).1
      have:(y.j == x.j)=false:=by simp;omega
      simp [ins,this])
    rw [g1]
    exact appF_congr l2 _ (fun y hy=>by
      have:=(hl2 y hy).1
      have:(y.j == x.j)=false:=by simp;omega
      simp [ins,this])
  rw [f1,hsplit]
  exact (appF_comm l2 _ (fun y hy hpy=>(behind y hy hpy).2.2.1)).symm
theorem good_step {lo:Nat} {st0:St} {l:List Rec} (hS:Static nt ops mk bar) (hg:Good P w0 K0 nt ops mk lo st0 l) {p:Nat→Bool} (hd:Down ops.size mk p) {i:Nat} (hi:i<ops.size) (h1:lo≤i) (h2:i<lo+l.length) (hp:p i=false)
    (hr:∀ k,k<ops.size→tb (mk i) k=true→p k=true) {a:Act} {w:World} {g:G} (hT:T w0 K0 nt (appF p st0 l) a w g) {next:Act→World→Prop}
    (hn:∀ a' w' g',T w0 K0 nt (appF (ins p i) st0 l) a' w' g'→next a' w'):wpOp P ops Q i next a w:=by
  obtain ⟨o,ho,h⟩:=good_stepS (Q:=Q) hS hg hd hi h1 h2 hp hr hT hn
  exact wpOp_of_step ho h
def below (n:Nat):Nat→Bool:=fun i=>decide (i<n)
theorem stretch {lo:Nat} {st0:St} {l:List Rec} (hS:Static nt ops mk bar) (hg:Good P w0 K0 nt ops mk lo st0 l) (hle:lo+l.length≤ops.size) (hbar:lo+l.length<ops.size→bar (lo+l.length)=true)
    (F:∀ fuel listed a w g,Lst ops.size listed (below (lo+l.length))→rem ops.size (below (lo+l.length))≤fuel→T w0 K0 nt (appA st0 l) a w g→wpAny P .any ops Q fuel listed a w) :
    ∀ (fuel:Nat) (p:Nat→Bool) (listed:Array Bool) (a:Act) (w:World) (g:G),Lst ops.size listed p→rem ops.size p≤fuel→(∀ i,i<lo→p i=true)→(∀ i,lo+l.length≤i→i<ops.size→p i=false)→Down ops.size mk p →
      T w0 K0 nt (appF p st0 l) a w g→wpAny P .any ops Q fuel listed a w:=by
  intro fuel
  induction fuel with
  | zero =>
    intro p listed a w g hL hr h1 h2 hd hT
    have all:∀ i,i<ops.size→p i=true:=by
      intro i hi
      unfold rem at hr
      have:=List.countP_eq_zero.1 (Nat.le_zero.1 hr) i (by simpa using hi)
      simpa using this
    have hn:lo+l.length=ops.size:=by
      by_cases q:lo+l.length<ops.size
      · have:=h2 _ (Nat.le_refl _) q
        rw [all _ q] at this;cases this
      · omega
    have hc:∀ i,i<ops.size→p i=below (lo+l.length) i:=fun i hi=>by rw [all i hi];simp [below];omega
    refine F 0 listed a w g ⟨hL.size,fun i hi=>by rw [hL.at_ i hi];exact hc i hi⟩ ?_ ?_
    · have:rem ops.size (below (lo+l.length))=rem ops.size p:=by
        unfold rem
        exact List.countP_congr (fun i hi=>by rw [hc i (by simpa using hi)])
      rw [this];exact hr
    · rw [← appF_true,← appF_congr (p:=p) (q:=fun _=>true) l st0 (fun y hy=>all y.j (by have:=(hg.idx y hy).2.1;omega))]
      exact hT
  | succ fuel ih =>
    intro p listed a w g hL hr h1 h2 hd hT
    by_cases hall:∀ i,lo≤i→i<lo+l.length→p i=true
    · have hc:∀ i,i<ops.size→p i=below (lo+l.length) i:=fun i hi=>by
        by_cases q:i<lo+l.length
        · have:p i=true:=by
            by_cases q2:i<lo
            · exact h1 i q2
            · exact hall i (by omega) q
          rw [this];simp [below,q]
        · rw [h2 i (by omega) hi];simp [below];omega
      refine F _ listed a w g ⟨hL.size,fun i hi=>by rw [hL.at_ i hi];exact hc i hi⟩ ?_ ?_
      · have:rem ops.size (below (lo+l.length))=rem ops.size p:=by
          unfold rem
          exact List.countP_congr (fun i hi=>by rw [hc i (by simpa using hi)])
        rw [this];exact hr
      · rw [← appF_true,← appF_congr (p:=p) (q:=fun _=>true) l st0 (fun y hy=>by
          have:=hg.idx y hy
          exact hall y.j this.1 this.2.1)]
        exact hT
    ·
      have hex:∃ i,lo≤i∧i<lo+l.length∧p i=false∧∀ k,k<i→p k=true:=by
        have hne:∃ i,lo≤i∧i<lo+l.length∧p i=false:=by
          refine Classical.byContradiction fun hh=>hall fun i q1 q2=>?_
          cases hp:p i with
          | true=>rfl
          | false=>exact absurd ⟨i,q1,q2,hp⟩ hh
        have:∀ n i,i≤n→lo≤i→i<lo+l.length→p i=false→∃ i,lo≤i∧i<lo+l.length∧p i=false∧∀ k,k<i→p k=true:=by
          intro n
          induction n with
          | zero=>intro i hi q1 q2 q3;exact ⟨i,q1,q2,q3,fun k hk=>by omega⟩
          | succ n ihn =>
            intro i hi q1 q2 q3
            by_cases hk:∃ k,k<i∧p k=false
            · obtain ⟨k,k1,k2⟩:=hk
              refine ihn k (by omega) ?_ (by omega) k2
              by_cases q:k<lo
              · rw [h1 k q] at k2;cases k2
              · omega
            · refine ⟨i,q1,q2,q3,fun k hk'=>?_⟩
              cases hp:p k with
              | true=>rfl
              | false=>exact absurd ⟨k,hk',hp⟩ hk
        obtain ⟨i,q1,q2,q3⟩:=hne
        exact this i i (Nat.le_refl _) q1 q2 q3
      obtain ⟨i,q1,q2,q3,q4⟩:=hex
      have hready:=ready_of hS hL (by omega) q3 q4
      refine ⟨fun he=>by rw [he] at hready;simp at hready,fun j hj=>?_⟩
      obtain ⟨s1,s2,_⟩:=ready_spec hL hj
      have hdn:=ready_down hS hL hd hj
      have j1:lo≤j:=by
        by_cases q:j<lo
        · rw [h1 j q] at s2;cases s2
        · omega
      have j2:j<lo+l.length:=by
        by_cases q:j<lo+l.length
        · exact q
        · exfalso
          have hb:=hbar (by omega)
          by_cases q5:j=lo+l.length
          · have:=hdn i (by omega) (hS.b1 j i s1 (by rw [q5];exact hb) (by omega))
            rw [q3] at this;cases this
          · have:=hdn (lo+l.length) (by omega) (hS.b2 _ j s1 hb (by omega))
            rw [h2 _ (Nat.le_refl _) (by omega)] at this;cases this
      refine good_step hS hg hd s1 j1 j2 s2 hdn hT (fun a' w' g' hT'=>?_)
      refine ih (ins p j) _ a' w' g' (hL.set s1) (by have:=rem_ins s1 s2;omega) (fun k hk=>by simp [ins,h1 k hk]) (fun k k1 k2=>?_) (hd.ins hdn) hT'
      have:(k == j)=false:=by simp;omega
      simp [ins,this,h2 k k1 k2]
theorem below_down (hS:Static nt ops mk bar) (lo:Nat):Down ops.size mk (below lo):=by
  have:∀ j,j<ops.size→∀ k,k<ops.size→tb (mk j) k=true→k<j:=by
    intro j
    induction j using Nat.strongRecOn with
    | _ j ih =>
      intro hj k hk ht
      obtain ⟨e,he,hb,hc⟩:=hS.dn j ops[j] k (by simp [hj]) hk ht
      have hlt:=hS.lt j ops[j] e (by simp [hj]) he hb
      rcases hc with rfl | hc
      · exact hlt
      · have:=ih e.on hlt (by omega) k hk hc;omega
  intro j hj hp k hk ht
  have:=this j hj k hk ht
  simp [below] at hp ⊢
  omega
theorem below_none {lo:Nat} {st0:St} {l:List Rec} (hg:Good P w0 K0 nt ops mk lo st0 l):appF (below lo) st0 l=st0:=by
  rw [appF_congr (q:=fun _=>false) l st0 (fun y hy=>by have:=(hg.idx y hy).1;simp [below];omega),appF_false]
theorem chk_ok {lo:Nat} {st0:St} {l:List Rec} {x:Rec} {m:Nat} (_:Good P w0 K0 nt ops mk lo st0 l) (hm:mk x.j=m) (h:chk m st0 l x.e x.rd=true):(∀ y∈l,PairOK mk y x)∧(x.e.fr=true→∀ i∈x.e.news,Clean i st0∧∀ y∈l,y.e.men i=false):=by
  unfold chk at h
  rw [Bool.and_eq_true,List.all_eq_true] at h
  refine ⟨fun y hy=>pairB_ok hm (h.1 y hy),fun hf i hi=>?_⟩
  have h2:=h.2
  unfold freshB at h2
  rw [hf] at h2
  simp only [cond_true,List.all_eq_true,Bool.and_eq_true,Bool.not_eq_true'] at h2
  obtain ⟨q1,q2⟩:=h2 i hi
  exact ⟨cleanB_ok q1,q2⟩
theorem vd_ok {K:St→Prop} (hS:Static nt ops mk bar) (hK:∀ st a w g,K st→T w0 K0 nt st a w g→Q .normal a w):∀ (r:List Oper) (pl:List (Nat × Bool)) (j lo:Nat) (st0:St) (l:List Rec) (cur:St),
    (∀ k,r[k]? = ops[j+k]?)→j+r.length=ops.size→(∀ k,k<r.length→∃ x,pl[k]? = some x∧mk (j+k)=x.1∧bar (j+k)=x.2)→Good P w0 K0 nt ops mk lo st0 l→j=lo+l.length→cur=appA st0 l→vd P ops r pl j st0 l cur K →
    ∀ fuel listed a w g,Lst ops.size listed (below lo)→rem ops.size (below lo)≤fuel→T w0 K0 nt st0 a w g→wpAny P .any ops Q fuel listed a w
  | [],pl,j,lo,st0,l,cur,hr,hn,_,hg,hj,hcur,hv=>by
    intro fuel listed a w g hL hrem hT
    simp at hn
    refine stretch hS hg (by omega) (fun h=>by omega) (fun fuel listed a w g hL hrem hT=>?_) fuel (below lo) listed a w g hL hrem (fun i hi=>by simp [below,hi]) (fun i h1 h2=>by simp [below];omega) (below_down hS lo) (by rw [below_none hg];exact hT)
    have hQ:Q .normal a w:=hK cur a w g hv (by rw [hcur];exact hT)
    have none:∀ i,i ∉ Region.ready .any ops listed:=fun i hi=>by
      obtain ⟨h1,h2,_⟩:=ready_spec hL hi
      simp [below] at h2
      omega
    cases fuel with
    | zero=>exact ⟨List.eq_nil_iff_forall_not_mem.2 none,hQ⟩
    | succ fuel=>exact ⟨fun _=>hQ,fun i hi=>absurd hi (none i)⟩
  | o::r,pl,j,lo,st0,l,cur,hr,hn,hpl,hg,hj,hcur,hv=>by
    intro fuel listed a w g hL hrem hT
    have ho:ops[j]? = some o:=by have:=hr 0;simpa using this.symm
    have hjn:j<ops.size:=by simp at hn;omega
    obtain ⟨x,hx,hm,hb⟩:=hpl 0 (by simp)
    simp only [Nat.add_zero] at hm hb
    have hok:=hS.ok j o ho
    cases pl with
    | nil=>simp at hx
    | cons mb pl =>
      simp at hx
      subst hx
      obtain ⟨m,b⟩:=mb
      simp only at hm hb
      have hr':∀ k,r[k]? = ops[j+1+k]? := fun k=>by
        have:=hr (k+1)
        rw [show j+1+k=j+(k+1) from by omega]
        simpa using this
      have hpl':∀ k,k<r.length→∃ x,pl[k]? = some x∧mk (j+1+k)=x.1∧bar (j+1+k)=x.2:=fun k hk=>by
        obtain ⟨x,h1,h2,h3⟩:=hpl (k+1) (by simpa using hk)
        exact ⟨x,by simpa using h1,by rw [show j+1+k=j+(k+1) from by omega];exact h2,by rw [show j+1+k=j+(k+1) from by omega];exact h3⟩
      have hn':j+1+r.length=ops.size:=by simp at hn;omega
      cases b with
      | true =>
        rw [vd] at hv
        simp only [cond_true] at hv
        refine stretch hS hg (by omega) (fun h=>by rw [← hj];exact hb) (fun fuel listed a w g hL hrem hT=>?_) fuel (below lo) listed a w g hL hrem (fun i hi=>by simp [below,hi]) (fun i h1 h2=>by simp [below];omega) (below_down hS lo) (by rw [below_none hg];exact hT)
        rw [← hj] at hL hrem
        have hready:=ready_of hS hL hjn (by simp [below]) (fun k hk=>by simp [below,hk])
        cases fuel with
        | zero =>
          exfalso
          unfold rem at hrem
          have:=List.countP_eq_zero.1 (Nat.le_zero.1 hrem) j (by simpa using hjn)
          simp [below] at this
        | succ fuel =>
          refine ⟨fun he=>by rw [he] at hready;simp at hready,fun i hi=>?_⟩
          obtain ⟨s1,s2,_⟩:=ready_spec hL hi
          have hdn:=ready_down hS hL (below_down hS j) hi
          have hij:i=j:=by
            simp [below] at s2
            by_cases q:i=j
            · exact q
            · have:=hdn j hjn (hS.b2 j i s1 hb (by omega))
              simp [below] at this
          subst hij
          refine wpOp_of_step ho (vstepL_ok (by rw [hcur];exact hT) hok hv _ _ (fun st' a' w' g' hv' hT'=>?_))
          refine vd_ok hS hK r pl (i+1) (i+1) st' [] st' hr' hn' hpl' .nil rfl rfl hv' fuel _ a' w' g' ?_ ?_ hT'
          · have:=hL.set s1
            refine ⟨this.size,fun k hk=>by
              rw [this.at_ k hk]
              by_cases q:k=i
              · subst q;simp [ins,below]
              · have:(k == i)=false:=by simpa using q
                simp only [ins,below,this,Bool.false_or]
                by_cases q2:k<i
                · have:k<i+1:=by omega
                  simp [q2,this]
                · have:¬ k<i+1:=by omega
                  simp [q2,this]⟩
          · have h1:=rem_ins (p:=below i) s1 s2
            have h2:rem ops.size (below (i+1))=rem ops.size (ins (below i) i):=by
              unfold rem
              refine List.countP_congr (fun k hk=>?_)
              by_cases q:k=i
              · subst q;simp [ins,below]
              · have:(k == i)=false:=by simpa using q
                simp only [ins,below,this,Bool.false_or]
                by_cases q2:k<i
                · have:k<i+1:=by omega
                  simp [q2,this]
                · have:¬ k<i+1:=by omega
                  simp [q2,this]
            omega
      | false =>
        rw [vd] at hv
        simp only [cond_false] at hv
        split at hv
        · rename_i x hx
          obtain ⟨ho1,ho2⟩:=isMv_some hx
          obtain ⟨hc,hv'⟩:=hv
          obtain ⟨c1,c2⟩:=chk_ok (x:=⟨j,⟨o.dst,cur.ev x,[],false⟩,[]⟩) hg hm hc
          have hrec:RecOK P w0 K0 nt ops mk st0 l ⟨j,⟨o.dst,cur.ev x,[],false⟩,[]⟩:=by
            refine ⟨⟨o,ho,rfl,fun st a w g h hs _ next Q hn=>?_⟩,c1,c2⟩
            have hsx:=hs.ev x (by rw [ho1];simp [Op.operands])
            rw [← hcur] at hsx
            change cur.ev x=st.ev x at hsx
            have hw:Region.wanted o (yielded ops a.tmps)=true:=by simp [Region.wanted,ho2]
            unfold stepW
            rw [hw,if_pos rfl]
            refine ow_value (u:=a.eval x) (w':=w) (by simp [execOp,ho1]) (hn _ w g ?_)
            exact h.putd (opOk_dst hok) (by rw [hsx];exact h.ev x)
          exact vd_ok hS hK r pl (j+1) lo st0 (l++[⟨j,⟨o.dst,cur.ev x,[],false⟩,[]⟩]) (cur.app ⟨o.dst,cur.ev x,[],false⟩) hr' hn' hpl' (.snoc hg hj hrec) (by rw [List.length_append];simp;omega) (by rw [appA_snoc,hcur]) hv' fuel listed a w g hL hrem hT
        obtain ⟨e,⟨hc,hv'⟩,hd,hstep⟩:=veff_ok (w0:=w0) (K0:=K0) hok hv
        obtain ⟨c1,c2⟩:=chk_ok (x:=⟨j,e,rdOf cur o⟩) hg hm hc
        have hrec:RecOK P w0 K0 nt ops mk st0 l ⟨j,e,rdOf cur o⟩:=⟨⟨o,ho,hd,by rw [← hcur];exact hstep⟩,c1,c2⟩
        exact vd_ok hS hK r pl (j+1) lo st0 (l++[⟨j,e,rdOf cur o⟩]) (cur.app e) hr' hn' hpl' (.snoc hg hj hrec) (by rw [List.length_append];simp;omega) (by rw [appA_snoc,hcur]) hv' fuel listed a w g hL hrem hT
end
def pmask (pl:List (Nat × Bool)) (j:Nat):Nat:=((pl[j]?).getD (0,false)).1
def pbar (pl:List (Nat × Bool)) (j:Nat):Bool:=((pl[j]?).getD (0,false)).2
theorem vw_draw {P:Program} {w0:World} {K0:K0T} {nt id:Nat} {ops:Array Oper} {st:St} {Q:Exit→St→Prop} (hm:P.follows .mixedOrders=true) (pl:List (Nat × Bool)) (hS:(staticB nt ops (pmask pl) (pbar pl) && pl.length == ops.size)=true)
    (hv:vd P ops ops.toList pl 0 st [] st (Q .normal)):VW P w0 K0 nt (.region id ops true) st Q:=by
  intro a w g hT
  rw [Bool.and_eq_true,beq_iff_eq] at hS
  refine wp_region_any hm ?_
  have hT':T w0 K0 nt st a { w with drawn:=w.drawn+1 } g :=
    hT.world (w':={ w with drawn:=w.drawn+1 }) (K':=g.K) ⟨rfl,rfl,rfl,Nat.le_refl _,fun _ _=>rfl,Nat.le_succ _⟩ ⟨fun _ _ h=>h,fun _ _ _=>rfl⟩ hT.kold hT.klt (fun _ _ _ _ _=>⟨rfl,fun _ h=>h⟩)
  refine vd_ok (mk:=pmask pl) (bar:=pbar pl) (static_of hS.1) (fun st a w g h1 h2=>⟨st,g,h1,h2⟩) ops.toList pl 0 0 st [] st (fun k=>by simp) (by simp) (fun k hk=>?_) .nil rfl rfl hv ops.size _ a _ g ⟨by simp,fun i hi=>?_⟩ ?_ hT'
  · have hlt:k<pl.length:=by rw [hS.2];simpa using hk
    refine ⟨pl[k],by simp [hlt],?_,?_⟩ <;> simp [pmask,pbar,hlt]
  · rw [Array.getD_eq_getD_getElem?];simp [below,hi]
  · unfold rem
    exact Nat.le_trans List.countP_le_length (by simp)
end Go.VL
