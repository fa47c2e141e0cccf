/- Contracts of functions of the seat, proved in a logic on data over the model (part V7). -/
import Derived.Test.YtlphpbcafplnbaaGreatV5
set_option linter.unusedSimpArgs false
set_option linter.unusedVariables false
namespace Go.VL
open Go.RowKit
def cellsS:S→Option (List C)
  | .c x=>some [x]
  | .agg cs=>some cs
  | _=>none
def plOf (P:Program) (t:TypeId):Option (List (Nat × Nat) ⊕ Nat) :=
  match P.underlying t with
  | some (.struct fs)=>(fs.toList.mapM fun f=>(tySz P f.type).map fun y=>(f.offset,y.2)).map .inl
  | some (.array _ e)=>(tySz P e).map fun y=>.inr y.2
  | _=>none
def plAt:List (Nat × Nat) ⊕ Nat→Nat→Option (Nat × Nat)
  | .inl l,i=>l[i]?
  | .inr n,i=>some (i*n,n)
def splice (cells:List C) (off:Nat) (cs:List C):List C:=cells.take off++cs++cells.drop (off+cs.length)
def pfill (pl:List (Nat × Nat) ⊕ Nat):List C→List (Nat × S)→Option (List C)
  | cells,[]=>some cells
  | cells,(i,s)::r =>
    match plAt pl i,cellsS s with
    | some (off,n),some cs=>if cs.length=n∧off+cs.length≤cells.length then pfill pl (splice cells off cs) r else none
    | _,_=>none
def pbuild (P:Program) (t:TypeId) (parts:List (Nat × S)):S × Prop :=
  match zeroOf P t,plOf P t with
  | some z,some pl =>
    match cellsS (ofConst z) with
    | some zc=>match pfill pl zc parts with
      | some cs=>(.agg cs,True)
      | none=>no
    | none=>no
  | _,_=>no
section
variable {P:Program} {w0:World} {K0:K0T} {nt:Nat} {st:St} {a:Act} {w:World} {g:G}
theorem cellsS_VR {s:S} {cs:List C} {u:Value} (h:cellsS s=some cs) (hs:SR g w st.rs s u):VR g.K w cs u.cells.toList:=by
  unfold cellsS at h
  split at h
  · rename_i x
    cases h
    rw [SR] at hs
    have h1:=CR.one hs
    have:u.cells = #[u]:=by cases u <;> first | rfl | cases h1
    rw [this,VR]
    exact ⟨u,[],rfl,hs,by rw [VR]⟩
  · cases h
    rw [SR] at hs
    obtain ⟨us,rfl,h⟩:=hs
    simpa [Value.cells] using h
  · cases h
theorem cellsS_one {s:S} {cs:List C} {u:Value} (h:cellsS s=some cs) (hs:SR g w st.rs s u):∀ v∈u.cells.toList,v.oneCell'=true:=by
  have hv:=cellsS_VR h hs
  rw [VR_iff] at hv
  intro v hm
  obtain ⟨k,hk,rfl⟩:=List.mem_iff_getElem.1 hm
  have:k<cs.length:=by omega
  exact CR.one (hv.2 k cs[k] _ (by simp [this]) (by simp))
theorem foldl_set (off:Nat):∀ (vs:List Value) (j:Nat) (cells:List Value),off+j+vs.length≤cells.length →
    ((vs.zipIdx j).foldl (fun (cs:Array Value) (x:Value × Nat)=>cs.setIfInBounds (off+x.2) x.1) cells.toArray)=(cells.take (off+j)++vs++cells.drop (off+j+vs.length)).toArray
  | [],j,cells,_=>by simp
  | v::r,j,cells,h=>by
    simp only [List.zipIdx_cons,List.foldl_cons,List.setIfInBounds_toArray]
    rw [foldl_set off r (j+1) (cells.set (off+j) v) (by simp at h ⊢;omega)]
    congr 1
    simp only [List.length_cons] at h ⊢
    apply List.ext_getElem?
    intro k
    simp only [List.append_assoc,List.getElem?_append,List.length_take,List.length_set,List.getElem?_take,List.getElem?_drop,List.getElem?_set,List.length_cons]
    have e1:min (off+(j+1)) cells.length=off+j+1:=by omega
    have e2:min (off+j) cells.length=off+j:=by omega
    simp only [e1,e2]
    by_cases h1:k<off+j
    · have:k<off+j+1:=by omega
      have h3:k<off+(j+1):=by omega
      have h2:off+j≠k:=by omega
      simp [h1,this,h2,h3]
    · by_cases h2:k=off+j
      · subst h2
        have h3:off+j<off+(j+1):=by omega
        have h4:off+j<cells.length:=by omega
        simp [h3,h4]
      · have h3:¬ k<off+j+1:=by omega
        simp only [h1,h3,if_false]
        by_cases h4:k-(off+j+1)<r.length
        · have h5:k-(off+j)<r.length+1:=by omega
          simp only [h4,h5,if_true]
          have:k-(off+j)=(k-(off+j+1))+1:=by omega
          rw [this]
          simp
        · have h5:¬ k-(off+j)<r.length+1:=by omega
          simp only [h4,h5,if_false]
          have e3:off+(j+1)+r.length+(k-(off+j+1)-r.length)=k:=by omega
          have e4:off+j+(r.length+1)+(k-(off+j)-(r.length+1))=k:=by omega
          have h6:off+j≠k:=by omega
          simp [e3,e4,h6]
def PartsR (g:G) (w:World) (R:Nat→Option Res):List (Nat × S)→List (Nat × Value)→Prop
  | [],us=>us=[]
  | (i,s)::r,us=>∃ u us',us=(i,u)::us'∧SR g w R s u∧PartsR g w R r us'
theorem VR_splice {K:Nat→Nat→Prop} {cells cs:List C} {us vs:List Value} {off:Nat} (h:VR K w cells us) (h':VR K w cs vs):VR K w (splice cells off cs) (us.take off++vs++us.drop (off+vs.length)):=by
  have hl:=((VR_iff _ _).1 h').1
  unfold splice
  rw [hl]
  exact VR_append (VR_append (VR_take _ h) h') (VR_drop _ h)
theorem pfill_ok (pl:List (Nat × Nat) ⊕ Nat) (place:Nat→Option (Nat × Nat)) (hp:∀ i,place i=plAt pl i):∀ (parts:List (Nat × S)) (vparts:List (Nat × Value)) (cells:List C) (us:List Value) (out:List C),
    PartsR g w st.rs parts vparts→VR g.K w cells us→pfill pl cells parts=some out→∃ vs:List Value,Instr.fill place us.toArray vparts=some vs.toArray∧VR g.K w out vs
  | [],vparts,cells,us,out,hr,hv,h=>by
    rw [PartsR] at hr
    subst hr
    simp [pfill] at h
    subst h
    exact ⟨us,rfl,hv⟩
  | (i,s)::r,vparts,cells,us,out,hr,hv,h=>by
    rw [PartsR] at hr
    obtain ⟨u,vp,rfl,hs,hr⟩:=hr
    rw [pfill] at h
    split at h
    · rename_i off n cs h1 h2
      split at h
      · rename_i h3
        obtain ⟨h3,h4⟩:=h3
        have hv':=cellsS_VR h2 hs
        have hl:=((VR_iff _ _).1 hv').1
        have hl2:=((VR_iff _ _).1 hv).1
        obtain ⟨vs,e1,e2⟩:=pfill_ok pl place hp r vp _ _ out hr (VR_splice (off:=off) hv hv') h
        refine ⟨vs,?_,e2⟩
        rw [Instr.fill]
        simp only [hp,h1]
        have c1:u.cells.size=n:=by simpa [h3] using hl
        have c2:(decide (u.cells.size≠n) || decide (off+u.cells.size > us.toArray.size))=false:=by
          simp only [List.size_toArray,Bool.or_eq_false_iff,decide_eq_false_iff_not]
          omega
        rw [c2]
        simp only [Bool.false_eq_true,if_false]
        have:=foldl_set off u.cells.toList 0 us (by simp;omega)
        simp only [Nat.add_zero] at this
        rw [← e1]
        congr 1
        rw [← this,← Array.foldl_toList,Array.toList_zipIdx]
      · cases h
    · cases h
theorem run_zero {t:TypeId} {z:Value} (h:zeroOf P t=some z):(zeroValue t).run P w = .ok z w:=by
  unfold zeroOf at h
  cases hi:P.info? t with
  | none=>simp [hi] at h
  | some i=>simp [hi] at h;simp [zeroValue,typeInfo,hi,h]
theorem run_places:∀ (fs:List Field) (l:List (Nat × Nat)),(fs.mapM fun f=>(tySz P f.type).map fun y=>(f.offset,y.2))=some l →
    (fs.mapM fun f=>(do pure (f.offset,← sizeOf f.type):Sem (Nat × Nat))).run P w = .ok l w
  | [],l,h=>by simp at h;subst h;rfl
  | f::r,l,h=>by
    simp only [List.mapM_cons,Option.bind_eq_bind,Option.bind_eq_some_iff,Option.map_eq_some_iff,Option.pure_def,Option.some.injEq] at h
    obtain ⟨x,⟨⟨b,n⟩,h1,rfl⟩,l',h2,rfl⟩:=h
    simp only [List.mapM_cons,Sem.run_bind,run_sizeOf h1,Result.andThen_ok,Sem.run_pure,run_places r l' h2]
theorem pbuild_ok {t:TypeId} {parts:List (Nat × S)} {vparts:Array (Nat × Value)} (hr:PartsR g w st.rs parts vparts.toList) (h:(pbuild P t parts).2) :
    ∃ r,(Instr.build t vparts).run P w = .ok r w∧SR g w st.rs (pbuild P t parts).1 r:=by
  unfold pbuild at h ⊢
  split at h
  · rename_i z pl hz hpl
    split at h
    · rename_i zc hzc
      split at h
      · rename_i cs hcs
        have hv:=cellsS_VR hzc (SR_ofConst g w st.rs z)
        unfold plOf at hpl
        split at hpl
        · rename_i fs hfs
          simp only [Option.map_eq_some_iff] at hpl
          obtain ⟨l,h1,rfl⟩:=hpl
          obtain ⟨vs,e1,e2⟩:=pfill_ok (.inl l) (fun i=>l.toArray[i]?) (fun i=>by simp [plAt]) parts _ zc _ cs hr hv hcs
          refine ⟨.agg vs.toArray,?_,by rw [SR];exact ⟨vs,rfl,e2⟩⟩
          have hp:=run_places (P:=P) (w:=w) fs.toList l h1
          simp only [Instr.build,Sem.run_bind,run_zero hz,Result.andThen_ok,run_underlying hfs]
          rw [← Array.toArray_toList (xs:=fs),List.mapM_toArray]
          simp only [Sem.run_map,hp,Result.andThen_ok]
          simp only [Array.toArray_toList] at e1
          simp only [e1,Sem.run_pure]
        · rename_i m e he
          simp only [Option.map_eq_some_iff] at hpl
          obtain ⟨⟨b,n⟩,h1,rfl⟩:=hpl
          obtain ⟨vs,e1,e2⟩:=pfill_ok (.inr n) (fun i=>some (i*n,n)) (fun i=>rfl) parts _ zc _ cs hr hv hcs
          refine ⟨.agg vs.toArray,?_,by rw [SR];exact ⟨vs,rfl,e2⟩⟩
          simp only [Array.toArray_toList] at e1
          simp only [Instr.build,Sem.run_bind,run_zero hz,Result.andThen_ok,run_underlying he,run_sizeOf h1,e1,Sem.run_pure]
        · cases hpl
      · exact h.elim
    · exact h.elim
  · exact h.elim
end
def pnil (st:St) (x:S):S × Prop :=
  match x with
  | .ptr i o =>
    match st.rs i with
    | some (.box _ _)=>(.ptr i o,True)
    | _=>no
  | .ep i n j o =>
    match st.rs i with
    | some (.arr _ _ xs _)=>(.ep i n j o,xs.length=n)
    | _=>no
  | .c (.dp cs)=>(.c (.dp cs),True)
  | .c (.fn f caps)=>(.c (.fn f caps),True)
  | _=>no
def pbuiltin (P:Program) (st:St) (b:Builtin) (ts:List TypeId) (ss:List S):S × Prop :=
  match b,ts,ss with
  | .len,[t],[x]=>plen P st t x
  | .max,_,x::r=>pmm true x r
  | .min,_,x::r=>pmm false x r
  | _,_,_=>no
def isIface (P:Program) (t:TypeId):Bool :=
  match P.underlying t with
  | some (.interface _)=>true
  | some _=>false
  | none=>true
def isIf (P:Program) (t:TypeId):Bool :=
  match P.underlying t with
  | some (.interface _)=>true
  | _=>false
def pmkI (P:Program) (t:TypeId) (s:S):S × Prop :=
  match s with
  | .c x=>(.c (.ifo t x),isIface P t=false)
  | .agg cs=>(.c (.ifc t cs),isIface P t=false)
  | _=>no
def pnilB (P:Program) (op:BinOp) (t:TypeId) (b:Bool):S × Prop :=
  match op with
  | .eql=>(bl b,isIf P t=true)
  | .neq=>(bl !b,isIf P t=true)
  | _=>no
def pnilI (P:Program) (op:BinOp) (t:TypeId) (s:S):S × Prop :=
  match s with
  | .c (.v .nilIface)=>pnilB P op t true
  | .c (.ifc _ _)=>pnilB P op t false
  | .c (.ifo _ _)=>pnilB P op t false
  | _=>no
def pbinQ (P:Program) (st:St) (op:BinOp) (t:TypeId) (y:Operand) (a b:S):S × Prop :=
  match y with
  | .const .nilIface=>pnilI P op t a
  | _=>pbinS P st op t a b
def pev (P:Program) (st:St) (e:Operand→S):Op→S × Prop
  | .move x=>(e x,True)
  | .assign x=>(e x,True)
  | .binOp o t x y _=>pbinQ P st o t y (e x) (e y)
  | .makeInterface t x=>pmkI P t (e x)
  | .unOp o _ x=>pun o (e x)
  | .convert s d x=>pconv P st s d (e x)
  | .fieldAddr s x f=>pfieldAddr P st s f (e x)
  | .field s x f=>pfield P s f (e x)
  | .indexAddr t x i=>pindexAddr P st t (e x) (e i)
  | .index t x i=>pindex P t (e x) (e i)
  | .load t x=>pload P st t (e x)
  | .slice t x lo hi mx=>pslice P t (e x) (lo.map e) (hi.map e) (mx.map e)
  | .extract x k =>
    match e x with
    | .tup ss=>match ss[k]? with
      | some s=>(s,True)
      | none=>no
    | _=>no
  | .build t parts=>pbuild P t (parts.toList.map fun p=>(p.1,e p.2))
  | .nilCheck x=>pnil st (e x)
  | .makeFunc (.func f) first cap=>(.c (.fn f []),first.toList=[]∧cap.toList=[])
  | .call c =>
    match c.callee with
    | .builtin b=>pbuiltin P st b c.argTypes.toList (c.args.toList.map e)
    | _=>no
  | _=>no
section
variable {P:Program} {w0:World} {K0:K0T} {nt:Nat} {st:St} {a:Act} {w:World} {g:G}
theorem SRs_get {ss:List S} {us:List Value} (h:SRs g w st.rs ss us):∀ (k:Nat) s,ss[k]? = some s→∃ u,us[k]? = some u∧SR g w st.rs s u:=by
  induction ss generalizing us with
  | nil=>intro k s hk;simp at hk
  | cons x r ih =>
    rw [SRs] at h
    obtain ⟨u,us',rfl,h1,h2⟩:=h
    intro k s hk
    cases k with
    | zero=>simp at hk;subst hk;exact ⟨u,rfl,h1⟩
    | succ k=>simpa using ih h2 k s (by simpa using hk)
theorem SRs_map {α:Type} (f:α→S) (h:α→Value):∀ (l:List α),(∀ x∈l,SR g w st.rs (f x) (h x))→SRs g w st.rs (l.map f) (l.map h)
  | [],_=>by simp [SRs]
  | x::r,hh=>by
    simp only [List.map_cons,SRs]
    exact ⟨_,_,rfl,hh x (by simp),SRs_map f h r (fun y hy=>hh y (by simp [hy]))⟩
theorem PartsR_map (e:Operand→S) (h:Operand→Value):∀ (l:List (Nat × Operand)),(∀ x∈l,SR g w st.rs (e x.2) (h x.2))→PartsR g w st.rs (l.map fun p=>(p.1,e p.2)) (l.map fun p=>(p.1,h p.2))
  | [],_=>by simp [PartsR]
  | x::r,hh=>by
    simp only [List.map_cons,PartsR]
    exact ⟨_,_,rfl,hh x (by simp),PartsR_map e h r (fun y hy=>hh y (by simp [hy]))⟩
theorem pnil_ok {o:Oper} {x:Operand} {s:S} (ho:o.op = .nilCheck x) (hs:SR g w st.rs s (a.eval x)) (h:(pnil st s).2) :
    ∃ u,(execOp a.eval o).run P w = .ok (.value u) w∧SR g w st.rs (pnil st s).1 u:=by
  have key:∀ (b:Addr),a.eval x = .pointer (some b)→(execOp a.eval o).run P w = .ok (.value (a.eval x)) w:=fun b hb=>by
    simp [execOp,ho,hb]
  unfold pnil at h ⊢
  split at h
  · rename_i i off
    split at h
    · rename_i fz ss hr
      have hs':=hs
      rw [SR] at hs'
      obtain ⟨b,hb,hu⟩:=hs' fz ss hr
      exact ⟨_,key _ hu,hs⟩
    · exact h.elim
  · rename_i i n j off
    split at h
    · rename_i nil sz xs fx hr
      have hs':=hs
      rw [SR] at hs'
      obtain ⟨b,cap,hb,hu⟩:=hs' nil sz xs fx hr h
      exact ⟨_,key _ hu,hs⟩
    · exact h.elim
  · have hs':=hs
    simp only [SR,CR] at hs'
    obtain ⟨b,off,hu,_⟩:=hs'
    exact ⟨_,key _ hu,hs⟩
  · have hs':=hs
    simp only [SR,CR] at hs'
    obtain ⟨us,hu,_⟩:=hs'
    exact ⟨a.eval x,by simp [execOp,ho,hu],hs⟩
  · exact h.elim
theorem run_mkIface {t:TypeId} {o:Oper} {x:Operand} {u:Value} (hi:isIface P t=false) (ho:o.op = .makeInterface t x) (hx:a.eval x=u):(execOp a.eval o).run P w = .ok (.value (.iface t u)) w:=by
  unfold isIface at hi
  split at hi
  · cases hi
  · rename_i d hd hu
    have:(Instr.makeInterface t u).run P w = .ok (.iface t u) w:=by
      unfold Instr.makeInterface
      have h1:(Go.underlying t).run P w = .ok d w:=by simp [Go.underlying,hu]
      simp only [Sem.run_bind,h1,Result.andThen_ok]
      rfl
    simp [execOp,ho,hx,this]
  · cases hi
theorem isIf_some {t:TypeId} (h:isIf P t=true):∃ ms,P.underlying t=some (.interface ms):=by
  unfold isIf at h
  split at h
  · rename_i e he;exact ⟨e,he⟩
  · cases h
theorem run_equal_if {t:TypeId} (h:isIf P t=true):(Op.equal t .nilIface .nilIface).run P w = .ok true w∧∀ d v,(Op.equal t (.iface d v) .nilIface).run P w = .ok false w:=by
  obtain ⟨ms,hm⟩:=isIf_some h
  have k1:∀ n,(Op.equalIn (n+1) t .nilIface .nilIface).run P w = .ok true w:=fun n=>by simp [Op.equalIn,run_underlying hm]
  have k2:∀ n d v,(Op.equalIn (n+1) t (.iface d v) .nilIface).run P w = .ok false w:=fun n d v=>by simp [Op.equalIn,run_underlying hm]
  exact ⟨k1 9999,fun d v=>k2 9999 d v⟩
theorem run_eqif {op:BinOp} {t:TypeId} (x:Operand) {u:Value} {b:Bool} (hu:(b=true∧u = .nilIface)∨(b=false∧∃ d v,u = .iface d v)) (h:isIf P t=true) (hop:op = .eql∨op = .neq) :
    (do eqGuard op t x (.const .nilIface) u .nilIface;binOp op t u .nilIface:Sem Value).run P w = .ok (.bool (if op = .eql then b else !b)) w:=by
  obtain ⟨e1,e2⟩:=run_equal_if (w:=w) h
  rcases hu with ⟨rfl,rfl⟩ | ⟨rfl,d,v,rfl⟩ <;> rcases hop with rfl | rfl
  · simp [eqGuard,binOp,e1]
  · simp [eqGuard,binOp,e1]
  · simp [eqGuard,binOp,e2]
  · simp [eqGuard,binOp,e2]
theorem pbinQ_ok (hT:T w0 K0 nt st a w g) (op:BinOp) (t:TypeId) (x y:Operand) (sx sy:S) (hx:SR g w st.rs sx (a.eval x)) (hy:SR g w st.rs sy (a.eval y)) (h:(pbinQ P st op t y sx sy).2) :
    ∃ r,(do eqGuard op t x y (a.eval x) (a.eval y);binOp op t (a.eval x) (a.eval y):Sem Value).run P w = .ok r w∧SR g w st.rs (pbinQ P st op t y sx sy).1 r:=by
  unfold pbinQ at h ⊢
  split at h
  · have key:∀ b,((b=true∧a.eval x = .nilIface)∨(b=false∧∃ d v,a.eval x = .iface d v))→(pnilB P op t b).2 →
        ∃ r,(do eqGuard op t x (.const .nilIface) (a.eval x) .nilIface;binOp op t (a.eval x) .nilIface:Sem Value).run P w = .ok r w∧SR g w st.rs (pnilB P op t b).1 r:=by
      intro b hu hb
      cases op <;> first
        | exact hb.elim
        | exact ⟨_,run_eqif x hu hb (by simp),bl_SR _⟩
    unfold pnilI at h ⊢
    split at h
    · simp only [SR,CR] at hx
      exact key true (.inl ⟨rfl,hx.1⟩) h
    · simp only [SR,CR] at hx
      obtain ⟨us,hx,_⟩:=hx
      exact key false (.inr ⟨rfl,_,_,hx⟩) h
    · simp only [SR,CR] at hx
      obtain ⟨us,hx,_⟩:=hx
      exact key false (.inr ⟨rfl,_,_,hx⟩) h
    · exact h.elim
  · exact pbinS_ok hT op t x y _ _ _ _ hx hy h
theorem pev_ok (hT:T w0 K0 nt st a w g) (o:Oper) (e:Operand→S) (he:∀ x∈o.op.operands.toList,SR g w st.rs (e x) (a.eval x)) (h:(pev P st e o.op).2) :
    ∃ u,(execOp a.eval o).run P w = .ok (.value u) w∧SR g w st.rs (pev P st e o.op).1 u:=by
  cases ho:o.op with
  | move x=>rw [ho] at he;exact ⟨a.eval x,by simp [execOp,ho],he x (by simp [Op.operands])⟩
  | assign x=>rw [ho] at he;exact ⟨a.eval x,by simp [execOp,ho],he x (by simp [Op.operands])⟩
  | binOp op t x y yt =>
    rw [ho] at he h
    obtain ⟨r,h1,h2⟩:=pbinQ_ok hT op t x y _ _ (he x (by simp [Op.operands])) (he y (by simp [Op.operands])) h
    exact ⟨r,by simp only [execOp,ho,Sem.run_bind] at h1 ⊢;simp only [h1,Result.andThen_ok,Sem.run_pure],h2⟩
  | makeInterface t x =>
    rw [ho] at he h
    have hx:=he x (by simp [Op.operands])
    simp only [pev] at h ⊢
    unfold pmkI at h ⊢
    split at h
    · rename_i y hs
      rw [hs,SR] at hx
      exact ⟨_,run_mkIface h ho rfl,by rw [SR,CR];exact ⟨_,rfl,hx⟩⟩
    · rename_i y hs
      rw [hs,SR] at hx
      obtain ⟨us,hu,hv⟩:=hx
      exact ⟨_,run_mkIface h ho hu,by rw [SR,CR];exact ⟨us,rfl,hv⟩⟩
    · exact h.elim
  | unOp op t x =>
    rw [ho] at he h
    obtain ⟨r,h1,h2⟩:=pun_ok (P:=P) (he x (by simp [Op.operands])) h
    exact ⟨r,by simp [execOp,ho,h1],h2⟩
  | convert s d x =>
    rw [ho] at he h
    obtain ⟨r,h1,h2⟩:=pconv_ok hT (he x (by simp [Op.operands])) h
    exact ⟨r,by simp [execOp,ho,h1],h2⟩
  | fieldAddr s x f =>
    rw [ho] at he h
    obtain ⟨r,h1,h2⟩:=pfieldAddr_ok (he x (by simp [Op.operands])) h
    exact ⟨r,by simp [execOp,ho,h1],h2⟩
  | field s x f =>
    rw [ho] at he h
    obtain ⟨r,h1,h2⟩:=pfield_ok (he x (by simp [Op.operands])) h
    exact ⟨r,by simp [execOp,ho,h1],h2⟩
  | indexAddr t x i =>
    rw [ho] at he h
    obtain ⟨r,h1,h2⟩:=pindexAddr_ok hT (he x (by simp [Op.operands])) (he i (by simp [Op.operands])) h
    exact ⟨r,by simp [execOp,ho,h1],h2⟩
  | index t x i =>
    rw [ho] at he h
    obtain ⟨r,h1,h2⟩:=pindex_ok (he x (by simp [Op.operands])) (he i (by simp [Op.operands])) h
    exact ⟨r,by simp [execOp,ho,h1],h2⟩
  | load t x =>
    rw [ho] at he h
    obtain ⟨r,h1,h2⟩:=pload_ok hT (he x (by simp [Op.operands])) h
    exact ⟨r,by simp [execOp,ho,h1],h2⟩
  | slice t x lo hi mx =>
    rw [ho] at he h
    have key:∀ (z:Option Operand),(∀ y,z=some y→y∈(Op.slice t x lo hi mx).operands.toList)→(∀ s,z.map e=some s→∃ v,z.map a.eval=some v∧SR g w st.rs s v):=by
      intro z hz s hs
      cases z with
      | none=>simp at hs
      | some y=>simp at hs;subst hs;exact ⟨_,rfl,he y (hz y rfl)⟩
    obtain ⟨r,h1,h2⟩:=pslice_ok (P:=P) (vlo:=lo.map a.eval) (vhi:=hi.map a.eval) (vmx:=mx.map a.eval) (he x (by simp [Op.operands])) (key lo (fun y hy=>by simp [Op.operands,hy])) (by cases lo <;> simp)
      (key hi (fun y hy=>by simp [Op.operands,hy])) (by cases hi <;> simp) (by cases mx <;> simp) h
    exact ⟨r,by simp [execOp,ho,h1],h2⟩
  | extract x k =>
    rw [ho] at he h
    have hx:=he x (by simp [Op.operands])
    unfold pev at h ⊢
    simp only at h ⊢
    split at h
    · rename_i ss hss
      split at h
      · rename_i s hs
        rw [hss,SR] at hx
        obtain ⟨us,hu,hus⟩:=hx
        obtain ⟨u,h1,h2⟩:=SRs_get hus k s hs
        refine ⟨u,?_,h2⟩
        simp [execOp,ho,hu,Instr.extract,h1]
      · exact h.elim
    · exact h.elim
  | build t parts =>
    rw [ho] at he h
    have hp:PartsR g w st.rs (parts.toList.map fun p=>(p.1,e p.2)) (parts.map fun p=>(p.1,a.eval p.2)).toList:=by
      rw [Array.toList_map]
      exact PartsR_map e a.eval parts.toList (fun p hp=>he p.2 (by simp [Op.operands];exact ⟨p.1,by simpa using hp⟩))
    obtain ⟨r,h1,h2⟩:=pbuild_ok (P:=P) (t:=t) hp h
    exact ⟨r,by simp [execOp,ho,h1],h2⟩
  | nilCheck x =>
    rw [ho] at he h
    exact pnil_ok ho (he x (by simp [Op.operands])) h
  | makeFunc fn first cap =>
    rw [ho] at h
    cases fn with
    | func f =>
      obtain ⟨h1,h2⟩:=h
      refine ⟨.func (.func f) #[] #[],?_,?_⟩
      · have e1:first = #[]:=by simpa using h1
        have e2:cap = #[]:=by simpa using h2
        subst e1;subst e2
        simp [execOp,ho,Instr.makeFunc]
      · simp only [pev,SR,CR];exact ⟨[],rfl,by rw [VR]⟩
    | _=>exact h.elim
  | call c =>
    rw [ho] at he h
    obtain ⟨callee,args,ats⟩:=c
    cases callee with
    | builtin b =>
      have hargs:SRs g w st.rs (args.toList.map e) (args.toList.map a.eval):=SRs_map e a.eval _ (fun x hx=>he x (by simp [Op.operands,Call.operands];simpa using hx))
      simp only [pev] at h ⊢
      have hex:∀ (s:Sem Value) r,s.run P w = .ok r w→builtin b ats o.type (args.map fun | .const _=>true | _=>false) (args.map a.eval)=(do pure (.value (← s)))→(execOp a.eval o).run P w = .ok (.value r) w:=by
        intro s r hs hb
        have h1:(execOp a.eval o).run P w=(builtin b ats o.type (args.map fun | .const _=>true | _=>false) (args.map a.eval)).run P w:=by
          simp only [execOp,ho,resolve,Sem.run_bind,Sem.run_pure,Result.andThen_ok,invoke]
          rfl
        rw [h1,hb]
        simp [hs]
      unfold pbuiltin at h ⊢
      split at h
      · rename_i t x hts hss
        rw [hss] at hargs
        rw [SRs] at hargs
        obtain ⟨u,us',h1,h2,h3⟩:=hargs
        rw [SRs] at h3
        subst h3
        obtain ⟨r,e1,e2⟩:=plen_ok (ty:=o.type) hT h2 h
        refine ⟨r,hex _ r e1 ?_,e2⟩
        have a1:ats = #[t]:=by rw [← Array.toArray_toList (xs:=ats),hts]
        have a2:args.map a.eval = #[u]:=by rw [← Array.toArray_toList (xs:=args.map a.eval),Array.toList_map,h1]
        rw [a1,a2]
        rfl
      · rename_i x r hss
        rw [hss] at hargs
        rw [SRs] at hargs
        obtain ⟨u,us',h1,h2,h3⟩:=hargs
        obtain ⟨z,e1,e2⟩:=pmm_ok (P:=P) true r x u us' h2 h3 h
        refine ⟨z,hex _ z e1 ?_,e2⟩
        have a2:(args.map a.eval).toList=u::us':=by rw [Array.toList_map,h1]
        simp only [builtin,Builtin.max_,a2]
        rfl
      · rename_i x r hss
        rw [hss] at hargs
        rw [SRs] at hargs
        obtain ⟨u,us',h1,h2,h3⟩:=hargs
        obtain ⟨z,e1,e2⟩:=pmm_ok (P:=P) false r x u us' h2 h3 h
        refine ⟨z,hex _ z e1 ?_,e2⟩
        have a2:(args.map a.eval).toList=u::us':=by rw [Array.toList_map,h1]
        simp only [builtin,Builtin.min_,a2]
        rfl
      · exact h.elim
    | _=>exact h.elim
  | _=>rw [ho] at h;exact h.elim
end
def slT (P:Program) (t:TypeId):Option (Nat × Nat) :=
  match P.underlying t with
  | some (.slice e)=>match P.info? e with
    | some i=>match i.zero with
      | some z=>if z.cells.size=i.size∧z.cells.all (·.oneCell')=true then some (i.size,i.bytes) else none
      | none=>none
    | none=>none
  | _=>none
section
variable {P:Program}
theorem slT_some {t:TypeId} {s b:Nat} (h:slT P t=some (s,b)):∃ e i z,P.underlying t=some (.slice e)∧P.info? e=some i∧i.zero=some z∧z.cells.size=i.size∧(∀ v∈z.cells.toList,v.oneCell'=true)∧i.size=s∧i.bytes=b:=by
  unfold slT at h
  split at h
  · rename_i e he
    split at h
    · rename_i i hi
      split at h
      · rename_i z hz
        split at h
        · rename_i h1
          cases h
          exact ⟨e,i,z,he,hi,hz,h1.1,fun v hv=>Array.all_eq_true_iff_forall_mem.1 h1.2 v (by simpa using hv),rfl,rfl⟩
        · cases h
      · cases h
    · cases h
  · cases h
structure Src (P:Program) (w:World) (size:Nat) (x:Value) (m:Nat) (news:List Value):Prop where
  len:∀ w',(Builtin.lenOf x).run P w' = .ok m w'
  cells:(Builtin.firstCells size m x).run P w = .ok news.toArray w
  cells':(Builtin.firstCells size m x).run P w.drew = .ok news.toArray w.drew
  size:news.length=m*size
  one:∀ v∈news,v.oneCell'=true
theorem run_app_room {w:World} {t xt ty e:TypeId} {i:TypeInfo} {d:TypeDesc} (ht:P.underlying t=some (.slice e)) (hx:P.underlying xt=some d) (hd:∀ k,d≠.int k) (hi:P.info? e=some i)
    {x:Value} {m:Nat} {news:List Value} (hs:Src P w i.size x m news) {g n cap:Nat} {cur:Array Value} {E:TypeId} (hg:w.heap[g]? = some (.cells cur E (0,0))) (hroom:n+m≤cap) (hfit:n*i.size+news.length≤cur.size) :
    (Builtin.append_ #[t,xt] ty #[.slice (some ⟨g,0,none⟩) n cap,x]).run P w =
      .ok (.slice (some ⟨g,0,none⟩) (n+m) cap) (w.setRow g (cur.toList.take (n*i.size)++news++cur.toList.drop (n*i.size+news.length)).toArray):=by
  have hst:=run_storeCells_at P g (n*i.size) E news 0 cur w hg (by simpa using hfit) hs.one
  simp only [Nat.add_zero] at hst
  have hlen:=hs.len w
  have hc:=hs.cells
  simp [Builtin.append_,run_underlying ht,run_underlying hx,sizeOf,typeInfo,hi,hlen,hroom,hc,add_lit,hst]
theorem run_app_none {w:World} {t xt ty e:TypeId} {i:TypeInfo} {d:TypeDesc} (ht:P.underlying t=some (.slice e)) (hx:P.underlying xt=some d) (hd:∀ k,d≠.int k) (hi:P.info? e=some i)
    {x:Value} {news:List Value} (hs:Src P w i.size x 0 news) :
    (Builtin.append_ #[t,xt] ty #[.slice none 0 0,x]).run P w = .ok (.slice none 0 0) w:=by
  have hlen:=hs.len w
  have hc:=hs.cells
  simp [Builtin.append_,run_underlying ht,run_underlying hx,sizeOf,typeInfo,hi,hlen,hc]
theorem run_app_grow {w:World} {t xt ty e:TypeId} {i:TypeInfo} {z:Value} {d:TypeDesc} (ht:P.underlying t=some (.slice e)) (hx:P.underlying xt=some d) (hd:∀ k,d≠.int k) (hi:P.info? e=some i) (hz:i.zero=some z)
    {x:Value} {m:Nat} {news:List Value} (hs:Src P w i.size x m news) {base:Option Addr} {n cap:Nat} {olds:List Value} (ho:(Builtin.firstCells i.size n (.slice base n cap)).run P w.drew = .ok olds.toArray w.drew)
    (hg:cap<n+m) (h63:n+m≤maxLen) (hb:(n+m)*i.bytes≤140737488355328) :
    (Builtin.append_ #[t,xt] ty #[.slice base n cap,x]).run P w =
      .ok (.slice (some ⟨w.heap.size,0,none⟩) (n+m) (grownCap w (n+m) cap e))
        (w.drew.alloc (.cells (olds.toArray++news.toArray++Builtin.zeroCells z.cells (grownCap w (n+m) cap e-(n+m))) e)):=by
  have hn:¬ (n+m≤cap):=by omega
  have h63':¬ (9223372036854775807<((n:Int)+(m:Int))):=by simp only [maxLen] at h63;omega
  have h48:=growslice_fits (bytes:=i.bytes) hg hb
  have h48':¬ (281474976710656<Builtin.nextslicecap (n+m) cap*i.bytes):=by omega
  have hlen:=hs.len w
  have hc:=hs.cells'
  simp [Builtin.append_,run_underlying ht,run_underlying hx,sizeOf,typeInfo,zeroValue,hi,hz,hlen,hn,h63',h48',Question.forced,hc,ho,newRow,grownCap]
  congr 2
  apply Array.ext'
  simp [List.append_assoc]
end
section
variable {w:World} {K:Nat→Nat→Prop}
theorem ER_cells (b sz:Nat):∀ (xs:List (List C)) (o:Nat),ER K w b o sz xs→∃ news:List Value,news.length=xs.length*sz∧Holds K w sz xs news.toArray∧∀ (j:Nat) v,news[j]? = some v→w.cell? ⟨b,o+j,none⟩=some v
  | [],o,_=>⟨[],by simp,fun j e h=>by simp at h,by simp⟩
  | e::r,o,h=>by
    rw [ER] at h
    obtain ⟨⟨h1,h2⟩,h3⟩:=h
    obtain ⟨us,k1,k2,k3⟩:=LR_VR b e o h2
    obtain ⟨news,e1,e2,e3⟩:=ER_cells b sz r (o+sz) h3
    have hus:us.length=sz:=by omega
    refine ⟨us++news,by simp [hus,e1,Nat.add_mul];omega,fun j d hj=>?_,fun j v hj=>?_⟩
    · cases j with
      | zero =>
        simp at hj;subst hj
        refine ⟨h1,fun k c hk=>?_⟩
        have hlt:k<us.length:=by rw [k2];exact (List.getElem?_eq_some_iff.1 hk).1
        refine ⟨us[k],by simp [List.getElem?_append_left hlt,hlt],((VR_iff _ _).1 k1).2 k c _ hk (by simp [hlt])⟩
      | succ j =>
        obtain ⟨f1,f2⟩:=e2 j d (by simpa using hj)
        refine ⟨f1,fun k c hk=>?_⟩
        obtain ⟨u,g1,g2⟩:=f2 k c hk
        refine ⟨u,?_,g2⟩
        have:(j+1)*sz+k=us.length+(j*sz+k):=by rw [hus,Nat.add_mul];omega
        rw [this,List.getElem?_toArray,List.getElem?_append_right (by omega),Nat.add_sub_cancel_left]
        simpa using g1
    · by_cases hlt:j<us.length
      · rw [List.getElem?_append_left hlt] at hj;exact k3 j v hj
      · rw [List.getElem?_append_right (by omega)] at hj
        have:=e3 _ v hj
        rwa [show o+sz+(j-us.length)=o+j from by omega] at this
theorem Holds.one {sz:Nat} {xs:List (List C)} {cur:List Value} (h:Holds K w sz xs cur.toArray) (hl:cur.length=xs.length*sz):∀ v∈cur,v.oneCell'=true:=by
  intro v hv
  obtain ⟨i,hi,rfl⟩:=List.mem_iff_getElem.1 hv
  have hsz:0<sz:=by
    rcases Nat.eq_zero_or_pos sz with h0 | h0
    · subst h0;simp at hl;subst hl;simp at hi
    · exact h0
  have hj:i / sz<xs.length:=Nat.div_lt_of_lt_mul (by rw [Nat.mul_comm];omega)
  obtain ⟨h1,h2⟩:=h (i / sz) xs[i / sz] (by simp [hj])
  have hk:i % sz<(xs[i / sz]).length:=by rw [h1];exact Nat.mod_lt _ hsz
  obtain ⟨u,e1,e2⟩:=h2 (i % sz) (xs[i / sz])[i % sz] (by simp [hk])
  have:i / sz*sz+i % sz=i:=by rw [Nat.mul_comm];exact Nat.div_add_mod i sz
  rw [this] at e1
  simp [hi] at e1
  rw [e1]
  exact CR.one e2
theorem src_of_CR {P:Program} {nil:Bool} {ys:List (List C)} {u:Value} {s:Nat} (h:CR K w (.sl nil ys) u) (hs:∀ e∈ys,e.length=s) :
    ∃ news:List Value,Src P w s u ys.length news∧Holds K w s ys news.toArray:=by
  rw [CR] at h
  rcases h with ⟨_,rfl,rfl⟩ | ⟨_,b,o,sp,cap,sz,rfl,h1,h2,ks,h3⟩
  · exact ⟨[],⟨fun _=>rfl,by simp [Builtin.firstCells],by simp [Builtin.firstCells],by simp,by simp⟩,fun j e h=>by simp at h⟩
  · obtain ⟨news,e1,e2,e3⟩:=ER_cells b sz ys o h3
    have hz:ys=[]∨sz=s:=by
      cases ys with
      | nil=>exact .inl rfl
      | cons e r=>right;rw [← hs e (by simp)];rw [ER] at h3;exact h3.1.1.symm
    have hl:news.length=ys.length*s:=by
      rcases hz with rfl | rfl
      · simp at e1 ⊢;exact e1
      · exact e1
    have hh:Holds K w s ys news.toArray:=by
      rcases hz with rfl | rfl
      · intro j e h;simp at h
      · exact e2
    have hcell:∀ (j:Nat) (v:Value),news[j]? = some v→w.cell? ((⟨b,o,sp⟩:Addr).add j)=some v:=by
      rcases ks with rfl | rfl
      · intro j v hj
        have:news=[]:=List.eq_nil_of_length_eq_zero (by simpa using hl)
        subst this;simp at hj
      · intro j v hj;rw [add_lit];exact e3 j v hj
    refine ⟨news,⟨fun _=>rfl,?_,?_,hl,hh.one hl⟩,hh⟩
    · exact run_firstCells_some (P:=P) w s ys.length ⟨b,o,sp⟩ _ _ news hl hcell
    · exact run_firstCells_some (P:=P) w.drew s ys.length ⟨b,o,sp⟩ _ _ news hl hcell
theorem Holds.append {sz:Nat} {xs ys:List (List C)} {cur:Array Value} {news rest:List Value} (h:Holds K w sz xs cur) (hn:xs.length*sz≤cur.size) (h':Holds K w sz ys news.toArray) :
    Holds K w sz (xs++ys) (cur.toList.take (xs.length*sz)++news++rest).toArray:=by
  have hlen:(cur.toList.take (xs.length*sz)).length=xs.length*sz:=by simp;omega
  intro j e hj
  by_cases hlt:j<xs.length
  · rw [List.getElem?_append_left hlt] at hj
    obtain ⟨h1,h2⟩:=h j e hj
    refine ⟨h1,fun k c hk=>?_⟩
    obtain ⟨u,e1,e2⟩:=h2 k c hk
    refine ⟨u,?_,e2⟩
    have hk':k<sz:=by rw [← h1];exact (List.getElem?_eq_some_iff.1 hk).1
    have:j*sz+k<xs.length*sz:=by
      have:(j+1)*sz≤xs.length*sz:=Nat.mul_le_mul_right _ (by omega)
      rw [Nat.add_mul] at this;omega
    simp only [List.getElem?_toArray,List.append_assoc]
    rw [List.getElem?_append_left (by omega),List.getElem?_take,if_pos this]
    simpa using e1
  · rw [List.getElem?_append_right (by omega)] at hj
    obtain ⟨h1,h2⟩:=h' (j-xs.length) e hj
    refine ⟨h1,fun k c hk=>?_⟩
    obtain ⟨u,e1,e2⟩:=h2 k c hk
    refine ⟨u,?_,e2⟩
    have hj2:(j-xs.length)*sz+k<news.length:=by
      simp at e1;exact (List.getElem?_eq_some_iff.1 e1).1
    have:j*sz+k=xs.length*sz+((j-xs.length)*sz+k):=by
      rw [Nat.sub_mul]
      have:xs.length*sz≤j*sz:=Nat.mul_le_mul_right _ (by omega)
      omega
    simp only [List.getElem?_toArray,List.append_assoc]
    rw [this,List.getElem?_append_right (by omega),hlen,Nat.add_sub_cancel_left,List.getElem?_append_left hj2]
    simpa using e1
end
section
variable {P:Program} {w0:World} {K0:K0T} {nt:Nat} {st:St} {a:Act} {w:World} {g:G}
theorem T.new (h:T w0 K0 nt st a w g) (i:Nat) (r:Res) (v:Value) (w':World) (o:Obj) (hw:w'=w.alloc o∨w'=w.drew.alloc o) (hv:blk v=some w.heap.size)
    (hr:∀ g' R',g' = { g with loc:=fun j=>if j=i then v else g.loc j } → Keeps g.K w g'.K w'→w'.heap[w.heap.size]? = some o→(∀ o,¬ g'.K w.heap.size o)→RR g' w' R' (fun b=>¬ Old w0 K0 b) i r) :
    T w0 K0 nt ((st.clr i).setR i (some r)) a w' { g with loc:=fun j=>if j=i then v else g.loc j } := by
  have hheap:w'.heap=w.heap.push o:=by rcases hw with rfl | rfl <;> rfl
  have hold:∀ k,k<w.heap.size→w'.heap[k]? = w.heap[k]? := fun k hk=>by rw [hheap,Array.getElem?_push,if_neg (by omega)]
  have hB:w0.heap.size≤w.heap.size:=h.below.size
  have hkeep:Keeps g.K w g.K w':=⟨fun _ _ k=>k,fun b o k=>by
    have:=h.klt b o k
    simp only [World.cell?]
    rw [hold b this]⟩
  refine T.make h (g':={ g with loc:=fun j=>if j=i then v else g.loc j }) ?_ hkeep h.kold (fun b o k=>by
    have:=h.klt b o k
    rw [hheap];simp;omega) (fun j hj=>by simp [hj]) (fun j rj b hj hs hb=>⟨hold b ((h.res j rj hs).lt hb),fun _ k=>k⟩) (fun j rj hj hs b hb hb2=>?_) (hr _ _ rfl hkeep ?_ ?_)
  · refine ⟨?_,?_,?_,by rw [hheap];simp,fun k hk=>hold k (Nat.lt_of_lt_of_le hk.1 hB),?_⟩ <;> (rcases hw with rfl | rfl <;> first | rfl | exact Nat.le_refl _ | exact Nat.le_succ _)
  · simp at hb
    rw [hv] at hb
    cases hb
    have:=(h.res j rj hs).lt hb2
    omega
  · rw [hheap];simp
  · intro o k
    have:=h.klt _ _ k
    omega
theorem T.fix (h:T w0 K0 nt st a w g) {i:Nat} {nil:Bool} {sz:Nat} {xs:List (List C)} {fx:Nat} (hi:st.rs i=some (.arr nil sz xs fx)) (f:Nat) (hf:fx≤f) (hl:f≤xs.length) :
    ∃ g',T w0 K0 nt (st.setR i (some (.arr nil sz xs f))) a w g'∧g'.loc=g.loc∧Keeps g.K w g'.K w∧∀ b,blk (g.loc i)=some b→∀ o,g'.K b o↔o<f*sz:=by
  rcases h.res i _ hi with ⟨h1,h2,h3,h3'⟩ | ⟨h0,b,cap,cur,E,h1,h2,h3,h4,h5,h6,h7,h8,h9⟩
  · subst h2
    have hf0:f=0:=by simpa using hl
    refine ⟨g,?_,rfl,Keeps.refl _ _,fun b hb=>by rw [h3] at hb;simp [blk] at hb⟩
    exact T.mod h hi (Bel.refl _ _ _) (Keeps.refl _ _) h.kold h.klt rfl (fun _ _ _ _ _ _=>⟨rfl,fun _ k=>k⟩) (.inr (.inl ⟨nil,sz,[],fx,nil,[],f,rfl,rfl,rfl⟩)) (fun _=>.inl ⟨h1,rfl,h3,hf0⟩)
  · have hk:Keeps g.K w (fun b' o=>g.K b' o∨(b'=b∧o<f*sz)) w:=⟨fun _ _ k=>.inl k,fun _ _ _=>rfl⟩
    have hfx:fx*sz≤f*sz:=Nat.mul_le_mul_right _ hf
    have hiff:∀ o,(g.K b o∨(b=b∧o<f*sz))↔o<f*sz:=fun o=>⟨fun k=>by
      rcases k with k | ⟨_,k⟩
      · have:=(h9 o).1 k;omega
      · exact k,fun k=>.inr ⟨rfl,k⟩⟩
    refine ⟨{ g with K:=fun b' o=>g.K b' o∨(b'=b∧o<f*sz) },?_,rfl,hk,fun b' hb'=>by
      rw [h1] at hb';simp [blk] at hb';subst hb';exact hiff⟩
    refine T.mod h hi (Bel.refl _ _ _) hk (fun b' o k hb=>?_) (fun b' o k=>?_) rfl (fun j r b' hj hr hb=>⟨rfl,fun o k=>?_⟩) (.inr (.inl ⟨nil,sz,xs,fx,nil,xs,f,rfl,rfl,rfl⟩))
        (fun _=>.inr ⟨h0,b,cap,cur,E,h1,h2,h3,h4,h5,h6,hl,h8.mono hk,hiff⟩)
    · rcases k with k | ⟨rfl,_⟩
      · exact h.kold _ _ k hb
      · exact absurd hb h2
    · rcases k with k | ⟨rfl,_⟩
      · exact h.klt _ _ k
      · exact (Array.getElem?_eq_some_iff.1 h3).1
    · rcases k with k | ⟨rfl,_⟩
      · exact k
      · exact absurd hb (h.dis i j _ _ hi hr (Ne.symm hj) b' (by rw [h1];rfl))
theorem RR.datum {R:Nat→Option Res} {B:Nat→Prop} {i:Nat} {nil:Bool} {sz:Nat} {xs:List (List C)} (h:RR g w R B i (.arr nil sz xs xs.length)):CR g.K w (.sl nil xs) (g.loc i):=by
  rcases h with ⟨h1,h2,h3,_⟩ | ⟨h0,b,cap,cur,E,h1,h2,h3,h4,h5,h6,h7,h8,h9⟩
  · rw [CR];exact .inl ⟨h1,h2,h3⟩
  · rw [CR]
    refine .inr ⟨h0,b,0,none,cap,sz,h1,h4,h5,.inr rfl,?_⟩
    rw [ER_iff]
    intro j e hj
    obtain ⟨k1,k2⟩:=h8 j e hj
    refine ⟨k1,?_⟩
    rw [LR_iff]
    intro k c hc
    obtain ⟨u,e1,e2⟩:=k2 k c hc
    have hjlt:j<xs.length:=(List.getElem?_eq_some_iff.1 hj).1
    have hklt:k<sz:=by rw [← k1];exact (List.getElem?_eq_some_iff.1 hc).1
    have:j*sz+k<xs.length*sz:=by
      have:(j+1)*sz≤xs.length*sz:=Nat.mul_le_mul_right _ (by omega)
      rw [Nat.add_mul] at this;omega
    refine ⟨(h9 _).2 (by omega),u,?_,e2⟩
    rw [cell_of_heap h3,Nat.zero_add]
    exact e1
theorem T.snap (h:T w0 K0 nt st a w g) {i:Nat} {nil:Bool} {sz:Nat} {xs:List (List C)} {fx:Nat} (hi:st.rs i=some (.arr nil sz xs fx)) :
    ∃ g',T w0 K0 nt (st.setR i (some (.arr nil sz xs xs.length))) a w g'∧CR g'.K w (.sl nil xs) (g.loc i)∧g'.loc=g.loc∧Keeps g.K w g'.K w:=by
  have hle:fx≤xs.length:=by
    rcases h.res i _ hi with ⟨_,_,_,h3⟩ | ⟨h0,b,cap,cur,E,h1,h2,h3,h4,h5,h6,h7,h8,h9⟩
    · omega
    · exact h7
  obtain ⟨g',k1,k2,k3,_⟩:=h.fix hi xs.length hle (Nat.le_refl _)
  refine ⟨g',k1,?_,k2,k3⟩
  rw [← k2]
  exact (k1.res i _ (by rw [St.rs_setR,if_pos rfl])).datum
end
end Go.VL
