/- Contracts of functions of the seat, proved in a logic on data over the model (part V5). -/
import Derived.Test.YtlphpbcafplnbaaGreatV4
set_option linter.unusedSimpArgs false
set_option linter.unusedVariables false
namespace Go.VL
open Go.RowKit
def pfieldAddr (P:Program) (st:St) (s:TypeId) (f:Nat) (x:S):S × Prop :=
  match fldOf P s f with
  | some (off,_,n) =>
    match x with
    | .ptr i o =>
      match st.rs i with
      | some (.box _ _)=>(.ptr i (o+off),n≠0)
      | _=>no
    | .ep i m j o =>
      match st.rs i with
      | some (.arr _ _ xs _)=>(.ep i m j (o+off),n≠0∧xs.length=m)
      | _=>no
    | .c (.dp cs)=>(.c (.dp (cs.drop off)),n≠0)
    | _=>no
  | none=>no
def pindexAddr (P:Program) (st:St) (t:TypeId) (x i:S):S × Prop :=
  match i with
  | .c (.v (.int _ n)) =>
    match x with
    | .c (.sl _ xs)=>(.c (.dp (xs.getD n.toNat [])),0≤n∧n.toNat<xs.length∧esz P t=some (xs.getD n.toNat []).length)
    | .own i m =>
      match st.rs i with
      | some (.arr _ sz xs _)=>(.ep i m n.toNat 0,0≤n∧n.toNat<m∧xs.length=m∧esz P t=some sz)
      | _=>no
    | .pre i m q =>
      match st.rs i with
      | some (.arr _ sz xs _)=>(.ep i m n.toNat 0,0≤n∧n.toNat<q∧q≤m∧xs.length=m∧esz P t=some sz)
      | _=>no
    | .ptr i o =>
      match arrOf P t,st.rs i with
      | some (len,_,sz),some (.box _ _)=>(.ptr i (o+n.toNat*sz),0≤n∧n<len)
      | _,_=>no
    | .c (.dp cs) =>
      match arrOf P t with
      | some (len,_,sz)=>(.c (.dp (cs.drop (n.toNat*sz))),0≤n∧n<len)
      | none=>no
    | _=>no
  | _=>no
def ppart (agg:Bool) (cs:List C) (off n:Nat):S × Prop :=
  match agg with
  | true=>(.agg ((cs.drop off).take n),off+n≤cs.length)
  | false=>(.c (cs.getD off default),off<cs.length)
def pfield (P:Program) (s:TypeId) (f:Nat) (x:S):S × Prop :=
  match fldOf P s f,x with
  | some (off,agg,n),.agg cs=>ppart agg cs off n
  | _,_=>no
def pindex (P:Program) (t:TypeId) (x i:S):S × Prop :=
  match i with
  | .c (.v (.int _ n)) =>
    match x with
    | .c (.v (.string s))=>(.c (.v (.int .u8 (s.data.toList.getD n.toNat 0).toNat)),0≤n∧n.toNat<s.size∧P.underlying t=some .string)
    | .agg cs =>
      match arrOf P t with
      | some (len,agg,sz)=>((ppart agg cs (n.toNat*sz) sz).1,0≤n∧n<len∧(ppart agg cs (n.toNat*sz) sz).2)
      | none=>no
    | _=>no
  | _=>no
def sint:S→Option Int
  | .c (.v (.int _ n))=>some n
  | _=>none
def bnd:Option S→Int→Option Int
  | none,d=>some d
  | some s,_=>sint s
def pslice (P:Program) (t:TypeId) (x:S) (lo hi mx:Option S):S × Prop :=
  match mx with
  | some _=>no
  | none =>
    match x with
    | .c (.v (.string s)) =>
      match bnd lo 0,bnd hi s.size with
      | some l,some h=>(.c (.v (.string (s.extract l.toNat h.toNat))),0≤l∧l≤h∧h≤s.size∧P.underlying t=some .string)
      | _,_=>no
    | .c (.sl nil xs) =>
      match bnd lo 0,bnd hi xs.length with
      | some l,some h=>(.c (.sl nil ((xs.take h.toNat).drop l.toNat)),0≤l∧l≤h∧h≤xs.length∧∃ n,esz P t=some n∧∀ e∈xs,e.length=n)
      | _,_=>no
    | _=>no
def plen (P:Program) (st:St) (t:TypeId) (x:S):S × Prop :=
  match x with
  | .c (.v (.string s))=>(.c (.v (.int .i64 s.size)),P.underlying t=some .string)
  | .c (.sl _ xs)=>(.c (.v (.int .i64 xs.length)),isSl P t=true)
  | .own i n =>
    match st.rs i with
    | some (.arr _ _ xs _)=>(.c (.v (.int .i64 n)),isSl P t=true∧xs.length=n)
    | _=>no
  | .pre i n m =>
    match st.rs i with
    | some (.arr _ _ xs _)=>(.c (.v (.int .i64 m)),isSl P t=true∧xs.length=n)
    | _=>no
  | _=>no
def pmm (mx:Bool):S→List S→S × Prop
  | .c (.v (.int k a)),[]=>(.c (.v (.int k a)),True)
  | .c (.v (.int k a)),.c (.v (.int _ b))::r=>pmm mx (.c (.v (.int k (bif mx then max a b else min a b)))) r
  | _,_=>no
def byteOf:List C→Option UInt8
  | [.v (.int .u8 n)]=>if 0≤n∧n<256 then some (UInt8.ofNat n.toNat) else none
  | _=>none
def bytesOf:List (List C)→Option (List UInt8)
  | []=>some []
  | e::r=>match byteOf e,bytesOf r with
    | some b,some l=>some (b::l)
    | _,_=>none
def isBytes (P:Program) (t:TypeId):Bool :=
  match P.underlying t with
  | some (.slice e)=>match P.underlying e,P.info? e with
    | some (.int .u8),some i=>i.size == 1
    | _,_=>false
  | _=>false
def pconv (P:Program) (st:St) (s d:TypeId) (x:S):S × Prop :=
  match x with
  | .c (.v (.int _ n)) =>
    match intOfTy P d with
    | some k=>(.c (.v (.int k (k.wrap n))),(P.underlying s).isSome=true)
    | none=>no
  | .c (.v (.string b))=>(.c (.v (.string b)),P.underlying d=some .string∧P.underlying s=some .string)
  | .c (.sl _ xs) =>
    match bytesOf xs with
    | some l=>(.c (.v (.string ⟨l.toArray⟩)),isBytes P s=true∧P.underlying d=some .string)
    | none=>no
  | .own i n =>
    match st.rs i with
    | some (.arr _ _ xs _) =>
      match bytesOf xs with
      | some l=>(.c (.v (.string ⟨l.toArray⟩)),isBytes P s=true∧P.underlying d=some .string∧xs.length=n)
      | none=>no
    | _=>no
  | _=>no
def pun (op:UnOp) (x:S):S × Prop :=
  match op,x with
  | .not,.c (.v (.bool b))=>(bl !b,True)
  | .neg,.c (.v (.int k n))=>(.c (.v (.int k (k.wrap (0-n)))),True)
  | _,_=>no
section
variable {P:Program} {w0:World} {K0:K0T} {nt:Nat} {st:St} {a:Act} {w:World} {g:G}
theorem fldOf_some {s:TypeId} {f off n:Nat} {agg:Bool} (h:fldOf P s f=some (off,agg,n)):∃ fs x,P.underlying s=some (.struct fs)∧fs[f]? = some x∧x.offset=off∧tySz P x.type=some (agg,n):=by
  unfold fldOf at h
  split at h
  · rename_i fs hfs
    split at h
    · rename_i x hx
      simp only [Option.map_eq_some_iff] at h
      obtain ⟨⟨y1,y2⟩,h1,h2⟩:=h
      simp at h2
      obtain ⟨rfl,rfl,rfl⟩:=h2
      exact ⟨fs,x,hfs,hx,rfl,h1⟩
    · cases h
  · cases h
theorem arrOf_some {t:TypeId} {len n:Nat} {agg:Bool} (h:arrOf P t=some (len,agg,n)):∃ e,P.underlying t=some (.array len e)∧tySz P e=some (agg,n):=by
  unfold arrOf at h
  split at h
  · rename_i m e he
    simp only [Option.map_eq_some_iff] at h
    obtain ⟨⟨y1,y2⟩,h1,h2⟩:=h
    simp at h2
    obtain ⟨rfl,rfl,rfl⟩:=h2
    exact ⟨e,he,h1⟩
  · cases h
theorem run_fieldAt {s:TypeId} {f off n:Nat} {agg:Bool} {b o:Nat} (h:fldOf P s f=some (off,agg,n)) (hn:n≠0) :
    (Instr.fieldAt s (.pointer (some ⟨b,o,none⟩)) f).run P w = .ok (.pointer (some ⟨b,o+off,none⟩)) w:=by
  obtain ⟨fs,x,h1,h2,h3,h4⟩:=fldOf_some h
  simp [Instr.fieldAt,run_underlying h1,h2,Instr.sureAddr,fieldPlace,run_sizeOf h4,hn,h3,add_lit]
theorem pfieldAddr_ok {s:TypeId} {f:Nat} {x:S} {u:Value} (hx:SR g w st.rs x u) (h:(pfieldAddr P st s f x).2) :
    ∃ r,(Instr.fieldAt s u f).run P w = .ok r w∧SR g w st.rs (pfieldAddr P st s f x).1 r:=by
  unfold pfieldAddr at h ⊢
  split at h
  · rename_i off agg n hf
    split at h
    · rename_i i o
      split at h
      · rename_i fz ss hr
        rw [SR] at hx
        obtain ⟨b,hb,rfl⟩:=hx fz ss hr
        exact ⟨_,run_fieldAt hf h,by rw [SR];intro _ _ _;exact ⟨b,hb,rfl⟩⟩
      · exact h.elim
    · rename_i i m j o
      split at h
      · rename_i nil sz xs fx hr
        obtain ⟨h1,h2⟩:=h
        rw [SR] at hx
        obtain ⟨b,cap,hb,rfl⟩:=hx nil sz xs fx hr h2
        refine ⟨_,run_fieldAt hf h1,?_⟩
        rw [SR]
        intro nil' sz' xs' fx' hr' _
        rw [hr] at hr'
        simp at hr'
        obtain ⟨rfl,rfl,rfl,rfl⟩:=hr'
        exact ⟨b,cap,hb,by rw [Nat.add_assoc]⟩
      · exact h.elim
    · rename_i cs
      simp only [SR,CR] at hx
      obtain ⟨b,o,rfl,hlr⟩:=hx
      exact ⟨_,run_fieldAt hf h,by simp only [SR,CR];exact ⟨b,o+off,rfl,LR_drop off hlr⟩⟩
    · exact h.elim
  · exact h.elim
theorem run_indexAt_sl {t:TypeId} {sz:Nat} {b o len cap:Nat} {k:IntKind} {n:Int} (h:esz P t=some sz) (h0:0≤n) (h1:n.toNat<len) :
    (Instr.indexAt t (.slice (some ⟨b,o,none⟩) len cap) (.int k n)).run P w = .ok (.pointer (some ⟨b,o+n.toNat*sz,none⟩)) w:=by
  obtain ⟨e,i,h2,h3,rfl⟩:=esz_some h
  have hn:0≤n∧n<len:=⟨h0,by omega⟩
  simp [Instr.indexAt,run_underlying h2,asIntOf,hn,sizeOf,typeInfo,h3,add_lit]
theorem run_indexAt_arr {t:TypeId} {sz len:Nat} {agg:Bool} {b o:Nat} {k:IntKind} {n:Int} (h:arrOf P t=some (len,agg,sz)) (h0:0≤n) (h1:n<len) :
    (Instr.indexAt t (.pointer (some ⟨b,o,none⟩)) (.int k n)).run P w = .ok (.pointer (some ⟨b,o+n.toNat*sz,none⟩)) w:=by
  obtain ⟨e,h2,h3⟩:=arrOf_some h
  have hn:0≤n∧n<len:=⟨h0,h1⟩
  simp [Instr.indexAt,run_underlying h2,Instr.sureAddr,asIntOf,hn,run_sizeOf h3,add_lit]
theorem pindexAddr_ok (hT:T w0 K0 nt st a w g) {t:TypeId} {x i:S} {u v:Value} (hx:SR g w st.rs x u) (hi:SR g w st.rs i v) (h:(pindexAddr P st t x i).2) :
    ∃ r,(Instr.indexAt t u v).run P w = .ok r w∧SR g w st.rs (pindexAddr P st t x i).1 r:=by
  unfold pindexAddr at h ⊢
  split at h
  · rename_i k n
    simp only [SR,CR] at hi
    obtain ⟨rfl,_⟩:=hi
    split at h
    · rename_i nil xs
      obtain ⟨h0,h1,h2⟩:=h
      simp only [SR,CR] at hx
      rcases hx with ⟨_,rfl,_⟩ | ⟨_,b,o,s,cap,sz,rfl,h3,h4,hs,h5⟩
      · simp at h1
      · obtain rfl:s=none:=by
          rcases hs with rfl | hs
          · simp at h1
          · exact hs
        have e:xs[n.toNat]? = some (xs.getD n.toNat []):=by simp [List.getD,List.getElem?_eq_getElem h1]
        obtain ⟨h6,h7⟩:=(ER_iff b sz xs o).1 h5 _ _ e
        rw [h6] at h2
        refine ⟨_,run_indexAt_sl h2 h0 h1,?_⟩
        simp only [SR,CR]
        exact ⟨b,_,rfl,h7⟩
    · rename_i i m
      split at h
      · rename_i nil sz xs fx hr
        obtain ⟨h0,h1,h2,h3⟩:=h
        rw [SR] at hx
        have hu:=hx nil sz xs fx hr h2
        rcases hT.res i _ hr with ⟨_,e,_⟩ | ⟨_,b,cap,cur,E,e1,_⟩
        · subst e;simp at h2;omega
        · rw [e1] at hu
          subst hu
          refine ⟨_,run_indexAt_sl h3 h0 (by omega),?_⟩
          rw [SR]
          intro nil' sz' xs' fx' hr' _
          rw [hr] at hr'
          simp at hr'
          obtain ⟨rfl,rfl,rfl,rfl⟩:=hr'
          exact ⟨b,cap,by rw [e1,h2],by simp⟩
      · exact h.elim
    · rename_i i m q
      split at h
      · rename_i nil sz xs fx hr
        obtain ⟨h0,h1,hq,h2,h3⟩:=h
        rw [SR] at hx
        obtain ⟨aa,cc,hl,rfl⟩:=hx nil sz xs fx hr h2
        rcases hT.res i _ hr with ⟨_,_,e,_⟩ | ⟨_,b,cap,cur,E,e1,_⟩
        · rw [hl] at e;cases e
        · rw [hl] at e1
          cases e1
          refine ⟨_,run_indexAt_sl h3 h0 (by omega),?_⟩
          rw [SR]
          intro nil' sz' xs' fx' hr' _
          rw [hr] at hr'
          simp at hr'
          obtain ⟨rfl,rfl,rfl,rfl⟩:=hr'
          exact ⟨b,cc,hl,by simp⟩
      · exact h.elim
    · rename_i i o
      split at h
      · rename_i len agg sz fz ss ha hr
        obtain ⟨h0,h1⟩:=h
        rw [SR] at hx
        obtain ⟨b,hb,rfl⟩:=hx fz ss hr
        exact ⟨_,run_indexAt_arr ha h0 h1,by rw [SR];intro _ _ _;exact ⟨b,hb,rfl⟩⟩
      · exact h.elim
    · rename_i cs
      split at h
      · rename_i len agg sz ha
        obtain ⟨h0,h1⟩:=h
        simp only [SR,CR] at hx
        obtain ⟨b,o,rfl,hlr⟩:=hx
        exact ⟨_,run_indexAt_arr ha h0 h1,by simp only [SR,CR];exact ⟨b,_,rfl,LR_drop _ hlr⟩⟩
      · exact h.elim
    · exact h.elim
  · exact h.elim
theorem ppart_ok {t:TypeId} {agg:Bool} {n off:Nat} {cs:List C} {us:List Value} (ht:tySz P t=some (agg,n)) (hv:VR g.K w cs us) (h:(ppart agg cs off n).2) :
    ∃ r,(part t us.toArray off).run P w = .ok r w∧SR g w st.rs (ppart agg cs off n).1 r:=by
  have hlen:=((VR_iff _ _).1 hv).1
  cases agg with
  | true =>
    refine ⟨.agg ((us.drop off).take n).toArray,?_,by rw [ppart,SR];exact ⟨_,rfl,VR_take n (VR_drop off hv)⟩⟩
    simp only [part,Sem.run_bind,run_isAgg ht,Result.andThen_ok,if_true,run_sizeOf ht,Sem.run_pure]
    congr 2
    simp only [List.extract_toArray]
    rw [List.extract_eq_take_drop]
    congr 2
    omega
  | false =>
    have hlt:off<us.length:=by have h':off<cs.length:=h;omega
    refine ⟨us[off],?_,?_⟩
    · simp [part,run_isAgg ht,hlt]
    · simp only [ppart,SR]
      have h':off<cs.length:=h
      refine ((VR_iff _ _).1 hv).2 off _ _ ?_ (by simp [hlt])
      simp [List.getD,List.getElem?_eq_getElem h']
theorem pfield_ok {s:TypeId} {f:Nat} {x:S} {u:Value} (hx:SR g w st.rs x u) (h:(pfield P s f x).2) :
    ∃ r,(Instr.field s u f).run P w = .ok r w∧SR g w st.rs (pfield P s f x).1 r:=by
  unfold pfield at h ⊢
  split at h
  · rename_i off agg n cs hf
    rw [SR] at hx
    obtain ⟨us,rfl,hv⟩:=hx
    obtain ⟨fs,y,h1,h2,h3,h4⟩:=fldOf_some hf
    obtain ⟨r,e1,e2⟩:=ppart_ok (st:=st) h4 hv h
    refine ⟨r,?_,e2⟩
    simp [Instr.field,run_underlying h1,h2,asAgg,h3,e1]
  · exact h.elim
theorem pindex_ok {t:TypeId} {x i:S} {u v:Value} (hx:SR g w st.rs x u) (hi:SR g w st.rs i v) (h:(pindex P t x i).2) :
    ∃ r,(Instr.index t u v).run P w = .ok r w∧SR g w st.rs (pindex P t x i).1 r:=by
  unfold pindex at h ⊢
  split at h
  · rename_i k n
    simp only [SR,CR] at hi
    obtain ⟨rfl,_⟩:=hi
    split at h
    · rename_i s
      obtain ⟨h0,h1,h2⟩:=h
      simp only [SR,CR] at hx
      obtain ⟨rfl,_⟩:=hx
      refine ⟨.int .u8 (s.data.toList.getD n.toNat 0).toNat,?_,by simp [SR,CR,Value.oneCell']⟩
      have e:s[n.toNat]? = some (s.data.toList.getD n.toNat 0):=by
        have h1':n.toNat<s.data.size:=h1
        rw [getElem?_pos s n.toNat h1]
        congr 1
        simp only [List.getD,Array.getElem?_toList]
        rw [Array.getElem?_eq_getElem h1']
        rfl
      simp [Instr.index,asIntOf,run_underlying h2,h0,e]
    · rename_i cs
      split at h
      · rename_i len agg sz ha
        obtain ⟨h0,h1,h2⟩:=h
        rw [SR] at hx
        obtain ⟨us,rfl,hv⟩:=hx
        obtain ⟨e,h3,h4⟩:=arrOf_some ha
        obtain ⟨r,e1,e2⟩:=ppart_ok (st:=st) h4 hv h2
        refine ⟨r,?_,e2⟩
        simp [Instr.index,asIntOf,run_underlying h3,h0,h1,run_sizeOf h4,e1]
      · exact h.elim
    · exact h.elim
  · exact h.elim
theorem sint_eq {s:S} {n:Int} {u:Value} (h:sint s=some n) (hs:SR g w st.rs s u):∃ k,u = .int k n:=by
  unfold sint at h
  split at h
  · rename_i k m
    cases h
    simp only [SR,CR] at hs
    exact ⟨k,hs.1⟩
  · cases h
theorem run_bounds {len cap:Nat} {lo hi:Option Value} {l h:Int} (hl:lo=none∧l=0∨∃ k,lo=some (.int k l)) (hh:(hi=none∧h=len)∨∃ k,hi=some (.int k h)) (h0:0≤l) (h1:l≤h) (h2:h≤cap) (isSlice:Bool) :
    (Instr.sliceBounds isSlice len cap lo hi none).run P w = .ok (l.toNat,h.toNat,cap) w:=by
  have eh:(h.toNat:Int)=h:=Int.toNat_of_nonneg (by omega)
  have a1:0≤h:=by omega
  rcases hl with ⟨rfl,rfl⟩ | ⟨k,rfl⟩ <;> rcases hh with ⟨rfl,rfl⟩ | ⟨k',rfl⟩ <;>
    simp [Instr.sliceBounds,Instr.sliceBound,asIntOf, *]
theorem opt_b {lo:Option S} {u:Option Value} {l d:Int} (hu:∀ s,lo=some s→∃ v,u=some v∧SR g w st.rs s v) (hn:lo=none→u=none) (h:bnd lo d=some l) :
    u=none∧l=d∨∃ k,u=some (.int k l):=by
  cases lo with
  | none=>simp [bnd] at h;exact .inl ⟨hn rfl,h.symm⟩
  | some s =>
    obtain ⟨v,h1,h2⟩:=hu s rfl
    obtain ⟨k,rfl⟩:=sint_eq h h2
    exact .inr ⟨k,h1⟩
theorem ER_take {K:Nat→Nat→Prop} {b o sz:Nat} {xs:List (List C)} (n:Nat) (h:ER K w b o sz xs):ER K w b o sz (xs.take n):=by
  rw [ER_iff] at h ⊢
  intro k c hk
  rw [List.getElem?_take] at hk
  split at hk
  · exact h k c hk
  · cases hk
theorem ER_drop {K:Nat→Nat→Prop} {b o sz:Nat} {xs:List (List C)} (n:Nat) (h:ER K w b o sz xs):ER K w b (o+n*sz) sz (xs.drop n):=by
  rw [ER_iff] at h ⊢
  intro k c hk
  rw [List.getElem?_drop] at hk
  have:=h (n+k) c hk
  rwa [Nat.add_mul,← Nat.add_assoc] at this
theorem pslice_ok {t:TypeId} {x:S} {u:Value} {lo hi mx:Option S} {vlo vhi vmx:Option Value} (hx:SR g w st.rs x u) (hlo:∀ s,lo=some s→∃ v,vlo=some v∧SR g w st.rs s v) (hlo':lo=none→vlo=none)
    (hhi:∀ s,hi=some s→∃ v,vhi=some v∧SR g w st.rs s v) (hhi':hi=none→vhi=none) (hmx:mx=none→vmx=none) (h:(pslice P t x lo hi mx).2) :
    ∃ r,(Instr.sliceAt t u vlo vhi vmx).run P w = .ok r w∧SR g w st.rs (pslice P t x lo hi mx).1 r:=by
  unfold pslice at h ⊢
  split at h
  · exact h.elim
  · rw [hmx rfl]
    split at h
    · rename_i s
      split at h
      · rename_i l m hl hm
        obtain ⟨h0,h1,h2,h3⟩:=h
        simp only [SR,CR] at hx
        obtain ⟨rfl,_⟩:=hx
        have e:=run_bounds (P:=P) (w:=w) (cap:=s.size) (opt_b hlo hlo' hl) (opt_b hhi hhi' hm) h0 h1 h2 false
        refine ⟨.string (s.extract l.toNat m.toNat),?_,by simp [SR,CR,Value.oneCell']⟩
        simp [Instr.sliceAt,run_underlying h3,Instr.slice,e]
      · exact h.elim
    · rename_i nil xs
      split at h
      · rename_i l m hl hm
        obtain ⟨h0,h1,h2,h3⟩:=h
        simp only [SR,CR] at hx
        rcases hx with ⟨rfl,rfl,rfl⟩ | ⟨rfl,b,o,s,cap,sz,rfl,k1,k2,ks,k3⟩
        · simp at h2
          obtain rfl:l=0:=by omega
          obtain rfl:m=0:=by omega
          have e:=run_bounds (P:=P) (w:=w) (cap:=0) (opt_b hlo hlo' hl) (opt_b hhi hhi' hm) h0 h1 (by simp) true
          obtain ⟨n,h3,_⟩:=h3
          obtain ⟨el,i,h4,h5,rfl⟩:=esz_some h3
          refine ⟨.slice none 0 0,?_,by simp [SR,CR]⟩
          simp only [List.length_nil] at e
          simp [Instr.sliceAt,run_underlying h4,Instr.slice,e,sizeOf,typeInfo,h5]
        · have e:=run_bounds (P:=P) (w:=w) (cap:=cap) (opt_b hlo hlo' hl) (opt_b hhi hhi' hm) h0 h1 (by omega) true
          obtain ⟨n,h3,h3'⟩:=h3
          obtain ⟨el,i,h4,h5,rfl⟩:=esz_some h3
          have hlen:((xs.take m.toNat).drop l.toNat).length=m.toNat-l.toNat:=by simp;omega
          refine ⟨.slice (if cap=l.toNat then some ⟨b,o,s⟩ else some ⟨b,o+l.toNat*i.size,if l.toNat*i.size=0 then s else none⟩) (m.toNat-l.toNat) (cap-l.toNat),?_,?_⟩
          · simp only [Instr.sliceAt,Sem.run_bind,run_underlying h4,Result.andThen_ok,Instr.slice,e,sizeOf,typeInfo,run_program,h5,Sem.run_pure,Option.map_some,add_lit']
          · simp only [SR,CR]
            refine .inr ⟨trivial,?_⟩
            by_cases hc:cap=l.toNat
            · rw [if_pos hc]
              have hnil:(xs.take m.toNat).drop l.toNat=[]:=List.eq_nil_of_length_eq_zero (by omega)
              exact ⟨b,o,s,_,0,by rw [hlen],by rw [hlen];omega,by omega,.inl hnil,by rw [hnil,ER];trivial⟩
            · rw [if_neg hc]
              refine ⟨b,_,_,_,sz,by rw [hlen],by rw [hlen];omega,by omega,?_,?_⟩
              · rcases ks with rfl | rfl
                · left;simp
                · right;simp
              by_cases hz:xs=[]
              · subst hz;simp [ER]
              · have:i.size=sz:=by
                  cases xs with
                  | nil=>exact absurd rfl hz
                  | cons y r=>rw [← h3' y (by simp)];rw [ER] at k3;exact k3.1.1
                rw [this]
                exact ER_drop _ (ER_take _ k3)
      · exact h.elim
    · exact h.elim
theorem plen_ok (hT:T w0 K0 nt st a w g) {t ty:TypeId} {x:S} {u:Value} (hx:SR g w st.rs x u) (h:(plen P st t x).2) :
    ∃ r,(Builtin.len_ #[t] ty #[u]).run P w = .ok r w∧SR g w st.rs (plen P st t x).1 r:=by
  unfold plen at h ⊢
  split at h
  · rename_i s
    simp only [SR,CR] at hx
    obtain ⟨rfl,_⟩:=hx
    have h':P.underlying t=some .string:=h
    exact ⟨.int .i64 s.size,by simp [Builtin.len_,run_underlying h',goInt],by simp [SR,CR,Value.oneCell']⟩
  · rename_i nil xs
    have h':isSl P t=true:=h
    obtain ⟨e,he⟩:=isSl_some h'
    simp only [SR,CR] at hx
    rcases hx with ⟨rfl,rfl,rfl⟩ | ⟨rfl,b,o,s,cap,sz,rfl,_⟩
    · exact ⟨.int .i64 0,by simp [Builtin.len_,run_underlying he,goInt],by simp [SR,CR,Value.oneCell']⟩
    · exact ⟨.int .i64 xs.length,by simp [Builtin.len_,run_underlying he,goInt],by simp [SR,CR,Value.oneCell']⟩
  · rename_i i n
    split at h
    · rename_i nil sz xs fx hr
      obtain ⟨h1,h2⟩:=h
      obtain ⟨e,he⟩:=isSl_some h1
      rw [SR] at hx
      have hu:=hx nil sz xs fx hr h2
      rcases hT.res i _ hr with ⟨_,e1,e2,_⟩ | ⟨_,b,cap,cur,E,e1,_⟩
      · subst e1;rw [e2] at hu;subst hu
        simp at h2
        subst h2
        exact ⟨.int .i64 0,by simp [Builtin.len_,run_underlying he,goInt],by simp [SR,CR,Value.oneCell']⟩
      · rw [e1] at hu
        subst hu
        refine ⟨.int .i64 xs.length,by simp [Builtin.len_,run_underlying he,goInt],?_⟩
        rw [h2];simp [SR,CR,Value.oneCell']
    · exact h.elim
  · rename_i i n m
    split at h
    · rename_i nil sz xs fx hr
      obtain ⟨h1,h2⟩:=h
      obtain ⟨e,he⟩:=isSl_some h1
      rw [SR] at hx
      obtain ⟨aa,cc,hl,rfl⟩:=hx nil sz xs fx hr h2
      exact ⟨.int .i64 m,by simp [Builtin.len_,run_underlying he,goInt],by simp [SR,CR,Value.oneCell']⟩
    · exact h.elim
  · exact h.elim
theorem pmm_ok (mx:Bool):∀ (r:List S) (x:S) (u:Value) (us:List Value),SR g w st.rs x u→SRs g w st.rs r us→(pmm mx x r).2 →
    ∃ z,(us.foldlM (bif mx then Builtin.max2 else Builtin.min2) u).run P w = .ok z w∧SR g w st.rs (pmm mx x r).1 z
  | [],x,u,us,hx,hr,h=>by
    rw [SRs] at hr
    subst hr
    refine ⟨u,rfl,?_⟩
    unfold pmm at h ⊢
    split at h
    · exact hx
    · rename_i heq;cases heq
    · exact h.elim
  | y::r,x,u,us,hx,hr,h=>by
    rw [SRs] at hr
    obtain ⟨v,us',rfl,hy,hr⟩:=hr
    unfold pmm at h ⊢
    split at h
    · rename_i heq;cases heq
    · rename_i k n k' m r' heq
      cases heq
      simp only [SR,CR] at hx hy
      obtain ⟨rfl,_⟩:=hx
      obtain ⟨rfl,_⟩:=hy
      obtain ⟨z,h1,h2⟩:=pmm_ok mx r _ (.int k (bif mx then max n m else min n m)) us' (by simp [SR,CR,Value.oneCell']) hr h
      refine ⟨z,?_,h2⟩
      rw [List.foldlM_cons]
      have:(bif mx then Builtin.max2 else Builtin.min2) (.int k n) (.int k' m)=pure (.int k (bif mx then max n m else min n m)):=by
        cases mx <;> simp [Builtin.max2,Builtin.min2] <;> (congr 2;split <;> omega)
      rw [this,pure_bind]
      exact h1
    · exact h.elim
theorem byteOf_some {e:List C} {b:UInt8} (h:byteOf e=some b):e=[.v (.int .u8 b.toNat)]:=by
  unfold byteOf at h
  split at h
  · rename_i n
    split at h
    · rename_i hn
      cases h
      have e:((UInt8.ofNat n.toNat).toNat:Int)=n:=by
        simp
        omega
      rw [e]
    · cases h
  · cases h
theorem bytesOf_some:∀ (xs:List (List C)) (l:List UInt8),bytesOf xs=some l→xs=l.map fun b=>[C.v (.int .u8 b.toNat)]
  | [],l,h=>by simp [bytesOf] at h;subst h;rfl
  | e::r,l,h=>by
    rw [bytesOf] at h
    split at h
    · rename_i b l' h1 h2
      cases h
      rw [byteOf_some h1,bytesOf_some r l' h2]
      rfl
    · cases h
theorem isBytes_some {t:TypeId} (h:isBytes P t=true):∃ e i,P.underlying t=some (.slice e)∧P.underlying e=some (.int .u8)∧P.info? e=some i∧i.size=1:=by
  unfold isBytes at h
  split at h
  · rename_i e he
    split at h
    · rename_i i h1 h2
      exact ⟨e,i,he,h1,h2,by simpa using h⟩
    · cases h
  · cases h
theorem run_conv_bytes {s d:TypeId} {b o cap:Nat} {l:List UInt8} (hs:isBytes P s=true) (hd:P.underlying d=some .string) (hc:∀ (j:Nat) x,l[j]? = some x→w.cell? ⟨b,o+j,none⟩=some (.int .u8 x.toNat)) :
    (convert s d (.slice (some ⟨b,o,none⟩) l.length cap)).run P w = .ok (.string ⟨l.toArray⟩) w:=by
  obtain ⟨e,i,h1,h2,_,_⟩:=isBytes_some hs
  have:=run_convert_bytes_arg (P:=P) w s e h1 h2 b o l.length cap (l.map fun x=>(x.toNat:Int)) (by simp) (fun j hj=>by
    rw [hc j l[j] (by simp [hj])]
    simp [List.getD,hj]) d hd
  rw [this]
  congr 2
  simp only [strOfNums]
  congr 1
  simp only [List.map_map]
  congr 1
  have:((fun n:Int=>UInt8.ofNat n.toNat) ∘ fun x:UInt8=>(x.toNat:Int))=id:=by
    funext x
    simp
  rw [this,List.map_id]
theorem run_conv_nob {s d:TypeId} {a:Addr} {cap:Nat} (hs:isBytes P s=true) (hd:P.underlying d=some .string) :
    (convert s d (.slice (some a) ([]:List UInt8).length cap)).run P w = .ok (.string ⟨([]:List UInt8).toArray⟩) w:=by
  obtain ⟨e,i,h1,h2,_,_⟩:=isBytes_some hs
  simp [convert,run_underlying h1,run_underlying h2,run_underlying hd,Conv.bytesToString,loadCells,loadCellsFrom]
  rfl
theorem pconv_ok (hT:T w0 K0 nt st a w g) {s d:TypeId} {x:S} {u:Value} (hx:SR g w st.rs x u) (h:(pconv P st s d x).2) :
    ∃ r,(convert s d u).run P w = .ok r w∧SR g w st.rs (pconv P st s d x).1 r:=by
  unfold pconv at h ⊢
  split at h
  · rename_i k n
    split at h
    · rename_i k' hk
      have h':(P.underlying s).isSome=true:=h
      obtain ⟨ds,hs⟩:=Option.isSome_iff_exists.1 h'
      have hd:P.underlying d=some (.int k'):=by
        unfold intOfTy at hk
        split at hk
        · rename_i k2 e;cases hk;exact e
        · cases hk
      simp only [SR,CR] at hx
      obtain ⟨rfl,_⟩:=hx
      exact ⟨_,by simp [convert,run_underlying hs,run_underlying hd,Conv.intToInt];rfl,by simp [SR,CR,Value.oneCell']⟩
    · exact h.elim
  · rename_i b
    obtain ⟨h1,h2⟩:=h
    simp only [SR,CR] at hx
    obtain ⟨rfl,_⟩:=hx
    exact ⟨_,by simp [convert,run_underlying h1,run_underlying h2];rfl,by simp [SR,CR,Value.oneCell']⟩
  · rename_i nil xs
    split at h
    · rename_i l hl
      obtain ⟨h1,h2⟩:=h
      obtain rfl:=bytesOf_some xs l hl
      refine ⟨.string ⟨l.toArray⟩,?_,by simp [SR,CR,Value.oneCell']⟩
      simp only [SR,CR] at hx
      rcases hx with ⟨rfl,hx,rfl⟩ | ⟨rfl,b,o,sp,cap,sz,rfl,k1,k2,ks,k3⟩
      · simp at hx
        subst hx
        obtain ⟨e,i,e1,e2,_,_⟩:=isBytes_some h1
        exact run_convert_bytes_nil (P:=P) w s e e1 e2 0 0 d h2
      · simp only [List.length_map]
        by_cases hl0:l=[]
        · subst hl0
          exact run_conv_nob h1 h2
        obtain rfl:sp=none:=by
          rcases ks with e | e
          · simp at e;exact absurd e hl0
          · exact e
        refine run_conv_bytes h1 h2 (fun j x hj=>?_)
        obtain ⟨k4,k5⟩:=(ER_iff _ _ _ _).1 k3 j [.v (.int .u8 x.toNat)] (by simp [hj])
        simp at k4
        subst k4
        simp only [LR,CR] at k5
        obtain ⟨⟨_,v,k6,rfl,_⟩,_⟩:=k5
        simpa using k6
    · exact h.elim
  · rename_i i n
    split at h
    · rename_i nil sz xs fx hr
      split at h
      · rename_i l hl
        obtain ⟨h1,h2,h3⟩:=h
        obtain rfl:=bytesOf_some xs l hl
        refine ⟨.string ⟨l.toArray⟩,?_,by simp [SR,CR,Value.oneCell']⟩
        rw [SR] at hx
        have hu:=hx nil sz _ fx hr h3
        rcases hT.res i _ hr with ⟨_,e1,e2,_⟩ | ⟨_,b,cap,cur,E,e1,e2,e3,e4,e5,e6,e7,e8,e9⟩
        · simp at e1;subst e1;rw [e2] at hu;subst hu
          obtain ⟨e,i,e1,e2,_,_⟩:=isBytes_some h1
          exact run_convert_bytes_nil (P:=P) w s e e1 e2 0 0 d h2
        · rw [e1] at hu
          subst hu
          simp only [List.length_map]
          refine run_conv_bytes h1 h2 (fun j x hj=>?_)
          obtain ⟨k4,k5⟩:=e8 j [.v (.int .u8 x.toNat)] (by simp [hj])
          simp at k4
          subst k4
          obtain ⟨v,k6,k7⟩:=k5 0 _ rfl
          rw [CR] at k7
          obtain ⟨rfl,_⟩:=k7
          rw [cell_of_heap e3]
          simpa using k6
      · exact h.elim
    · exact h.elim
  · exact h.elim
theorem pun_ok {op:UnOp} {x:S} {u:Value} (hx:SR g w st.rs x u) (h:(pun op x).2) :
    ∃ r,(Op.unary op u).run P w = .ok r w∧SR g w st.rs (pun op x).1 r:=by
  unfold pun at h ⊢
  split at h
  · rename_i b
    simp only [SR,CR] at hx
    obtain ⟨rfl,_⟩:=hx
    exact ⟨.bool !b,by simp [Op.unary],bl_SR _⟩
  · rename_i k n
    simp only [SR,CR] at hx
    obtain ⟨rfl,_⟩:=hx
    exact ⟨_,by simp [Op.unary,Op.intArith];rfl,by simp [SR,CR,Value.oneCell']⟩
  · exact h.elim
end
end Go.VL
