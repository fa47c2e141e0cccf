/- Contracts of functions of the seat, proved in a logic on data over the model (part V4). -/
import Derived.WalkSpells
import Derived.Test.YtlphpbcafplnbaaGreatV2
set_option linter.unusedSimpArgs false
set_option linter.unusedVariables false
namespace Go.VL
open Go.RowKit
def ofVal:Value→C
  | .slice none 0 0=>.sl true []
  | .func (.func f) fs cs=>if fs.size=0∧cs.size=0 then .fn f [] else .v (.func (.func f) fs cs)
  | x=>.v x
def ofConst:Value→S
  | .agg cs=>if cs.toList.all (·.oneCell') then .agg (cs.toList.map ofVal) else .un
  | .tuple _=>.un
  | x=>.c (ofVal x)
theorem CR_ofVal (K:Nat→Nat→Prop) (w:World) (x:Value) (h:x.oneCell'=true):CR K w (ofVal x) x:=by
  unfold ofVal
  split
  · rw [CR];exact .inl ⟨rfl,rfl,rfl⟩
  · rename_i f fs cs
    split
    · rename_i he
      obtain ⟨h1,h2⟩:=he
      rw [CR]
      refine ⟨[],?_,by rw [VR]⟩
      rw [Array.size_eq_zero_iff.1 h1,Array.size_eq_zero_iff.1 h2]
    · rw [CR];exact ⟨rfl,h⟩
  · rw [CR];exact ⟨rfl,h⟩
theorem VR_ofVal (K:Nat→Nat→Prop) (w:World):∀ (xs:List Value),(∀ x∈xs,x.oneCell'=true)→VR K w (xs.map ofVal) xs
  | [],_=>by simp [VR]
  | x::r,h=>by
    simp only [List.map_cons,VR]
    exact ⟨x,r,rfl,CR_ofVal K w x (h x (by simp)),VR_ofVal K w r (fun y hy=>h y (by simp [hy]))⟩
theorem SR_ofConst (g:G) (w:World) (R:Nat→Option Res) (x:Value):SR g w R (ofConst x) x:=by
  unfold ofConst
  split
  · rename_i cs
    split
    · rename_i h
      rw [SR]
      exact ⟨cs.toList,by simp,VR_ofVal _ _ _ (fun y hy=>List.all_eq_true.1 h y hy)⟩
    · rw [SR];trivial
  · rw [SR];trivial
  · rename_i h1 h2
    rw [SR]
    refine CR_ofVal _ _ _ ?_
    cases x <;> first | rfl | exact absurd rfl (h1 _) | exact absurd rfl (h2 _)
def St.ev (st:St):Operand→S
  | .tmp t=>st.get t
  | .const v=>ofConst v
  | .func f=>.c (.fn f [])
  | .global _=>.un
theorem T.ev {w0:World} {K0:K0T} {nt:Nat} {st:St} {a:Act} {w:World} {g:G} (h:T w0 K0 nt st a w g) (x:Operand):SR g w st.rs (st.ev x) (a.eval x):=by
  cases x with
  | tmp t=>exact h.env t
  | const v=>exact SR_ofConst _ _ _ _
  | func f=>simp only [St.ev,Act.eval,SR,CR];exact ⟨[],rfl,by rw [VR]⟩
  | global n=>simp only [St.ev,SR]
def esz (P:Program) (t:TypeId):Option Nat :=
  match P.underlying t with
  | some (.slice e)=>(P.info? e).map (·.size)
  | _=>none
def aggD:TypeDesc→Bool
  | .struct _=>true
  | .array _ _=>true
  | _=>false
def tySz (P:Program) (t:TypeId):Option (Bool × Nat) :=
  match P.underlying t,P.info? t with
  | some d,some i=>some (aggD d,i.size)
  | _,_=>none
def fldOf (P:Program) (s:TypeId) (f:Nat):Option (Nat × Bool × Nat) :=
  match P.underlying s with
  | some (.struct fs)=>match (fs[f]? : Option Field) with
    | some x=>(tySz P x.type).map fun y=>(x.offset,y.1,y.2)
    | none=>none
  | _=>none
def arrOf (P:Program) (t:TypeId):Option (Nat × Bool × Nat) :=
  match P.underlying t with
  | some (.array n e)=>(tySz P e).map fun y=>(n,y.1,y.2)
  | _=>none
def intOfTy (P:Program) (t:TypeId):Option IntKind :=
  match P.underlying t with
  | some (.int k)=>some k
  | _=>none
def zeroOf (P:Program) (t:TypeId):Option Value:=(P.info? t).bind (·.zero)
section
variable {P:Program} {w:World}
theorem run_isAgg {t:TypeId} {b:Bool} {n:Nat} (h:tySz P t=some (b,n)):(isAgg t).run P w = .ok b w:=by
  unfold tySz at h
  cases hu:P.underlying t with
  | none=>simp [hu] at h
  | some d =>
    cases hi:P.info? t with
    | none=>simp [hu,hi] at h
    | some i =>
      simp [hu,hi] at h
      obtain ⟨rfl,rfl⟩:=h
      simp only [isAgg,Sem.run_bind,run_underlying hu,Result.andThen_ok]
      cases d <;> rfl
theorem run_sizeOf {t:TypeId} {b:Bool} {n:Nat} (h:tySz P t=some (b,n)):(sizeOf t).run P w = .ok n w:=by
  unfold tySz at h
  cases hu:P.underlying t with
  | none=>simp [hu] at h
  | some d =>
    cases hi:P.info? t with
    | none=>simp [hu,hi] at h
    | some i =>
      simp [hu,hi] at h
      obtain ⟨rfl,rfl⟩:=h
      simp [sizeOf,typeInfo,hi]
theorem esz_some {t:TypeId} {n:Nat} (h:esz P t=some n):∃ e i,P.underlying t=some (.slice e)∧P.info? e=some i∧i.size=n:=by
  unfold esz at h
  split at h
  · rename_i e he
    simp only [Option.map_eq_some_iff] at h
    obtain ⟨i,h1,h2⟩:=h
    exact ⟨e,i,he,h1,h2⟩
  · cases h
end
def pbin (op:BinOp):Value→Value→Value × Prop
  | .int k a,.int k' b =>
    match op with
    | .shl=>(.int k (k.wrap (a*2 ^ (min b.toNat k.bits))),0≤b)
    | .shr=>(.int k (a.fdiv (2 ^ (min b.toNat k.bits))),0≤b)
    | .add=>(.int k (k.wrap (a+b)),k=k')
    | .sub=>(.int k (k.wrap (a-b)),k=k')
    | .mul=>(.int k (k.wrap (a*b)),k=k')
    | .quo=>(.int k (k.wrap (a.tdiv b)),k=k'∧b≠0)
    | .rem=>(.int k (a.tmod b),k=k'∧b≠0)
    | .and=>(.int k (bits .and k a b),k=k')
    | .or=>(.int k (bits .or k a b),k=k')
    | .xor=>(.int k (bits .xor k a b),k=k')
    | .andNot=>(.int k (bits .andNot k a b),k=k')
    | .eql=>(.bool (a == b),k=k')
    | .neq=>(.bool (a != b),k=k')
    | .lss=>(.bool (decide (a<b)),k=k')
    | .leq=>(.bool (decide (a≤b)),k=k')
    | .gtr=>(.bool (decide (b<a)),k=k')
    | .geq=>(.bool (decide (b≤a)),k=k')
  | .string a,.string b =>
    match op with
    | .add=>(.string (a++b),a.size+b.size≤maxLen)
    | .eql=>(.bool (decide (a=b)),True)
    | .neq=>(.bool (!decide (a=b)),True)
    | .lss=>(.bool (Op.bytesLess a.toList b.toList),True)
    | .gtr=>(.bool (!(Op.bytesLess a.toList b.toList || decide (a=b))),True)
    | _=>(undef,False)
  | _,_=>(undef,False)
theorem toList_beq (a b:ByteArray):(a.toList == b.toList)=decide (a=b):=by
  rw [ByteArray.toList_eq,ByteArray.toList_eq,Bool.eq_iff_iff]
  obtain ⟨⟨x⟩⟩:=a
  obtain ⟨⟨y⟩⟩:=b
  simp
theorem pbin_ok (P:Program) (w:World) (op:BinOp) (t:TypeId) (x y:Operand) (u v:Value) (h:(pbin op u v).2) :
    (do eqGuard op t x y u v;binOp op t u v:Sem Value).run P w = .ok (pbin op u v).1 w:=by
  unfold pbin at h ⊢
  split at h
  · rename_i k a k' b
    rw [eqGuard_at_int]
    cases op <;> simp only at h ⊢ <;> first
      | (obtain ⟨rfl,h⟩:=h;simp [binOp,Op.intDiv,h])
      | (subst h;simp [binOp,Op.intArith,Op.intCmp,intBits_and,intBits_or,intBits_xor,intBits_andNot])
      | (have:¬ b<0:=by omega
         simp [binOp,Op.shift,this])
  · rename_i a b
    rw [eqGuard_at_string]
    have hm:IntKind.i64.max=9223372036854775807:=by decide
    cases op <;> simp only at h ⊢ <;> first
      | exact h.elim
      | (have h':¬ ((a.size+b.size:Nat):Int) > IntKind.i64.max:=by rw [hm];simp only [maxLen] at h;omega
         simp only [binOp,Op.stringOp,pure_bind]
         rw [if_neg h'];rfl)
      | simp [binOp,Op.stringOp,toList_beq]
  · exact h.elim
def eqC:C→C→Bool
  | .v (.int _ a),.v (.int _ b)=>a == b
  | .v (.bool a),.v (.bool b)=>a == b
  | .v (.string a),.v (.string b)=>decide (a=b)
  | _,_=>false
def eqCs:List C→List C→Bool
  | a::r,b::s=>eqC a b && eqCs r s
  | [],[]=>true
  | _,_=>false
def AggEq (P:Program) (t:TypeId) (cs ds:List C):Prop :=
  ∃ us vs:List Value,cs=us.map C.v∧ds=vs.map C.v∧∀ (w:World) (x y:Operand),
    (do eqGuard .eql t x y (.agg us.toArray) (.agg vs.toArray);binOp .eql t (.agg us.toArray) (.agg vs.toArray):Sem Value).run P w = .ok (.bool (eqCs cs ds)) w ∧
    (do eqGuard .neq t x y (.agg us.toArray) (.agg vs.toArray);binOp .neq t (.agg us.toArray) (.agg vs.toArray):Sem Value).run P w = .ok (.bool (!eqCs cs ds)) w
theorem VR_v {K:Nat→Nat→Prop} {w:World} : ∀ (xs us:List Value),VR K w (xs.map C.v) us→us=xs
  | [],us,h=>by simpa [VR] using h
  | x::r,us,h=>by
    simp only [List.map_cons,VR,CR] at h
    obtain ⟨u,us',rfl,⟨rfl,_⟩,h2⟩:=h
    rw [VR_v r us' h2]
def isSl (P:Program) (t:TypeId):Bool:=match P.underlying t with | some (.slice _)=>true | _=>false
def isPt (P:Program) (t:TypeId):Bool:=match P.underlying t with | some (.pointer _)=>true | _=>false
theorem isSl_some {P:Program} {t:TypeId} (h:isSl P t=true):∃ e,P.underlying t=some (.slice e):=by
  unfold isSl at h
  split at h
  · rename_i e he;exact ⟨e,he⟩
  · cases h
abbrev no:S × Prop:=(.un,False)
def bl (b:Bool):S:=.c (.v (.bool b))
def pbinS (P:Program) (st:St) (op:BinOp) (t:TypeId) (x y:S):S × Prop :=
  match x,y with
  | .c (.v (.bool a)),.c (.v (.bool b)) =>
    match op with
    | .eql=>(bl (a == b),P.underlying t=some .bool)
    | .neq=>(bl (a != b),P.underlying t=some .bool)
    | _=>no
  | .c (.v (.pointer none)),.c (.v (.pointer none)) =>
    match op with
    | .eql=>(bl true,isPt P t=true)
    | .neq=>(bl false,isPt P t=true)
    | _=>no
  | .c (.dp _),.c (.v (.pointer none)) =>
    match op with
    | .eql=>(bl false,isPt P t=true)
    | .neq=>(bl true,isPt P t=true)
    | _=>no
  | .ptr i _,.c (.v (.pointer none)) =>
    match st.rs i with
    | some (.box _ _) =>
      match op with
      | .eql=>(bl false,isPt P t=true)
      | .neq=>(bl true,isPt P t=true)
      | _=>no
    | _=>no
  | .c (.v u),.c (.v v)=>(.c (.v (pbin op u v).1),(pbin op u v).2)
  | .c (.sl nil _),.c (.sl true []) =>
    match op with
    | .eql=>(bl nil,isSl P t=true)
    | .neq=>(bl !nil,isSl P t=true)
    | _=>no
  | .own i n,.c (.sl true []) =>
    match st.rs i with
    | some (.arr nil _ xs _) =>
      match op with
      | .eql=>(bl nil,isSl P t=true∧xs.length=n)
      | .neq=>(bl !nil,isSl P t=true∧xs.length=n)
      | _=>no
    | _=>no
  | .agg cs,.agg ds =>
    match op with
    | .eql=>(bl (eqCs cs ds),AggEq P t cs ds)
    | .neq=>(bl !(eqCs cs ds),AggEq P t cs ds)
    | _=>no
  | _,_=>no
section
variable {P:Program} {w0:World} {K0:K0T} {nt:Nat} {st:St} {a:Act} {w:World} {g:G}
theorem run_equalIn_sl (w:World) (d:Nat) (t e:TypeId) (b:Option Addr) (l c:Nat) (h:P.underlying t=some (.slice e)):(Op.equalIn (d+1) t (.slice b l c) (.slice none 0 0)).run P w = .ok b.isNone w:=by
  cases b <;> simp [Op.equalIn,run_underlying h]
theorem run_equal_sl (w:World) (t e:TypeId) (b:Option Addr) (l c:Nat) (h:P.underlying t=some (.slice e)):(Op.equal t (.slice b l c) (.slice none 0 0)).run P w = .ok b.isNone w:=run_equalIn_sl w 9999 t e b l c h
theorem run_eqsl {op:BinOp} {t e:TypeId} (x y:Operand) (v:Value) (nil:Bool) (he:P.underlying t=some (.slice e)) (hv:(nil=true∧v = .slice none 0 0)∨(nil=false∧∃ b n c,v = .slice (some b) n c)) (hop:op = .eql∨op = .neq) :
    (do eqGuard op t x y v (.slice none 0 0);binOp op t v (.slice none 0 0):Sem Value).run P w = .ok (.bool (if op = .eql then nil else !nil)) w:=by
  rcases hv with ⟨rfl,rfl⟩ | ⟨rfl,b,n,c,rfl⟩ <;> rcases hop with rfl | rfl <;>
    (rw [eqGuard_at_slice,pure_bind]
     simp [binOp,run_equal_sl w t e _ _ _ he])
theorem isPt_some {P:Program} {t:TypeId} (h:isPt P t=true):∃ e,P.underlying t=some (.pointer e):=by
  unfold isPt at h
  split at h
  · rename_i e he;exact ⟨e,he⟩
  · cases h
theorem run_equalIn_pt (w:World) (d:Nat) (t e:TypeId) (a:Option Addr) (h:P.underlying t=some (.pointer e)):(Op.equalIn (d+1) t (.pointer a) (.pointer none)).run P w = .ok a.isNone w:=by
  cases a <;> simp [Op.equalIn,run_underlying h]
theorem run_equal_pt (w:World) (t e:TypeId) (a:Option Addr) (h:P.underlying t=some (.pointer e)):(Op.equal t (.pointer a) (.pointer none)).run P w = .ok a.isNone w:=run_equalIn_pt w 9999 t e a h
theorem run_eqpt {op:BinOp} {t:TypeId} (x y:Operand) (a:Option Addr) (he:isPt P t=true) (hop:op = .eql∨op = .neq) :
    (do eqGuard op t x y (.pointer a) (.pointer none);binOp op t (.pointer a) (.pointer none):Sem Value).run P w = .ok (.bool (if op = .eql then a.isNone else !a.isNone)) w:=by
  obtain ⟨e,he⟩:=isPt_some he
  rcases hop with rfl | rfl <;>
    (rw [eqGuard_at_pointer,pure_bind]
     simp [binOp,run_equal_pt w t e a he])
theorem bl_SR (b:Bool):SR g w st.rs (bl b) (.bool b):=by simp [bl,SR,CR,Value.oneCell']
theorem pbinS_ok (hT:T w0 K0 nt st a w g) (op:BinOp) (t:TypeId) (x y:Operand) (sx sy:S) (u v:Value) (hx:SR g w st.rs sx u) (hy:SR g w st.rs sy v) (h:(pbinS P st op t sx sy).2) :
    ∃ r,(do eqGuard op t x y u v;binOp op t u v:Sem Value).run P w = .ok r w∧SR g w st.rs (pbinS P st op t sx sy).1 r:=by
  unfold pbinS at h ⊢
  split at h
  · rename_i a b
    simp only [SR,CR] at hx hy
    obtain ⟨rfl,_⟩:=hx
    obtain ⟨rfl,_⟩:=hy
    rw [eqGuard_at_bool]
    cases op <;> simp only at h ⊢ <;> first
      | exact h.elim
      | exact ⟨_,by rw [pure_bind,run_eql_bool (P:=P) w t _ _ h],bl_SR _⟩
      | exact ⟨_,by rw [pure_bind,run_neq_bool (P:=P) w t _ _ h];rfl,bl_SR _⟩
  · simp only [SR,CR] at hx hy
    obtain ⟨rfl,_⟩:=hx
    obtain ⟨rfl,_⟩:=hy
    cases op <;> first
      | exact False.elim h
      | exact ⟨_,run_eqpt x y none h (by simp),bl_SR _⟩
  · simp only [SR,CR] at hx hy
    obtain ⟨b,o,rfl,_⟩:=hx
    obtain ⟨rfl,_⟩:=hy
    cases op <;> first
      | exact False.elim h
      | exact ⟨_,run_eqpt x y _ h (by simp),bl_SR _⟩
  · rename_i i off
    simp only [SR] at hx hy
    rw [CR] at hy
    obtain ⟨rfl,_⟩:=hy
    split at h
    · rename_i fz ss hr
      obtain ⟨b,_,rfl⟩:=hx fz ss hr
      cases op <;> first
        | exact False.elim h
        | exact ⟨_,run_eqpt x y _ h (by simp),bl_SR _⟩
    · exact h.elim
  · rename_i hnb hnb2
    simp only [SR,CR] at hx hy
    obtain ⟨rfl,_⟩:=hx
    obtain ⟨rfl,_⟩:=hy
    refine ⟨_,pbin_ok P w op t x y _ _ h,?_⟩
    simp only [SR,CR]
    refine ⟨trivial,?_⟩
    unfold pbin at h ⊢
    split at h
    · cases op <;> rfl
    · cases op <;> first | rfl | exact h.elim
    · exact h.elim
  · rename_i nil xs
    simp only [SR] at hx hy
    have hv:v = .slice none 0 0:=by
      rw [CR] at hy
      rcases hy with ⟨_,_,h⟩ | ⟨h,_⟩
      · exact h
      · cases h
    subst hv
    have hu:(nil=true∧u = .slice none 0 0)∨(nil=false∧∃ b n c,u = .slice (some b) n c):=by
      rw [CR] at hx
      rcases hx with ⟨h1,_,h2⟩ | ⟨h1,b,o,s,cap,sz,h2,_⟩
      · exact .inl ⟨h1,h2⟩
      · exact .inr ⟨h1,_,_,_,h2⟩
    cases op <;> first
      | exact False.elim h
      | (obtain ⟨e,he⟩:=isSl_some h
         exact ⟨_,run_eqsl x y u nil he hu (by simp),by simp;exact bl_SR _⟩)
  · rename_i i n
    simp only [SR] at hx hy
    have hv:v = .slice none 0 0:=by
      rw [CR] at hy
      rcases hy with ⟨_,_,h⟩ | ⟨h,_⟩
      · exact h
      · cases h
    subst hv
    split at h
    · rename_i nil sz xs fx hr
      have hn:xs.length=n:=by cases op <;> first | exact False.elim h | exact h.2
      have hu0:=hx nil sz xs fx hr hn
      have hu:(nil=true∧u = .slice none 0 0)∨(nil=false∧∃ b n c,u = .slice (some b) n c):=by
        rcases hT.res i _ hr with ⟨h1,_,h2,_⟩ | ⟨h1,b,cap,cur,E,h2,_⟩
        · exact .inl ⟨h1,by rw [hu0,h2]⟩
        · exact .inr ⟨h1,_,_,_,by rw [hu0,h2]⟩
      cases op <;> first
        | exact False.elim h
        | (obtain ⟨e,he⟩:=isSl_some h.1
           exact ⟨_,run_eqsl x y u nil he hu (by simp),by simp;exact bl_SR _⟩)
    · exact h.elim
  · rename_i cs ds
    rw [SR] at hx hy
    obtain ⟨us,rfl,hx⟩:=hx
    obtain ⟨vs,rfl,hy⟩:=hy
    cases op <;> first
      | exact False.elim h
      | (obtain ⟨us',vs',rfl,rfl,h⟩:=h
         obtain rfl:=VR_v _ _ hx
         obtain rfl:=VR_v _ _ hy
         first
           | exact ⟨_,(h w x y).1,bl_SR _⟩
           | exact ⟨_,(h w x y).2,bl_SR _⟩)
  · exact h.elim
end
section
variable {P:Program} {w:World}
theorem run_loadVar_one {t:TypeId} {n:Nat} {b:Addr} {u:Value} (h:tySz P t=some (false,n)) (hc:w.cell? b=some u):(loadVar t b).run P w = .ok u w:=by
  simp [loadVar,run_isAgg h,run_load,hc]
theorem run_loadVar_agg {t:TypeId} {n:Nat} {b:Addr} {us:List Value} (h:tySz P t=some (true,n)) (hn:us.length=n) (hc:∀ (j:Nat) v,us[j]? = some v→w.cell? (b.add j)=some v):(loadVar t b).run P w = .ok (.agg us.toArray) w:=by
  have:=run_loadCells_list (P:=P) w b us hc
  rw [hn] at this
  simp [loadVar,run_isAgg h,run_sizeOf h,this]
theorem add_lit' (b o n:Nat) (s:Option Nat):Addr.add ⟨b,o,s⟩ n=⟨b,o+n,if n=0 then s else none⟩:=by
  unfold Addr.add
  by_cases h:n=0
  · simp [h]
  · simp [h]
theorem add_lit (b o n:Nat):Addr.add ⟨b,o,none⟩ n=⟨b,o+n,none⟩:=Addr.add_lit b o n
theorem LR_VR {K:Nat→Nat→Prop} (b:Nat):∀ (cs:List C) (o:Nat),LR K w b o cs→∃ us:List Value,VR K w cs us∧us.length=cs.length∧∀ (j:Nat) v,us[j]? = some v→w.cell? ⟨b,o+j,none⟩=some v
  | [],o,_=>⟨[],by simp [VR],rfl,by simp⟩
  | c::r,o,h=>by
    rw [LR] at h
    obtain ⟨⟨_,u,hu,hc⟩,hr⟩:=h
    obtain ⟨us,h1,h2,h3⟩:=LR_VR b r (o+1) hr
    refine ⟨u::us,by rw [VR];exact ⟨u,us,rfl,hc,h1⟩,by simp [h2],fun j v hj=>?_⟩
    cases j with
    | zero=>simp at hj;subst hj;exact hu
    | succ j=>have:=h3 j v (by simpa using hj);rwa [show o+1+j=o+(j+1) from by omega] at this
theorem LR_take {K:Nat→Nat→Prop} {b o:Nat} {cs:List C} (n:Nat) (h:LR K w b o cs):LR K w b o (cs.take n):=by
  rw [LR_iff] at h ⊢
  intro k c hk
  rw [List.getElem?_take] at hk
  split at hk
  · exact h k c hk
  · cases hk
theorem LR_drop {K:Nat→Nat→Prop} {b o:Nat} {cs:List C} (n:Nat) (h:LR K w b o cs):LR K w b (o+n) (cs.drop n):=by
  rw [LR_iff] at h ⊢
  intro k c hk
  rw [List.getElem?_drop] at hk
  have:=h (n+k) c hk
  rwa [← Nat.add_assoc] at this
theorem VR_take {K:Nat→Nat→Prop} {cs:List C} {us:List Value} (n:Nat) (h:VR K w cs us):VR K w (cs.take n) (us.take n):=by
  rw [VR_iff] at h ⊢
  refine ⟨by simp [h.1],fun k c u hk hu=>?_⟩
  rw [List.getElem?_take] at hk hu
  split at hk
  · rename_i hlt;rw [if_pos hlt] at hu;exact h.2 k c u hk hu
  · cases hk
theorem VR_drop {K:Nat→Nat→Prop} {cs:List C} {us:List Value} (n:Nat) (h:VR K w cs us):VR K w (cs.drop n) (us.drop n):=by
  rw [VR_iff] at h ⊢
  refine ⟨by simp [h.1],fun k c u hk hu=>?_⟩
  rw [List.getElem?_drop] at hk hu
  exact h.2 _ c u hk hu
theorem VR_append {K:Nat→Nat→Prop} {cs ds:List C} {us vs:List Value} (h:VR K w cs us) (h':VR K w ds vs):VR K w (cs++ds) (us++vs):=by
  induction cs generalizing us with
  | nil=>rw [VR] at h;subst h;exact h'
  | cons c r ih =>
    rw [VR] at h
    obtain ⟨u,us',rfl,h1,h2⟩:=h
    rw [List.cons_append,List.cons_append,VR]
    exact ⟨u,_,rfl,h1,ih h2⟩
end
def allC:List S→Option (List C)
  | []=>some []
  | .c x::r=>(allC r).map (x :: ·)
  | _::_=>none
def isBo (P:Program) (t:TypeId):Bool:=match P.underlying t with | some .bool=>true | _=>false
def dflC (P:Program) (t:TypeId):C:=bif isSl P t then .sl true [] else bif isBo P t then .v (.bool false) else .v (.int .i64 0)
def pload (P:Program) (st:St) (t:TypeId) (a:S):S × Prop :=
  match tySz P t with
  | some (false,_) =>
    match a with
    | .c (.dp (c::_))=>(.c c,True)
    | .c (.dp [])=>(.c (dflC P t),False)
    | .ptr i o =>
      match st.rs i with
      | some (.box _ ss)=>match ss[o]? with
        | some s=>(s,True)
        | none=>no
      | _=>no
    | .ep i n j o =>
      match st.rs i with
      | some (.arr _ sz xs _)=>(.c ((xs.getD j []).getD o default),xs.length=n∧j<n∧o<sz)
      | _=>no
    | _=>no
  | some (true,m) =>
    match a with
    | .c (.dp cs)=>(.agg (cs.take m),m≤cs.length)
    | .ptr i o =>
      match st.rs i with
      | some (.box _ ss)=>match allC ((ss.drop o).take m) with
        | some cs=>(.agg cs,cs.length=m)
        | none=>no
      | _=>no
    | .ep i n j o =>
      match st.rs i with
      | some (.arr _ sz xs _)=>(.agg (((xs.getD j []).drop o).take m),xs.length=n∧j<n∧o+m≤sz)
      | _=>no
    | _=>no
  | none=>no
section
variable {P:Program} {w0:World} {K0:K0T} {nt:Nat} {st:St} {a:Act} {w:World} {g:G}
theorem allC_VR:∀ (ss:List S) (cs:List C) (us:List Value),allC ss=some cs→us.length=ss.length→(∀ (k:Nat) s u,ss[k]? = some s→us[k]? = some u→SR g w st.rs s u)→VR g.K w cs us
  | [],cs,us,h,hl,_=>by
    simp [allC] at h;subst h
    cases us with
    | nil=>simp [VR]
    | cons u r=>simp at hl
  | s::r,cs,us,h,hl,hs=>by
    cases us with
    | nil=>simp at hl
    | cons u us =>
      cases s with
      | c x =>
        simp only [allC,Option.map_eq_some_iff] at h
        obtain ⟨cs',h1,rfl⟩:=h
        rw [VR]
        have h0:=hs 0 _ u rfl rfl
        rw [SR] at h0
        exact ⟨u,us,rfl,h0,allC_VR r cs' us h1 (by simpa using hl) (fun k s' u' e1 e2=>hs (k+1) s' u' (by simpa using e1) (by simpa using e2))⟩
      | _=>simp [allC] at h
theorem cell_of_heap {w:World} {b o:Nat} {cur:Array Value} {E:TypeId} {fz:Nat × Nat} (h:w.heap[b]? = some (.cells cur E fz)):w.cell? ⟨b,o,none⟩=cur[o]? := by
  simp [World.cell?,h]
theorem Holds.elem {K:Nat→Nat→Prop} {sz:Nat} {xs:List (List C)} {cur:Array Value} (h:Holds K w sz xs cur) {j:Nat} (hj:j<xs.length) :
    (xs.getD j []).length=sz∧∃ us:List Value,VR K w (xs.getD j []) us∧us.length=sz∧∀ (k:Nat) v,us[k]? = some v→cur[j*sz+k]? = some v:=by
  have e:xs[j]? = some (xs.getD j []):=by simp [List.getD,List.getElem?_eq_getElem hj]
  obtain ⟨h1,h2⟩:=h j _ e
  refine ⟨h1,?_⟩
  generalize xs.getD j []=c at *
  have key:∀ (c:List C) (o:Nat),(∀ (k:Nat) (d:C),c[k]? = some d→∃ u,cur[o+k]? = some u∧CR K w d u)→∃ us:List Value,VR K w c us∧us.length=c.length∧∀ (k:Nat) v,us[k]? = some v→cur[o+k]? = some v:=by
    intro c
    induction c with
    | nil=>intro o _;exact ⟨[],by simp [VR],rfl,by simp⟩
    | cons d r ih =>
      intro o hh
      obtain ⟨u,hu,hd⟩:=hh 0 d rfl
      obtain ⟨us,e1,e2,e3⟩:=ih (o+1) (fun k d hk=>by have:=hh (k+1) d (by simpa using hk);rwa [show o+1+k=o+(k+1) from by omega])
      refine ⟨u::us,by rw [VR];exact ⟨u,us,rfl,hd,e1⟩,by simp [e2],fun k v hk=>?_⟩
      cases k with
      | zero=>simp at hk;subst hk;exact hu
      | succ k=>have:=e3 k v (by simpa using hk);rwa [show o+1+k=o+(k+1) from by omega] at this
  obtain ⟨us,e1,e2,e3⟩:=key c (j*sz) h2
  exact ⟨us,e1,by rw [e2,h1],e3⟩
theorem pload_ok (hT:T w0 K0 nt st a w g) {t:TypeId} {s:S} {u:Value} (hs:SR g w st.rs s u) (h:(pload P st t s).2) :
    ∃ r,(Instr.loadAt t u).run P w = .ok r w∧SR g w st.rs (pload P st t s).1 r:=by
  have hl:∀ (b:Addr),(Instr.loadAt t (.pointer (some b))).run P w=(loadVar t b).run P w:=fun b=>by simp [Instr.loadAt,Instr.sureAddr]
  unfold pload at h ⊢
  split at h
  · rename_i n ht
    split at h
    · rename_i c r
      simp only [SR,CR,LR] at hs
      obtain ⟨b,o,rfl,⟨_,v,hv,hc⟩,_⟩:=hs
      exact ⟨v,by rw [hl];exact run_loadVar_one ht hv,by rw [SR];exact hc⟩
    · exact h.elim
    · rename_i i o
      split at h
      · rename_i fz ss hr
        rw [SR] at hs
        obtain ⟨b,hb,rfl⟩:=hs fz ss hr
        obtain ⟨b',cur,E,h1,h2,h3,h4,h5,h6⟩:=hT.res i _ hr
        rw [hb] at h1
        simp at h1;subst h1
        split at h
        · rename_i s' hs'
          obtain ⟨v,e1,e2,e3⟩:=h5 o s' hs'
          exact ⟨v,by rw [hl];exact run_loadVar_one ht (by rw [cell_of_heap h3];exact e1),e2⟩
        · exact h.elim
      · exact h.elim
    · rename_i i m j o
      split at h
      · rename_i nil sz xs fx hr
        obtain ⟨h1,h2,h3⟩:=h
        rw [SR] at hs
        obtain ⟨b,cap,hb,rfl⟩:=hs nil sz xs fx hr h1
        rcases hT.res i _ hr with ⟨_,_,e,_⟩ | ⟨_,b',cap',cur,E,e1,e2,e3,e4,e5,e6,e7,e8,e9⟩
        · rw [hb] at e;simp at e
        · rw [hb] at e1
          simp at e1;obtain ⟨rfl,_,rfl⟩:=e1
          obtain ⟨k1,us,k2,k3,k4⟩:=e8.elem (j:=j) (by omega)
          have ho:o<us.length:=by omega
          have k5:=k4 o us[o] (by simp [ho])
          refine ⟨us[o],by rw [hl];exact run_loadVar_one ht (by rw [cell_of_heap e3];exact k5),?_⟩
          rw [SR]
          refine ((VR_iff _ _).1 k2).2 o _ _ ?_ (by simp [ho])
          have:o<(xs.getD j []).length:=by omega
          simp only [List.getD_eq_getElem?_getD] at this ⊢
          rw [List.getElem?_eq_getElem this];rfl
      · exact h.elim
    · exact h.elim
  · rename_i m ht
    split at h
    · rename_i cs
      simp only [SR,CR] at hs
      obtain ⟨b,o,rfl,hlr⟩:=hs
      obtain ⟨us,e1,e2,e3⟩:=LR_VR b _ o (LR_take m hlr)
      refine ⟨.agg us.toArray,by rw [hl];exact run_loadVar_agg ht (by have h':m≤cs.length:=h;rw [e2];simp;omega) (fun j v hj=>by rw [add_lit];exact e3 j v hj),?_⟩
      rw [SR];exact ⟨us,rfl,e1⟩
    · rename_i i o
      split at h
      · rename_i fz ss hr
        rw [SR] at hs
        obtain ⟨b,hb,rfl⟩:=hs fz ss hr
        obtain ⟨b',cur,E,h1,h2,h3,h4,h5,h6⟩:=hT.res i _ hr
        rw [hb] at h1
        simp at h1;subst h1
        split at h
        · rename_i cs hcs
          have hlen:((ss.drop o).take m).length=cs.length:=by
            have:∀ (l:List S) (cs:List C),allC l=some cs→l.length=cs.length:=by
              intro l
              induction l with
              | nil=>intro cs h;simp [allC] at h;subst h;rfl
              | cons s r ih =>
                intro cs h
                cases s with
                | c x=>simp only [allC,Option.map_eq_some_iff] at h;obtain ⟨cs',h1,rfl⟩:=h;simp [ih _ h1]
                | _=>simp [allC] at h
            exact this _ _ hcs
          refine ⟨.agg ((cur.toList.drop o).take m).toArray,?_,?_⟩
          · rw [hl]
            refine run_loadVar_agg ht ?_ (fun j v hj=>?_)
            · simp at hlen ⊢;omega
            · rw [add_lit,cell_of_heap h3]
              rw [List.getElem?_take] at hj
              split at hj
              · rw [List.getElem?_drop] at hj;simpa using hj
              · cases hj
          · rw [SR]
            refine ⟨_,rfl,allC_VR (st:=st) _ _ _ hcs (by simp at hlen ⊢;omega) (fun k s' v e1 e2=>?_)⟩
            rw [List.getElem?_take] at e1 e2
            split at e1
            · rename_i hlt
              rw [if_pos hlt] at e2
              rw [List.getElem?_drop] at e1 e2
              obtain ⟨v',k1,k2,k3⟩:=h5 _ _ e1
              have:v'=v:=by simp at e2;rw [k1] at e2;exact Option.some.inj e2
              subst this;exact k2
            · cases e1
        · exact h.elim
      · exact h.elim
    · rename_i i n j o
      split at h
      · rename_i nil sz xs fx hr
        obtain ⟨h1,h2,h3⟩:=h
        rw [SR] at hs
        obtain ⟨b,cap,hb,rfl⟩:=hs nil sz xs fx hr h1
        rcases hT.res i _ hr with ⟨_,_,e,_⟩ | ⟨_,b',cap',cur,E,e1,e2,e3,e4,e5,e6,e7,e8,e9⟩
        · rw [hb] at e;simp at e
        · rw [hb] at e1
          simp at e1;obtain ⟨rfl,_,rfl⟩:=e1
          obtain ⟨k1,us,k2,k3,k4⟩:=e8.elem (j:=j) (by omega)
          refine ⟨.agg ((us.drop o).take m).toArray,?_,by rw [SR];exact ⟨_,rfl,VR_take m (VR_drop o k2)⟩⟩
          rw [hl]
          refine run_loadVar_agg ht (by simp;omega) (fun k v hk=>?_)
          rw [add_lit,cell_of_heap e3]
          rw [List.getElem?_take] at hk
          split at hk
          · rw [List.getElem?_drop] at hk
            have:=k4 _ _ hk
            rwa [← Nat.add_assoc] at this
          · cases hk
      · exact h.elim
    · exact h.elim
  · exact h.elim
end
end Go.VL
