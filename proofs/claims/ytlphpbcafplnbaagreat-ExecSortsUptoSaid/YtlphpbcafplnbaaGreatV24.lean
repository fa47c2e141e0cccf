/- Contracts of functions of the seat, proved in a logic on data over the model (part V24). -/
import Derived.Test.YtlphpbcafplnbaaGreatV16
import Derived.Test.YtlphpbcafplnbaaGreatVM4b
import Derived.ChangeArms
import Derived.DataReads
import Derived.ChangeOld
import Derived.OpenShut
import Derived.Test.YtlphpbcafplnbaaGreatV15
import Derived.WalkKit
import Derived.ProofKit
import Derived.JoinedCond
import Derived.Carry
set_option linter.unusedSimpArgs false
set_option linter.unusedVariables false
namespace Go.VL
open Go.RowKit
section
variable {P:Program} {ops:Array Oper} {st:St} {K:St→Prop} {ty:TypeId} {p:String} {af:Array Edge}
def vlkR (P:Program) (dst:Option Nat) (st:St) (t:TypeId) (ok:Bool) (K:St→Prop) (kv:Value) (r:Option Res):Prop :=
  match r,mpT P t with
  | some (.map (.ents kvs)),some (_,d,e)=>match zeroOf P e with
    | some z=>kfits d kv=true∧(kvs.all fun x=>kfits d x.1)=true∧K (st.putd dst (lkS ok (findK kv kvs) z))
    | none=>False
  | _,_=>False
@[simp ↓] theorem vlkup_mp (dst:Option Nat) (t:TypeId) (i:Nat) (kv:Value) (ok:Bool):vlkup P dst st t (.mp i) (.c (.v kv)) ok K=force (tick (st.rs i)) fun r=>vlkR P dst st t ok K kv r:=rfl
theorem vlkR_map (dst:Option Nat) (t kt et:TypeId) (td:TypeDesc) (z:Value) (ok:Bool) (kv:Value) (kvs:List (Value × List S)) (h1:mpT P t=some (kt,td,et)) (h2:zeroOf P et=some z) :
    vlkR P dst st t ok K kv (some (.map (.ents kvs)))=(kfits td kv=true∧(kvs.all fun x=>kfits td x.1)=true∧K (st.putd dst (lkS ok (findK kv kvs) z))):=by
  unfold vlkR;rw [h1];simp only;rw [h2]
def vmuR (P:Program) (dst:Option Nat) (st:St) (t:TypeId) (K:St→Prop) (i:Nat) (kv:Value) (cs:Option (List S)) (r:Option Res):Prop :=
  match cs with
  | some cs=>match r,mpT P t with
    | some (.map (.ents kvs)),some (_,d,_)=>kfits d kv=true∧(kvs.all fun x=>kfits d x.1)=true∧K ((st.setR i (some (.map (.ents (putK kv cs kvs))))).putd dst .un)
    | _,_=>False
  | none=>False
@[simp ↓] theorem vmapUp_mp (dst:Option Nat) (t:TypeId) (i:Nat) (kv:Value) (x:S):vmapUp P dst st t (.mp i) (.c (.v kv)) x K=force (tick (entC st x)) fun cs=>force (tick (st.rs i)) fun r=>vmuR P dst st t K i kv cs r:=by
  show vmapUp P dst st t (.mp i) (.c (.v kv)) x K=vmuR P dst st t K i kv (entC st x) (st.rs i)
  unfold vmapUp vmuR
  cases entC st x <;> rfl
theorem vmuR_map (dst:Option Nat) (t kt et:TypeId) (td:TypeDesc) (i:Nat) (kv:Value) (cs:List S) (kvs:List (Value × List S)) (h1:mpT P t=some (kt,td,et)) :
    vmuR P dst st t K i kv (some cs) (some (.map (.ents kvs)))=(kfits td kv=true∧(kvs.all fun x=>kfits td x.1)=true∧K ((st.setR i (some (.map (.ents (putK kv cs kvs))))).putd dst .un)):=by
  unfold vmuR;rw [h1]
@[simp ↓] theorem vs_lookup (d:Option Nat) (t:TypeId) (m k:Operand) (ok:Bool):vstep P ops st ⟨d,.lookup t m k ok,ty,p,af,none⟩ K=force (tick (st.ev m)) fun m=>force (tick (st.ev k)) fun k=>vlkup P d st t m k ok K:=rfl
@[simp ↓] theorem vs_mapUpdate (d:Option Nat) (t:TypeId) (m k x:Operand):vstep P ops st ⟨d,.mapUpdate t m k x,ty,p,af,none⟩ K=force (tick (st.ev m)) fun m=>force (tick (st.ev k)) fun k=>force (tick (st.ev x)) fun x=>vmapUp P d st t m k x K:=rfl
@[simp ↓] theorem vs_makeMap (x:Nat) (t:TypeId):vstep P ops st ⟨some x,.makeMap t none,ty,p,af,none⟩ K=K (((st.clr (64*x)).setR (64*x) (some (.map (.ents [])))).put x (.mp (64*x))):=rfl
@[simp] theorem entC_agg (a b:C) (cs:List C):entC st (.agg (a::b::cs))=some ((a::b::cs).map .c):=by simp [entC]
@[simp] theorem entS_one (s:S):entS [s]=s:=rfl
@[simp] theorem allCs_map (cs:List C):allCs (cs.map .c)=some cs:=by
  induction cs with
  | nil=>rfl
  | cons c r ih=>simp [allCs,ih]
@[simp] theorem allCs_c (c:C) (r:List S):allCs (.c c::r)=(allCs r).map (c :: ·):=rfl
@[simp] theorem MB.clr_nil (i:Nat):(MB.ents []).clr i = .ents []:=rfl
end
section
variable {P:Program} {ops:Array Oper} {st:St} {K:St→Prop} {ty:TypeId} {p:String} {af:Array Edge}
end
def Kw (w:World):Nat→Nat→Prop:=fun b _=>b<w.heap.size
def contig (P:Program):Nat→List Field→Option Nat
  | o,[]=>some o
  | o,f::r=>if f.offset=o then contig P (o+P.cellsOf f.type) r else none
def catF (F:TypeId→List C→Prop):List Field→List C→Prop
  | [],xs=>xs=[]
  | f::r,xs=>∃ a b,xs=a++b∧F f.type a∧catF F r b
def catA (F:List C→Prop):Nat→List C→Prop
  | 0,xs=>xs=[]
  | k+1,xs=>∃ a b,xs=a++b∧F a∧catA F k b
def Fits (P:Program) (R:Nat):Nat→TypeId→List C→Prop
  | 0,_,_=>False
  | n+1,t,xs=>match P.underlying t with
    | some .bool=>∃ b,xs=[.v (.bool b)]
    | some (.int k)=>∃ m,xs=[.v (.int k m)]∧(Lit.int k m).wf=true
    | some .string=>∃ s:ByteArray,xs=[.v (.string s)]∧s.size≤maxLen∧s.size≤R
    | some (.slice e)=>∃ nil ys,xs=[.sl nil ys]∧(nil=true→ys=[])∧ys.length≤maxLen∧ys.length*P.bytesOf e≤R∧∀ y∈ys,Fits P R n e y
    | some (.pointer e)=>xs=[.v (.pointer none)]∨∃ ys,xs=[.dp ys]∧Fits P R n e ys
    | some (.struct fs)=>catF (Fits P R n) fs.toList xs
    | some (.array len e)=>catA (Fits P R n e) len xs
    | _=>False
def FitsS (P:Program) (R n:Nat) (t:TypeId) (s:S):Prop :=
  match P.underlying t with
  | some (.struct _)=>∃ xs,s = .agg xs∧Fits P R n t xs
  | some (.array _ _)=>∃ xs,s = .agg xs∧Fits P R n t xs
  | _=>∃ x,s = .c x∧Fits P R n t [x]
theorem fits_int {P:Program} {R n:Nat} {t:TypeId} {xs:List C} {k:IntKind} (hu:P.underlying t=some (.int k)) (h:Fits P R (n+1) t xs):∃ m,xs=[.v (.int k m)]∧(Lit.int k m).wf=true:=by
  unfold Fits at h;rw [hu] at h;exact h
theorem fits_i64 {P:Program} {R n:Nat} {t:TypeId} {xs:List C} (hu:P.underlying t=some (.int .i64)) (h:Fits P R (n+1) t xs):∃ m:Int,xs=[.v (.int .i64 m)]∧-9223372036854775808≤m∧m≤9223372036854775807:=by
  obtain ⟨m,rfl,hm⟩:=fits_int hu h
  exact ⟨m,rfl,by simpa [Lit.wf,IntKind.min,IntKind.max,IntKind.signed,IntKind.bits] using hm⟩
theorem fits_string {P:Program} {R n:Nat} {t:TypeId} {xs:List C} (hu:P.underlying t=some .string) (h:Fits P R (n+1) t xs):∃ l:List UInt8,xs=[.v (.string ⟨l.toArray⟩)]∧l.length≤R:=by
  unfold Fits at h;rw [hu] at h
  obtain ⟨⟨⟨l⟩⟩,rfl,_,hm⟩:=h
  exact ⟨l,rfl,hm⟩
theorem fits_slice {P:Program} {R n:Nat} {t e:TypeId} {xs:List C} (hu:P.underlying t=some (.slice e)) (h:Fits P R (n+1) t xs) :
    ∃ nil ys,xs=[.sl nil ys]∧(nil=true→ys=[])∧ys.length*P.bytesOf e≤R∧∀ y∈ys,Fits P R n e y:=by
  unfold Fits at h;rw [hu] at h
  obtain ⟨nil,ys,h1,h2,_,h3,h4⟩:=h
  exact ⟨nil,ys,h1,h2,h3,h4⟩
theorem fits_struct {P:Program} {R n:Nat} {t:TypeId} {xs:List C} {fs:Array Field} (hu:P.underlying t=some (.struct fs)) (h:Fits P R (n+1) t xs):catF (Fits P R n) fs.toList xs:=by
  unfold Fits at h;rw [hu] at h;exact h
theorem fits_list {P:Program} {R n:Nat} {e:TypeId} {ys:List (List C)} {α:Type} (f:α→List C) (Q:α→Prop) (hf:∀ y,Fits P R n e y→∃ a,y=f a∧Q a) (h:∀ y∈ys,Fits P R n e y):∃ l:List α,ys=l.map f∧∀ a∈l,Q a:=by
  induction ys with
  | nil=>exact ⟨[],rfl,by simp⟩
  | cons y r ih =>
    obtain ⟨l,rfl,h1⟩:=ih (fun z hz=>h z (by simp [hz]))
    obtain ⟨a,rfl,h2⟩:=hf y (h y (by simp))
    refine ⟨a::l,rfl,fun b hb=>?_⟩
    rcases List.mem_cons.1 hb with rfl | hb
    · exact h2
    · exact h1 b hb
section
variable {H:Type} {enc:TypeId × Value→H} {P:Program} {w:World} {base:Nat} {spare:Nat→Bool} {held:Bool}
theorem VR_one {K:Nat→Nat→Prop} {c:C} {u:Value} (h:CR K w c u):VR K w [c] [u]:=by
  rw [VR];exact ⟨u,[],rfl,h,by rw [VR]⟩
theorem LR_of_cells {a:Addr} {n:Nat} {us:List Value} {xs:List C} (hc:w.cells? base a n=some us) (hv:VR (Kw w) w xs us) (hn:0<n) (off:Nat) (ho:off=a.off) :
    xs.length=n∧LR (Kw w) w a.block off xs∧a.spot=none:=by
  obtain ⟨h1,h2,h3⟩:=World.cells?_some hc
  have hb:=World.cells?_block hc hn
  obtain ⟨e1,e2⟩:=(VR_iff _ _).1 hv
  have hs:a.spot=none:=by
    have:=h3 0 hn
    rw [show a.add 0=a from rfl] at this
    have hu:us[0]? = some us[0]:=List.getElem?_eq_getElem (by omega)
    rw [hu] at this
    unfold World.cell? at this
    split at this
    · split at this
      · cases this
      · rename_i hsp;simpa using hsp
    · cases this
  subst ho
  refine ⟨by omega,?_,hs⟩
  rw [LR_iff]
  intro k c hk
  have hlt:k<us.length:=by have:=(List.getElem?_eq_some_iff.1 hk).1;omega
  refine ⟨hb,us[k],?_,e2 k c us[k] hk (List.getElem?_eq_getElem hlt)⟩
  have:=h3 k (by omega)
  rw [List.getElem?_eq_getElem hlt] at this
  rw [← this]
  obtain ⟨b,o,s⟩:=a
  simp only at hs
  subst hs
  exact congrArg _ (add_lit b o k).symm
theorem cat_ok {F:TypeId→List C→Prop} (cs:List Value):∀ (fs:List Field) (o:Nat),contig P o fs=some cs.length →
    (∀ f∈fs,∃ a,VR (Kw w) w a ((cs.drop f.offset).take (P.cellsOf f.type))∧F f.type a)→∃ xs,VR (Kw w) w xs (cs.drop o)∧catF F fs xs
  | [],o,h,_=>by
    simp only [contig,Option.some.injEq] at h
    exact ⟨[],by rw [h];simp [VR],rfl⟩
  | f::r,o,h,hf=>by
    unfold contig at h
    split at h
    · rename_i ho
      obtain ⟨a,h1,h2⟩:=hf f (by simp)
      obtain ⟨b,h3,h4⟩:=cat_ok cs r _ h (fun g hg=>hf g (by simp [hg]))
      refine ⟨a++b,?_,a,b,rfl,h2,h4⟩
      have:=VR_append h1 h3
      rw [ho,← List.drop_drop,List.take_append_drop] at this
      exact this
    · cases h
theorem catA_ok {F:List C→Prop} (cs:List Value) (sz:Nat):∀ (k o:Nat),cs.length=o+k*sz →
    (∀ i,i<k→∃ a,VR (Kw w) w a ((cs.drop (o+i*sz)).take sz)∧F a)→∃ xs,VR (Kw w) w xs (cs.drop o)∧catA F k xs
  | 0,o,h,_=>⟨[],by rw [List.drop_of_length_le (by omega),VR],rfl⟩
  | k+1,o,h,hf=>by
    obtain ⟨a,h1,h2⟩:=hf 0 (by omega)
    have e1:o+(k+1)*sz=(o+sz)+k*sz:=by rw [Nat.add_mul];omega
    obtain ⟨b,h3,h4⟩:=catA_ok cs sz k (o+sz) (by omega) (fun i hi=>by
      have:=hf (i+1) (by omega)
      rwa [show o+(i+1)*sz=o+sz+i*sz from by rw [Nat.add_mul];omega] at this)
    refine ⟨a++b,?_,a,b,rfl,h2,h4⟩
    have:=VR_append h1 h3
    rw [Nat.zero_mul,Nat.add_zero,← List.drop_drop,List.take_append_drop] at this
    exact this
theorem mem_weightsAll {e:TypeId} {m:Nat} : ∀ {l:List (DataW H)} {d:DataW H},d∈l→m∈d.weights P e→m∈DataW.weightsAll P e l
  | x::r,d,h,hm=>by
    simp only [DataW.weightsAll,List.mem_append]
    rcases List.mem_cons.1 h with rfl | h
    · exact .inl hm
    · exact .inr (mem_weightsAll h hm)
theorem mem_weightsEach {m:Nat} : ∀ {ts:List TypeId} {l:List (DataW H)} {i:Nat} {t:TypeId} {d:DataW H},ts[i]? = some t→l[i]? = some d→m∈d.weights P t→m∈DataW.weightsEach P ts l
  | [],_,_,_,_,h,_,_=>by simp at h
  | _::_,[],_,_,_,_,h,_=>by simp at h
  | _::_,_::_,0,_,_,h1,h2,hm=>by
    simp only [List.getElem?_cons_zero,Option.some.injEq] at h1 h2
    subst h1;subst h2
    simp only [DataW.weightsEach,List.mem_append]
    exact .inl hm
  | _::_,_::_,i+1,_,_,h1,h2,hm=>by
    simp only [DataW.weightsEach,List.mem_append]
    exact .inr (mem_weightsEach (by simpa using h1) (by simpa using h2) hm)
end
end Go.VL
namespace Go.VL
open Go.RowKit Go.ChangeShapes Go.WideShapes
section
variable {H:Type} {enc:TypeId × Value→H} {P:Program} {w:World} {base:Nat} {spare:Nat→Bool} {held:Bool}
theorem VR_cells {K:Nat→Nat→Prop} {xs:List C} {u:Value} (h:VR K w xs [u]):∃ x,xs=[x]∧CR K w x u:=by
  cases xs with
  | nil=>rw [VR] at h;cases h
  | cons x r =>
    rw [VR] at h
    obtain ⟨u',us',e,h1,h2⟩:=h
    cases e
    cases r with
    | nil=>exact ⟨x,rfl,h1⟩
    | cons y r=>rw [VR] at h2;obtain ⟨_,_,e,_⟩:=h2;cases e
theorem args_back {W W':World} (hl:laidOutB P=true) (hb:Below W.heap.size W W') {sp:Nat→Bool} : ∀ (ts:List TypeId) (vs:List Value) (ds:List (DataW H)) (ps:List MemPlace),
    (∀ t∈ts,P.readableRec t=true∧t<P.types.size)→DataW.TrodAll enc P W 0 (fun _=>true) true ts vs ds ps→(∀ p∈ps,p.block<W.heap.size)→(∀ p∈ps,sp p.block=true)→DataW.TrodAll enc P W' 0 sp true ts vs ds ps
  | [],vs,ds,ps,_,h,_,_=>by
    obtain ⟨rfl,rfl,rfl⟩:=trodAll_nil h
    rfl
  | t::ts,vs,ds,ps,ht,h,hlt,hs=>by
    obtain ⟨v,vs',d,ds',p,q,rfl,rfl,rfl,h1,h2⟩:=trodAll_cons h
    exact ⟨p,q,WideElems.Trod_stays hl (ht t (by simp)).1 (ht t (by simp)).2 h1 (fun x hx=>hb.same (hlt x (by simp [hx]))) (fun x hx=>hs x (by simp [hx])),
      args_back hl hb ts vs' ds' q (fun t h=>ht t (by simp [h])) h2 (fun x hx=>hlt x (by simp [hx])) (fun x hx=>hs x (by simp [hx])),rfl⟩
end
end Go.VL
