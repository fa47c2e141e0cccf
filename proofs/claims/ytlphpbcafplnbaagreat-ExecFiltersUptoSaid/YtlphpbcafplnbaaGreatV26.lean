/- Contracts of functions of the seat, proved in a logic on data over the model (part V26). -/
import Derived.Test.YtlphpbcafplnbaaGreatV20
import Derived.Laws.StructEq
import Derived.ChangeKeysEq
set_option linter.unusedSimpArgs false
set_option linter.unusedVariables false
namespace Go.VL
open Go.RowKit
section
variable {P:Program} {w0:World} {K0:K0T} {nt:Nat}
theorem VL.draw {id:Nat} {l:List Oper} {st:St} {Q:Exit→St→Prop} (hm:P.follows .mixedOrders=true) (pl:List (Nat × Bool)) (hS:(staticB nt l.toArray (pmask pl) (pbar pl) && pl.length == l.toArray.size)=true)
    (hv:vd P l.toArray l pl 0 st [] st (Q .normal)):VL P w0 K0 nt (.region id l.toArray true) st Q .mk .mk :=
  vw_draw hm pl hS hv
theorem T.re {st:St} {a:Act} {w:World} {g:G} {t:Nat} {s:S} (h:T w0 K0 nt st a w g) (hs:SR g w st.rs s (a.tmps.getD t undef)):T w0 K0 nt (st.put t s) a w g:=by
  refine ⟨h.below,h.k0,h.kold,h.klt,h.res,h.dis,fun t'=>?_,h.nt,h.defers,h.keep⟩
  rw [St.get_put]
  by_cases e:t=t'
  · subst e;rw [if_pos rfl];exact hs
  · rw [if_neg e];exact h.env t'
theorem VL.snap {c:Code} {st:St} {Q:Exit→St→Prop} (t:Nat) (h:force (tick (st.get t)) fun s=>vsnap st s fun s' st'=>force (tick (st'.put t s')) fun st'=>VL P w0 K0 nt c st' Q .mk .mk):VL P w0 K0 nt c st Q .mk .mk:=by
  intro a w g hT
  have h':vsnap st (st.get t) fun s' st'=>VL P w0 K0 nt c (st'.put t s') Q .mk .mk:=h
  obtain ⟨s',st',g',k1,k2,k3,_⟩:=vsnap_ok hT (hT.env t) h'
  exact k1 a w g' (k2.re k3)
@[simp ↓] theorem vd_nil (ops:Array Oper) (pl:List (Nat × Bool)) (j:Nat) (st0:St) (l:List Rec) (cur:St) (K:St→Prop):vd P ops [] pl j st0 l cur K=force (tick cur) K:=by rw [vd];rfl
@[simp ↓] theorem vd_bar (ops:Array Oper) (o:Oper) (r:List Oper) (m:Nat) (pl:List (Nat × Bool)) (j:Nat) (st0:St) (l:List Rec) (cur:St) (K:St→Prop) :
    vd P ops (o::r) ((m,true)::pl) j st0 l cur K=force (tick cur) fun cur=>vstepL P ops cur o fun st'=>force (tick st') fun st'=>vd P ops r pl (j+1) st' [] st' K:=by rw [vd];rfl
def vdm (P:Program) (ops:Array Oper) (q:Option Operand) (o:Oper) (r:List Oper) (m:Nat) (pl:List (Nat × Bool)) (j:Nat) (st0:St) (l:List Rec) (cur:St) (K:St→Prop):Prop :=
  match q with
  | some x=>force (tick (cur.ev x)) fun s=>chk m st0 l ⟨o.dst,s,[],false⟩ []=true∧force (tick (l++[⟨j,⟨o.dst,s,[],false⟩,[]⟩])) fun l=>vd P ops r pl (j+1) st0 l (cur.app ⟨o.dst,s,[],false⟩) K
  | none=>force (tick (rdOf cur o)) fun rd=>force (tick (restr cur rd)) fun sR=>veff P ops sR o fun e=>force (tick e) fun e=>chk m st0 l e rd=true∧force (tick (l++[⟨j,e,rd⟩])) fun l=>vd P ops r pl (j+1) st0 l (cur.app e) K
section
variable (ops:Array Oper) (o:Oper) (r:List Oper) (m:Nat) (pl:List (Nat × Bool)) (j:Nat) (st0:St) (l:List Rec) (cur:St) (K:St→Prop)
@[simp ↓] theorem vdm_some (x:Operand):vdm P ops (some x) o r m pl j st0 l cur K=force (tick (cur.ev x)) fun s=>chk m st0 l ⟨o.dst,s,[],false⟩ []=true∧force (tick (l++[⟨j,⟨o.dst,s,[],false⟩,[]⟩])) fun l=>vd P ops r pl (j+1) st0 l (cur.app ⟨o.dst,s,[],false⟩) K:=rfl
@[simp ↓] theorem vdm_none:vdm P ops none o r m pl j st0 l cur K=force (tick (rdOf cur o)) fun rd=>force (tick (restr cur rd)) fun sR=>veff P ops sR o fun e=>force (tick e) fun e=>chk m st0 l e rd=true∧force (tick (l++[⟨j,e,rd⟩])) fun l=>vd P ops r pl (j+1) st0 l (cur.app e) K:=rfl
@[simp ↓] theorem vd_op:vd P ops (o::r) ((m,false)::pl) j st0 l cur K=force (tick cur) fun cur=>force (tick (isMv o)) fun q=>vdm P ops q o r m pl j st0 l cur K:=by
  rw [vd];simp only [cond_false];rfl
end
variable (ops:Array Oper) (st:St) (d:Option Nat) (ty:TypeId) (p:String) (af:Array Edge) (k:Eff→Prop)
def goE (st:St) (d:Option Nat) (s:S) (k:Eff→Prop):Prop:=s.kn st.rs=true∧k ⟨d,s,[],false⟩
@[simp ↓] theorem goE_eq (s:S):goE st d s k=(s.kn st.rs=true∧k ⟨d,s,[],false⟩):=rfl
@[simp ↓] theorem ve_move (x:Operand):veff P ops st ⟨d,.move x,ty,p,af,none⟩ k=force (tick (st.ev x)) fun s=>goE st d s k:=by rw [force_eq,tick_eq];simp [veff,vePure,pev]
@[simp ↓] theorem ve_assign (x:Operand):veff P ops st ⟨d,.assign x,ty,p,af,none⟩ k=force (tick (st.ev x)) fun s=>goE st d s k:=by rw [force_eq,tick_eq];simp [veff,vePure,pev]
@[simp ↓] theorem ve_binOp (o:BinOp) (t yt:TypeId) (x y:Operand):veff P ops st ⟨d,.binOp o t x y yt,ty,p,af,none⟩ k=force (tick (pbinQ P st o t y (st.ev x) (st.ev y))) fun r=>goS r fun s=>goE st d s k:=rfl
@[simp ↓] theorem ve_fieldAddr (t:TypeId) (x:Operand) (f:Nat):veff P ops st ⟨d,.fieldAddr t x f,ty,p,af,none⟩ k=force (tick (pfieldAddr P st t f (st.ev x))) fun r=>goS r fun s=>goE st d s k:=rfl
@[simp ↓] theorem ve_indexAddr (t:TypeId) (x i:Operand):veff P ops st ⟨d,.indexAddr t x i,ty,p,af,none⟩ k=force (tick (pindexAddr P st t (st.ev x) (st.ev i))) fun r=>goS r fun s=>goE st d s k:=rfl
@[simp ↓] theorem ve_nilCheck (x:Operand):veff P ops st ⟨d,.nilCheck x,ty,p,af,none⟩ k=force (tick (pnil st (st.ev x))) fun r=>goS r fun s=>goE st d s k:=rfl
@[simp ↓] theorem ve_extract (x:Operand) (n:Nat):veff P ops st ⟨d,.extract x n,ty,p,af,none⟩ k=force (tick (pext n (st.ev x))) fun r=>goS r fun s=>goE st d s k:=rfl
@[simp ↓] theorem ve_lookup (t:TypeId) (m x:Operand) (ok:Bool):veff P ops st ⟨d,.lookup t m x ok,ty,p,af,none⟩ k=force (tick (st.ev m)) fun m=>force (tick (st.ev x)) fun x=>veLook P d st t m x ok k:=rfl
def veLz (d:Option Nat) (z:Option Value) (ds:TypeDesc) (kvs:List (Value × List S)) (kv:Value) (ok:Bool) (k:Eff→Prop):Prop :=
  match z with
  | some z=>kfits ds kv=true∧(kvs.all fun x=>kfits ds x.1)=true∧k ⟨d,lkS ok (findK kv kvs) z,[],false⟩
  | none=>False
def veLk (P:Program) (d:Option Nat) (r:Option Res) (h1:Option (TypeId × TypeDesc × TypeId)) (kv:Value) (ok:Bool) (k:Eff→Prop):Prop :=
  match r,h1 with
  | some (.map (.ents kvs)),some (_,ds,e)=>veLz d (zeroOf P e) ds kvs kv ok k
  | _,_=>False
@[simp ↓] theorem veLook_mp (t:TypeId) (i:Nat) (kv:Value) (ok:Bool):veLook P d st t (.mp i) (.c (.v kv)) ok k=force (tick (st.rs i)) fun r=>force (tick (mpT P t)) fun h1=>veLk P d r h1 kv ok k:=rfl
@[simp ↓] theorem veLk_map (kvs:List (Value × List S)) (n:TypeId) (ds:TypeDesc) (e:TypeId) (kv:Value) (ok:Bool):veLk P d (some (.map (.ents kvs))) (some (n,ds,e)) kv ok k=force (tick (zeroOf P e)) fun z=>veLz d z ds kvs kv ok k:=rfl
@[simp ↓] theorem veLz_some (z:Value) (ds:TypeDesc) (kvs:List (Value × List S)) (kv:Value) (ok:Bool):veLz d (some z) ds kvs kv ok k=(kfits ds kv=true∧(kvs.all fun x=>kfits ds x.1)=true∧force (tick (lkS ok (findK kv kvs) z)) fun s=>k ⟨d,s,[],false⟩):=rfl
@[simp ↓] theorem ve_load (t:TypeId) (x:Operand):veff P ops st ⟨d,.load t x,ty,p,af,none⟩ k=force (tick (pload P st t (st.ev x))) fun r=>goS r fun s=>goE st d s k:=rfl
@[simp ↓] theorem ve_slice (t:TypeId) (x:Operand) (lo hi mx:Option Operand):veff P ops st ⟨d,.slice t x lo hi mx,ty,p,af,none⟩ k=force (tick (pslice P t (st.ev x) (lo.map st.ev) (hi.map st.ev) (mx.map st.ev))) fun r=>goS r fun s=>goE st d s k:=rfl
@[simp ↓] theorem ve_build (t:TypeId) (parts:List (Nat × Operand)):veff P ops st ⟨d,.build t parts.toArray,ty,p,af,none⟩ k=force (tick (parts.map fun p=>st.ev p.2)) fun ss=>vopd st ss fun a l st'=>force (tick (pbuild P t ((parts.map (·.1)).zip a))) fun r=>goS r fun s=>s.kn st'.rs=true∧k ⟨d,s,l,false⟩:=rfl
@[simp ↓] theorem ve_len (t:TypeId) (x:Operand):veff P ops st ⟨d,.call ⟨.builtin .len,#[x],#[t]⟩,ty,p,af,none⟩ k=force (tick (plen P st t (st.ev x))) fun r=>goS r fun s=>goE st d s k:=rfl
@[simp ↓] theorem ve_max (ts:Array TypeId) (x:Operand) (r:List Operand):veff P ops st ⟨d,.call ⟨.builtin .max,⟨x::r⟩,ts⟩,ty,p,af,none⟩ k=force (tick (pmm true (st.ev x) (r.map st.ev))) fun r=>goS r fun s=>goE st d s k:=rfl
@[simp ↓] theorem ve_alloc (t:TypeId):veff P ops st ⟨d,.alloc t,ty,p,af,none⟩ k=veAlloc P d t k:=rfl
@[simp ↓] theorem ve_store (t:TypeId) (x y:Operand):veff P ops st ⟨d,.store t x y,ty,p,af,none⟩ k=force (tick (st.ev x)) fun x=>force (tick (st.ev y)) fun y=>veStore P st t x y k:=rfl
def veApO (r:Option Res) (s B i n y:Nat) (ys:List (List C)) (kl:List (Nat × Res)) (k:Eff→Prop):Prop :=
  match r with
  | some (.arr nil sz xs fx)=>kl.all (fun p=>p.1 != 64*y && p.1 != i)=true∧(i != 64*y)=true∧xs.length=n∧(nil=false→sz=s)∧(∀ e∈ys,e.length=s)∧0<B∧(xs.length+ys.length)*B≤140737488355328 ∧
      k ⟨some y,.own (64*y) (n+ys.length),kl++[(i,dead),(64*y,.arr (nil && ys.isEmpty) s (xs++ys) fx)],true⟩
  | _=>False
@[simp ↓] theorem veApO_arr (nil:Bool) (sz:Nat) (xs:List (List C)) (fx s B i n y:Nat) (ys:List (List C)) (kl:List (Nat × Res)):veApO (some (.arr nil sz xs fx)) s B i n y ys kl k =
  (kl.all (fun p=>p.1 != 64*y && p.1 != i)=true∧(i != 64*y)=true∧xs.length=n∧(nil=false→sz=s)∧(∀ e∈ys,e.length=s)∧0<B∧(xs.length+ys.length)*B≤140737488355328 ∧
      k ⟨some y,.own (64*y) (n+ys.length),kl++[(i,dead),(64*y,.arr (nil && ys.isEmpty) s (xs++ys) fx)],true⟩):=rfl
def veApX (d:S) (o:Option (List (List C) × List (Nat × Res))) (st:St) (s B y:Nat) (k:Eff→Prop):Prop :=
  match o with
  | some (ys,kl) =>
    match d with
    | .c (.sl true [])=>kl.all (fun p=>p.1 != 64*y)=true∧(∀ e∈ys,e.length=s)∧0<B∧ys.length*B≤140737488355328∧k ⟨some y,.own (64*y) ys.length,kl++[(64*y,.arr ys.isEmpty s ys 0)],true⟩
    | .own i n=>veApO (st.rs i) s B i n y ys kl k
    | _=>False
  | none=>False
@[simp ↓] theorem veApX_nil (ys:List (List C)) (kl:List (Nat × Res)) (s B y:Nat):veApX (.c (.sl true [])) (some (ys,kl)) st s B y k =
  (kl.all (fun p=>p.1 != 64*y)=true∧(∀ e∈ys,e.length=s)∧0<B∧ys.length*B≤140737488355328∧k ⟨some y,.own (64*y) ys.length,kl++[(64*y,.arr ys.isEmpty s ys 0)],true⟩):=rfl
@[simp ↓] theorem veApX_own (i n:Nat) (ys:List (List C)) (kl:List (Nat × Res)) (s B y:Nat):veApX (.own i n) (some (ys,kl)) st s B y k=force (tick (st.rs i)) fun r=>veApO r s B i n y ys kl k:=rfl
def veApT (z:Option (Nat × Nat)) (d x:S) (st:St) (y:Nat) (k:Eff→Prop):Prop :=
  match z with
  | some (s,B)=>force (tick (veOpd st x)) fun o=>veApX d o st s B y k
  | none=>False
@[simp ↓] theorem veApT_some (s B:Nat) (d x:S) (y:Nat):veApT (some (s,B)) d x st y k=force (tick (veOpd st x)) fun o=>veApX d o st s B y k:=rfl
def veOpR (r:Option Res) (j m:Nat):Option (List (List C) × List (Nat × Res)) :=
  match r with
  | some (.arr _ _ ys _)=>if ys.length=m then some (ys,[(j,dead)]) else none
  | _=>none
@[simp] theorem veOpR_arr (nil:Bool) (sz:Nat) (ys:List (List C)) (fx j m:Nat):veOpR (some (.arr nil sz ys fx)) j m=if ys.length=m then some (ys,[(j,dead)]) else none:=rfl
@[simp] theorem veOpd_c (nil:Bool) (ys:List (List C)):veOpd st (.c (.sl nil ys))=some (ys,[]):=rfl
@[simp] theorem veOpd_own (j m:Nat):veOpd st (.own j m)=veOpR (st.rs j) j m:=rfl
@[simp ↓] theorem ve_append (t xt:TypeId) (x z:Operand) (y:Nat):veff P ops st ⟨some y,.call ⟨.builtin .append,#[x,z],#[t,xt]⟩,ty,p,af,none⟩ k =
    force (tick (st.ev x)) fun x=>force (tick (st.ev z)) fun z=>force (tick (apT P t xt)) fun q=>veApT q x z st y k:=by
  show veAppend P (some y) st t xt (st.ev x) (st.ev z) k=veApT (apT P t xt) (st.ev x) (st.ev z) st y k
  unfold veAppend apT veApT
  cases slT P t with
  | none=>rfl
  | some q =>
    obtain ⟨s,B⟩:=q
    cases P.underlying xt with
    | none=>rfl
    | some de =>
      cases de with
      | slice e =>
        simp only [force,tick]
        cases veOpd st (st.ev z) with
        | none=>rfl
        | some o=>obtain ⟨ys,kl⟩:=o;rfl
      | _=>rfl
def veBO (out:Option (List C)) (s:Nat) (zc:List C) (len x:Nat) (ss:List S) (k:Eff→Prop):Prop :=
  match out with
  | some out=>ss.all dataS=true∧zc.length=s∧len*s≤16777216∧0<s∧len≤maxLen∧k ⟨some x,.own (64*x) len,[(64*x,.arr false s (chunks s len out) 0)],true⟩
  | none=>False
@[simp ↓] theorem veBO_some (out:List C) (s:Nat) (zc:List C) (len x:Nat) (ss:List S):veBO (some out) s zc len x ss k=(ss.all dataS=true∧zc.length=s∧len*s≤16777216∧0<s∧len≤maxLen∧k ⟨some x,.own (64*x) len,[(64*x,.arr false s (chunks s len out) 0)],true⟩):=rfl
def veBZ (z:Option (Nat × List C)) (len x:Nat) (is:List Nat) (ss:List S) (k:Eff→Prop):Prop :=
  match z with
  | some (s,zc)=>force (tick (pfill (.inr s) (List.replicate len zc).flatten (is.zip ss))) fun out=>veBO out s zc len x ss k
  | none=>False
@[simp ↓] theorem veBZ_some (s:Nat) (zc:List C) (len x:Nat) (is:List Nat) (ss:List S):veBZ (some (s,zc)) len x is ss k=force (tick (pfill (.inr s) (List.replicate len zc).flatten (is.zip ss))) fun out=>veBO out s zc len x ss k:=rfl
@[simp ↓] theorem ve_buildSlice (t:TypeId) (n x:Nat) (parts:List (Nat × Operand)):veff P ops st ⟨some x,.buildSlice t n parts.toArray,ty,p,af,none⟩ k =
    force (tick (parts.map fun q=>st.ev q.2)) fun ss=>force (tick (elZ P t)) fun z=>veBZ z n x (parts.map (·.1)) ss k:=by
  show veBuild P (some x) t n (parts.map fun q=>(q.1,st.ev q.2)) k=veBZ (elZ P t) n x (parts.map (·.1)) (parts.map fun q=>st.ev q.2) k
  have e1:(parts.map fun q=>(q.1,st.ev q.2)).map (·.2)=parts.map fun q=>st.ev q.2:=by simp [Function.comp_def]
  have e2:(parts.map fun q=>(q.1,st.ev q.2)).map (·.1)=parts.map (·.1):=by simp [Function.comp_def]
  unfold veBuild elZ veBZ force tick veBO
  rw [e1,e2]
  cases P.underlying t with
  | none=>rfl
  | some de =>
    cases de with
    | slice e =>
      simp only
      cases tySz P e with
      | none=>rfl
      | some y =>
        obtain ⟨b,s⟩:=y
        cases zeroOf P e with
        | none=>rfl
        | some z =>
          simp only
          cases cellsS (ofConst z) <;> rfl
    | _=>rfl
def veC (P:Program) (st:St) (d:Option Nat) (f:S) (args:List S) (k:Eff→Prop):Prop:=veCall P st d f args k
def isBS:Op→Bool
  | .buildSlice .. => true
  | .call c=>match c.callee with
    | .value _=>true
    | _=>false
  | _=>false
theorem ve_guard (op:Op) (x:Nat) (g:Nat × Bool) (h:isBS op=false):veff P ops st ⟨some x,op,ty,p,af,some g⟩ k=vstep P ops st ⟨some x,op,ty,p,af,some g⟩ fun st'=>force (tick (st'.get x)) fun s=>goE st (some x) s k:=by
  have:∀ o:Oper,isBS o.op=false→veGB P ops st o k=False:=fun o ho=>by
    unfold veGB
    split
    · rename_i e;rw [e] at ho;cases ho
    · rename_i c e
      rw [e] at ho
      split
      · rename_i f hf
        simp only [isBS,hf] at ho
        cases ho
      · rfl
    · rfl
  unfold veff vstep
  simp only [force_eq,tick_eq]
  simp [St.putd,St.get_put,this,h]
@[simp ↓] theorem veg_move (y:Operand) (x:Nat) (g:Nat × Bool):veff P ops st ⟨some x,.move y,ty,p,af,some g⟩ k=vstep P ops st ⟨some x,.move y,ty,p,af,some g⟩ fun st'=>force (tick (st'.get x)) fun s=>goE st (some x) s k:=ve_guard (h:=rfl) ..
@[simp ↓] theorem veg_binOp (o:BinOp) (t yt:TypeId) (y z:Operand) (x:Nat) (g:Nat × Bool):veff P ops st ⟨some x,.binOp o t y z yt,ty,p,af,some g⟩ k=vstep P ops st ⟨some x,.binOp o t y z yt,ty,p,af,some g⟩ fun st'=>force (tick (st'.get x)) fun s=>goE st (some x) s k:=ve_guard (h:=rfl) ..
@[simp ↓] theorem veg_fieldAddr (t:TypeId) (y:Operand) (f:Nat) (x:Nat) (g:Nat × Bool):veff P ops st ⟨some x,.fieldAddr t y f,ty,p,af,some g⟩ k=vstep P ops st ⟨some x,.fieldAddr t y f,ty,p,af,some g⟩ fun st'=>force (tick (st'.get x)) fun s=>goE st (some x) s k:=ve_guard (h:=rfl) ..
@[simp ↓] theorem veg_indexAddr (t:TypeId) (y i:Operand) (x:Nat) (g:Nat × Bool):veff P ops st ⟨some x,.indexAddr t y i,ty,p,af,some g⟩ k=vstep P ops st ⟨some x,.indexAddr t y i,ty,p,af,some g⟩ fun st'=>force (tick (st'.get x)) fun s=>goE st (some x) s k:=ve_guard (h:=rfl) ..
@[simp ↓] theorem veg_load (t:TypeId) (y:Operand) (x:Nat) (g:Nat × Bool):veff P ops st ⟨some x,.load t y,ty,p,af,some g⟩ k=vstep P ops st ⟨some x,.load t y,ty,p,af,some g⟩ fun st'=>force (tick (st'.get x)) fun s=>goE st (some x) s k:=ve_guard (h:=rfl) ..
@[simp ↓] theorem veg_nilCheck (y:Operand) (x:Nat) (g:Nat × Bool):veff P ops st ⟨some x,.nilCheck y,ty,p,af,some g⟩ k=vstep P ops st ⟨some x,.nilCheck y,ty,p,af,some g⟩ fun st'=>force (tick (st'.get x)) fun s=>goE st (some x) s k:=ve_guard (h:=rfl) ..
@[simp ↓] theorem veg_builtin (b:Builtin) (args:Array Operand) (ts:Array TypeId) (x:Nat) (g:Nat × Bool):veff P ops st ⟨some x,.call ⟨.builtin b,args,ts⟩,ty,p,af,some g⟩ k=vstep P ops st ⟨some x,.call ⟨.builtin b,args,ts⟩,ty,p,af,some g⟩ fun st'=>force (tick (st'.get x)) fun s=>goE st (some x) s k:=ve_guard (h:=rfl) ..
def VCE (P:Program) (fid:FuncId) (args:List S) (dst:Option Nat) (k:Eff→Prop) (_:Keep k):Prop:=∃ rs,Con P fid args rs∧k (retEff dst rs)
theorem VCE.mk {fid:FuncId} {args:List S} {dst:Option Nat} {k:Eff→Prop} {m:Keep k} (rs:List Rt) (h:Con P fid args rs) (hk:k (retEff dst rs)):VCE P fid args dst k m:=⟨rs,h,hk⟩
@[simp ↓] theorem veC_fn (fid:FuncId) (caps:List C) (args:List S):veC P st d (.c (.fn fid caps)) args k=vopd st args fun args l st'=>(frozenDs st' args).2∧VCE P fid (tick ((frozenDs st' args).1++caps.map .c)) d (fun e=>k (addE l e)) .mk:=by
  unfold veC veCall
  refine congrArg _ (funext fun args=>funext fun l=>funext fun st'=>?_)
  simp only [VCE,pcall,tick]
  apply propext
  constructor
  · rintro ⟨rs,⟨h1,h2⟩,h3⟩;exact ⟨h1,rs,h2,h3⟩
  · rintro ⟨h1,rs,h2,h3⟩;exact ⟨rs,⟨h1,h2⟩,h3⟩
@[simp ↓] theorem vopd_nil (kk:List S→List (Nat × Res)→St→Prop):vopd st [] kk=kk [] [] st:=rfl
@[simp ↓] theorem vopd_c (x:C) (r:List S) (kk:List S→List (Nat × Res)→St→Prop):vopd st (.c x::r) kk=vopd st r fun a l st'=>kk (.c x::a) l st':=rfl
@[simp ↓] theorem vopd_agg (x:List C) (r:List S) (kk:List S→List (Nat × Res)→St→Prop):vopd st (.agg x::r) kk=vopd st r fun a l st'=>kk (.agg x::a) l st':=rfl
def vopdO (q:Option Res) (st:St) (j m:Nat) (r:List S) (kk:List S→List (Nat × Res)→St→Prop):Prop :=
  match q with
  | some (.arr nil _ ys _)=>ys.length=m∧vopd (st.setR j (some dead)) r fun a l st'=>kk (.c (.sl nil ys)::a) ((j,dead)::l) st'
  | _=>False
@[simp ↓] theorem vopdO_arr (nil:Bool) (sz:Nat) (ys:List (List C)) (fx j m:Nat) (r:List S) (kk:List S→List (Nat × Res)→St→Prop):vopdO (some (.arr nil sz ys fx)) st j m r kk =
  (ys.length=m∧force (tick (st.setR j (some dead))) fun st2=>vopd st2 r fun a l st'=>kk (.c (.sl nil ys)::a) ((j,dead)::l) st'):=rfl
@[simp ↓] theorem vopd_own (j m:Nat) (r:List S) (kk:List S→List (Nat × Res)→St→Prop):vopd st (.own j m::r) kk=force (tick (st.rs j)) fun q=>vopdO q st j m r kk:=rfl
@[simp] theorem addE_mk (l:List (Nat × Res)) (d:Option Nat) (s:S) (rs:List (Nat × Res)) (fr:Bool):addE l ⟨d,s,rs,fr⟩=⟨d,s,l++rs,fr⟩:=rfl
@[simp ↓] theorem ve_call (f:Operand) (args:List Operand) (ts:Array TypeId):veff P ops st ⟨d,.call ⟨.value f,args.toArray,ts⟩,ty,p,af,none⟩ k=force (tick (st.ev f)) fun f=>force (tick (args.map st.ev)) fun args=>veC P st d f args k:=rfl
end
@[simp] theorem app_eq (st:St) (d:Option Nat) (s:S) (rs:List (Nat × Res)) (fr:Bool):st.app ⟨d,s,rs,fr⟩=(st.setRs rs).putd d s:=rfl
@[simp] theorem setRs_nil (st:St):st.setRs []=st:=rfl
@[simp] theorem setRs_cons (st:St) (p:Nat × Res) (l:List (Nat × Res)):st.setRs (p::l)=(st.setR p.1 (some p.2)).setRs l:=rfl
@[simp] theorem restr_mk (env:List (Nat × S)) (res:List (Nat × Option Res)) (rd:List Nat):restr ⟨env,res⟩ rd=⟨env,rss ⟨env,res⟩ rd⟩:=rfl
attribute [simp] rdOf evs inners inner rss S.nm S.nms S.kn S.kns chk pairB freshB Eff.mods Eff.news news Res.isPin dead Eff.men Res.men St.cleanB cleanE cleanR tb retEff rt1 rtsE znE veAlloc veStore dataS Op.operands Call.operands
inductive FK where
  | i
  | b
  | s
def fkOf (P:Program) (t:TypeId):Option FK :=
  match P.underlying t with
  | some (.int _)=>some .i
  | some .bool=>some .b
  | some .string=>some .s
  | _=>none
def eqFs (P:Program):Nat→List Field→Option (List FK)
  | _,[]=>some []
  | o,f::r=>if f.name != "_" && f.offset == o then
      match fkOf P f.type,eqFs P (o+1) r with
      | some k,some ks=>some (k::ks)
      | _,_=>none
    else none
def eqT (P:Program) (t:TypeId):Option (List FK) :=
  match P.underlying t with
  | some (.struct fs)=>if P.stoodInHeld t || P.eqGuardType P.depth t then none else eqFs P 0 fs.toList
  | _=>none
def fitK:List FK→List C→List C→Bool
  | [],[],[]=>true
  | .i::r,.v (.int k _)::cs,.v (.int k' _)::ds=>decide (k=k') && fitK r cs ds
  | .b::r,.v (.bool _)::cs,.v (.bool _)::ds=>fitK r cs ds
  | .s::r,.v (.string _)::cs,.v (.string _)::ds=>fitK r cs ds
  | _,_,_=>false
@[simp] theorem fitK_nil:fitK [] [] []=true:=rfl
@[simp] theorem fitK_i (r:List FK) (k k':IntKind) (a b:Int) (cs ds:List C):fitK (.i::r) (.v (.int k a)::cs) (.v (.int k' b)::ds)=(decide (k=k') && fitK r cs ds):=rfl
@[simp] theorem fitK_b (r:List FK) (a b:Bool) (cs ds:List C):fitK (.b::r) (.v (.bool a)::cs) (.v (.bool b)::ds)=fitK r cs ds:=rfl
@[simp] theorem fitK_s (r:List FK) (a b:ByteArray) (cs ds:List C):fitK (.s::r) (.v (.string a)::cs) (.v (.string b)::ds)=fitK r cs ds:=rfl
@[simp] theorem eqC_int (k k':IntKind) (a b:Int):eqC (.v (.int k a)) (.v (.int k' b))=(a == b):=rfl
@[simp] theorem eqC_bool (a b:Bool):eqC (.v (.bool a)) (.v (.bool b))=(a == b):=rfl
@[simp] theorem eqC_string (a b:ByteArray):eqC (.v (.string a)) (.v (.string b))=decide (a=b):=rfl
@[simp] theorem eqCs_nil:eqCs [] []=true:=rfl
@[simp] theorem eqCs_cons (a b:C) (r s:List C):eqCs (a::r) (b::s)=(eqC a b && eqCs r s):=rfl
theorem fitK_inv {k:FK} {ks:List FK} {cs ds:List C} (h:fitK (k::ks) cs ds=true):∃ u v cs' ds',cs=C.v u::cs'∧ds=C.v v::ds'∧fitK ks cs' ds'=true ∧
    ((k = .i∧∃ q a b,u = .int q a∧v = .int q b)∨(k = .b∧∃ a b,u = .bool a∧v = .bool b)∨(k = .s∧∃ a b,u = .string a∧v = .string b)):=by
  unfold fitK at h
  split at h
  · cases ‹k::ks=_›
  · cases ‹k::ks=_›
    simp only [Bool.and_eq_true,decide_eq_true_eq] at h
    obtain ⟨rfl,h⟩:=h
    exact ⟨_,_,_,_,rfl,rfl,h,.inl ⟨rfl,_,_,_,rfl,rfl⟩⟩
  · cases ‹k::ks=_›;exact ⟨_,_,_,_,rfl,rfl,h,.inr (.inl ⟨rfl,_,_,rfl,rfl⟩)⟩
  · cases ‹k::ks=_›;exact ⟨_,_,_,_,rfl,rfl,h,.inr (.inr ⟨rfl,_,_,rfl,rfl⟩)⟩
  · cases h
theorem eqFs_ok {P:Program} (w:World) (d:Nat):∀ (fs:List Field) (ks:List FK) (cs ds:List C) (o:Nat) (xs ys:Array Value) (us vs:List Value),eqFs P o fs=some ks→fitK ks cs ds=true →
    cs=us.map C.v→ds=vs.map C.v→xs.toList.drop o=us→ys.toList.drop o=vs→(Op.eqFields (d+1) xs ys fs).run P w = .ok (eqCs cs ds) w
  | [],ks,cs,ds,o,xs,ys,us,vs,h,hf,hc,hd,hx,hy=>by
    simp only [eqFs,Option.some.injEq] at h
    subst h
    unfold fitK at hf
    split at hf <;> simp_all [Op.eqFields]
  | f::r,ks,cs,ds,o,xs,ys,us,vs,h,hf,hc,hd,hx,hy=>by
    unfold eqFs at h
    split at h
    · rename_i hn
      simp only [Bool.and_eq_true,bne_iff_ne,ne_eq,beq_iff_eq] at hn
      split at h
      · rename_i k ks' hk hks
        cases h
        have step:∀ (u v:Value) (us' vs':List Value) (cs' ds':List C),us=u::us'→vs=v::vs'→cs'=us'.map C.v→ds'=vs'.map C.v→fitK ks' cs' ds'=true→P.plainKey f.type=true→∀ q:Bool,(Op.equalIn (d+1) f.type u v).run P w = .ok q w →
            (Op.eqFields (d+1) xs ys (f::r)).run P w = .ok (q && eqCs cs' ds') w:=by
          intro u v us' vs' cs' ds' e1 e2 e3 e4 hf' hp q hq
          have gx:xs[f.offset]? = some u:=by
            rw [hn.2,← Array.getElem?_toList,← Nat.add_zero o,← List.getElem?_drop,hx,e1];rfl
          have gy:ys[f.offset]? = some v:=by
            rw [hn.2,← Array.getElem?_toList,← Nat.add_zero o,← List.getElem?_drop,hy,e2];rfl
          have ih:=eqFs_ok w d r ks' cs' ds' (o+1) xs ys us' vs' hks hf' e3 e4 (by rw [← List.drop_drop,hx,e1];rfl) (by rw [← List.drop_drop,hy,e2];rfl)
          simp only [Op.eqFields,hn.1,ne_eq,not_false_eq_true,if_true,Sem.run_bind,run_part_plain w hp gx,run_part_plain w hp gy,hq,Result.andThen_ok]
          cases q
          · simp
          · simpa using ih
        obtain ⟨u,v,cs',ds',rfl,rfl,h',hkk⟩:=fitK_inv hf
        cases us with
        | nil=>cases hc
        | cons u' us' =>
          cases vs with
          | nil=>cases hd
          | cons v' vs' =>
            simp only [List.map_cons,List.cons.injEq,C.v.injEq] at hc hd
            obtain ⟨rfl,hc⟩:=hc
            obtain ⟨rfl,hd⟩:=hd
            rw [eqCs_cons]
            unfold fkOf at hk
            rcases hkk with ⟨rfl,q,a,b,rfl,rfl⟩ | ⟨rfl,a,b,rfl,rfl⟩ | ⟨rfl,a,b,rfl,rfl⟩
            · split at hk <;> cases hk
              rename_i q' hu
              exact step _ _ us' vs' _ _ rfl rfl hc hd h' (by simp [Program.plainKey,hu]) _ (run_equalIn_int w d _ _ _ _ _ hu)
            · split at hk <;> cases hk
              rename_i hu
              exact step _ _ us' vs' _ _ rfl rfl hc hd h' (by simp [Program.plainKey,hu]) _ (run_equalIn_bool w d _ _ _ hu)
            · split at hk <;> cases hk
              rename_i hu
              refine step _ _ us' vs' _ _ rfl rfl hc hd h' (by simp [Program.plainKey,hu]) _ ?_
              rw [run_equalIn_string w d _ _ _ hu,toList_beq]
              rfl
      · cases h
    · cases h
def aggOk (o:Option (List FK)) (cs ds:List C):Bool :=
  match o with
  | some ks=>fitK ks cs ds
  | none=>false
@[simp] theorem aggOk_some (ks:List FK) (cs ds:List C):aggOk (some ks) cs ds=fitK ks cs ds:=rfl
theorem fitK_v:∀ (ks:List FK) (cs ds:List C),fitK ks cs ds=true→∃ us vs:List Value,cs=us.map C.v∧ds=vs.map C.v:=by
  intro ks
  induction ks with
  | nil =>
    intro cs ds h
    unfold fitK at h
    split at h
    · exact ⟨[],[],rfl,rfl⟩
    · cases ‹([]:List FK)=_›
    · cases ‹([]:List FK)=_›
    · cases ‹([]:List FK)=_›
    · cases h
  | cons k ks ih =>
    intro cs ds h
    obtain ⟨u,v,cs',ds',rfl,rfl,h',_⟩:=fitK_inv h
    obtain ⟨us,vs,rfl,rfl⟩:=ih cs' ds' h'
    exact ⟨u::us,v::vs,rfl,rfl⟩
theorem aggEq_ok {P:Program} {t:TypeId} {cs ds:List C} (h:aggOk (eqT P t) cs ds=true):AggEq P t cs ds:=by
  unfold aggOk at h
  split at h
  · rename_i ks hks
    obtain ⟨us,vs,e1,e2⟩:=fitK_v ks cs ds h
    refine ⟨us,vs,e1,e2,fun w x y=>?_⟩
    unfold eqT at hks
    split at hks
    · rename_i fs hu
      split at hks
      · cases hks
      · rename_i hg
        simp only [Bool.or_eq_true,not_or,Bool.not_eq_true] at hg
        have hfs:P.fieldsOf t=fs:=by simp [Program.fieldsOf,hu]
        have main:(Op.equal t (.agg us.toArray) (.agg vs.toArray)).run P w = .ok (eqCs cs ds) w:=by
          show (Op.equalIn (9999+1) t (.agg us.toArray) (.agg vs.toArray)).run P w=_
          rw [run_equalIn_struct w 9999 t _ _ (by rw [hfs];exact hu) hg.1,hfs]
          exact eqFs_ok w 9998 fs.toList ks cs ds 0 us.toArray vs.toArray us vs hks h e1 e2 rfl rfl
        have b1:(binOp .eql t (.agg us.toArray) (.agg vs.toArray))=(do pure (.bool (← Op.equal t (.agg us.toArray) (.agg vs.toArray))):Sem Value):=rfl
        have b2:(binOp .neq t (.agg us.toArray) (.agg vs.toArray))=(do pure (.bool (!(← Op.equal t (.agg us.toArray) (.agg vs.toArray)))):Sem Value):=rfl
        constructor
        · rw [b1]
          simp [eqGuard,Sem.run_bind,run_program,hg.2,main]
        · rw [b2]
          simp [eqGuard,Sem.run_bind,run_program,hg.2,main]
    · cases hks
  · cases h
@[simp] theorem aggEq_simp {P:Program} {t:TypeId} {cs ds:List C} (h:aggOk (eqT P t) cs ds=true):AggEq P t cs ds↔True:=⟨fun _=>trivial,fun _=>aggEq_ok h⟩
def pinsOf (B0:Nat) (uf:Nat→Value):Nat→List S→List (Nat × Option Res)
  | _,[]=>[]
  | k,s::r=>(B0+k,some (.pin (uf k) s))::pinsOf B0 uf (k+1) r
def initB (B0:Nat) (args:List S) (b:List (Nat × Res)) (uf:Nat→Value):St:=⟨initEnv 0 args,(b.map fun p=>(p.1,some p.2))++pinsOf B0 uf 0 args⟩
def pinsEnd (B0:Nat) (st:St) (uf:Nat→Value):Nat→List S→Prop
  | _,[]=>True
  | k,s::r=>st.rs (B0+k)=some (.pin (uf k) s)∧pinsEnd B0 st uf (k+1) r
def resEnd (st:St):List (Nat × Res)→Prop
  | []=>True
  | p::r=>st.rs p.1=some p.2∧resEnd st r
def retQB (B0:Nat) (P:Program) (fn:Func) (rs as1:List S) (b':List (Nat × Res)) (uf:Nat→Value):Exit→St→Prop
  | .normal,st=>rvs P st fn.results.toList fun ss st'=>ss=rs∧resEnd st' b'∧pinsEnd B0 st' uf 0 as1
  | .ret,st=>rvs P st fn.results.toList fun ss st'=>ss=rs∧resEnd st' b'∧pinsEnd B0 st' uf 0 as1
  | _,_=>False
theorem look_pins (B0:Nat) (uf:Nat→Value):∀ (l:List S) (k i:Nat) ,vlook none (pinsOf B0 uf k l) i=if h:B0+k≤i∧i<B0+k+l.length then some (.pin (uf (i-B0)) (l[i-B0-k]'(by omega))) else none
  | [],k,i=>by simp [pinsOf]
  | s::r,k,i=>by
    rw [pinsOf,vlook,look_pins B0 uf r (k+1) i]
    by_cases h:B0+k=i
    · subst h
      simp
    · have h':(B0+k == i)=false:=by simpa using h
      rw [h',cond_false]
      by_cases h2:B0+(k+1)≤i∧i<B0+(k+1)+r.length
      · rw [dif_pos h2,dif_pos (by simp only [List.length_cons];omega)]
        congr 2
        have:i-B0-k=(i-B0-(k+1))+1:=by omega
        simp only [this,List.getElem_cons_succ]
      · rw [dif_neg h2,dif_neg (by simp only [List.length_cons];omega)]
theorem look_lk (b:List (Nat × Res)) (l:List (Nat × Option Res)) (i:Nat):vlook none ((b.map fun p=>(p.1,some p.2))++l) i=if (lk b i).isSome then lk b i else vlook none l i:=by
  induction b with
  | nil=>simp [lk]
  | cons p b ih =>
    unfold lk at ih ⊢
    simp only [List.map_cons,List.cons_append,vlook]
    cases p.1 == i with
    | true=>simp
    | false=>simpa using ih
theorem lk_lt {B0:Nat} {b:List (Nat × Res)} (h:∀ p∈b,p.1<B0) {i:Nat} {r:Res} (hi:lk b i=some r):i<B0:=h _ (lk_mem hi)
theorem rs_initB (B0:Nat) (args:List S) (b:List (Nat × Res)) (uf:Nat→Value) (hb:∀ p∈b,p.1<B0) (i:Nat):(initB B0 args b uf).rs i=if i<B0 then lk b i else (args[i-B0]?).map fun s=>.pin (uf (i-B0)) s:=by
  unfold St.rs initB
  rw [look_lk,look_pins]
  by_cases hi:i<B0
  · rw [if_pos hi]
    cases h:lk b i with
    | none=>rw [if_neg (by simp),dif_neg (by omega)]
    | some r=>rw [if_pos (by simp)]
  · rw [if_neg hi]
    have:lk b i=none:=by
      cases h:lk b i with
      | none=>rfl
      | some r=>exact absurd (lk_lt hb h) hi
    rw [this,if_neg (by simp)]
    by_cases h2:i-B0<args.length
    · rw [dif_pos (by omega),List.getElem?_eq_getElem h2];rfl
    · rw [dif_neg (by omega),List.getElem?_eq_none (by omega)];rfl
theorem resEnd_ok {st:St} : ∀ {b:List (Nat × Res)},resEnd st b→∀ i r,lk b i=some r→st.rs i=some r
  | [],_,i,r,h=>by simp [lk] at h
  | p::b,h,i,r,hi=>by
    obtain ⟨h1,h2⟩:=h
    unfold lk at hi
    simp only [List.map_cons,vlook] at hi
    cases hk:p.1 == i with
    | true=>rw [hk] at hi;simp at hi hk;subst hk;subst hi;exact h1
    | false=>rw [hk] at hi;exact resEnd_ok h2 i r hi
theorem pinsEnd_ok {B0:Nat} {st:St} {uf:Nat→Value} : ∀ {l:List S} {k:Nat},pinsEnd B0 st uf k l→∀ j s,l[j]? = some s→st.rs (B0+(k+j))=some (.pin (uf (k+j)) s)
  | [],_,_,j,s,h=>by simp at h
  | x::l,k,h,j,s,hj=>by
    obtain ⟨h1,h2⟩:=h
    cases j with
    | zero=>simp at hj;subst hj;exact h1
    | succ j=>have:=pinsEnd_ok h2 j s (by simpa using hj);rw [show k+(j+1)=k+1+j by omega];exact this
section
variable {P:Program}
theorem spec_ofB (B0:Nat) {f:FuncId} {fn:Func} {c:Code} {args rs as1:List S} {b b':List (Nat × Res)} (hf:P.funcs[f]? = some fn) (hb:fn.body=some c) (hc:callable P f=true) (hn:args.length≤fn.ntmps) (hbn:∀ p∈b,p.1<B0) (hlen:as1.length=args.length)
    (hv:∀ w0 K0 uf,VW P w0 K0 fn.ntmps c (initB B0 args b uf) (retQB B0 P fn rs as1 b' uf)):ConB P f args b rs as1 b':=by
  refine ⟨hc,fun w g us hM hargs=>?_⟩
  obtain ⟨hl,hs⟩:=(SRs_iff _ _).1 hargs
  let uf:Nat→Value:=fun k=>us.getD k undef
  let g1:G:=⟨g.K,fun i=>if i<B0 then g.loc i else undef⟩
  have hcmp:∀ j,Cmp g (lk b) g1 (initB B0 args b uf).rs j:=by
    intro j
    rw [show Cmp g (lk b) g1 (initB B0 args b uf).rs j=Cmp g (lk b) g1 (initB B0 args b uf).rs j from rfl]
    by_cases hj:j<B0
    · have e:=rs_initB B0 args b uf hbn j
      rw [if_pos hj] at e
      exact Cmp.same e (by show (if j<B0 then g.loc j else undef)=_;rw [if_pos hj])
    · have e:=rs_initB B0 args b uf hbn j
      rw [if_neg hj] at e
      refine ⟨fun fz ss q=>?_,fun nil sz xs fx q=>?_,fun kvs q=>?_⟩
      · rw [e] at q;cases h:args[j-B0]? <;> rw [h] at q <;> simp at q
      · rw [e] at q;cases h:args[j-B0]? <;> rw [h] at q <;> simp at q
      · rw [e] at q;cases h:args[j-B0]? <;> rw [h] at q <;> simp at q
  have hk:Keeps g.K w g1.K w:=Keeps.refl _ _
  have hT:T w ⟨g.K,lent g b,[]⟩ fn.ntmps (initB B0 args b uf) { tmps:=us.toArray++Array.replicate (fn.ntmps-us.toArray.size) undef,defers:=[] } w g1:=by
    refine ⟨hM.below,hM.k0,hM.kold,hM.klt,fun i r hi=>?_,fun i j ri rj hi hj hne k h1 h2=>?_,fun t=>?_,(by simp;omega),rfl,hM.keep⟩
    · have e:=rs_initB B0 args b uf hbn i
      by_cases hi2:i<B0
      · rw [if_pos hi2] at e
        rw [e] at hi
        exact RR.mono' hk (by show (if i<B0 then g.loc i else undef)=_;rw [if_pos hi2]) (fun _ _=>⟨rfl,fun _ k=>k⟩) (fun j _=>hcmp j) (hM.res i r hi)
      · rw [if_neg hi2] at e
        rw [e] at hi
        simp only [Option.map_eq_some_iff] at hi
        obtain ⟨s,h1,rfl⟩:=hi
        refine ⟨by show (if i<B0 then g.loc i else undef)=_;rw [if_neg hi2],?_⟩
        have hlt:=(List.getElem?_eq_some_iff.1 h1).1
        refine SR.mono hk s _ (fun j _=>hcmp j) (hs _ s _ h1 ?_)
        simp only [uf,List.getD_eq_getElem?_getD]
        rw [List.getElem?_eq_getElem (by omega)];rfl
    · have low:∀ n r,(initB B0 args b uf).rs n=some r→∀ k,blk (g1.loc n)=some k→n<B0∧lk b n=some r∧blk (g.loc n)=some k:=by
        intro n r hn' k hk'
        by_cases hlt:n<B0
        · rw [rs_initB B0 args b uf hbn,if_pos hlt] at hn'
          refine ⟨hlt,hn',?_⟩
          rw [show g1.loc n=(if n<B0 then g.loc n else undef) from rfl,if_pos hlt] at hk'
          exact hk'
        · rw [show g1.loc n=(if n<B0 then g.loc n else undef) from rfl,if_neg hlt] at hk'
          cases hk'
      obtain ⟨_,a1,a2⟩:=low i ri hi k h1
      obtain ⟨_,a3,a4⟩:=low j rj hj k h2
      exact hM.dis i j ri rj a1 a3 hne k a2 a4
    · have hg:(initB B0 args b uf).get t=(args[t]?).getD .un:=by
        unfold St.get initB
        rw [vlook_init];simp
      rw [hg]
      cases e:args[t]? with
      | none=>simp [SR]
      | some s =>
        have hlt:=(List.getElem?_eq_some_iff.1 e).1
        refine SR.mono hk s _ (fun j _=>hcmp j) (hs t s _ e ?_)
        simp [Array.getD,hl,hlt]
        omega
  refine calls_of_wp hf hb (wp_mono (hv w _ uf _ w _ hT) fun e a' w' ⟨st',g',h1,h2⟩=>?_)
  have fin:(rvs P st' fn.results.toList fun ss st'=>ss=rs∧resEnd st' b'∧pinsEnd B0 st' uf 0 as1)→a'.defers=[]∧∃ v,(results fn a'.tmps).run P w' = .ok v w' ∧
      ∃ (vs:List Value) (g':G),(Ending.returned v) = .returned (retV vs)∧M w ⟨g.K,lent g b,[]⟩ (lk b') w' g'∧SRs g' w' (lk b') rs vs∧SRs g' w' (lk b') as1 us:=by
    intro hr
    obtain ⟨vs,ss,st'',g'',e1,⟨rfl,e2,e2'⟩,e3,e4,e5⟩:=rvs_ok _ st' g' _ h2 hr
    have hdown:∀ j,Cmp g'' st''.rs g'' (lk b') j:=fun j=>⟨fun fz ss q=>⟨⟨fz,ss,resEnd_ok e2 j _ q⟩,rfl⟩,fun nil sz xs fx q=>⟨⟨nil,xs,fx,resEnd_ok e2 j _ q,rfl⟩,rfl⟩,fun kvs q=>⟨⟨kvs,resEnd_ok e2 j _ q,rfl⟩,rfl⟩⟩
    have hM':M w ⟨g.K,lent g b,[]⟩ (lk b') w' g'':=by
      refine ⟨e3.below,e3.k0,e3.kold,e3.klt,fun i r hi=>?_,fun i j ri rj hi hj=>e3.dis i j ri rj (resEnd_ok e2 i _ hi) (resEnd_ok e2 j _ hj),e3.keep⟩
      exact RR.mono' (Keeps.refl _ _) rfl (fun _ _=>⟨rfl,fun _ k=>k⟩) (fun j _=>hdown j) (e3.res i r (resEnd_ok e2 i r hi))
    have has:SRs g'' w' (lk b') as1 us:=by
      rw [SRs_iff]
      refine ⟨by omega,fun k s u q1 q2=>?_⟩
      have h3:=e3.res _ _ (pinsEnd_ok e2' k s q1)
      have h4:=h3.2
      have:uf (0+k)=u:=by simp [uf,q2]
      rw [this] at h4
      exact SR.mono (Keeps.refl _ _) s u (fun j _=>hdown j) h4
    refine ⟨h2.defers,retV vs,?_,vs,g'',rfl,hM',SRs.mono (Keeps.refl _ _) _ _ (fun j _=>hdown j) e4,has⟩
    have hres:results fn a'.tmps=(do let vs ← fn.results.mapM (resOf a'.tmps);pure (if h:vs.size=1 then vs[0] else .tuple vs)):=by
      unfold results
      congr 1
    have hm:(fn.results.mapM (resOf a'.tmps)).run P w' = .ok vs.toArray w':=by
      rw [← Array.toArray_toList (xs:=fn.results),List.mapM_toArray]
      simp only [Sem.run_map,e1,Result.andThen_ok]
    rw [hres,Sem.run_bind,hm,Result.andThen_ok,Sem.run_pure]
    congr 1
    cases vs with
    | nil=>rfl
    | cons v r=>cases r with
      | nil=>rfl
      | cons _ _=>simp [retV]
  cases e with
  | normal=>exact fin h1
  | ret=>exact fin h1
  | _=>exact h1.elim
end
@[simp] theorem initB_eq (B0:Nat) (args:List S) (b:List (Nat × Res)) (uf:Nat→Value):initB B0 args b uf=⟨initEnv 0 args,(b.map fun p=>(p.1,some p.2))++pinsOf B0 uf 0 args⟩:=rfl
attribute [simp] pinsOf pinsEnd resEnd retQB
abbrev i64 (n:Int):C:=.v (.int .i64 n)
abbrev u64 (n:Int):C:=.v (.int .u64 n)
abbrev bln (b:Bool):C:=.v (.bool b)
abbrev str (l:List UInt8):C:=.v (.string ⟨l.toArray⟩)
@[simp] theorem size_str (l:List UInt8):(ByteArray.mk l.toArray).size=l.length:=rfl
@[simp] theorem str_beq (a b:List UInt8):((ByteArray.mk a.toArray) == (ByteArray.mk b.toArray))=(a == b):=by
  show (a.toArray == b.toArray)=(a == b)
  simp
def u8c (b:UInt8):List C:=[.v (.int .u8 b.toNat)]
@[simp] theorem len_u8c (b:UInt8):(u8c b).length=1:=rfl
theorem bytesOf_map (l:List UInt8):bytesOf (l.map u8c)=some l:=by
  induction l with
  | nil=>rfl
  | cons b l ih =>
    have hb:(b.toNat:Int)<256:=by have:=b.toNat_lt;omega
    simp [bytesOf,ih,u8c,byteOf,hb]
def idxI {α:Type} (p:α→Bool) (l:List α):Int :=
  match l.findIdx? p with
  | some i=>i
  | none=>-1
theorem idxI_at {α:Type} {p:α→Bool} {l:List α} {k:Nat} (hk:k<l.length) (hp:p l[k]=true) (hb:∀ j,(hj:j<k)→p (l[j]'(by omega))=false):idxI p l=k:=by
  unfold idxI
  have:l.findIdx? p=some k:=by
    rw [List.findIdx?_eq_some_iff_getElem]
    exact ⟨hk,hp,fun j hj=>by simp [hb j hj]⟩
  rw [this]
theorem idxI_none {α:Type} {p:α→Bool} {l:List α} (h:∀ j,(hj:j<l.length)→p l[j]=false):idxI p l = -1:=by
  unfold idxI
  have:l.findIdx? p=none:=by
    rw [List.findIdx?_eq_none_iff]
    intro x hx
    obtain ⟨j,hj,rfl⟩:=List.mem_iff_getElem.1 hx
    simp [h j hj]
  rw [this]
end Go.VL
