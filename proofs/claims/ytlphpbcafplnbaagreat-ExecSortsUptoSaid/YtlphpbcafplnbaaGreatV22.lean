/- Contracts of functions of the seat, proved in a logic on data over the model (part V22). -/
import Derived.Test.YtlphpbcafplnbaaGreatV20
import Derived.Laws.StructEq
import Derived.ChangeKeysEq
set_option linter.unusedSimpArgs false
set_option linter.unusedVariables false
namespace Go.VL
open Go.RowKit
section
variable {P:Program} {w0:World} {K0:K0T} {nt:Nat}
theorem VL.draw {id:Nat} {l:List Oper} {st:St} {Q:Exit→St→Prop} (hm:P.follows .mixedOrders=true) (pl:List (Nat × Bool)) (hS:(staticB nt l.toArray (pmask pl) (pbar pl) && pl.length == l.toArray.size)=true)
    (hv:vd P l.toArray l pl 0 st [] st (Q .normal)):VL P w0 K0 nt (.region id l.toArray true) st Q .mk .mk :=
  vw_draw hm pl hS hv
theorem T.re {st:St} {a:Act} {w:World} {g:G} {t:Nat} {s:S} (h:T w0 K0 nt st a w g) (hs:SR g w st.rs s (a.tmps.getD t undef)):T w0 K0 nt (st.put t s) a w g:=by
  refine ⟨h.below,h.k0,h.kold,h.klt,h.res,h.dis,fun t'=>?_,h.nt,h.defers,h.keep⟩
  rw [St.get_put]
  by_cases e:t=t'
  · subst e;rw [if_pos rfl];exact hs
  · rw [if_neg e];exact h.env t'
theorem VL.snap {c:Code} {st:St} {Q:Exit→St→Prop} (t:Nat) (h:force (tick (st.get t)) fun s=>vsnap st s fun s' st'=>force (tick (st'.put t s')) fun st'=>VL P w0 K0 nt c st' Q .mk .mk):VL P w0 K0 nt c st Q .mk .mk:=by
  intro a w g hT
  have h':vsnap st (st.get t) fun s' st'=>VL P w0 K0 nt c (st'.put t s') Q .mk .mk:=h
  obtain ⟨s',st',g',k1,k2,k3,_⟩:=vsnap_ok hT (hT.env t) h'
  exact k1 a w g' (k2.re k3)
@[simp ↓] theorem vd_nil (ops:Array Oper) (pl:List (Nat × Bool)) (j:Nat) (st0:St) (l:List Rec) (cur:St) (K:St→Prop):vd P ops [] pl j st0 l cur K=force (tick cur) K:=by rw [vd];rfl
@[simp ↓] theorem vd_bar (ops:Array Oper) (o:Oper) (r:List Oper) (m:Nat) (pl:List (Nat × Bool)) (j:Nat) (st0:St) (l:List Rec) (cur:St) (K:St→Prop) :
    vd P ops (o::r) ((m,true)::pl) j st0 l cur K=force (tick cur) fun cur=>vstepL P ops cur o fun st'=>force (tick st') fun st'=>vd P ops r pl (j+1) st' [] st' K:=by rw [vd];rfl
def vdm (P:Program) (ops:Array Oper) (q:Option Operand) (o:Oper) (r:List Oper) (m:Nat) (pl:List (Nat × Bool)) (j:Nat) (st0:St) (l:List Rec) (cur:St) (K:St→Prop):Prop :=
  match q with
  | some x=>force (tick (cur.ev x)) fun s=>chk m st0 l ⟨o.dst,s,[],false⟩ []=true∧force (tick (l++[⟨j,⟨o.dst,s,[],false⟩,[]⟩])) fun l=>vd P ops r pl (j+1) st0 l (cur.app ⟨o.dst,s,[],false⟩) K
  | none=>force (tick (rdOf cur o)) fun rd=>force (tick (restr cur rd)) fun sR=>veff P ops sR o fun e=>force (tick e) fun e=>chk m st0 l e rd=true∧force (tick (l++[⟨j,e,rd⟩])) fun l=>vd P ops r pl (j+1) st0 l (cur.app e) K
section
variable (ops:Array Oper) (o:Oper) (r:List Oper) (m:Nat) (pl:List (Nat × Bool)) (j:Nat) (st0:St) (l:List Rec) (cur:St) (K:St→Prop)
@[simp ↓] theorem vdm_some (x:Operand):vdm P ops (some x) o r m pl j st0 l cur K=force (tick (cur.ev x)) fun s=>chk m st0 l ⟨o.dst,s,[],false⟩ []=true∧force (tick (l++[⟨j,⟨o.dst,s,[],false⟩,[]⟩])) fun l=>vd P ops r pl (j+1) st0 l (cur.app ⟨o.dst,s,[],false⟩) K:=rfl
@[simp ↓] theorem vdm_none:vdm P ops none o r m pl j st0 l cur K=force (tick (rdOf cur o)) fun rd=>force (tick (restr cur rd)) fun sR=>veff P ops sR o fun e=>force (tick e) fun e=>chk m st0 l e rd=true∧force (tick (l++[⟨j,e,rd⟩])) fun l=>vd P ops r pl (j+1) st0 l (cur.app e) K:=rfl
@[simp ↓] theorem vd_op:vd P ops (o::r) ((m,false)::pl) j st0 l cur K=force (tick cur) fun cur=>force (tick (isMv o)) fun q=>vdm P ops q o r m pl j st0 l cur K:=by
  rw [vd];simp only [cond_false];rfl
end
variable (ops:Array Oper) (st:St) (d:Option Nat) (ty:TypeId) (p:String) (af:Array Edge) (k:Eff→Prop)
def goE (st:St) (d:Option Nat) (s:S) (k:Eff→Prop):Prop:=s.kn st.rs=true∧k ⟨d,s,[],false⟩
@[simp ↓] theorem goE_eq (s:S):goE st d s k=(s.kn st.rs=true∧k ⟨d,s,[],false⟩):=rfl
@[simp ↓] theorem ve_move (x:Operand):veff P ops st ⟨d,.move x,ty,p,af,none⟩ k=force (tick (st.ev x)) fun s=>goE st d s k:=by rw [force_eq,tick_eq];simp [veff,vePure,pev]
@[simp ↓] theorem ve_assign (x:Operand):veff P ops st ⟨d,.assign x,ty,p,af,none⟩ k=force (tick (st.ev x)) fun s=>goE st d s k:=by rw [force_eq,tick_eq];simp [veff,vePure,pev]
@[simp ↓] theorem ve_binOp (o:BinOp) (t yt:TypeId) (x y:Operand):veff P ops st ⟨d,.binOp o t x y yt,ty,p,af,none⟩ k=force (tick (pbinQ P st o t y (st.ev x) (st.ev y))) fun r=>goS r fun s=>goE st d s k:=rfl
@[simp ↓] theorem ve_fieldAddr (t:TypeId) (x:Operand) (f:Nat):veff P ops st ⟨d,.fieldAddr t x f,ty,p,af,none⟩ k=force (tick (pfieldAddr P st t f (st.ev x))) fun r=>goS r fun s=>goE st d s k:=rfl
@[simp ↓] theorem ve_indexAddr (t:TypeId) (x i:Operand):veff P ops st ⟨d,.indexAddr t x i,ty,p,af,none⟩ k=force (tick (pindexAddr P st t (st.ev x) (st.ev i))) fun r=>goS r fun s=>goE st d s k:=rfl
@[simp ↓] theorem ve_nilCheck (x:Operand):veff P ops st ⟨d,.nilCheck x,ty,p,af,none⟩ k=force (tick (pnil st (st.ev x))) fun r=>goS r fun s=>goE st d s k:=rfl
@[simp ↓] theorem ve_extract (x:Operand) (n:Nat):veff P ops st ⟨d,.extract x n,ty,p,af,none⟩ k=force (tick (pext n (st.ev x))) fun r=>goS r fun s=>goE st d s k:=rfl
@[simp ↓] theorem ve_lookup (t:TypeId) (m x:Operand) (ok:Bool):veff P ops st ⟨d,.lookup t m x ok,ty,p,af,none⟩ k=force (tick (st.ev m)) fun m=>force (tick (st.ev x)) fun x=>veLook P d st t m x ok k:=rfl
def veLz (d:Option Nat) (z:Option Value) (ds:TypeDesc) (kvs:List (Value × List S)) (kv:Value) (ok:Bool) (k:Eff→Prop):Prop :=
  match z with
  | some z=>kfits ds kv=true∧(kvs.all fun x=>kfits ds x.1)=true∧k ⟨d,lkS ok (findK kv kvs) z,[],false⟩
  | none=>False
def veLk (P:Program) (d:Option Nat) (r:Option Res) (h1:Option (TypeId × TypeDesc × TypeId)) (kv:Value) (ok:Bool) (k:Eff→Prop):Prop :=
  match r,h1 with
  | some (.map (.ents kvs)),some (_,ds,e)=>veLz d (zeroOf P e) ds kvs kv ok k
  | _,_=>False
@[simp ↓] theorem veLook_mp (t:TypeId) (i:Nat) (kv:Value) (ok:Bool):veLook P d st t (.mp i) (.c (.v kv)) ok k=force (tick (st.rs i)) fun r=>force (tick (mpT P t)) fun h1=>veLk P d r h1 kv ok k:=rfl
@[simp ↓] theorem veLk_map (kvs:List (Value × List S)) (n:TypeId) (ds:TypeDesc) (e:TypeId) (kv:Value) (ok:Bool):veLk P d (some (.map (.ents kvs))) (some (n,ds,e)) kv ok k=force (tick (zeroOf P e)) fun z=>veLz d z ds kvs kv ok k:=rfl
@[simp ↓] theorem veLz_some (z:Value) (ds:TypeDesc) (kvs:List (Value × List S)) (kv:Value) (ok:Bool):veLz d (some z) ds kvs kv ok k=(kfits ds kv=true∧(kvs.all fun x=>kfits ds x.1)=true∧force (tick (lkS ok (findK kv kvs) z)) fun s=>k ⟨d,s,[],false⟩):=rfl
@[simp ↓] theorem ve_load (t:TypeId) (x:Operand):veff P ops st ⟨d,.load t x,ty,p,af,none⟩ k=force (tick (pload P st t (st.ev x))) fun r=>goS r fun s=>goE st d s k:=rfl
@[simp ↓] theorem ve_slice1 (t:TypeId) (x hi:Operand):veff P ops st ⟨d,.slice t x none (some hi) none,ty,p,af,none⟩ k=force (tick (pslice P t (st.ev x) none (some (st.ev hi)) none)) fun r=>goS r fun s=>goE st d s k:=rfl
@[simp ↓] theorem ve_slice2 (t:TypeId) (x lo:Operand):veff P ops st ⟨d,.slice t x (some lo) none none,ty,p,af,none⟩ k=force (tick (pslice P t (st.ev x) (some (st.ev lo)) none none)) fun r=>goS r fun s=>goE st d s k:=rfl
@[simp ↓] theorem ve_slice3 (t:TypeId) (x lo hi:Operand):veff P ops st ⟨d,.slice t x (some lo) (some hi) none,ty,p,af,none⟩ k=force (tick (pslice P t (st.ev x) (some (st.ev lo)) (some (st.ev hi)) none)) fun r=>goS r fun s=>goE st d s k:=rfl
def veCR (P:Program) (r:Option Res) (d:Option Nat) (t:TypeId) (i n:Nat) (p q:Int) (k:Eff→Prop):Prop :=
  match r with
  | some (.arr _ _ xs _)=>p=q∧0≤p∧p≤n∧xs.length=n∧(esz P t).isSome=true∧k ⟨d,.cut i n p.toNat,[],false⟩
  | _=>False
@[simp ↓] theorem veCR_arr (d:Option Nat) (t:TypeId) (i n:Nat) (p q:Int) (nil:Bool) (sz:Nat) (xs:List (List C)) (fx:Nat):veCR P (some (.arr nil sz xs fx)) d t i n p q k=(p=q∧0≤p∧p≤n∧xs.length=n∧(esz P t).isSome=true∧k ⟨d,.cut i n p.toNat,[],false⟩):=rfl
def veCX (P:Program) (st:St) (d:Option Nat) (t:TypeId) (x:S) (h m:Option Int) (k:Eff→Prop):Prop :=
  match x,h,m with
  | .own i n,some p,some q=>veCR P (st.rs i) d t i n p q k
  | _,_,_=>False
@[simp ↓] theorem veCX_own (t:TypeId) (i n:Nat) (p q:Int):veCX P st d t (.own i n) (some p) (some q) k=force (tick (st.rs i)) fun r=>veCR P r d t i n p q k:=rfl
@[simp ↓] theorem ve_cut (t:TypeId) (x h m:Operand):veff P ops st ⟨d,.slice t x none (some h) (some m),ty,p,af,none⟩ k=force (tick (st.ev x)) fun x=>force (tick (sint (st.ev h))) fun h=>force (tick (sint (st.ev m))) fun m=>veCX P st d t x h m k:=by
  show veCut P st d t (st.ev x) (st.ev h) (st.ev m) k=veCX P st d t (st.ev x) (sint (st.ev h)) (sint (st.ev m)) k
  unfold veCut veCX veCR
  cases st.ev x with
  | own i n =>
    cases sint (st.ev h) with
    | none =>
      dsimp only
      cases st.rs i with
      | none=>rfl
      | some r=>cases r <;> rfl
    | some a =>
      cases sint (st.ev m) with
      | none =>
        dsimp only
        cases st.rs i with
        | none=>rfl
        | some r=>cases r <;> rfl
      | some b =>
        dsimp only
        cases st.rs i with
        | none=>rfl
        | some r=>cases r <;> rfl
  | _=>rfl
@[simp ↓] theorem ve_build (t:TypeId) (parts:List (Nat × Operand)):veff P ops st ⟨d,.build t parts.toArray,ty,p,af,none⟩ k=force (tick (parts.map fun p=>st.ev p.2)) fun ss=>vopd st ss fun a l st'=>force (tick (pbuild P t ((parts.map (·.1)).zip a))) fun r=>goS r fun s=>s.kn st'.rs=true∧k ⟨d,s,l,false⟩:=rfl
@[simp ↓] theorem ve_len (t:TypeId) (x:Operand):veff P ops st ⟨d,.call ⟨.builtin .len,#[x],#[t]⟩,ty,p,af,none⟩ k=force (tick (plen P st t (st.ev x))) fun r=>goS r fun s=>goE st d s k:=rfl
@[simp ↓] theorem ve_max (ts:Array TypeId) (x:Operand) (r:List Operand):veff P ops st ⟨d,.call ⟨.builtin .max,⟨x::r⟩,ts⟩,ty,p,af,none⟩ k=force (tick (pmm true (st.ev x) (r.map st.ev))) fun r=>goS r fun s=>goE st d s k:=rfl
@[simp ↓] theorem ve_alloc (t:TypeId):veff P ops st ⟨d,.alloc t,ty,p,af,none⟩ k=veAlloc P d t k:=rfl
@[simp ↓] theorem ve_store (t:TypeId) (x y:Operand):veff P ops st ⟨d,.store t x y,ty,p,af,none⟩ k=force (tick (st.ev x)) fun x=>force (tick (st.ev y)) fun y=>veStore P st t x y k:=rfl
def veApO (r:Option Res) (s B i n y:Nat) (ys:List (List C)) (kl:List (Nat × Res)) (k:Eff→Prop):Prop :=
  match r with
  | some (.arr nil sz xs fx)=>kl.all (fun p=>p.1 != 64*y && p.1 != i)=true∧(i != 64*y)=true∧xs.length=n∧(nil=false→sz=s)∧(∀ e∈ys,e.length=s)∧0<B∧(xs.length+ys.length)*B≤140737488355328 ∧
      k ⟨some y,.own (64*y) (n+ys.length),kl++[(i,dead),(64*y,.arr (nil && ys.isEmpty) s (xs++ys) fx)],true⟩
  | _=>False
@[simp ↓] theorem veApO_arr (nil:Bool) (sz:Nat) (xs:List (List C)) (fx s B i n y:Nat) (ys:List (List C)) (kl:List (Nat × Res)):veApO (some (.arr nil sz xs fx)) s B i n y ys kl k =
  (kl.all (fun p=>p.1 != 64*y && p.1 != i)=true∧(i != 64*y)=true∧xs.length=n∧(nil=false→sz=s)∧(∀ e∈ys,e.length=s)∧0<B∧(xs.length+ys.length)*B≤140737488355328 ∧
      k ⟨some y,.own (64*y) (n+ys.length),kl++[(i,dead),(64*y,.arr (nil && ys.isEmpty) s (xs++ys) fx)],true⟩):=rfl
def veApX (d:S) (o:Option (List (List C) × List (Nat × Res))) (st:St) (s B y:Nat) (k:Eff→Prop):Prop :=
  match o with
  | some (ys,kl) =>
    match d with
    | .c (.sl true [])=>kl.all (fun p=>p.1 != 64*y)=true∧(∀ e∈ys,e.length=s)∧0<B∧ys.length*B≤140737488355328∧k ⟨some y,.own (64*y) ys.length,kl++[(64*y,.arr ys.isEmpty s ys 0)],true⟩
    | .own i n=>veApO (st.rs i) s B i n y ys kl k
    | _=>False
  | none=>False
@[simp ↓] theorem veApX_nil (ys:List (List C)) (kl:List (Nat × Res)) (s B y:Nat):veApX (.c (.sl true [])) (some (ys,kl)) st s B y k =
  (kl.all (fun p=>p.1 != 64*y)=true∧(∀ e∈ys,e.length=s)∧0<B∧ys.length*B≤140737488355328∧k ⟨some y,.own (64*y) ys.length,kl++[(64*y,.arr ys.isEmpty s ys 0)],true⟩):=rfl
@[simp ↓] theorem veApX_own (i n:Nat) (ys:List (List C)) (kl:List (Nat × Res)) (s B y:Nat):veApX (.own i n) (some (ys,kl)) st s B y k=force (tick (st.rs i)) fun r=>veApO r s B i n y ys kl k:=rfl
def veApT (z:Option (Nat × Nat)) (d x:S) (st:St) (y:Nat) (k:Eff→Prop):Prop :=
  match z with
  | some (s,B)=>force (tick (veOpd st x)) fun o=>veApX d o st s B y k
  | none=>False
@[simp ↓] theorem veApT_some (s B:Nat) (d x:S) (y:Nat):veApT (some (s,B)) d x st y k=force (tick (veOpd st x)) fun o=>veApX d o st s B y k:=rfl
def veOpR (r:Option Res) (j m:Nat):Option (List (List C) × List (Nat × Res)) :=
  match r with
  | some (.arr _ _ ys _)=>if ys.length=m then some (ys,[(j,dead)]) else none
  | _=>none
@[simp] theorem veOpR_arr (nil:Bool) (sz:Nat) (ys:List (List C)) (fx j m:Nat):veOpR (some (.arr nil sz ys fx)) j m=if ys.length=m then some (ys,[(j,dead)]) else none:=rfl
@[simp] theorem veOpd_c (nil:Bool) (ys:List (List C)):veOpd st (.c (.sl nil ys))=some (ys,[]):=rfl
@[simp] theorem veOpd_own (j m:Nat):veOpd st (.own j m)=veOpR (st.rs j) j m:=rfl
def veCB (q:Option (Nat × Nat)) (a:List S) (l:List (Nat × Res)) (r:Option Res) (n m y:Nat) (k:Eff→Prop):Prop :=
  match q,a,r with
  | some (s,B),[.c (.sl _ ys)],some (.arr nil sz xs _)=>xs.length=n∧m≤n∧(nil=false→sz=s)∧(∀ e∈ys,e.length=s)∧0<ys.length∧0<B∧(m+ys.length)*B≤140737488355328 ∧
      k ⟨some y,.own (64*y) (m+ys.length),l++[(64*y,.arr false s (xs.take m++ys) 0)],true⟩
  | _,_,_=>False
@[simp ↓] theorem veCB_arr (s B:Nat) (nl:Bool) (ys:List (List C)) (l:List (Nat × Res)) (nil:Bool) (sz:Nat) (xs:List (List C)) (fx n m y:Nat):veCB (some (s,B)) [.c (.sl nl ys)] l (some (.arr nil sz xs fx)) n m y k=(xs.length=n∧m≤n∧(nil=false→sz=s)∧(∀ e∈ys,e.length=s)∧0<ys.length∧0<B∧(m+ys.length)*B≤140737488355328 ∧
      k ⟨some y,.own (64*y) (m+ys.length),l++[(64*y,.arr false s (xs.take m++ys) 0)],true⟩):=rfl
def veAp2 (q:Option (Nat × Nat)) (d x:S) (st:St) (y:Nat) (k:Eff→Prop):Prop :=
  match d with
  | .cut i n m=>vopd st [x] fun a l st'=>force (tick (st'.rs i)) fun r=>veCB q a l r n m y k
  | d=>veApT q d x st y k
@[simp ↓] theorem veAp2_cut (q:Option (Nat × Nat)) (i n m:Nat) (x:S) (y:Nat):veAp2 q (.cut i n m) x st y k=vopd st [x] fun a l st'=>force (tick (st'.rs i)) fun r=>veCB q a l r n m y k:=rfl
@[simp ↓] theorem veAp2_own (q:Option (Nat × Nat)) (i n:Nat) (x:S) (y:Nat):veAp2 q (.own i n) x st y k=veApT q (.own i n) x st y k:=rfl
@[simp ↓] theorem veAp2_c (q:Option (Nat × Nat)) (c:C) (x:S) (y:Nat):veAp2 q (.c c) x st y k=veApT q (.c c) x st y k:=rfl
theorem veAp_old (t xt:TypeId) (d x:S) (y:Nat):veAppend P (some y) st t xt d x k=veApT (apT P t xt) d x st y k:=by
  unfold veAppend apT veApT
  cases slT P t with
  | none=>rfl
  | some q =>
    obtain ⟨s,B⟩:=q
    cases P.underlying xt with
    | none=>rfl
    | some de =>
      cases de with
      | slice e =>
        simp only [force,tick]
        cases veOpd st x with
        | none=>rfl
        | some o=>obtain ⟨ys,kl⟩:=o;rfl
      | _=>rfl
@[simp ↓] theorem ve_append (t xt:TypeId) (x z:Operand) (y:Nat):veff P ops st ⟨some y,.call ⟨.builtin .append,#[x,z],#[t,xt]⟩,ty,p,af,none⟩ k =
    force (tick (st.ev x)) fun x=>force (tick (st.ev z)) fun z=>force (tick (apT P t xt)) fun q=>veAp2 q x z st y k:=by
  show (match st.ev x with | .cut i n m=>veApC P st (some y) t xt i n m (st.ev z) k | _=>veAppend P (some y) st t xt (st.ev x) (st.ev z) k)=veAp2 (apT P t xt) (st.ev x) (st.ev z) st y k
  cases st.ev x with
  | cut i n m =>
    show veApC P st (some y) t xt i n m (st.ev z) k=vopd st [st.ev z] fun a l st'=>force (tick (st'.rs i)) fun r=>veCB (apT P t xt) a l r n m y k
    unfold veApC apT
    congr 1
    funext a l st'
    simp only [force,tick]
    unfold veCB
    cases slT P t with
    | none=>rfl
    | some q =>
      obtain ⟨s,B⟩:=q
      cases P.underlying xt with
      | none=>rfl
      | some de =>
        cases de with
        | slice e =>
          generalize st'.rs i=rr
          rcases a with _ | ⟨s,_ | ⟨s2,r⟩⟩
          · rfl
          · cases s with
            | c c=>cases c <;> (cases rr with
              | none=>rfl
              | some r=>cases r <;> rfl)
            | _=>rfl
          · cases s with
            | c c=>cases c <;> rfl
            | _=>rfl
        | _=>rfl
  | _=>exact veAp_old ..
def veBO (out:Option (List C)) (s:Nat) (zc:List C) (len x:Nat) (ss:List S) (k:Eff→Prop):Prop :=
  match out with
  | some out=>ss.all dataS=true∧zc.length=s∧len*s≤16777216∧0<s∧len≤maxLen∧k ⟨some x,.own (64*x) len,[(64*x,.arr false s (chunks s len out) 0)],true⟩
  | none=>False
@[simp ↓] theorem veBO_some (out:List C) (s:Nat) (zc:List C) (len x:Nat) (ss:List S):veBO (some out) s zc len x ss k=(ss.all dataS=true∧zc.length=s∧len*s≤16777216∧0<s∧len≤maxLen∧k ⟨some x,.own (64*x) len,[(64*x,.arr false s (chunks s len out) 0)],true⟩):=rfl
def veBZ (z:Option (Nat × List C)) (len x:Nat) (is:List Nat) (ss:List S) (k:Eff→Prop):Prop :=
  match z with
  | some (s,zc)=>force (tick (pfill (.inr s) (List.replicate len zc).flatten (is.zip ss))) fun out=>veBO out s zc len x ss k
  | none=>False
@[simp ↓] theorem veBZ_some (s:Nat) (zc:List C) (len x:Nat) (is:List Nat) (ss:List S):veBZ (some (s,zc)) len x is ss k=force (tick (pfill (.inr s) (List.replicate len zc).flatten (is.zip ss))) fun out=>veBO out s zc len x ss k:=rfl
@[simp ↓] theorem ve_buildSlice (t:TypeId) (n x:Nat) (parts:List (Nat × Operand)):veff P ops st ⟨some x,.buildSlice t n parts.toArray,ty,p,af,none⟩ k =
    force (tick (parts.map fun q=>st.ev q.2)) fun ss=>force (tick (elZ P t)) fun z=>veBZ z n x (parts.map (·.1)) ss k:=by
  show veBuild P (some x) t n (parts.map fun q=>(q.1,st.ev q.2)) k=veBZ (elZ P t) n x (parts.map (·.1)) (parts.map fun q=>st.ev q.2) k
  have e1:(parts.map fun q=>(q.1,st.ev q.2)).map (·.2)=parts.map fun q=>st.ev q.2:=by simp [Function.comp_def]
  have e2:(parts.map fun q=>(q.1,st.ev q.2)).map (·.1)=parts.map (·.1):=by simp [Function.comp_def]
  unfold veBuild elZ veBZ force tick veBO
  rw [e1,e2]
  cases P.underlying t with
  | none=>rfl
  | some de =>
    cases de with
    | slice e =>
      simp only
      cases tySz P e with
      | none=>rfl
      | some y =>
        obtain ⟨b,s⟩:=y
        cases zeroOf P e with
        | none=>rfl
        | some z =>
          simp only
          cases cellsS (ofConst z) <;> rfl
    | _=>rfl
def veC (P:Program) (st:St) (d:Option Nat) (f:S) (args:List S) (k:Eff→Prop):Prop:=veCall P st d f args k
def isBS:Op→Bool
  | .buildSlice .. => true
  | .call c=>match c.callee with
    | .value _=>true
    | _=>false
  | _=>false
theorem ve_guard (op:Op) (x:Nat) (g:Nat × Bool) (h:isBS op=false):veff P ops st ⟨some x,op,ty,p,af,some g⟩ k=vstep P ops st ⟨some x,op,ty,p,af,some g⟩ fun st'=>force (tick (st'.get x)) fun s=>goE st (some x) s k:=by
  have:∀ o:Oper,isBS o.op=false→veGB P ops st o k=False:=fun o ho=>by
    unfold veGB
    split
    · rename_i e;rw [e] at ho;cases ho
    · rename_i c e
      rw [e] at ho
      split
      · rename_i f hf
        simp only [isBS,hf] at ho
        cases ho
      · rfl
    · rfl
  unfold veff vstep
  simp only [force_eq,tick_eq]
  simp [St.putd,St.get_put,this,h]
@[simp ↓] theorem veg_move (y:Operand) (x:Nat) (g:Nat × Bool):veff P ops st ⟨some x,.move y,ty,p,af,some g⟩ k=vstep P ops st ⟨some x,.move y,ty,p,af,some g⟩ fun st'=>force (tick (st'.get x)) fun s=>goE st (some x) s k:=ve_guard (h:=rfl) ..
@[simp ↓] theorem veg_binOp (o:BinOp) (t yt:TypeId) (y z:Operand) (x:Nat) (g:Nat × Bool):veff P ops st ⟨some x,.binOp o t y z yt,ty,p,af,some g⟩ k=vstep P ops st ⟨some x,.binOp o t y z yt,ty,p,af,some g⟩ fun st'=>force (tick (st'.get x)) fun s=>goE st (some x) s k:=ve_guard (h:=rfl) ..
@[simp ↓] theorem veg_fieldAddr (t:TypeId) (y:Operand) (f:Nat) (x:Nat) (g:Nat × Bool):veff P ops st ⟨some x,.fieldAddr t y f,ty,p,af,some g⟩ k=vstep P ops st ⟨some x,.fieldAddr t y f,ty,p,af,some g⟩ fun st'=>force (tick (st'.get x)) fun s=>goE st (some x) s k:=ve_guard (h:=rfl) ..
@[simp ↓] theorem veg_indexAddr (t:TypeId) (y i:Operand) (x:Nat) (g:Nat × Bool):veff P ops st ⟨some x,.indexAddr t y i,ty,p,af,some g⟩ k=vstep P ops st ⟨some x,.indexAddr t y i,ty,p,af,some g⟩ fun st'=>force (tick (st'.get x)) fun s=>goE st (some x) s k:=ve_guard (h:=rfl) ..
@[simp ↓] theorem veg_load (t:TypeId) (y:Operand) (x:Nat) (g:Nat × Bool):veff P ops st ⟨some x,.load t y,ty,p,af,some g⟩ k=vstep P ops st ⟨some x,.load t y,ty,p,af,some g⟩ fun st'=>force (tick (st'.get x)) fun s=>goE st (some x) s k:=ve_guard (h:=rfl) ..
@[simp ↓] theorem veg_nilCheck (y:Operand) (x:Nat) (g:Nat × Bool):veff P ops st ⟨some x,.nilCheck y,ty,p,af,some g⟩ k=vstep P ops st ⟨some x,.nilCheck y,ty,p,af,some g⟩ fun st'=>force (tick (st'.get x)) fun s=>goE st (some x) s k:=ve_guard (h:=rfl) ..
@[simp ↓] theorem veg_builtin (b:Builtin) (args:Array Operand) (ts:Array TypeId) (x:Nat) (g:Nat × Bool):veff P ops st ⟨some x,.call ⟨.builtin b,args,ts⟩,ty,p,af,some g⟩ k=vstep P ops st ⟨some x,.call ⟨.builtin b,args,ts⟩,ty,p,af,some g⟩ fun st'=>force (tick (st'.get x)) fun s=>goE st (some x) s k:=ve_guard (h:=rfl) ..
@[simp ↓] theorem ve_buildSlice_no (t:TypeId) (n x:Nat) (parts:Array (Nat × Operand)) (j:Nat) (want:Bool) (h:gsl ops st j want=some false):veff P ops st ⟨some x,.buildSlice t n parts,ty,p,af,some (j,want)⟩ k=goE st (some x) (.g false .un) k:=by
  rw [← gsl_eq] at h
  simp [veff,veGB,PStep,h,pev,no,wrapg]
def VCE (P:Program) (fid:FuncId) (args:List S) (dst:Option Nat) (k:Eff→Prop) (_:Keep k):Prop:=∃ rs,Con P fid args rs∧k (retEff dst rs)
theorem VCE.mk {fid:FuncId} {args:List S} {dst:Option Nat} {k:Eff→Prop} {m:Keep k} (rs:List Rt) (h:Con P fid args rs) (hk:k (retEff dst rs)):VCE P fid args dst k m:=⟨rs,h,hk⟩
@[simp ↓] theorem veC_fn (fid:FuncId) (caps:List C) (args:List S):veC P st d (.c (.fn fid caps)) args k=vopd st args fun args l st'=>(frozenDs st' args).2∧VCE P fid (tick ((frozenDs st' args).1++caps.map .c)) d (fun e=>k (addE l e)) .mk:=by
  unfold veC veCall
  refine congrArg _ (funext fun args=>funext fun l=>funext fun st'=>?_)
  simp only [VCE,pcall,tick]
  apply propext
  constructor
  · rintro ⟨rs,⟨h1,h2⟩,h3⟩;exact ⟨h1,rs,h2,h3⟩
  · rintro ⟨h1,rs,h2,h3⟩;exact ⟨rs,⟨h1,h2⟩,h3⟩
@[simp ↓] theorem vopd_nil (kk:List S→List (Nat × Res)→St→Prop):vopd st [] kk=kk [] [] st:=rfl
@[simp ↓] theorem vopd_c (x:C) (r:List S) (kk:List S→List (Nat × Res)→St→Prop):vopd st (.c x::r) kk=vopd st r fun a l st'=>kk (.c x::a) l st':=rfl
@[simp ↓] theorem vopd_agg (x:List C) (r:List S) (kk:List S→List (Nat × Res)→St→Prop):vopd st (.agg x::r) kk=vopd st r fun a l st'=>kk (.agg x::a) l st':=rfl
def vopdO (q:Option Res) (st:St) (j m:Nat) (r:List S) (kk:List S→List (Nat × Res)→St→Prop):Prop :=
  match q with
  | some (.arr nil _ ys _)=>ys.length=m∧vopd (st.setR j (some dead)) r fun a l st'=>kk (.c (.sl nil ys)::a) ((j,dead)::l) st'
  | _=>False
@[simp ↓] theorem vopdO_arr (nil:Bool) (sz:Nat) (ys:List (List C)) (fx j m:Nat) (r:List S) (kk:List S→List (Nat × Res)→St→Prop):vopdO (some (.arr nil sz ys fx)) st j m r kk =
  (ys.length=m∧force (tick (st.setR j (some dead))) fun st2=>vopd st2 r fun a l st'=>kk (.c (.sl nil ys)::a) ((j,dead)::l) st'):=rfl
@[simp ↓] theorem vopd_own (j m:Nat) (r:List S) (kk:List S→List (Nat × Res)→St→Prop):vopd st (.own j m::r) kk=force (tick (st.rs j)) fun q=>vopdO q st j m r kk:=rfl
@[simp] theorem addE_mk (l:List (Nat × Res)) (d:Option Nat) (s:S) (rs:List (Nat × Res)) (fr:Bool):addE l ⟨d,s,rs,fr⟩=⟨d,s,l++rs,fr⟩:=rfl
@[simp ↓] theorem ve_call (f:Operand) (args:List Operand) (ts:Array TypeId):veff P ops st ⟨d,.call ⟨.value f,args.toArray,ts⟩,ty,p,af,none⟩ k=force (tick (st.ev f)) fun f=>force (tick (args.map st.ev)) fun args=>veC P st d f args k:=rfl
end
@[simp] theorem app_eq (st:St) (d:Option Nat) (s:S) (rs:List (Nat × Res)) (fr:Bool):st.app ⟨d,s,rs,fr⟩=(st.setRs rs).putd d s:=rfl
@[simp] theorem setRs_nil (st:St):st.setRs []=st:=rfl
@[simp] theorem setRs_cons (st:St) (p:Nat × Res) (l:List (Nat × Res)):st.setRs (p::l)=(st.setR p.1 (some p.2)).setRs l:=rfl
@[simp] theorem restr_mk (env:List (Nat × S)) (res:List (Nat × Option Res)) (rd:List Nat):restr ⟨env,res⟩ rd=⟨env,rss ⟨env,res⟩ rd⟩:=rfl
attribute [simp] rdOf evs inners inner rss S.nm S.nms S.kn S.kns chk pairB freshB Eff.mods Eff.news news Res.isPin dead Eff.men Res.men St.cleanB cleanE cleanR tb retEff rt1 rtsE znE veAlloc veStore dataS Op.operands Call.operands
inductive FK where
  | i
  | b
  | s
def fkOf (P:Program) (t:TypeId):Option FK :=
  match P.underlying t with
  | some (.int _)=>some .i
  | some .bool=>some .b
  | some .string=>some .s
  | _=>none
def eqFs (P:Program):Nat→List Field→Option (List FK)
  | _,[]=>some []
  | o,f::r=>if f.name != "_" && f.offset == o then
      match fkOf P f.type,eqFs P (o+1) r with
      | some k,some ks=>some (k::ks)
      | _,_=>none
    else none
def eqT (P:Program) (t:TypeId):Option (List FK) :=
  match P.underlying t with
  | some (.struct fs)=>if P.stoodInHeld t || P.eqGuardType P.depth t then none else eqFs P 0 fs.toList
  | _=>none
def fitK:List FK→List C→List C→Bool
  | [],[],[]=>true
  | .i::r,.v (.int k _)::cs,.v (.int k' _)::ds=>decide (k=k') && fitK r cs ds
  | .b::r,.v (.bool _)::cs,.v (.bool _)::ds=>fitK r cs ds
  | .s::r,.v (.string _)::cs,.v (.string _)::ds=>fitK r cs ds
  | _,_,_=>false
@[simp] theorem fitK_nil:fitK [] [] []=true:=rfl
@[simp] theorem fitK_i (r:List FK) (k k':IntKind) (a b:Int) (cs ds:List C):fitK (.i::r) (.v (.int k a)::cs) (.v (.int k' b)::ds)=(decide (k=k') && fitK r cs ds):=rfl
@[simp] theorem fitK_b (r:List FK) (a b:Bool) (cs ds:List C):fitK (.b::r) (.v (.bool a)::cs) (.v (.bool b)::ds)=fitK r cs ds:=rfl
@[simp] theorem fitK_s (r:List FK) (a b:ByteArray) (cs ds:List C):fitK (.s::r) (.v (.string a)::cs) (.v (.string b)::ds)=fitK r cs ds:=rfl
@[simp] theorem eqC_int (k k':IntKind) (a b:Int):eqC (.v (.int k a)) (.v (.int k' b))=(a == b):=rfl
@[simp] theorem eqC_bool (a b:Bool):eqC (.v (.bool a)) (.v (.bool b))=(a == b):=rfl
@[simp] theorem eqC_string (a b:ByteArray):eqC (.v (.string a)) (.v (.string b))=decide (a=b):=rfl
@[simp] theorem eqCs_nil:eqCs [] []=true:=rfl
@[simp] theorem eqCs_cons (a b:C) (r s:List C):eqCs (a::r) (b::s)=(eqC a b && eqCs r s):=rfl
theorem fitK_inv {k:FK} {ks:List FK} {cs ds:List C} (h:fitK (k::ks) cs ds=true):∃ u v cs' ds',cs=C.v u::cs'∧ds=C.v v::ds'∧fitK ks cs' ds'=true ∧
    ((k = .i∧∃ q a b,u = .int q a∧v = .int q b)∨(k = .b∧∃ a b,u = .bool a∧v = .bool b)∨(k = .s∧∃ a b,u = .string a∧v = .string b)):=by
  unfold fitK at h
  split at h
  · cases ‹k::ks=_›
  · cases ‹k::ks=_›
    simp only [Bool.and_eq_true,decide_eq_true_eq] at h
    obtain ⟨rfl,h⟩:=h
    exact ⟨_,_,_,_,rfl,rfl,h,.inl ⟨rfl,_,_,_,rfl,rfl⟩⟩
  · cases ‹k::ks=_›;exact ⟨_,_,_,_,rfl,rfl,h,.inr (.inl ⟨rfl,_,_,rfl,rfl⟩)⟩
  · cases ‹k::ks=_›;exact ⟨_,_,_,_,rfl,rfl,h,.inr (.inr ⟨rfl,_,_,rfl,rfl⟩)⟩
  · cases h
theorem eqFs_ok {P:Program} (w:World) (d:Nat):∀ (fs:List Field) (ks:List FK) (cs ds:List C) (o:Nat) (xs ys:Array Value) (us vs:List Value),eqFs P o fs=some ks→fitK ks cs ds=true →
    cs=us.map C.v→ds=vs.map C.v→xs.toList.drop o=us→ys.toList.drop o=vs→(Op.eqFields (d+1) xs ys fs).run P w = .ok (eqCs cs ds) w
  | [],ks,cs,ds,o,xs,ys,us,vs,h,hf,hc,hd,hx,hy=>by
    simp only [eqFs,Option.some.injEq] at h
    subst h
    unfold fitK at hf
    split at hf <;> simp_all [Op.eqFields]
  | f::r,ks,cs,ds,o,xs,ys,us,vs,h,hf,hc,hd,hx,hy=>by
    unfold eqFs at h
    split at h
    · rename_i hn
      simp only [Bool.and_eq_true,bne_iff_ne,ne_eq,beq_iff_eq] at hn
      split at h
      · rename_i k ks' hk hks
        cases h
        have step:∀ (u v:Value) (us' vs':List Value) (cs' ds':List C),us=u::us'→vs=v::vs'→cs'=us'.map C.v→ds'=vs'.map C.v→fitK ks' cs' ds'=true→P.plainKey f.type=true→∀ q:Bool,(Op.equalIn (d+1) f.type u v).run P w = .ok q w →
            (Op.eqFields (d+1) xs ys (f::r)).run P w = .ok (q && eqCs cs' ds') w:=by
          intro u v us' vs' cs' ds' e1 e2 e3 e4 hf' hp q hq
          have gx:xs[f.offset]? = some u:=by
            rw [hn.2,← Array.getElem?_toList,← Nat.add_zero o,← List.getElem?_drop,hx,e1];rfl
          have gy:ys[f.offset]? = some v:=by
            rw [hn.2,← Array.getElem?_toList,← Nat.add_zero o,← List.getElem?_drop,hy,e2];rfl
          have ih:=eqFs_ok w d r ks' cs' ds' (o+1) xs ys us' vs' hks hf' e3 e4 (by rw [← List.drop_drop,hx,e1];rfl) (by rw [← List.drop_drop,hy,e2];rfl)
          simp only [Op.eqFields,hn.1,ne_eq,not_false_eq_true,if_true,Sem.run_bind,run_part_plain w hp gx,run_part_plain w hp gy,hq,Result.andThen_ok]
          cases q
          · simp
          · simpa using ih
        obtain ⟨u,v,cs',ds',rfl,rfl,h',hkk⟩:=fitK_inv hf
        cases us with
        | nil=>cases hc
        | cons u' us' =>
          cases vs with
          | nil=>cases hd
          | cons v' vs' =>
            simp only [List.map_cons,List.cons.injEq,C.v.injEq] at hc hd
            obtain ⟨rfl,hc⟩:=hc
            obtain ⟨rfl,hd⟩:=hd
            rw [eqCs_cons]
            unfold fkOf at hk
            rcases hkk with ⟨rfl,q,a,b,rfl,rfl⟩ | ⟨rfl,a,b,rfl,rfl⟩ | ⟨rfl,a,b,rfl,rfl⟩
            · split at hk <;> cases hk
              rename_i q' hu
              exact step _ _ us' vs' _ _ rfl rfl hc hd h' (by simp [Program.plainKey,hu]) _ (run_equalIn_int w d _ _ _ _ _ hu)
            · split at hk <;> cases hk
              rename_i hu
              exact step _ _ us' vs' _ _ rfl rfl hc hd h' (by simp [Program.plainKey,hu]) _ (run_equalIn_bool w d _ _ _ hu)
            · split at hk <;> cases hk
              rename_i hu
              refine step _ _ us' vs' _ _ rfl rfl hc hd h' (by simp [Program.plainKey,hu]) _ ?_
              rw [run_equalIn_string w d _ _ _ hu,toList_beq]
              rfl
      · cases h
    · cases h
def aggOk (o:Option (List FK)) (cs ds:List C):Bool :=
  match o with
  | some ks=>fitK ks cs ds
  | none=>false
@[simp] theorem aggOk_some (ks:List FK) (cs ds:List C):aggOk (some ks) cs ds=fitK ks cs ds:=rfl
theorem fitK_v:∀ (ks:List FK) (cs ds:List C),fitK ks cs ds=true→∃ us vs:List Value,cs=us.map C.v∧ds=vs.map C.v:=by
  intro ks
  induction ks with
  | nil =>
    intro cs ds h
    unfold fitK at h
    split at h
    · exact ⟨[],[],rfl,rfl⟩
    · cases ‹([]:List FK)=_›
    · cases ‹([]:List FK)=_›
    · cases ‹([]:List FK)=_›
    · cases h
  | cons k ks ih =>
    intro cs ds h
    obtain ⟨u,v,cs',ds',rfl,rfl,h',_⟩:=fitK_inv h
    obtain ⟨us,vs,rfl,rfl⟩:=ih cs' ds' h'
    exact ⟨u::us,v::vs,rfl,rfl⟩
theorem aggEq_ok {P:Program} {t:TypeId} {cs ds:List C} (h:aggOk (eqT P t) cs ds=true):AggEq P t cs ds:=by
  unfold aggOk at h
  split at h
  · rename_i ks hks
    obtain ⟨us,vs,e1,e2⟩:=fitK_v ks cs ds h
    refine ⟨us,vs,e1,e2,fun w x y=>?_⟩
    unfold eqT at hks
    split at hks
    · rename_i fs hu
      split at hks
      · cases hks
      · rename_i hg
        simp only [Bool.or_eq_true,not_or,Bool.not_eq_true] at hg
        have hfs:P.fieldsOf t=fs:=by simp [Program.fieldsOf,hu]
        have main:(Op.equal t (.agg us.toArray) (.agg vs.toArray)).run P w = .ok (eqCs cs ds) w:=by
          show (Op.equalIn (9999+1) t (.agg us.toArray) (.agg vs.toArray)).run P w=_
          rw [run_equalIn_struct w 9999 t _ _ (by rw [hfs];exact hu) hg.1,hfs]
          exact eqFs_ok w 9998 fs.toList ks cs ds 0 us.toArray vs.toArray us vs hks h e1 e2 rfl rfl
        have b1:(binOp .eql t (.agg us.toArray) (.agg vs.toArray))=(do pure (.bool (← Op.equal t (.agg us.toArray) (.agg vs.toArray))):Sem Value):=rfl
        have b2:(binOp .neq t (.agg us.toArray) (.agg vs.toArray))=(do pure (.bool (!(← Op.equal t (.agg us.toArray) (.agg vs.toArray)))):Sem Value):=rfl
        constructor
        · rw [b1]
          simp [eqGuard,Sem.run_bind,run_program,hg.2,main]
        · rw [b2]
          simp [eqGuard,Sem.run_bind,run_program,hg.2,main]
    · cases hks
  · cases h
@[simp] theorem aggEq_simp {P:Program} {t:TypeId} {cs ds:List C} (h:aggOk (eqT P t) cs ds=true):AggEq P t cs ds↔True:=⟨fun _=>trivial,fun _=>aggEq_ok h⟩
end Go.VL
