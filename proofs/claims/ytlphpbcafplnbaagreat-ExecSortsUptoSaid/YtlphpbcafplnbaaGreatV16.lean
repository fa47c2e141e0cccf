/- Contracts of functions of the seat, proved in a logic on data over the model (part V16). -/
import Derived.Test.YtlphpbcafplnbaaGreatV15
set_option linter.unusedSimpArgs false
set_option linter.unusedVariables false
namespace Go.VL
open Go.RowKit
def tick {α:Sort _} (x:α):α:=x
inductive Keep {α:Sort _} (x:α):Type where
  | mk
def force {α:Sort _} (x:α) (k:α→Prop) (_:Keep k:=.mk):Prop:=k x
@[simp] theorem tick_eq {α:Sort _} (x:α):tick x=x:=rfl
@[simp] theorem force_eq {α:Sort _} (x:α) (k:α→Prop) (h:Keep k):force x k h=k x:=rfl
@[simp] theorem vlook_nil {α:Type} (d:α) (t:Nat):vlook d [] t=d:=rfl
@[simp] theorem vlook_cons {α:Type} (d:α) (k:Nat) (x:α) (r:List (Nat × α)) (t:Nat):vlook d ((k,x)::r) t=bif k == t then x else vlook d r t:=rfl
@[simp] theorem get_mk (env:List (Nat × S)) (res:List (Nat × Option Res)) (t:Nat):St.get ⟨env,res⟩ t=vlook .un env t:=rfl
@[simp] theorem rs_mk (env:List (Nat × S)) (res:List (Nat × Option Res)) (t:Nat):St.rs ⟨env,res⟩ t=vlook none res t:=rfl
@[simp] theorem put_mk (env:List (Nat × S)) (res:List (Nat × Option Res)) (t:Nat) (s:S):St.put ⟨env,res⟩ t s=⟨(t,s)::env,res⟩:=rfl
@[simp] theorem putd_some (st:St) (t:Nat) (s:S):st.putd (some t) s=st.put t s:=rfl
@[simp] theorem putd_none (st:St) (s:S):st.putd none s=st:=rfl
@[simp] theorem setR_mk (env:List (Nat × S)) (res:List (Nat × Option Res)) (i:Nat) (r:Option Res):St.setR ⟨env,res⟩ i r=⟨env,(i,r)::res⟩:=rfl
@[simp] theorem clr_mk (env:List (Nat × S)) (res:List (Nat × Option Res)) (i:Nat):St.clr ⟨env,res⟩ i=⟨env.map fun p=>(p.1,p.2.clr i),res.map fun p=>(p.1,p.2.map (Res.clr i))⟩:=rfl
@[simp] theorem ev_tmp (st:St) (t:Nat):st.ev (.tmp t)=st.get t:=rfl
@[simp] theorem ev_const (st:St) (v:Value):st.ev (.const v)=ofConst v:=rfl
@[simp] theorem ev_func (st:St) (f:FuncId):st.ev (.func f) = .c (.fn f []):=rfl
@[simp] theorem ofConst_int (k:IntKind) (n:Int):ofConst (.int k n) = .c (.v (.int k n)):=rfl
@[simp] theorem ofConst_bool (b:Bool):ofConst (.bool b) = .c (.v (.bool b)):=rfl
@[simp] theorem ofConst_string (s:ByteArray):ofConst (.string s) = .c (.v (.string s)):=rfl
@[simp] theorem ofConst_slice:ofConst (.slice none 0 0) = .c (.sl true []):=rfl
@[simp] theorem ofConst_ptr:ofConst (.pointer none) = .c (.v (.pointer none)):=rfl
@[simp] theorem ofVal_int (k:IntKind) (n:Int):ofVal (.int k n) = .v (.int k n):=rfl
@[simp] theorem ofVal_bool (b:Bool):ofVal (.bool b) = .v (.bool b):=rfl
@[simp] theorem ofVal_string (s:ByteArray):ofVal (.string s) = .v (.string s):=rfl
@[simp] theorem ofVal_slice:ofVal (.slice none 0 0) = .sl true []:=rfl
@[simp] theorem ofVal_ptr:ofVal (.pointer none) = .v (.pointer none):=rfl
@[simp] theorem ofConst_agg (l:List Value):ofConst (.agg l.toArray)=if l.all (·.oneCell') then .agg (l.map ofVal) else .un:=by simp [ofConst]
attribute [simp] S.clr S.clrs Res.clr S.men S.mens Value.oneCell'
section
variable {P:Program} {w0:World} {K0:K0T} {nt:Nat}
@[simp ↓] theorem vc_skip (st:St) (Q:Exit→St→Prop):vc P w0 K0 nt .skip st Q=Q .normal st:=by rw [vc]
@[simp ↓] theorem vc_region (id:Nat) (ops:List Oper) (st:St) (Q:Exit→St→Prop):vc P w0 K0 nt (.region id ops.toArray false) st Q=vr P ops.toArray ops st (Q .normal):=by rw [vc];rfl
def VL (P:Program) (w0:World) (K0:K0T) (nt:Nat) (c:Code) (st:St) (Q:Exit→St→Prop) (_:Keep c) (_:Keep Q):Prop:=VW P w0 K0 nt c st Q
@[simp ↓] theorem vc_draw (id:Nat) (ops:Array Oper) (st:St) (Q:Exit→St→Prop):vc P w0 K0 nt (.region id ops true) st Q=VL P w0 K0 nt (.region id ops true) (tick st) Q .mk .mk:=by rw [vc];rfl
@[simp ↓] theorem vc_loop (c:Code) (st:St) (Q:Exit→St→Prop):vc P w0 K0 nt (.loop c) st Q=VL P w0 K0 nt (.loop c) (tick st) Q .mk .mk:=by rw [vc];rfl
@[simp ↓] theorem vc_seq (x y:Code) (st:St) (Q:Exit→St→Prop):vc P w0 K0 nt (.seq x y) st Q=vc P w0 K0 nt x st (seqQ (fun st'=>vc P w0 K0 nt y st' Q) Q):=by rw [vc]
@[simp ↓] theorem seqQ_normal (k:St→Prop) (Q:Exit→St→Prop) (st:St):seqQ k Q .normal st=k st:=rfl
@[simp ↓] theorem seqQ_exit (k:St→Prop) (Q:Exit→St→Prop) (st:St) (id:Nat):seqQ k Q (.exit id) st=Q (.exit id) st:=rfl
@[simp ↓] theorem seqQ_ret (k:St→Prop) (Q:Exit→St→Prop) (st:St):seqQ k Q .ret st=Q .ret st:=rfl
@[simp ↓] theorem blkQ_normal (id:Nat) (Q:Exit→St→Prop) (st:St):blkQ id Q .normal st=Q .normal st:=rfl
theorem blkQ_exit (id id':Nat) (Q:Exit→St→Prop) (st:St):blkQ id Q (.exit id') st=if id'=id then Q .normal st else Q (.exit id') st:=rfl
@[simp ↓] theorem blkQ_exit_at (id:Nat) (Q:Exit→St→Prop) (st:St):blkQ id Q (.exit id) st=Q .normal st:=by rw [blkQ_exit,if_pos rfl]
@[simp ↓] theorem blkQ_exit_by (id id':Nat) (Q:Exit→St→Prop) (st:St) (h:(id' == id)=false):blkQ id Q (.exit id') st=Q (.exit id') st:=by rw [blkQ_exit,if_neg (by simpa using h)]
@[simp ↓] theorem blkQ_ret (id:Nat) (Q:Exit→St→Prop) (st:St):blkQ id Q .ret st=Q .ret st:=rfl
@[simp ↓] theorem retQ_normal (fn:Func) (rs:List Rt) (st:St):retQ P fn rs .normal st=rvs P st fn.results.toList fun ss st'=>asRts st' ss rs∧(ownNames ss rs).Nodup:=rfl
@[simp ↓] theorem retQ_ret (fn:Func) (rs:List Rt) (st:St):retQ P fn rs .ret st=rvs P st fn.results.toList fun ss st'=>asRts st' ss rs∧(ownNames ss rs).Nodup:=rfl
@[simp ↓] theorem rvs_nil (st:St) (k:List S→St→Prop):rvs P st [] k=k [] st:=rfl
@[simp ↓] theorem rvs_tmp (st:St) (t:Nat) (r:List ResultVar) (k:List S→St→Prop):rvs P st (.tmp t::r) k=rvs P st r fun ss st'=>k (st.get t::ss) st':=rfl
@[simp ↓] theorem rvs_cell (st:St) (a t:Nat) (r:List ResultVar) (k:List S→St→Prop):rvs P st (.cell a t::r) k=force (tick (st.get a)) fun s=>vloadb P st t s fun s st1=>force (tick st1) fun st1=>rvs P st1 r fun ss st'=>k (s::ss) st':=rfl
def vcond (s:S) (x y:Prop):Prop :=
  match s with
  | .c (.v (.bool b))=>(b=true→x)∧(b=false→y)
  | _=>False
def VIf (b:Bool) (x y:Prop) (_:Keep x) (_:Keep y):Prop:=(b=true→x)∧(b=false→y)
theorem VIf.mk {b:Bool} {x y:Prop} {m1:Keep x} {m2:Keep y} (h1:b=true→x) (h2:b=false→y):VIf b x y m1 m2:=⟨h1,h2⟩
@[simp] theorem VIf_true (x y:Prop) (m1:Keep x) (m2:Keep y):VIf true x y m1 m2=x:=by simp [VIf]
@[simp] theorem VIf_false (x y:Prop) (m1:Keep x) (m2:Keep y):VIf false x y m1 m2=y:=by simp [VIf]
@[simp ↓] theorem vcond_bool (b:Bool) (x y:Prop):vcond (.c (.v (.bool b))) x y=VIf (tick b) x y .mk .mk:=rfl
@[simp ↓] theorem vc_cond (c:Operand) (x y:Code) (st:St) (Q:Exit→St→Prop):vc P w0 K0 nt (.cond c x y) st Q=force (tick (st.ev c)) fun s=>vcond s (vc P w0 K0 nt x st Q) (vc P w0 K0 nt y st Q):=by
  rw [vc];unfold force tick vcond;split <;> simp_all
@[simp ↓] theorem vc_block (id:Nat) (c:Code) (st:St) (Q:Exit→St→Prop):vc P w0 K0 nt (.block id c) st Q=vc P w0 K0 nt c st (blkQ id Q):=by rw [vc]
@[simp ↓] theorem vc_exit (id:Nat) (st:St) (Q:Exit→St→Prop):vc P w0 K0 nt (.exit id) st Q=Q (.exit id) st:=by rw [vc]
@[simp ↓] theorem vc_ret (st:St) (Q:Exit→St→Prop):vc P w0 K0 nt .ret st Q=Q .ret st:=by rw [vc]
@[simp ↓] theorem vr_nil (ops:Array Oper) (st:St) (K:St→Prop):vr P ops [] st K=force (tick st) K:=rfl
@[simp ↓] theorem vr_cons (ops:Array Oper) (o:Oper) (l:List Oper) (st:St) (K:St→Prop):vr P ops (o::l) st K=force (tick st) fun st=>vstepL P ops st o fun st'=>vr P ops l st' K:=rfl
def goS (p:S × Prop) (k:S→Prop):Prop:=p.2∧k p.1
@[simp ↓] theorem goS_mk (s:S) (c:Prop) (k:S→Prop):goS (s,c) k=(c∧k s):=rfl
theorem VL.loop {c:Code} {st:St} {Q:Exit→St→Prop} {m1:Keep (Code.loop c)} {m2:Keep Q} {ι:Type} (I:ι→St) (H:ι→Prop) (μ:ι→Nat) (i0:ι) (hok:codeOk nt c=true) (h0:H i0) (hst:st.le (I i0))
    (round:∀ i,H i→vc P w0 K0 nt c (I i) (seqQ (fun st'=>∃ j,H j∧st'.le (I j)∧μ j<μ i) Q)):VL P w0 K0 nt (.loop c) st Q m1 m2 :=
  vw_loop I H μ i0 hok h0 hst round
variable (ops:Array Oper) (st:St) (d:Option Nat) (ty:TypeId) (p:String) (af:Array Edge) (K:St→Prop)
@[simp ↓] theorem vs_move (x:Operand):vstep P ops st ⟨d,.move x,ty,p,af,none⟩ K=K (st.putd d (st.ev x)):=by
  simp [vstep,isPick,vop,vpure,pev]
@[simp ↓] theorem vs_assign_nil (x:Nat):vstep P ops st ⟨some x,.assign (.const (.slice none 0 0)),ty,p,af,none⟩ K=K (((st.clr (64*x)).setR (64*x) (some (.arr true 0 [] 0))).put x (.own (64*x) 0)):=rfl
@[simp ↓] theorem vs_assign_tmp (t:Nat):vstep P ops st ⟨d,.assign (.tmp t),ty,p,af,none⟩ K=K (st.putd d (st.get t)):=by
  simp [vstep,isPick,vop,vpure,pev]
@[simp ↓] theorem vs_assign_int (k:IntKind) (n:Int):vstep P ops st ⟨d,.assign (.const (.int k n)),ty,p,af,none⟩ K=K (st.putd d (.c (.v (.int k n)))):=by
  simp [vstep,isPick,vop,vpure,pev]
@[simp ↓] theorem vs_assign_bool (b:Bool):vstep P ops st ⟨d,.assign (.const (.bool b)),ty,p,af,none⟩ K=K (st.putd d (.c (.v (.bool b)))):=by
  simp [vstep,isPick,vop,vpure,pev]
@[simp ↓] theorem vs_assign_string (s:ByteArray):vstep P ops st ⟨d,.assign (.const (.string s)),ty,p,af,none⟩ K=K (st.putd d (.c (.v (.string s)))):=by
  simp [vstep,isPick,vop,vpure,pev]
@[simp ↓] theorem vs_pick (c x y:Operand):vstep P ops st ⟨d,.pick c x y,ty,p,af,none⟩ K=force (tick (vpick true (st.ev c) (st.ev x) (st.ev y))) fun r=>goS r fun s=>K (st.putd d s):=by
  rw [force_eq,tick_eq];simp [vstep,isPick,PStep,gflag,wrapg,goS]
@[simp ↓] theorem vs_binOp (o:BinOp) (t yt:TypeId) (x y:Operand):vstep P ops st ⟨d,.binOp o t x y yt,ty,p,af,none⟩ K=force (tick (pbinQ P st o t y (st.ev x) (st.ev y))) fun r=>goS r fun s=>K (st.putd d s):=rfl
@[simp ↓] theorem vs_unOp (o:UnOp) (t:TypeId) (x:Operand):vstep P ops st ⟨d,.unOp o t x,ty,p,af,none⟩ K=force (tick (pun o (st.ev x))) fun r=>goS r fun s=>K (st.putd d s):=rfl
@[simp ↓] theorem vs_convert (a b:TypeId) (x:Operand):vstep P ops st ⟨d,.convert a b x,ty,p,af,none⟩ K=force (tick (pconv P st a b (st.ev x))) fun r=>goS r fun s=>K (st.putd d s):=rfl
@[simp ↓] theorem vs_fieldAddr (t:TypeId) (x:Operand) (f:Nat):vstep P ops st ⟨d,.fieldAddr t x f,ty,p,af,none⟩ K=force (tick (pfieldAddr P st t f (st.ev x))) fun r=>goS r fun s=>K (st.putd d s):=rfl
@[simp ↓] theorem vs_field (t:TypeId) (x:Operand) (f:Nat):vstep P ops st ⟨d,.field t x f,ty,p,af,none⟩ K=force (tick (pfield P t f (st.ev x))) fun r=>goS r fun s=>K (st.putd d s):=rfl
@[simp ↓] theorem vs_indexAddr (t:TypeId) (x i:Operand):vstep P ops st ⟨d,.indexAddr t x i,ty,p,af,none⟩ K=force (tick (pindexAddr P st t (st.ev x) (st.ev i))) fun r=>goS r fun s=>K (st.putd d s):=rfl
@[simp ↓] theorem vs_index (t:TypeId) (x i:Operand):vstep P ops st ⟨d,.index t x i,ty,p,af,none⟩ K=force (tick (pindex P t (st.ev x) (st.ev i))) fun r=>goS r fun s=>K (st.putd d s):=rfl
@[simp ↓] theorem vs_nilCheck (x:Operand):vstep P ops st ⟨d,.nilCheck x,ty,p,af,none⟩ K=force (tick (pnil st (st.ev x))) fun r=>goS r fun s=>K (st.putd d s):=rfl
def pext (k:Nat) (s:S):S × Prop :=
  match s with
  | .tup ss=>match ss[k]? with
    | some s=>(s,True)
    | none=>no
  | _=>no
@[simp ↓] theorem vs_extract (x:Operand) (k:Nat):vstep P ops st ⟨d,.extract x k,ty,p,af,none⟩ K=force (tick (pext k (st.ev x))) fun r=>goS r fun s=>K (st.putd d s):=rfl
def vcapE (c:Option (List C)) (r:Option Res) (st:St) (i:Nat) (k:C→St→Prop):Prop :=
  match c,r with
  | some cs,some (.box _ _)=>k (.dp cs) (st.setR i (some (.box true (cs.map .c))))
  | _,_=>False
@[simp ↓] theorem vcapE_some (cs:List C) (fz:Bool) (ss:List S) (st:St) (i:Nat) (k:C→St→Prop):vcapE (some cs) (some (.box fz ss)) st i k=k (.dp cs) (st.setR i (some (.box true (cs.map .c)))):=rfl
def vcapB (r:Option Res) (st:St) (i:Nat) (k:C→St→Prop):Prop :=
  match r with
  | some (.box _ ss)=>vsnaps st ss fun ss' st'=>vcapE (allC ss') (st'.rs i) st' i k
  | _=>False
@[simp ↓] theorem vcapB_some (fz:Bool) (ss:List S) (st:St) (i:Nat) (k:C→St→Prop):vcapB (some (.box fz ss)) st i k=vsnaps st ss fun ss' st'=>force (tick (allC ss')) fun c=>force (tick (st'.rs i)) fun r=>vcapE c r st' i k:=rfl
@[simp ↓] theorem vcap_ptr (i:Nat) (st:St) (k:C→St→Prop):vcap st (.ptr i 0) k=force (tick (st.rs i)) fun r=>vcapB r st i k:=by
  rw [force_eq,tick_eq]
  unfold vcap vcapB vcapE
  rfl
@[simp ↓] theorem vcaps_nil (st:St) (k:List C→St→Prop):vcaps st [] k=k [] st:=rfl
@[simp ↓] theorem vcaps_cons (s:S) (r:List S) (st:St) (k:List C→St→Prop):vcaps st (s::r) k=force (tick s) fun s=>vcap st s fun c st'=>force (tick st') fun st'=>vcaps st' r fun cs st''=>k (c::cs) st'':=rfl
@[simp ↓] theorem vs_makeFuncC (f:FuncId) (x:Operand) (cap:List Operand):vstep P ops st ⟨d,.makeFunc (.func f) #[] (x::cap).toArray,ty,p,af,none⟩ K=force (tick ((x::cap).map st.ev)) fun ss=>force (tick (capOwn st ss)) fun q=>vmf d st f ss K q:=by
  simp only [force_eq,tick_eq]
  simp only [vstep,isPick,vop]
  simp
@[simp ↓] theorem vmf_true (f:FuncId) (ss:List S):vmf d st f ss K true=K (st.putd d (.fnp f ss)):=rfl
@[simp ↓] theorem vmf_false (f:FuncId) (ss:List S):vmf d st f ss K false=vcaps st ss fun cs st'=>K (st'.putd d (.c (.fn f cs))):=rfl
attribute [simp] S.isOwn capR capS capOwn
@[simp ↓] theorem vs_len (t:TypeId) (x:Operand):vstep P ops st ⟨d,.call ⟨.builtin .len,#[x],#[t]⟩,ty,p,af,none⟩ K=force (tick (plen P st t (st.ev x))) fun r=>goS r fun s=>K (st.putd d s):=rfl
@[simp ↓] theorem vs_max (ts:Array TypeId) (x:Operand) (r:List Operand):vstep P ops st ⟨d,.call ⟨.builtin .max,⟨x::r⟩,ts⟩,ty,p,af,none⟩ K=force (tick (pmm true (st.ev x) (r.map st.ev))) fun r=>goS r fun s=>K (st.putd d s):=rfl
@[simp ↓] theorem vs_min (ts:Array TypeId) (x:Operand) (r:List Operand):vstep P ops st ⟨d,.call ⟨.builtin .min,⟨x::r⟩,ts⟩,ty,p,af,none⟩ K=force (tick (pmm false (st.ev x) (r.map st.ev))) fun r=>goS r fun s=>K (st.putd d s):=rfl
@[simp ↓] theorem vsnap_c (x:C) (k:S→St→Prop):vsnap st (.c x) k=k (.c x) st:=rfl
@[simp ↓] theorem vsnap_agg (x:List C) (k:S→St→Prop):vsnap st (.agg x) k=k (.agg x) st:=rfl
def vsnapO (r:Option Res) (st:St) (i n:Nat) (k:S→St→Prop):Prop :=
  match r with
  | some (.arr nil sz xs _)=>xs.length=n∧k (.c (.sl nil xs)) (st.setR i (some (.arr nil sz xs xs.length)))
  | _=>False
@[simp ↓] theorem vsnapO_arr (nil:Bool) (sz:Nat) (xs:List (List C)) (fx i n:Nat) (k:S→St→Prop):vsnapO (some (.arr nil sz xs fx)) st i n k=(xs.length=n∧k (.c (.sl nil xs)) (st.setR i (some (.arr nil sz xs xs.length)))):=rfl
@[simp ↓] theorem vsnap_own (i n:Nat) (k:S→St→Prop):vsnap st (.own i n) k=force (tick (st.rs i)) fun r=>vsnapO r st i n k:=rfl
@[simp ↓] theorem vsnaps_nil (k:List S→St→Prop):vsnaps st [] k=k [] st:=rfl
@[simp ↓] theorem vsnaps_cons (s:S) (r:List S) (k:List S→St→Prop):vsnaps st (s::r) k=force (tick st) fun st=>vsnap st s fun s' st'=>vsnaps st' r fun r' st''=>k (s'::r') st'':=rfl
def vslD (P:Program) (t:TypeId) (s:S) (lo hi mx:Option S) (d:Option Nat) (st:St) (K:St→Prop):Prop :=
  vsnap st s fun s st'=>force (tick (pslice P t s lo hi mx)) fun r=>goS r fun s=>K (st'.putd d s)
def VSL (P:Program) (t:TypeId) (s:S) (lo hi mx:Option S) (q:Bool) (d:Option Nat) (st:St) (K:St→Prop) (_:Keep K):Prop :=
  vslD P t s lo hi mx d st K∨(q=true∧vsliceO P d st t s lo hi K)
theorem VSL.data {t:TypeId} {s:S} {lo hi mx:Option S} {q:Bool} {d:Option Nat} {st:St} {K:St→Prop} (h:vslD P t s lo hi mx d st K):VSL P t s lo hi mx q d st K .mk:=.inl h
theorem VSL.own {t:TypeId} {s:S} {lo hi mx:Option S} {d:Option Nat} {st:St} {K:St→Prop} (h:vsliceO P d st t s lo hi K):VSL P t s lo hi mx true d st K .mk:=.inr ⟨rfl,h⟩
@[simp ↓] theorem vslD_eq (t:TypeId) (s:S) (lo hi mx:Option S):vslD P t s lo hi mx d st K=vsnap st s fun s st'=>force (tick (pslice P t s lo hi mx)) fun r=>goS r fun s=>K (st'.putd d s):=rfl
def vslX (P:Program) (t:TypeId) (s:S) (lo hi mx:Option S) (q:Bool) (d:Option Nat) (st:St) (K:St→Prop):Prop :=
  match s with
  | .own i n=>VSL P t (.own i n) lo hi mx q d st K .mk
  | s=>vslD P t s lo hi mx d st K
@[simp ↓] theorem vslX_own (t:TypeId) (i n:Nat) (lo hi mx:Option S) (q:Bool):vslX P t (.own i n) lo hi mx q d st K=VSL P t (.own i n) (tick lo) (tick hi) (tick mx) (tick q) d (tick st) K .mk:=rfl
@[simp ↓] theorem vslX_c (t:TypeId) (x:C) (lo hi mx:Option S) (q:Bool):vslX P t (.c x) lo hi mx q d st K=vslD P t (.c x) lo hi mx d st K:=rfl
@[simp ↓] theorem vs_slice (t:TypeId) (x:Operand) (lo hi mx:Option Operand):vstep P ops st ⟨d,.slice t x lo hi mx,ty,p,af,none⟩ K =
    force (tick (st.ev x)) fun s=>vslX P t s (lo.map st.ev) (hi.map st.ev) (mx.map st.ev) mx.isNone d st K:=by
  show ((vsnap st (st.ev x) fun s st'=>(pslice P t s (lo.map st.ev) (hi.map st.ev) (mx.map st.ev)).2∧K (st'.putd d (pslice P t s (lo.map st.ev) (hi.map st.ev) (mx.map st.ev)).1))∨(mx=none∧vsliceO P d st t (st.ev x) (lo.map st.ev) (hi.map st.ev) K))=_
  unfold force tick vslX
  cases hx:st.ev x with
  | own i n =>
    simp only [VSL]
    have:(mx.isNone=true)=(mx=none):=by cases mx <;> simp
    rw [this]
    rfl
  | _ =>
    have:∀ lo hi,¬ vsliceO P d st t (st.ev x) lo hi K:=by
      intro lo hi h
      rw [hx] at h
      unfold vsliceO at h
      split at h <;> first | exact h | simp_all
    rw [hx] at this
    simp only [this,and_false,or_false]
    rfl
def vslH (m:Option Int) (r:Option Res) (e:Bool) (i n y:Nat) (st:St) (K:St→Prop):Prop :=
  match m,r with
  | some m,some (.arr nil sz xs fx)=>0≤m∧m≤n∧xs.length=n∧fx≤m.toNat∧e=true∧K (((st.clr i).setR i (some (.arr nil sz (xs.take m.toNat) fx))).put y (.own i m.toNat))
  | _,_=>False
@[simp ↓] theorem vslH_some (m:Int) (nil:Bool) (sz:Nat) (xs:List (List C)) (fx:Nat) (e:Bool) (i n y:Nat):vslH (some m) (some (.arr nil sz xs fx)) e i n y st K =
  (0≤m∧m≤n∧xs.length=n∧fx≤m.toNat∧e=true∧K (((st.clr i).setR i (some (.arr nil sz (xs.take m.toNat) fx))).put y (.own i m.toNat))):=rfl
def vslS (m:Option Int) (r:Option Res) (e:Option Nat) (i n y:Nat) (st:St) (K:St→Prop):Prop :=
  match m,r with
  | some m,some (.arr nil sz xs _)=>0≤m∧m≤n∧xs.length=n∧(nil=false→e=some sz)∧e.isSome=true∧K (st.put y (.suf i n m.toNat))
  | _,_=>False
@[simp ↓] theorem vslS_some (m:Int) (nil:Bool) (sz:Nat) (xs:List (List C)) (fx:Nat) (e:Option Nat) (i n y:Nat):vslS (some m) (some (.arr nil sz xs fx)) e i n y st K =
  (0≤m∧m≤n∧xs.length=n∧(nil=false→e=some sz)∧e.isSome=true∧K (st.put y (.suf i n m.toNat))):=rfl
@[simp ↓] theorem vsliceO_head (t:TypeId) (i n y:Nat) (h:S):vsliceO P (some y) st t (.own i n) none (some h) K=force (tick (sint h)) fun m=>force (tick (st.rs i)) fun r=>force (tick (esz P t).isSome) fun e=>vslH m r e i n y st K:=by
  unfold vsliceO vslH force tick
  simp only
  all_goals (cases sint h <;> cases st.rs i <;> try rfl)
@[simp ↓] theorem vsliceO_rest (t:TypeId) (i n y:Nat) (l:S):vsliceO P (some y) st t (.own i n) (some l) none K=force (tick (sint l)) fun m=>force (tick (st.rs i)) fun r=>force (tick (esz P t)) fun e=>vslS m r e i n y st K:=by
  unfold vsliceO vslS force tick
  simp only
  all_goals (cases sint l <;> cases st.rs i <;> try rfl)
@[simp ↓] theorem vsnap_fnp (f:FuncId) (ss:List S) (k:S→St→Prop):vsnap st (.fnp f ss) k=k (.fnp f ss) st:=rfl
def vbdR (P:Program) (t:TypeId) (r:Option Res) (i n:Nat) (st:St) (d:Option Nat) (K:St→Prop):Prop :=
  match r with
  | some (.arr _ _ xs _)=>B1 P t∧xs.length=n∧K (st.putd d (.st [.own i n]))
  | _=>False
@[simp ↓] theorem vbdR_arr (t:TypeId) (nil:Bool) (sz:Nat) (xs:List (List C)) (fx i n:Nat) (d:Option Nat):vbdR P t (some (.arr nil sz xs fx)) i n st d K=(B1 P t∧xs.length=n∧K (st.putd d (.st [.own i n]))):=rfl
def vbdQ (P:Program) (t:TypeId) (q:Option (Nat × Nat)) (is:List Nat) (ss:List S) (st:St) (d:Option Nat) (K:St→Prop):Prop :=
  match q with
  | some (i,n)=>force (tick (st.rs i)) fun r=>vbdR P t r i n st d K
  | none=>vsnaps st ss fun ss st'=>force (tick (pbuild P t (is.zip ss))) fun r=>goS r fun s=>K (st'.putd d s)
@[simp ↓] theorem vbdQ_some (t:TypeId) (i n:Nat) (is:List Nat) (ss:List S) (d:Option Nat):vbdQ P t (some (i,n)) is ss st d K=force (tick (st.rs i)) fun r=>vbdR P t r i n st d K:=rfl
@[simp ↓] theorem vbdQ_none (t:TypeId) (is:List Nat) (ss:List S) (d:Option Nat):vbdQ P t none is ss st d K=vsnaps st ss fun ss st'=>force (tick (pbuild P t (is.zip ss))) fun r=>goS r fun s=>K (st'.putd d s):=rfl
@[simp] theorem isOne_some (b:Bool) (n:Nat):isOne (some (b,n))=(b && n == 1):=rfl
@[simp] theorem oneOwn_false (is:List Nat) (ss:List S):oneOwn false is ss=none:=rfl
@[simp] theorem oneOwn_own (i n:Nat):oneOwn true [0] [.own i n]=some (i,n):=rfl
@[simp] theorem oneOwn_c (x:C) (is:List Nat) (ss:List S):oneOwn true is (.c x::ss)=none:=by
  unfold oneOwn
  rw [cond_true]
  split
  · rename_i h;cases h
  · rfl
@[simp ↓] theorem vs_build (t:TypeId) (parts:List (Nat × Operand)):vstep P ops st ⟨d,.build t parts.toArray,ty,p,af,none⟩ K =
    force (tick (parts.map fun q=>st.ev q.2)) fun ss=>force (tick (oneOwn (isOne (tySz P t)) (parts.map (·.1)) ss)) fun q=>vbdQ P t q (parts.map (·.1)) ss st d K:=by
  show vop P d st st.ev (.build t parts.toArray) K=_
  unfold vop vbdQ force tick
  simp only
  cases oneOwn (isOne (tySz P t)) (parts.map (·.1)) (parts.map fun q=>st.ev q.2) with
  | none=>rfl
  | some q =>
    obtain ⟨i,n⟩:=q
    first | (simp only [vbdR];done) | (simp only [vbdR];rfl)
@[simp ↓] theorem vsnap_st (x:List S) (k:S→St→Prop):vsnap st (.st x) k=k (.st x) st:=rfl
def vloadC (c:Option (List C)) (m:Nat) (st:St) (k:S→St→Prop):Prop :=
  match c with
  | some cs=>cs.length=m∧k (.agg cs) st
  | none=>False
@[simp ↓] theorem vloadC_some (cs:List C) (m:Nat) (k:S→St→Prop):vloadC (some cs) m st k=(cs.length=m∧k (.agg cs) st):=rfl
def vloadB (r:Option Res) (st:St) (m o:Nat) (k:S→St→Prop):Prop :=
  match r with
  | some (.box _ ss)=>force (tick ((ss.drop o).take m)) fun l=>vsnaps st l fun ss' st'=>force (tick (allC ss')) fun c=>vloadC c m st' k
  | _=>False
def vloadX (P:Program) (y:Option (Bool × Nat)) (st:St) (t:TypeId) (s:S) (k:S→St→Prop):Prop :=
  match y,s with
  | some (true,m),.ptr i o=>force (tick (st.rs i)) fun r=>vloadB r st m o k
  | _,_=>force (tick (pload P st t s)) fun r=>goS r fun s=>k s st
theorem vloadb_eq (t:TypeId) (s:S) (k:S→St→Prop):vloadb P st t s k=vloadX P (tySz P t) st t s k:=by
  unfold vloadb vloadX
  cases tySz P t with
  | none=>rfl
  | some y =>
    obtain ⟨b,m⟩:=y
    cases b with
    | false=>cases s <;> rfl
    | true =>
      cases s with
      | ptr i o =>
        simp only [force,tick,vloadB]
        cases st.rs i with
        | none=>rfl
        | some r=>cases r <;> rfl
      | _=>rfl
@[simp ↓] theorem vloadb_go (t:TypeId) (s:S) (k:S→St→Prop):vloadb P st t s k=force (tick (tySz P t)) fun y=>vloadX P y st t s k:=vloadb_eq st t s k
@[simp ↓] theorem vloadX_ptr (t:TypeId) (m i o:Nat) (k:S→St→Prop):vloadX P (some (true,m)) st t (.ptr i o) k=force (tick (st.rs i)) fun r=>vloadB r st m o k:=rfl
@[simp ↓] theorem vloadX_one (t:TypeId) (m:Nat) (s:S) (k:S→St→Prop):vloadX P (some (false,m)) st t s k=force (tick (pload P st t s)) fun r=>goS r fun s=>k s st:=rfl
@[simp ↓] theorem vloadX_c (y:Option (Bool × Nat)) (t:TypeId) (x:C) (k:S→St→Prop):vloadX P y st t (.c x) k=force (tick (pload P st t (.c x))) fun r=>goS r fun s=>k s st:=by
  unfold vloadX;split
  · rename_i h;cases h
  · rfl
@[simp ↓] theorem vloadX_ep (y:Option (Bool × Nat)) (t:TypeId) (i n j o:Nat) (k:S→St→Prop):vloadX P y st t (.ep i n j o) k=force (tick (pload P st t (.ep i n j o))) fun r=>goS r fun s=>k s st:=by
  unfold vloadX;split
  · rename_i h;cases h
  · rfl
@[simp ↓] theorem vloadB_box (fz:Bool) (ss:List S) (m o:Nat) (k:S→St→Prop):vloadB (some (.box fz ss)) st m o k=force (tick ((ss.drop o).take m)) fun l=>vsnaps st l fun ss' st'=>force (tick (allC ss')) fun c=>vloadC c m st' k:=by
  unfold vloadB;rfl
@[simp ↓] theorem vs_load (t:TypeId) (x:Operand):vstep P ops st ⟨d,.load t x,ty,p,af,none⟩ K=force (tick (st.ev x)) fun s=>vloadb P st t s fun s st'=>K (st'.putd d s):=rfl
def vallocZ (z:Option Value) (x:Nat) (st:St) (K:St→Prop):Prop :=
  match z with
  | some z=>z.cells.all (·.oneCell')=true∧K ((((znils (64*x) 0 z.cells.toList st).clr (64*x)).setR (64*x) (some (.box false (zcells (64*x) 0 z.cells.toList)))).put x (.ptr (64*x) 0))
  | none=>False
@[simp] theorem cellsV_agg (l:Array Value):(Value.agg l).cells=l:=rfl
@[simp] theorem cellsV_int (k:IntKind) (n:Int):(Value.int k n).cells = #[.int k n]:=rfl
@[simp] theorem cellsV_ptr (a:Option Addr):(Value.pointer a).cells = #[.pointer a]:=rfl
@[simp] theorem cellsV_slice (a:Option Addr) (n c:Nat):(Value.slice a n c).cells = #[.slice a n c]:=rfl
@[simp] theorem cellsV_map (r:Option Nat):(Value.map r).cells = #[.map r]:=rfl
@[simp ↓] theorem vallocZ_some (z:Value) (x:Nat):vallocZ (some z) x st K=(z.cells.toList.all (·.oneCell')=true∧K ((((znils (64*x) 0 z.cells.toList st).clr (64*x)).setR (64*x) (some (.box false (zcells (64*x) 0 z.cells.toList)))).put x (.ptr (64*x) 0))):=by
  rw [Array.all_toList];rfl
@[simp ↓] theorem vs_alloc (t:TypeId) (x:Nat):vstep P ops st ⟨some x,.alloc t,ty,p,af,none⟩ K=force (tick (zeroOf P t)) fun z=>vallocZ z x st K:=by
  show valloc P (some x) st t K=vallocZ (zeroOf P t) x st K
  unfold valloc vallocZ
  cases zeroOf P t <;> rfl
def vboxC (c:Option (List S)) (x:Nat) (st:St) (K:St→Prop):Prop :=
  match c with
  | some cs=>S.mens (64*x) cs=false∧K (((st.clr (64*x)).setR (64*x) (some (.box false cs))).put x (.ptr (64*x) 0))
  | none=>False
@[simp ↓] theorem vboxC_some (cs:List S) (x:Nat):vboxC (some cs) x st K=(S.mens (64*x) cs=false∧K (((st.clr (64*x)).setR (64*x) (some (.box false cs))).put x (.ptr (64*x) 0))):=rfl
@[simp ↓] theorem vs_box (t:TypeId) (y:Operand) (x:Nat):vstep P ops st ⟨some x,.box t y,ty,p,af,none⟩ K=force (tick (st.ev y)) fun s=>vsnap st s fun s' st'=>force (tick (cellsH st' s')) fun c=>force (tick st') fun st'=>vboxC c x st' K:=by
  show vbox (some x) st (st.ev y) K=_
  unfold vbox force tick vboxC
  rfl
def vstoreB (r:Option Res) (y:Option (Bool × Nat)) (c:Option (List S)) (st:St) (i off:Nat) (K:St→Prop):Prop :=
  match r,y,c with
  | some (.box false ss),some (_,n),some cs=>cs.length=n∧off+n≤ss.length∧K (st.setR i (some (.box false (spl ss off cs))))
  | _,_,_=>False
@[simp ↓] theorem vstoreB_some (ss:List S) (b:Bool) (n:Nat) (cs:List S) (i off:Nat):vstoreB (some (.box false ss)) (some (b,n)) (some cs) st i off K=(cs.length=n∧off+n≤ss.length∧K (st.setR i (some (.box false (spl ss off cs))))):=rfl
def vstoreA (r:Option Res) (y:Option (Bool × Nat)) (c:Option (List C)) (st:St) (i m j o:Nat) (K:St→Prop):Prop :=
  match r,y,c with
  | some (.arr nil sz xs fx),some (_,n),some cs=>cs.length=n∧xs.length=m∧j<m∧o+n≤sz∧fx≤j∧K (st.setR i (some (.arr nil sz (xs.set j (spl (xs.getD j []) o cs)) fx)))
  | _,_,_=>False
@[simp ↓] theorem vstoreA_some (nil:Bool) (sz:Nat) (xs:List (List C)) (fx:Nat) (b:Bool) (n:Nat) (cs:List C) (i m j o:Nat):vstoreA (some (.arr nil sz xs fx)) (some (b,n)) (some cs) st i m j o K =
    (cs.length=n∧xs.length=m∧j<m∧o+n≤sz∧fx≤j∧K (st.setR i (some (.arr nil sz (xs.set j (spl (xs.getD j []) o cs)) fx)))):=rfl
def vstoreX (P:Program) (st:St) (t:TypeId) (x y:S) (K:St→Prop):Prop:=vstore P st t x y K
@[simp ↓] theorem vstoreX_ptr (t:TypeId) (i off:Nat) (s:S):vstoreX P st t (.ptr i off) s K=force (tick (st.rs i)) fun r=>force (tick (tySz P t)) fun y=>force (tick (cellsH st s)) fun c=>vstoreB r y c st i off K:=rfl
@[simp ↓] theorem vstoreX_ep (t:TypeId) (i m j o:Nat) (s:S):vstoreX P st t (.ep i m j o) s K=vsnap st s fun s' st'=>force (tick (st'.rs i)) fun r=>force (tick (tySz P t)) fun y=>force (tick (cellsS s')) fun c=>vstoreA r y c st' i m j o K:=rfl
@[simp ↓] theorem vs_store (t:TypeId) (x y:Operand):vstep P ops st ⟨d,.store t x y,ty,p,af,none⟩ K=force (tick (st.ev x)) fun x=>force (tick (st.ev y)) fun y=>vstoreX P st t x y K:=rfl
def vbsO (out:Option (List C)) (s:Nat) (zc:List C) (len x:Nat) (st:St) (K:St→Prop):Prop :=
  match out with
  | some out=>zc.length=s∧len*s≤16777216∧0<s∧len≤maxLen∧K (((st.clr (64*x)).setR (64*x) (some (.arr false s (chunks s len out) 0))).put x (.own (64*x) len))
  | none=>False
@[simp ↓] theorem vbsO_some (out:List C) (s:Nat) (zc:List C) (len x:Nat):vbsO (some out) s zc len x st K =
    (zc.length=s∧len*s≤16777216∧0<s∧len≤maxLen∧K (((st.clr (64*x)).setR (64*x) (some (.arr false s (chunks s len out) 0))).put x (.own (64*x) len))):=rfl
def elZ (P:Program) (t:TypeId):Option (Nat × List C) :=
  match P.underlying t with
  | some (.slice e)=>match tySz P e,zeroOf P e with
    | some (_,s),some z=>match cellsS (ofConst z) with
      | some zc=>some (s,zc)
      | none=>none
    | _,_=>none
  | _=>none
def vclR (r:Option Res) (i n j s:Nat) (zc:List C) (st:St) (K:St→Prop):Prop :=
  match r with
  | some (.arr nil sz xs fx)=>xs.length=n∧fx≤j∧j≤n∧s=sz∧zc.length=s∧0<s∧K (st.setR i (some (.arr nil sz (xs.take j++List.replicate (n-j) zc) fx)))
  | _=>False
@[simp ↓] theorem vclR_arr (nil:Bool) (sz:Nat) (xs:List (List C)) (fx i n j s:Nat) (zc:List C):vclR (some (.arr nil sz xs fx)) i n j s zc st K =
  (xs.length=n∧fx≤j∧j≤n∧s=sz∧zc.length=s∧0<s∧K (st.setR i (some (.arr nil sz (xs.take j++List.replicate (n-j) zc) fx)))):=rfl
def vclX (z:Option (Nat × List C)) (x:S) (st:St) (K:St→Prop):Prop :=
  match x,z with
  | .suf i n j,some (s,zc)=>force (tick (st.rs i)) fun r=>vclR r i n j s zc st K
  | _,_=>False
@[simp ↓] theorem vclX_suf (i n j s:Nat) (zc:List C):vclX (some (s,zc)) (.suf i n j) st K=force (tick (st.rs i)) fun r=>vclR r i n j s zc st K:=rfl
@[simp ↓] theorem vs_clear (t:TypeId) (x:Operand):vstep P ops st ⟨none,.call ⟨.builtin .clear,#[x],#[t]⟩,ty,p,af,none⟩ K=force (tick (st.ev x)) fun x=>force (tick (elZ P t)) fun z=>vclX z x st K:=by
  show vclear P none st t (st.ev x) K=vclX (elZ P t) (st.ev x) st K
  unfold vclear vclX elZ vclR force tick
  cases st.ev x with
  | suf i n j =>
    simp only
    cases P.underlying t with
    | none=>rfl
    | some de =>
      cases de with
      | slice el =>
        simp only
        cases hrr:st.rs i with
        | none =>
          cases tySz P el with
          | none=>rfl
          | some y=>obtain ⟨b,s⟩:=y;cases zeroOf P el with
            | none=>rfl
            | some z=>cases hz:cellsS (ofConst z) <;> simp only [hrr,hz]
        | some r =>
          cases tySz P el with
          | none=>cases r <;> rfl
          | some y =>
            obtain ⟨b,s⟩:=y
            cases zeroOf P el with
            | none=>cases r <;> rfl
            | some z=>cases hz:cellsS (ofConst z) <;> cases r <;> simp only [hrr,hz]
      | _=>rfl
  | _=>rfl
def vbsZ (z:Option (Nat × List C)) (len x:Nat) (is:List Nat) (ss:List S) (st:St) (K:St→Prop):Prop :=
  match z with
  | some (s,zc)=>vsnaps st ss fun ss st'=>force (tick (pfill (.inr s) (List.replicate len zc).flatten (is.zip ss))) fun out=>force (tick st') fun st'=>vbsO out s zc len x st' K
  | none=>False
@[simp ↓] theorem vbsZ_some (s:Nat) (zc:List C) (len x:Nat) (is:List Nat) (ss:List S):vbsZ (some (s,zc)) len x is ss st K =
    vsnaps st ss fun ss st'=>force (tick (pfill (.inr s) (List.replicate len zc).flatten (is.zip ss))) fun out=>force (tick st') fun st'=>vbsO out s zc len x st' K:=rfl
theorem vbuild_eq (f:Operand→S) (t:TypeId) (n:Nat) (parts:List (Nat × Operand)) (x:Nat) (st:St) (K:St→Prop) :
    vbuildSlice P (some x) st t n (parts.map fun q=>(q.1,f q.2)) K=vbsZ (elZ P t) n x (parts.map (·.1)) (parts.map fun q=>f q.2) st K:=by
  unfold vbuildSlice elZ vbsZ
  have e1:(parts.map fun q=>(q.1,f q.2)).map (·.2)=parts.map fun q=>f q.2:=by simp [Function.comp_def]
  have e2:(parts.map fun q=>(q.1,f q.2)).map (·.1)=parts.map (·.1):=by simp [Function.comp_def]
  rw [e1,e2]
  cases P.underlying t with
  | none=>rfl
  | some de =>
    cases de with
    | slice e =>
      simp only
      cases tySz P e with
      | none=>rfl
      | some y =>
        obtain ⟨b,s⟩:=y
        cases zeroOf P e with
        | none=>rfl
        | some z =>
          simp only
          cases cellsS (ofConst z) <;> rfl
    | _=>rfl
@[simp ↓] theorem vs_buildSlice (t:TypeId) (n:Nat) (parts:List (Nat × Operand)) (x:Nat):vstep P ops st ⟨some x,.buildSlice t n parts.toArray,ty,p,af,none⟩ K =
    force (tick (parts.map fun q=>st.ev q.2)) fun ss=>force (tick (elZ P t)) fun z=>vbsZ z n x (parts.map (·.1)) ss st K:=by
  exact vbuild_eq st.ev t n parts x st K
def apT (P:Program) (t xt:TypeId):Option (Nat × Nat) :=
  match slT P t,P.underlying xt with
  | some y,some (.slice _)=>some y
  | _,_=>none
def vapO (r:Option Res) (s B i n y:Nat) (ys:List (List C)) (st:St) (K:St→Prop):Prop :=
  match r with
  | some (.arr nil sz xs fx)=>xs.length=n∧(nil=false→sz=s)∧(∀ e∈ys,e.length=s)∧0<B∧(xs.length+ys.length)*B≤140737488355328 ∧
      K (((st.clr i).setR i (some (.arr (nil && ys.isEmpty) s (xs++ys) fx))).put y (.own i (n+ys.length)))
  | _=>False
@[simp ↓] theorem vapO_arr (nil:Bool) (sz:Nat) (xs:List (List C)) (fx s B i n y:Nat) (ys:List (List C)):vapO (some (.arr nil sz xs fx)) s B i n y ys st K =
    (xs.length=n∧(nil=false→sz=s)∧(∀ e∈ys,e.length=s)∧0<B∧(xs.length+ys.length)*B≤140737488355328 ∧
      K (((st.clr i).setR i (some (.arr (nil && ys.isEmpty) s (xs++ys) fx))).put y (.own i (n+ys.length)))):=rfl
def vapX (d x:S) (s B y:Nat) (st:St) (K:St→Prop):Prop :=
  match x with
  | .c (.sl _ ys) =>
    match d with
    | .c (.sl true [])=>(∀ e∈ys,e.length=s)∧0<B∧ys.length*B≤140737488355328∧K (((st.clr (64*y)).setR (64*y) (some (.arr ys.isEmpty s ys 0))).put y (.own (64*y) ys.length))
    | .own i n=>vapO (st.rs i) s B i n y ys st K
    | _=>False
  | _=>False
@[simp ↓] theorem vapX_nil (nil:Bool) (ys:List (List C)) (s B y:Nat):vapX (.c (.sl true [])) (.c (.sl nil ys)) s B y st K =
    ((∀ e∈ys,e.length=s)∧0<B∧ys.length*B≤140737488355328∧K (((st.clr (64*y)).setR (64*y) (some (.arr ys.isEmpty s ys 0))).put y (.own (64*y) ys.length))):=rfl
@[simp ↓] theorem vapX_own (nil:Bool) (ys:List (List C)) (i n s B y:Nat):vapX (.own i n) (.c (.sl nil ys)) s B y st K=force (tick (st.rs i)) fun r=>vapO r s B i n y ys st K:=rfl
def vapT (z:Option (Nat × Nat)) (d x:S) (y:Nat) (st:St) (K:St→Prop):Prop :=
  match z with
  | some (s,B)=>vsnap st x fun x' st'=>force (tick st') fun st'=>vapX d x' s B y st' K
  | none=>False
@[simp ↓] theorem vapT_some (s B:Nat) (d' x:S) (y:Nat):vapT (some (s,B)) d' x y st K=vsnap st x fun x' st'=>force (tick st') fun st'=>vapX d' x' s B y st' K:=rfl
@[simp ↓] theorem vs_append (t xt:TypeId) (x z:Operand) (y:Nat):vstep P ops st ⟨some y,.call ⟨.builtin .append,#[x,z],#[t,xt]⟩,ty,p,af,none⟩ K =
    force (tick (st.ev x)) fun x=>force (tick (st.ev z)) fun z=>force (tick (apT P t xt)) fun q=>vapT q x z y st K:=by
  show vappend P (some y) st t xt (st.ev x) (st.ev z) K=vapT (apT P t xt) (st.ev x) (st.ev z) y st K
  unfold vappend apT vapT
  cases slT P t with
  | none=>rfl
  | some q =>
    obtain ⟨s,B⟩:=q
    cases P.underlying xt with
    | none=>rfl
    | some de =>
      cases de with
      | slice e =>
        simp only [force,tick]
        rfl
      | _=>rfl
def vmkZ (z:Option (Nat × List C)) (sB:Option (Nat × Nat)) (l c:Option Int) (y:Nat) (st:St) (K:St→Prop):Prop :=
  match z,sB,l,c with
  | some (_,zc),some (s,B),some n,some m=>0≤n∧n≤m∧0<B∧m.toNat*B≤140737488355328∧0<s∧K (((st.clr (64*y)).setR (64*y) (some (.arr false s (List.replicate n.toNat zc) 0))).put y (.own (64*y) n.toNat))
  | _,_,_,_=>False
@[simp ↓] theorem vmkZ_some (s':Nat) (zc:List C) (s B:Nat) (n m:Int) (y:Nat):vmkZ (some (s',zc)) (some (s,B)) (some n) (some m) y st K =
    (0≤n∧n≤m∧0<B∧m.toNat*B≤140737488355328∧0<s∧K (((st.clr (64*y)).setR (64*y) (some (.arr false s (List.replicate n.toNat zc) 0))).put y (.own (64*y) n.toNat))):=rfl
def vmk (P:Program) (t:TypeId) (l c:S) (y:Nat) (st:St) (K:St→Prop):Prop:=vmake P (some y) st t l c K
@[simp ↓] theorem vs_makeSlice (t:TypeId) (l c:Operand) (y:Nat):vstep P ops st ⟨some y,.makeSlice t l c,ty,p,af,none⟩ K=vmk P t (st.ev l) (st.ev c) y st K:=rfl
theorem vmk_iff (t:TypeId) (l c:S) (y:Nat) {s B:Nat} {zc:List C} (h1:elZ P t=some (s,zc)) (h2:slT P t=some (s,B)):vmk P t l c y st K=force (tick (sint l)) fun l=>force (tick (sint c)) fun c=>vmkZ (some (s,zc)) (some (s,B)) l c y st K:=by
  unfold vmk vmake force tick vmkZ
  rw [h2]
  cases sint l with
  | none=>rfl
  | some n =>
    cases sint c with
    | none=>rfl
    | some m =>
      simp only
      unfold elZ at h1
      cases hu:P.underlying t with
      | none=>rw [hu] at h1;simp at h1
      | some de =>
        cases de with
        | slice e =>
          rw [hu] at h1
          simp only at h1 ⊢
          cases hz:zeroOf P e with
          | none=>rw [hz] at h1;cases tySz P e <;> simp at h1
          | some z =>
            rw [hz] at h1
            cases hy:tySz P e with
            | none=>rw [hy] at h1;simp at h1
            | some q =>
              obtain ⟨b,s2⟩:=q
              rw [hy] at h1
              simp only at h1 ⊢
              cases hc:cellsS (ofConst z) with
              | none=>rw [hc] at h1;simp at h1
              | some zc'=>rw [hc] at h1;simp at h1;obtain ⟨_,rfl⟩:=h1;rfl
        | _=>rw [hu] at h1;simp at h1
def VC (P:Program) (d:Option Nat) (st:St) (f:FuncId) (args:List S) (K:St→Prop) (_:Keep K):Prop:=(∃ rs,Con P f args rs∧K (vret st d rs))∨vlend P d st f args K
theorem VC.mk {st:St} {d:Option Nat} {K:St→Prop} {f:FuncId} {args:List S} {m:Keep K} (rs:List Rt) (h:Con P f args rs) (hk:force (tick (vret st d rs)) K):VC P d st f args K m:=.inl ⟨rs,h,hk⟩
theorem VC.lend {st:St} {d:Option Nat} {K:St→Prop} {f:FuncId} {args:List S} {m:Keep K} (b b':List (Nat × Res)) (as0 rs as1:List S) (τ:Nat→Nat) (C:List Nat) (h:LendOk P st f args b b' as0 rs as1 τ C)
    (hk:force (tick ((lendSt st τ C b').putd d (retS τ rs))) K):VC P d st f args K m:=.inr ⟨[],b,b',as0,rs,as1,τ,C,h,hk⟩
def vcallF (P:Program) (d:Option Nat) (st:St) (f:S) (args:List S) (K:St→Prop):Prop:=vcall P d st f args K
@[simp] theorem lendS_own (i n:Nat):lendS (.own i n)=true:=rfl
@[simp] theorem lendS_ptr (i n:Nat):lendS (.ptr i n)=true:=rfl
@[simp] theorem lendS_c (x:C):lendS (.c x)=false:=rfl
@[simp] theorem lendS_agg (x:List C):lendS (.agg x)=false:=rfl
@[simp] theorem lendS_fnp (f:FuncId) (x:List S):lendS (.fnp f x)=false:=rfl
@[simp] theorem lendS_un:lendS .un=false:=rfl
def VCL (P:Program) (d:Option Nat) (st:St) (f:FuncId) (caps:List C) (args:List S) (K:St→Prop) (_:Keep K):Prop:=vcallA P d st f caps args K∨(caps=[]∧vlend P d st f args K)
def vcallR (P:Program) (d:Option Nat) (st:St) (f:FuncId) (caps:List C) (args:List S) (K:St→Prop) (q:Bool):Prop:=vcallQ P d st f caps args K q
@[simp ↓] theorem vcallR_true (fid:FuncId) (caps:List C) (args:List S):vcallR P d st fid caps args K true=VCL P d (tick st) fid caps (tick args) K .mk:=rfl
@[simp ↓] theorem vcallR_false (fid:FuncId) (caps:List C) (args:List S):vcallR P d st fid caps args K false=vsnaps st args fun ss st'=>VC P d (tick st') fid (tick (ss++caps.map .c)) K .mk:=rfl
@[simp ↓] theorem vcallF_fn (fid:FuncId) (caps:List C) (args:List S):vcallF P d st (.c (.fn fid caps)) args K=force (tick (args.any lendS)) fun q=>vcallR P d st fid caps args K q:=rfl
def VCP (P:Program) (d:Option Nat) (st:St) (f:FuncId) (args:List S) (K:St→Prop) (_:Keep K):Prop:=vlend P d st f args K
@[simp ↓] theorem vcallF_fnp (fid:FuncId) (ss:List S) (args:List S):vcallF P d st (.fnp fid ss) args K=VCP P d (tick st) fid (tick (args++ss)) K .mk:=rfl
theorem VCL.snap {st:St} {d:Option Nat} {K:St→Prop} {f:FuncId} {caps:List C} {args:List S} (h:vsnaps st args fun ss st'=>VC P d (tick st') f (tick (ss++caps.map .c)) K .mk):VCL P d st f caps args K .mk:=.inl h
theorem VCL.lend {st:St} {d:Option Nat} {K:St→Prop} {f:FuncId} {args:List S} (b b':List (Nat × Res)) (as0 rs as1:List S) (τ:Nat→Nat) (C:List Nat) (h:LendOk P st f args b b' as0 rs as1 τ C)
    (hk:force (tick ((lendSt st τ C b').putd d (retS τ rs))) K):VCL P d st f [] args K .mk:=.inr ⟨rfl,[],b,b',as0,rs,as1,τ,C,h,hk⟩
def VLD (P:Program) (d:Option Nat) (st:St) (f:FuncId) (args:List S) (K:St→Prop) (_:Keep K):Prop:=∃ (b b':List (Nat × Res)) (as0 rs as1:List S) (τ:Nat→Nat) (C:List Nat),LendOk P st f args b b' as0 rs as1 τ C∧K ((lendSt st τ C b').putd d (retS τ rs))
theorem VLD.lend {st:St} {d:Option Nat} {K:St→Prop} {f:FuncId} {args:List S} (b b':List (Nat × Res)) (as0 rs as1:List S) (τ:Nat→Nat) (C:List Nat) (h:LendOk P st f args b b' as0 rs as1 τ C)
    (hk:force (tick ((lendSt st τ C b').putd d (retS τ rs))) K):VLD P d st f args K .mk:=⟨b,b',as0,rs,as1,τ,C,h,hk⟩
theorem VCP.some {st:St} {d:Option Nat} {K:St→Prop} {f:FuncId} {args:List S} (m:List Bool) (h:vsnapm st m args fun args st=>VLD P d (tick st) f (tick args) K .mk):VCP P d st f args K .mk:=⟨m,h⟩
theorem VCP.lend {st:St} {d:Option Nat} {K:St→Prop} {f:FuncId} {args:List S} (b b':List (Nat × Res)) (as0 rs as1:List S) (τ:Nat→Nat) (C:List Nat) (h:LendOk P st f args b b' as0 rs as1 τ C)
    (hk:force (tick ((lendSt st τ C b').putd d (retS τ rs))) K):VCP P d st f args K .mk:=⟨[],b,b',as0,rs,as1,τ,C,h,hk⟩
@[simp ↓] theorem vsnapm_nil (st:St) (ss:List S) (k:List S→St→Prop):vsnapm st [] ss k=k ss st:=rfl
@[simp ↓] theorem vsnapm_true (st:St) (m:List Bool) (s:S) (r:List S) (k:List S→St→Prop):vsnapm st (true::m) (s::r) k=force (tick st) fun st=>vsnap st s fun s' st'=>vsnapm st' m r fun r' st''=>k (s'::r') st'':=rfl
@[simp ↓] theorem vsnapm_false (st:St) (m:List Bool) (s:S) (r:List S) (k:List S→St→Prop):vsnapm st (false::m) (s::r) k=vsnapm st m r fun r' st''=>k (s::r') st'':=rfl
@[simp] theorem lendSt_mk (env:List (Nat × S)) (res:List (Nat × Option Res)) (τ:Nat→Nat) (C:List Nat) (b':List (Nat × Res)) :
    lendSt ⟨env,res⟩ τ C b'=⟨(St.clrL C ⟨env,res⟩).env,(b'.map fun p=>(τ p.1,some (renR τ p.2)))++(St.clrL C ⟨env,res⟩).res⟩:=rfl
@[simp] theorem clrL_nil (st:St):St.clrL [] st=st:=rfl
@[simp] theorem clrL_cons (i:Nat) (C:List Nat) (st:St):St.clrL (i::C) st=St.clrL C (st.clr i):=rfl
attribute [simp] renS renSs renR retS
@[simp ↓] theorem vs_call (f:Operand) (args:List Operand) (ts:Array TypeId):vstep P ops st ⟨d,.call ⟨.value f,args.toArray,ts⟩,ty,p,af,none⟩ K=force (tick (st.ev f)) fun f=>force (tick (args.map st.ev)) fun args=>vcallF P d st f args K:=rfl
@[simp] theorem pbinQ_tmp (o:BinOp) (t:TypeId) (n:Nat) (a b:S):pbinQ P st o t (.tmp n) a b=pbinS P st o t a b:=rfl
@[simp] theorem pbinQ_int (o:BinOp) (t:TypeId) (k:IntKind) (n:Int) (a b:S):pbinQ P st o t (.const (.int k n)) a b=pbinS P st o t a b:=rfl
@[simp] theorem pbinQ_str (o:BinOp) (t:TypeId) (s:ByteArray) (a b:S):pbinQ P st o t (.const (.string s)) a b=pbinS P st o t a b:=rfl
@[simp] theorem pbinQ_ptr (o:BinOp) (t:TypeId) (s:Option Addr) (a b:S):pbinQ P st o t (.const (.pointer s)) a b=pbinS P st o t a b:=rfl
@[simp] theorem pbinQ_sl (o:BinOp) (t:TypeId) (s:Option Addr) (n m:Nat) (a b:S):pbinQ P st o t (.const (.slice s n m)) a b=pbinS P st o t a b:=rfl
@[simp] theorem pbinQ_nil (o:BinOp) (t:TypeId) (a b:S):pbinQ P st o t (.const .nilIface) a b=pnilI P o t a:=rfl
@[simp] theorem pnilI_ifc (o:BinOp) (t d:TypeId) (cs:List C):pnilI P o t (.c (.ifc d cs))=pnilB P o t false:=rfl
@[simp] theorem pnilB_eql (t:TypeId) (b:Bool):pnilB P .eql t b=(bl b,isIf P t=true):=rfl
def vmkI2 (P:Program) (d:Option Nat) (st:St) (t:TypeId) (o:Option (List C)) (K:St→Prop):Prop :=
  match o with
  | some cs=>isIface P t=false∧K (st.putd d (.c (.ifc t cs)))
  | none=>False
@[simp] theorem vmkI2_some (t:TypeId) (cs:List C):vmkI2 P d st t (some cs) K=(isIface P t=false∧K (st.putd d (.c (.ifc t cs)))):=rfl
@[simp ↓] theorem vmkI_agg (t:TypeId) (x:List C):vmkI P d st t (.agg x) K=(isIface P t=false∧K (st.putd d (.c (.ifc t x)))):=rfl
@[simp ↓] theorem vmkI_st (t:TypeId) (ss:List S):vmkI P d st t (.st ss) K=vsnaps st ss fun ss' st'=>force (tick (allC ss')) fun o=>vmkI2 P d st' t o K:=by
  simp only [vmkI]
  rfl
@[simp ↓] theorem vs_makeInterface (t:TypeId) (x:Operand):vstep P ops st ⟨d,.makeInterface t x,ty,p,af,none⟩ K=force (tick (st.ev x)) fun s=>vmkI P d st t s K:=rfl
def VI (P:Program) (d:Option Nat) (st:St) (r:S) (name:String) (args:List S) (K:St→Prop) (_:Keep K):Prop:=vinv P d st r name args K
@[simp ↓] theorem vs_invoke (r:Operand) (name:String) (args:List Operand) (ts:Array TypeId):vstep P ops st ⟨d,.call ⟨.invoke r name,args.toArray,ts⟩,ty,p,af,none⟩ K=VI P d (tick st) (tick (st.ev r)) name (tick (args.map st.ev)) K .mk:=rfl
theorem VI.mk0 {st:St} {d:Option Nat} {K:St→Prop} {r:S} {name:String} {m:Keep K} (s:S) (t:TypeId) (f:FuncId) (rs:List Rt) (hr:recvS r=some (t,s)) (hm:methOf P t name=some f) (h:Con P f [s] rs) (hk:force (tick (vret st d rs)) K):VI P d st r name [] K m :=
  ⟨t,s,f,hr,hm,rs,h,hk⟩
def impB (q p:Bool):Bool:=!q || p
@[simp] theorem impB_self (q:Bool):impB q q=true:=by cases q <;> rfl
@[simp] theorem impB_true (q:Bool):impB q true=true:=by cases q <;> rfl
@[simp] theorem impB_one (p:Bool):impB true p=p:=rfl
def sfl (s:S) (want:Bool):Option Bool :=
  match s with
  | .c (.v (.bool b))=>some (b == want)
  | .g p (.c (.v (.bool b)))=>some (p && (b == want))
  | _=>none
@[simp] theorem sfl_c (b want:Bool):sfl (.c (.v (.bool b))) want=some (b == want):=rfl
@[simp] theorem sfl_g (p b want:Bool):sfl (.g p (.c (.v (.bool b)))) want=some (p && (b == want)):=rfl
@[simp] theorem gslot_zero (o:Oper) (l:List Oper):gslot (o::l).toArray 0=o.dst:=by simp [gslot]
@[simp] theorem gslot_succ (o:Oper) (l:List Oper) (n:Nat):gslot (o::l).toArray (n+1)=gslot l.toArray n:=by simp [gslot]
def goG (q:Option Bool) (fs:List Bool) (r:S × Prop) (k:S→Prop):Prop :=
  match q with
  | none=>False
  | some q=>(fs.all (impB q))=true∧(q=true→r.2)∧k (.g q r.1)
@[simp ↓] theorem goG_some (q:Bool) (fs:List Bool) (r:S) (c:Prop) (k:S→Prop):goG (some q) fs (r,c) k=((fs.all (impB q))=true∧(q=true→c)∧k (.g q r)):=rfl
def gsl (ops:Array Oper) (st:St) (j:Nat) (want:Bool):Option Bool :=
  match gslot ops j with
  | some t=>sfl (st.get t) want
  | none=>none
theorem gsl_eq (j:Nat) (want:Bool):gflag ops st (some (j,want))=gsl ops st j want:=by
  unfold gflag gsl
  simp only
  cases gslot ops j <;> rfl
@[simp ↓] theorem gsl_zero (o:Oper) (l:List Oper) (want:Bool) (t:Nat) (h:o.dst=some t):gsl (o::l).toArray st 0 want=sfl (st.get t) want:=by simp [gsl,h]
@[simp ↓] theorem gsl_succ (o:Oper) (l:List Oper) (n:Nat) (want:Bool):gsl (o::l).toArray st (n+1) want=gsl l.toArray st n want:=by simp [gsl]
@[simp] theorem peel_c (x:C):peel (.c x) = .c x:=rfl
@[simp] theorem peel_g (b:Bool) (s:S):peel (.g b s)=s:=rfl
@[simp] theorem peel_own (i n:Nat):peel (.own i n) = .own i n:=rfl
@[simp] theorem peel_ptr (i n:Nat):peel (.ptr i n) = .ptr i n:=rfl
@[simp] theorem flagOf_c (x:C):flagOf (.c x)=true:=rfl
@[simp] theorem flagOf_g (b:Bool) (s:S):flagOf (.g b s)=b:=rfl
@[simp] theorem flagOf_own (i n:Nat):flagOf (.own i n)=true:=rfl
@[simp] theorem flagOf_ptr (i n:Nat):flagOf (.ptr i n)=true:=rfl
theorem imp_all (q:Bool) (l:List Bool) (c:Prop):(q=true→l.all id=true∧c)↔((l.all (impB q))=true∧(q=true→c)):=by
  cases q with
  | true =>
    have:impB true=id:=by funext p;rfl
    simp [this]
  | false =>
    have:impB false=fun _=>true:=by funext p;rfl
    simp [this]
variable (j:Nat) (want:Bool)
theorem ps_eq {o:Op} (hp:∀ a b c,o≠.pick a b c) (hc:∀ c f,o = .call c→c.callee≠.value f):vstep P ops st ⟨d,o,ty,p,af,some (j,want)⟩ K =
    goG (gsl ops st j want) (o.operands.toList.map fun x=>flagOf (st.ev x)) (pev P st (fun x=>peel (st.ev x)) o) fun s=>K (st.putd d s):=by
  unfold vstep PStep
  simp only [gsl_eq]
  cases hq:gsl ops st j want with
  | none=>simp [goG]
  | some q =>
    have fin:((q=true→(o.operands.toList.all fun x=>flagOf (st.ev x))=true∧(pev P st (fun x=>peel (st.ev x)) o).2)∧K (st.putd d (wrapg (some (j,want)) q (pev P st (fun x=>peel (st.ev x)) o).1))) =
        goG (some q) (o.operands.toList.map fun x=>flagOf (st.ev x)) (pev P st (fun x=>peel (st.ev x)) o) fun s=>K (st.putd d s):=by
      have:=imp_all q (o.operands.toList.map fun x=>flagOf (st.ev x)) (pev P st (fun x=>peel (st.ev x)) o).2
      simp only [List.all_map] at this
      have e:(id ∘ fun x=>flagOf (st.ev x))=fun x=>flagOf (st.ev x):=rfl
      rw [e] at this
      simp only [goG,List.all_map]
      rw [this]
      simp only [wrapg,and_assoc]
    rw [← fin]
    cases o with
    | pick a b c=>exact absurd rfl (hp a b c)
    | call c =>
      cases hcc:c.callee with
      | value f=>exact absurd hcc (hc c f rfl)
      | _=>simp only [hcc]
    | _=>rfl
theorem gs_move0 (x:Operand):vstep P ops st ⟨d,.move x,ty,p,af,some (j,want)⟩ K=goG (gsl ops st j want) [flagOf (st.ev x)] (peel (st.ev x),True) fun s=>K (st.putd d s):=by
  rw [ps_eq];rfl;simp;simp
@[simp ↓] theorem gs_move (x:Operand):vstep P ops st ⟨d,.move x,ty,p,af,some (j,want)⟩ K=force (tick (gsl ops st j want)) fun q=>force (tick [flagOf (st.ev x)]) fun fs=>force (tick (peel (st.ev x),True)) fun r=>goG q fs r fun s=>K (st.putd d s):=gs_move0 ops st d ty p af K j want x
theorem gs_binOp0 (o:BinOp) (t yt:TypeId) (x y:Operand):vstep P ops st ⟨d,.binOp o t x y yt,ty,p,af,some (j,want)⟩ K=goG (gsl ops st j want) [flagOf (st.ev x),flagOf (st.ev y)] (pbinQ P st o t y (peel (st.ev x)) (peel (st.ev y))) fun s=>K (st.putd d s):=by
  rw [ps_eq];rfl;simp;simp
@[simp ↓] theorem gs_binOp (o:BinOp) (t yt:TypeId) (x y:Operand):vstep P ops st ⟨d,.binOp o t x y yt,ty,p,af,some (j,want)⟩ K=force (tick (gsl ops st j want)) fun q=>force (tick [flagOf (st.ev x),flagOf (st.ev y)]) fun fs=>force (tick (pbinQ P st o t y (peel (st.ev x)) (peel (st.ev y)))) fun r=>goG q fs r fun s=>K (st.putd d s):=gs_binOp0 ops st d ty p af K j want o t yt x y
theorem gs_unOp0 (o:UnOp) (t:TypeId) (x:Operand):vstep P ops st ⟨d,.unOp o t x,ty,p,af,some (j,want)⟩ K=goG (gsl ops st j want) [flagOf (st.ev x)] (pun o (peel (st.ev x))) fun s=>K (st.putd d s):=by
  rw [ps_eq];rfl;simp;simp
@[simp ↓] theorem gs_unOp (o:UnOp) (t:TypeId) (x:Operand):vstep P ops st ⟨d,.unOp o t x,ty,p,af,some (j,want)⟩ K=force (tick (gsl ops st j want)) fun q=>force (tick [flagOf (st.ev x)]) fun fs=>force (tick (pun o (peel (st.ev x)))) fun r=>goG q fs r fun s=>K (st.putd d s):=gs_unOp0 ops st d ty p af K j want o t x
theorem gs_fieldAddr0 (t:TypeId) (x:Operand) (f:Nat):vstep P ops st ⟨d,.fieldAddr t x f,ty,p,af,some (j,want)⟩ K=goG (gsl ops st j want) [flagOf (st.ev x)] (pfieldAddr P st t f (peel (st.ev x))) fun s=>K (st.putd d s):=by
  rw [ps_eq];rfl;simp;simp
@[simp ↓] theorem gs_fieldAddr (t:TypeId) (x:Operand) (f:Nat):vstep P ops st ⟨d,.fieldAddr t x f,ty,p,af,some (j,want)⟩ K=force (tick (gsl ops st j want)) fun q=>force (tick [flagOf (st.ev x)]) fun fs=>force (tick (pfieldAddr P st t f (peel (st.ev x)))) fun r=>goG q fs r fun s=>K (st.putd d s):=gs_fieldAddr0 ops st d ty p af K j want t x f
theorem gs_field0 (t:TypeId) (x:Operand) (f:Nat):vstep P ops st ⟨d,.field t x f,ty,p,af,some (j,want)⟩ K=goG (gsl ops st j want) [flagOf (st.ev x)] (pfield P t f (peel (st.ev x))) fun s=>K (st.putd d s):=by
  rw [ps_eq];rfl;simp;simp
@[simp ↓] theorem gs_field (t:TypeId) (x:Operand) (f:Nat):vstep P ops st ⟨d,.field t x f,ty,p,af,some (j,want)⟩ K=force (tick (gsl ops st j want)) fun q=>force (tick [flagOf (st.ev x)]) fun fs=>force (tick (pfield P t f (peel (st.ev x)))) fun r=>goG q fs r fun s=>K (st.putd d s):=gs_field0 ops st d ty p af K j want t x f
theorem gs_indexAddr0 (t:TypeId) (x i:Operand):vstep P ops st ⟨d,.indexAddr t x i,ty,p,af,some (j,want)⟩ K=goG (gsl ops st j want) [flagOf (st.ev x),flagOf (st.ev i)] (pindexAddr P st t (peel (st.ev x)) (peel (st.ev i))) fun s=>K (st.putd d s):=by
  rw [ps_eq];rfl;simp;simp
@[simp ↓] theorem gs_indexAddr (t:TypeId) (x i:Operand):vstep P ops st ⟨d,.indexAddr t x i,ty,p,af,some (j,want)⟩ K=force (tick (gsl ops st j want)) fun q=>force (tick [flagOf (st.ev x),flagOf (st.ev i)]) fun fs=>force (tick (pindexAddr P st t (peel (st.ev x)) (peel (st.ev i)))) fun r=>goG q fs r fun s=>K (st.putd d s):=gs_indexAddr0 ops st d ty p af K j want t x i
theorem gs_load0 (t:TypeId) (x:Operand):vstep P ops st ⟨d,.load t x,ty,p,af,some (j,want)⟩ K=goG (gsl ops st j want) [flagOf (st.ev x)] (pload P st t (peel (st.ev x))) fun s=>K (st.putd d s):=by
  rw [ps_eq];rfl;simp;simp
@[simp ↓] theorem gs_load (t:TypeId) (x:Operand):vstep P ops st ⟨d,.load t x,ty,p,af,some (j,want)⟩ K=force (tick (gsl ops st j want)) fun q=>force (tick [flagOf (st.ev x)]) fun fs=>force (tick (pload P st t (peel (st.ev x)))) fun r=>goG q fs r fun s=>K (st.putd d s):=gs_load0 ops st d ty p af K j want t x
theorem gs_len0 (t:TypeId) (x:Operand):vstep P ops st ⟨d,.call ⟨.builtin .len,#[x],#[t]⟩,ty,p,af,some (j,want)⟩ K=goG (gsl ops st j want) [flagOf (st.ev x)] (plen P st t (peel (st.ev x))) fun s=>K (st.putd d s):=by
  rw [ps_eq];rfl;simp;intro c f h;cases h;simp
@[simp ↓] theorem gs_len (t:TypeId) (x:Operand):vstep P ops st ⟨d,.call ⟨.builtin .len,#[x],#[t]⟩,ty,p,af,some (j,want)⟩ K=force (tick (gsl ops st j want)) fun q=>force (tick [flagOf (st.ev x)]) fun fs=>force (tick (plen P st t (peel (st.ev x)))) fun r=>goG q fs r fun s=>K (st.putd d s):=gs_len0 ops st d ty p af K j want t x
theorem gs_build0 (t:TypeId) (parts:List (Nat × Operand)):vstep P ops st ⟨d,.build t parts.toArray,ty,p,af,some (j,want)⟩ K=goG (gsl ops st j want) (parts.map fun q=>flagOf (st.ev q.2)) (pbuild P t (parts.map fun q=>(q.1,peel (st.ev q.2)))) fun s=>K (st.putd d s):=by
  rw [ps_eq]
  · simp [Op.operands,pev,Function.comp_def]
  · simp
  · simp
@[simp ↓] theorem gs_build (t:TypeId) (parts:List (Nat × Operand)):vstep P ops st ⟨d,.build t parts.toArray,ty,p,af,some (j,want)⟩ K=force (tick (gsl ops st j want)) fun q=>force (tick (parts.map fun q=>flagOf (st.ev q.2))) fun fs=>force (tick (pbuild P t (parts.map fun q=>(q.1,peel (st.ev q.2))))) fun r=>goG q fs r fun s=>K (st.putd d s):=gs_build0 ops st d ty p af K j want t parts
def goP (q:Option Bool) (c a b:S) (k:S→Prop):Prop :=
  match q with
  | none=>False
  | some q=>(vpick q c a b).2∧k (.g q (vpick q c a b).1)
@[simp ↓] theorem goP_some (q:Bool) (c a b:S) (k:S→Prop):goP (some q) c a b k=force (tick (vpick q c a b)) fun r=>goS r fun s=>k (.g q s):=rfl
@[simp ↓] theorem gs_pick (c x y:Operand):vstep P ops st ⟨d,.pick c x y,ty,p,af,some (j,want)⟩ K=force (tick (gsl ops st j want)) fun q=>goP q (st.ev c) (st.ev x) (st.ev y) fun s=>K (st.putd d s):=by
  show _=goP (gsl ops st j want) (st.ev c) (st.ev x) (st.ev y) fun s=>K (st.putd d s)
  unfold vstep PStep
  simp only [gsl_eq]
  cases gsl ops st j want <;> rfl
def goC (P:Program) (st:St) (q:Option Bool) (f:S) (args:List S) (k:S→Prop):Prop :=
  match q with
  | none=>False
  | some q=>∃ rs s,(((f::args).map flagOf).all (impB q))=true∧(q=true→pcall P st (peel f) (args.map peel) rs)∧retD rs=some s∧k (.g q s)
def VG (P:Program) (q:Bool) (f:FuncId) (args:List S) (K:S→Prop) (_:Keep K):Prop:=∃ rs s,(q=true→Con P f args rs)∧retD rs=some s∧K (.g q s)
theorem VG.mk {q:Bool} {f:FuncId} {args:List S} {K:S→Prop} {m:Keep K} (rs:List Rt) (s:S) (h:q=true→Con P f args rs) (hr:retD rs=some s) (hk:K (.g q s)):VG P q f args K m:=⟨rs,s,h,hr,hk⟩
@[simp ↓] theorem goC_some (q b:Bool) (fid:FuncId) (caps:List C) (args:List S) (k:S→Prop):goC P st (some q) (.g b (.c (.fn fid caps))) args k=(((b::args.map flagOf).all (impB q))=true∧(q=true→(frozenDs st (args.map peel)).2)∧VG P (tick q) fid (tick ((frozenDs st (args.map peel)).1++caps.map .c)) k .mk):=by
  simp only [goC,VG,tick,pcall,peel_g,flagOf_g,List.map_cons]
  apply propext
  constructor
  · rintro ⟨rs,s,h1,h2,h3,h4⟩
    exact ⟨h1,fun hq=>(h2 hq).1,rs,s,fun hq=>(h2 hq).2,h3,h4⟩
  · rintro ⟨h1,h2,rs,s,h3,h4,h5⟩
    exact ⟨rs,s,h1,fun hq=>⟨h2 hq,h3 hq⟩,h4,h5⟩
@[simp ↓] theorem goC_some' (q:Bool) (fid:FuncId) (caps:List C) (args:List S) (k:S→Prop):goC P st (some q) (.c (.fn fid caps)) args k=(((args.map flagOf).all (impB q))=true∧(q=true→(frozenDs st (args.map peel)).2)∧VG P (tick q) fid (tick ((frozenDs st (args.map peel)).1++caps.map .c)) k .mk):=by
  simp only [goC,VG,tick,pcall,peel_c,flagOf_c,List.map_cons,List.all_cons,impB_true,Bool.true_and]
  apply propext
  constructor
  · rintro ⟨rs,s,h1,h2,h3,h4⟩
    exact ⟨h1,fun hq=>(h2 hq).1,rs,s,fun hq=>(h2 hq).2,h3,h4⟩
  · rintro ⟨h1,h2,rs,s,h3,h4,h5⟩
    exact ⟨rs,s,h1,fun hq=>⟨h2 hq,h3 hq⟩,h4,h5⟩
@[simp ↓] theorem gs_call (f:Operand) (args:List Operand) (ts:Array TypeId):vstep P ops st ⟨d,.call ⟨.value f,args.toArray,ts⟩,ty,p,af,some (j,want)⟩ K=force (tick (gsl ops st j want)) fun q=>force (tick (st.ev f)) fun f=>force (tick (args.map st.ev)) fun args=>goC P st q f args fun s=>K (st.putd d s):=by
  show _=goC P st (gsl ops st j want) (st.ev f) (args.map st.ev) fun s=>K (st.putd d s)
  unfold vstep PStep
  simp only [gsl_eq]
  cases gsl ops st j want with
  | none=>simp [goC]
  | some q =>
    simp only [goC,wrapg]
    apply propext
    refine exists_congr fun rs=>exists_congr fun s=>?_
    have:=imp_all q (((st.ev f)::args.map st.ev).map flagOf) (pcall P st (peel (st.ev f)) ((args.map st.ev).map peel) rs)
    have e1:((Op.call ⟨.value f,args.toArray,ts⟩).operands.toList.all fun x=>flagOf (st.ev x))=(((st.ev f)::args.map st.ev).map flagOf).all id:=by
      simp [Op.operands,Call.operands,List.all_map,Function.comp_def]
    have e2:(args.toArray.toList.map fun x=>peel (st.ev x))=(args.map st.ev).map peel:=by simp [List.map_map,Function.comp_def]
    rw [e1,e2,this,and_assoc]
end
section
variable (P:Program) (st:St) (t s d:TypeId) (q:Bool)
@[simp] theorem pbinS_int_shl (k k':IntKind) (a b:Int):pbinS P st .shl t (.c (.v (.int k a))) (.c (.v (.int k' b)))=(.c (.v (.int k (k.wrap (a*2 ^ (min b.toNat k.bits))))),0≤b):=rfl
@[simp] theorem pbinS_int_shr (k k':IntKind) (a b:Int):pbinS P st .shr t (.c (.v (.int k a))) (.c (.v (.int k' b)))=(.c (.v (.int k (a.fdiv (2 ^ (min b.toNat k.bits))))),0≤b):=rfl
@[simp] theorem pbinS_int_add (k k':IntKind) (a b:Int):pbinS P st .add t (.c (.v (.int k a))) (.c (.v (.int k' b)))=(.c (.v (.int k (k.wrap (a+b)))),k=k'):=rfl
@[simp] theorem pbinS_int_sub (k k':IntKind) (a b:Int):pbinS P st .sub t (.c (.v (.int k a))) (.c (.v (.int k' b)))=(.c (.v (.int k (k.wrap (a-b)))),k=k'):=rfl
@[simp] theorem pbinS_int_mul (k k':IntKind) (a b:Int):pbinS P st .mul t (.c (.v (.int k a))) (.c (.v (.int k' b)))=(.c (.v (.int k (k.wrap (a*b)))),k=k'):=rfl
@[simp] theorem pbinS_int_quo (k k':IntKind) (a b:Int):pbinS P st .quo t (.c (.v (.int k a))) (.c (.v (.int k' b)))=(.c (.v (.int k (k.wrap (a.tdiv b)))),k=k'∧b≠0):=rfl
@[simp] theorem pbinS_int_rem (k k':IntKind) (a b:Int):pbinS P st .rem t (.c (.v (.int k a))) (.c (.v (.int k' b)))=(.c (.v (.int k (a.tmod b))),k=k'∧b≠0):=rfl
@[simp] theorem pbinS_int_and (k k':IntKind) (a b:Int):pbinS P st .and t (.c (.v (.int k a))) (.c (.v (.int k' b)))=(.c (.v (.int k (bits .and k a b))),k=k'):=rfl
@[simp] theorem pbinS_int_or (k k':IntKind) (a b:Int):pbinS P st .or t (.c (.v (.int k a))) (.c (.v (.int k' b)))=(.c (.v (.int k (bits .or k a b))),k=k'):=rfl
@[simp] theorem pbinS_int_xor (k k':IntKind) (a b:Int):pbinS P st .xor t (.c (.v (.int k a))) (.c (.v (.int k' b)))=(.c (.v (.int k (bits .xor k a b))),k=k'):=rfl
@[simp] theorem pbinS_int_andNot (k k':IntKind) (a b:Int):pbinS P st .andNot t (.c (.v (.int k a))) (.c (.v (.int k' b)))=(.c (.v (.int k (bits .andNot k a b))),k=k'):=rfl
@[simp] theorem pbinS_int_eql (k k':IntKind) (a b:Int):pbinS P st .eql t (.c (.v (.int k a))) (.c (.v (.int k' b)))=(.c (.v (.bool (a == b))),k=k'):=rfl
@[simp] theorem pbinS_int_neq (k k':IntKind) (a b:Int):pbinS P st .neq t (.c (.v (.int k a))) (.c (.v (.int k' b)))=(.c (.v (.bool (a != b))),k=k'):=rfl
@[simp] theorem pbinS_int_lss (k k':IntKind) (a b:Int):pbinS P st .lss t (.c (.v (.int k a))) (.c (.v (.int k' b)))=(.c (.v (.bool (decide (a<b)))),k=k'):=rfl
@[simp] theorem pbinS_int_leq (k k':IntKind) (a b:Int):pbinS P st .leq t (.c (.v (.int k a))) (.c (.v (.int k' b)))=(.c (.v (.bool (decide (a≤b)))),k=k'):=rfl
@[simp] theorem pbinS_int_gtr (k k':IntKind) (a b:Int):pbinS P st .gtr t (.c (.v (.int k a))) (.c (.v (.int k' b)))=(.c (.v (.bool (decide (b<a)))),k=k'):=rfl
@[simp] theorem pbinS_int_geq (k k':IntKind) (a b:Int):pbinS P st .geq t (.c (.v (.int k a))) (.c (.v (.int k' b)))=(.c (.v (.bool (decide (b≤a)))),k=k'):=rfl
@[simp] theorem pbinS_str_eql (a b:ByteArray):pbinS P st .eql t (.c (.v (.string a))) (.c (.v (.string b)))=(.c (.v (.bool (decide (a=b)))),True):=rfl
@[simp] theorem pbinS_str_neq (a b:ByteArray):pbinS P st .neq t (.c (.v (.string a))) (.c (.v (.string b)))=(.c (.v (.bool (!decide (a=b)))),True):=rfl
@[simp] theorem pbinS_str_lss (a b:ByteArray):pbinS P st .lss t (.c (.v (.string a))) (.c (.v (.string b)))=(.c (.v (.bool (Op.bytesLess a.toList b.toList))),True):=rfl
@[simp] theorem pbinS_str_gtr (a b:ByteArray):pbinS P st .gtr t (.c (.v (.string a))) (.c (.v (.string b)))=(.c (.v (.bool (!(Op.bytesLess a.toList b.toList || decide (a=b))))),True):=rfl
@[simp] theorem pbinS_bool_eql (a b:Bool):pbinS P st .eql t (.c (.v (.bool a))) (.c (.v (.bool b)))=(.c (.v (.bool (a == b))),P.underlying t=some .bool):=rfl
@[simp] theorem pbinS_nil_eql (nil:Bool) (xs:List (List C)):pbinS P st .eql t (.c (.sl nil xs)) (.c (.sl true []))=(.c (.v (.bool (nil))),isSl P t=true):=rfl
def pbP (P:Program) (t:TypeId) (q:Bool):Option Res→S × Prop
  | some (.box _ _)=>(bl q,isPt P t=true)
  | _=>no
@[simp] theorem pbP_box (q:Bool) (fz:Bool) (ss:List S):pbP P t q (some (.box fz ss))=(.c (.v (.bool q)),isPt P t=true):=rfl
@[simp] theorem pbinS_ptr_eql (i o:Nat):pbinS P st .eql t (.ptr i o) (.c (.v (.pointer none)))=pbP P t false (st.rs i):=by
  simp only [pbinS,pbP];cases st.rs i with
  | none=>rfl
  | some r=>cases r <;> rfl
@[simp] theorem pbinS_np_eql:pbinS P st .eql t (.c (.v (.pointer none))) (.c (.v (.pointer none)))=(.c (.v (.bool true)),isPt P t=true):=rfl
@[simp] theorem pbinS_np_neq:pbinS P st .neq t (.c (.v (.pointer none))) (.c (.v (.pointer none)))=(.c (.v (.bool false)),isPt P t=true):=rfl
@[simp] theorem pbinS_agg_eql (a b:List C):pbinS P st .eql t (.agg a) (.agg b)=(.c (.v (.bool (eqCs a b))),AggEq P t a b):=rfl
@[simp] theorem pbinS_agg_neq (a b:List C):pbinS P st .neq t (.agg a) (.agg b)=(.c (.v (.bool (!eqCs a b))),AggEq P t a b):=rfl
@[simp] theorem sbool_c (b:Bool):sbool (.c (.v (.bool b)))=some (true,b):=rfl
@[simp] theorem sbool_un:sbool (.g false .un)=some (false,false):=rfl
@[simp] theorem sbool_g (p b:Bool):sbool (.g p (.c (.v (.bool b))))=some (p,b):=rfl
def vpO (q:Bool) (c a b:Option (Bool × Bool)):S × Prop :=
  match c,a,b with
  | some (pc,bc),some (pa,x),some (pb,y)=>(bl (bif bc then x else y),q=true→pc=true∧(bc=true→pa=true)∧(bc=false→pb=true))
  | _,_,_=>no
@[simp] theorem vpO_some (pc bc pa x pb y:Bool):vpO q (some (pc,bc)) (some (pa,x)) (some (pb,y))=(.c (.v (.bool (bif bc then x else y))),q=true→pc=true∧(bc=true→pa=true)∧(bc=false→pb=true)):=rfl
@[simp] theorem vpick_eq (c a b:S):vpick q c a b=vpO q (sbool c) (sbool a) (sbool b):=rfl
@[simp] theorem bl_eq (b:Bool):bl b = .c (.v (.bool b)):=rfl
def ldS:Option S→S × Prop
  | some s=>(s,True)
  | none=>no
@[simp] theorem ldS_some (s:S):ldS (some s)=(s,True):=rfl
def ldC (m:Nat):Option (List C)→S × Prop
  | some cs=>(.agg cs,cs.length=m)
  | none=>no
@[simp] theorem ldC_some (m:Nat) (cs:List C):ldC m (some cs)=(.agg cs,cs.length=m):=rfl
def ldB (y:Option (Bool × Nat)) (r:Option Res) (o:Nat):S × Prop :=
  match y,r with
  | some (false,_),some (.box _ ss)=>ldS ss[o]?
  | some (true,m),some (.box _ ss)=>ldC m (allC ((ss.drop o).take m))
  | _,_=>no
@[simp] theorem ldB_0 (n:Nat) (fz:Bool) (ss:List S) (o:Nat):ldB (some (false,n)) (some (.box fz ss)) o=ldS ss[o]? := rfl
@[simp] theorem ldB_1 (m:Nat) (fz:Bool) (ss:List S) (o:Nat):ldB (some (true,m)) (some (.box fz ss)) o=ldC m (allC ((ss.drop o).take m)):=rfl
@[simp] theorem pload_ptr (i o:Nat):pload P st t (.ptr i o)=ldB (tySz P t) (st.rs i) o:=by
  unfold pload ldB
  cases tySz P t with
  | none=>cases st.rs i with
    | none=>rfl
    | some r=>cases r <;> rfl
  | some y =>
    obtain ⟨b,m⟩:=y
    cases b <;> dsimp only <;> cases st.rs i with
    | none=>rfl
    | some r=>cases r <;> rfl
def ldE (y:Option (Bool × Nat)) (r:Option Res) (n j o:Nat):S × Prop :=
  match y,r with
  | some (false,_),some (.arr _ sz xs _)=>(.c ((xs.getD j []).getD o default),xs.length=n∧j<n∧o<sz)
  | some (true,m),some (.arr _ sz xs _)=>(.agg (((xs.getD j []).drop o).take m),xs.length=n∧j<n∧o+m≤sz)
  | _,_=>no
@[simp] theorem ldE_0 (m:Nat) (nil:Bool) (sz:Nat) (xs:List (List C)) (fx n j o:Nat):ldE (some (false,m)) (some (.arr nil sz xs fx)) n j o=(.c ((xs.getD j []).getD o default),xs.length=n∧j<n∧o<sz):=rfl
@[simp] theorem ldE_1 (m:Nat) (nil:Bool) (sz:Nat) (xs:List (List C)) (fx n j o:Nat):ldE (some (true,m)) (some (.arr nil sz xs fx)) n j o=(.agg (((xs.getD j []).drop o).take m),xs.length=n∧j<n∧o+m≤sz):=rfl
@[simp] theorem pload_ep (i n j o:Nat):pload P st t (.ep i n j o)=ldE (tySz P t) (st.rs i) n j o:=by
  unfold pload ldE
  cases tySz P t with
  | none=>cases st.rs i with
    | none=>rfl
    | some r=>cases r <;> rfl
  | some y =>
    obtain ⟨b,m⟩:=y
    cases b <;> dsimp only <;> cases st.rs i with
    | none=>rfl
    | some r=>cases r <;> rfl
def ldD (P:Program) (t:TypeId) (y:Option (Bool × Nat)) (cs:List C):S × Prop :=
  match y,cs with
  | some (false,_),c::_=>(.c c,True)
  | some (false,_),[]=>(.c (dflC P t),False)
  | some (true,m),cs=>(.agg (cs.take m),m≤cs.length)
  | _,_=>no
@[simp] theorem ldD_nil (P:Program) (t:TypeId) (n:Nat):ldD P t (some (false,n)) []=(.c (dflC P t),False):=rfl
@[simp] theorem ldD_0 (P:Program) (t:TypeId) (n:Nat) (c:C) (r:List C):ldD P t (some (false,n)) (c::r)=(.c c,True):=rfl
@[simp] theorem ldD_1 (P:Program) (t:TypeId) (m:Nat) (cs:List C):ldD P t (some (true,m)) cs=(.agg (cs.take m),m≤cs.length):=by cases cs <;> rfl
@[simp] theorem pload_dp (cs:List C):pload P st t (.c (.dp cs))=ldD P t (tySz P t) cs:=by
  unfold pload ldD
  cases tySz P t with
  | none=>rfl
  | some y=>obtain ⟨b,m⟩:=y;cases b <;> cases cs <;> rfl
def faB (y:Option (Nat × Bool × Nat)) (r:Option Res) (i o:Nat):S × Prop :=
  match y,r with
  | some (off,_,n),some (.box _ _)=>(.ptr i (o+off),n≠0)
  | _,_=>no
@[simp] theorem faB_some (off:Nat) (b:Bool) (n:Nat) (fz:Bool) (ss:List S) (i o:Nat):faB (some (off,b,n)) (some (.box fz ss)) i o=(.ptr i (o+off),n≠0):=rfl
@[simp] theorem pfieldAddr_ptr (f i o:Nat):pfieldAddr P st s f (.ptr i o)=faB (fldOf P s f) (st.rs i) i o:=by
  unfold pfieldAddr faB
  cases fldOf P s f with
  | none=>rfl
  | some y=>obtain ⟨a,b,c⟩:=y;dsimp only;cases st.rs i with
    | none=>rfl
    | some r=>cases r <;> rfl
def faE (y:Option (Nat × Bool × Nat)) (r:Option Res) (i m j o:Nat):S × Prop :=
  match y,r with
  | some (off,_,n),some (.arr _ _ xs _)=>(.ep i m j (o+off),n≠0∧xs.length=m)
  | _,_=>no
@[simp] theorem faE_some (off:Nat) (b:Bool) (n:Nat) (nil:Bool) (sz:Nat) (xs:List (List C)) (fx i m j o:Nat):faE (some (off,b,n)) (some (.arr nil sz xs fx)) i m j o=(.ep i m j (o+off),n≠0∧xs.length=m):=rfl
@[simp] theorem pfieldAddr_ep (f i m j o:Nat):pfieldAddr P st s f (.ep i m j o)=faE (fldOf P s f) (st.rs i) i m j o:=by
  unfold pfieldAddr faE
  cases fldOf P s f with
  | none=>rfl
  | some y=>obtain ⟨a,b,c⟩:=y;dsimp only;cases st.rs i with
    | none=>rfl
    | some r=>cases r <;> rfl
def faD (y:Option (Nat × Bool × Nat)) (cs:List C):S × Prop :=
  match y with
  | some (off,_,n)=>(.c (.dp (cs.drop off)),n≠0)
  | _=>no
@[simp] theorem faD_some (off:Nat) (b:Bool) (n:Nat) (cs:List C):faD (some (off,b,n)) cs=(.c (.dp (cs.drop off)),n≠0):=rfl
@[simp] theorem pfieldAddr_dp (f:Nat) (cs:List C):pfieldAddr P st s f (.c (.dp cs))=faD (fldOf P s f) cs:=by
  unfold pfieldAddr faD
  cases fldOf P s f <;> rfl
end
section
variable {P:Program} (ops:Array Oper) (st:St) (d:Option Nat) (ty:TypeId) (p:String) (af:Array Edge) (K:St→Prop) (gd:Nat × Bool)
@[simp ↓] theorem vL_none (op:Op):vstepL P ops st ⟨d,op,ty,p,af,none⟩ K=vstep P ops st ⟨d,op,ty,p,af,none⟩ K:=by simp [vstepL,glend]
@[simp ↓] theorem vL_move (x:Operand):vstepL P ops st ⟨d,.move x,ty,p,af,some gd⟩ K=vstep P ops st ⟨d,.move x,ty,p,af,some gd⟩ K:=by simp [vstepL,glend,effL]
@[simp ↓] theorem vL_binOp (o:BinOp) (t yt:TypeId) (x y:Operand):vstepL P ops st ⟨d,.binOp o t x y yt,ty,p,af,some gd⟩ K=vstep P ops st ⟨d,.binOp o t x y yt,ty,p,af,some gd⟩ K:=by simp [vstepL,glend,effL]
@[simp ↓] theorem vL_unOp (o:UnOp) (t:TypeId) (x:Operand):vstepL P ops st ⟨d,.unOp o t x,ty,p,af,some gd⟩ K=vstep P ops st ⟨d,.unOp o t x,ty,p,af,some gd⟩ K:=by simp [vstepL,glend,effL]
@[simp ↓] theorem vL_fieldAddr (t:TypeId) (x:Operand) (f:Nat):vstepL P ops st ⟨d,.fieldAddr t x f,ty,p,af,some gd⟩ K=vstep P ops st ⟨d,.fieldAddr t x f,ty,p,af,some gd⟩ K:=by simp [vstepL,glend,effL]
@[simp ↓] theorem vL_field (t:TypeId) (x:Operand) (f:Nat):vstepL P ops st ⟨d,.field t x f,ty,p,af,some gd⟩ K=vstep P ops st ⟨d,.field t x f,ty,p,af,some gd⟩ K:=by simp [vstepL,glend,effL]
@[simp ↓] theorem vL_indexAddr (t:TypeId) (x i:Operand):vstepL P ops st ⟨d,.indexAddr t x i,ty,p,af,some gd⟩ K=vstep P ops st ⟨d,.indexAddr t x i,ty,p,af,some gd⟩ K:=by simp [vstepL,glend,effL]
@[simp ↓] theorem vL_load (t:TypeId) (x:Operand):vstepL P ops st ⟨d,.load t x,ty,p,af,some gd⟩ K=vstep P ops st ⟨d,.load t x,ty,p,af,some gd⟩ K:=by simp [vstepL,glend,effL]
@[simp ↓] theorem vL_build (t:TypeId) (parts:Array (Nat × Operand)):vstepL P ops st ⟨d,.build t parts,ty,p,af,some gd⟩ K=vstep P ops st ⟨d,.build t parts,ty,p,af,some gd⟩ K:=by simp [vstepL,glend,effL]
@[simp ↓] theorem vL_nilCheck (x:Operand):vstepL P ops st ⟨d,.nilCheck x,ty,p,af,some gd⟩ K=vstep P ops st ⟨d,.nilCheck x,ty,p,af,some gd⟩ K:=by simp [vstepL,glend,effL]
@[simp ↓] theorem vL_pick (x y z:Operand):vstepL P ops st ⟨d,.pick x y z,ty,p,af,some gd⟩ K=vstep P ops st ⟨d,.pick x y z,ty,p,af,some gd⟩ K:=by simp [vstepL,glend,effL]
@[simp ↓] theorem vL_builtin (b:Builtin) (args:Array Operand) (ts:Array TypeId) (hb:b≠.append):vstepL P ops st ⟨d,.call ⟨.builtin b,args,ts⟩,ty,p,af,some gd⟩ K=vstep P ops st ⟨d,.call ⟨.builtin b,args,ts⟩,ty,p,af,some gd⟩ K:=by
  cases b <;> first | exact absurd rfl hb | simp [vstepL,glend,effL]
def vLq (P:Program) (ops:Array Oper) (st:St) (o:Oper) (K:St→Prop) (q:Bool):Prop:=bif q then vstepL P ops st o K else vstep P ops st o K
@[simp ↓] theorem vLq_false (o:Oper):vLq P ops st o K false=vstep P ops st o K:=rfl
@[simp ↓] theorem vL_call (f:Operand) (args:List Operand) (ts:Array TypeId):vstepL P ops st ⟨d,.call ⟨.value f,args.toArray,ts⟩,ty,p,af,some gd⟩ K =
    force (tick ((args.map fun x=>peel (st.ev x)).any lendS)) fun q=>vLq P ops st ⟨d,.call ⟨.value f,args.toArray,ts⟩,ty,p,af,some gd⟩ K q:=by
  rw [force_eq,tick_eq]
  unfold vLq
  cases hq:(args.map fun x=>peel (st.ev x)).any lendS with
  | true=>rfl
  | false =>
    have:¬ glend P ops st ⟨d,.call ⟨.value f,args.toArray,ts⟩,ty,p,af,some gd⟩ K:=by
      unfold glend
      simp only
      rintro ⟨h,_⟩
      have h':(args.map fun x=>peel (st.ev x)).any lendS=true:=h
      rw [hq] at h'
      cases h'
    simp [vstepL,this]
@[simp ↓] theorem vL_buildSlice_no (t:TypeId) (n:Nat) (parts:Array (Nat × Operand)) (j:Nat) (want:Bool) (h:gsl ops st j want=some false):vstepL P ops st ⟨d,.buildSlice t n parts,ty,p,af,some (j,want)⟩ K=K (st.putd d (.g false .un)):=by
  rw [← gsl_eq] at h
  simp [vstepL,glend,vstep,PStep,h,pev,no,wrapg]
end
attribute [simp] wrapg zcells znils cellsH cellsS spl pfill plAt splice chunks sint vret vret1 vrets allC asRt asRts ownNames pindexAddr ppart pfield pindex bnd pslice plen pmm pconv pun pbuild pnil frozenD frozenDs dataR dataRs retD initSt initEnv pext
end Go.VL
