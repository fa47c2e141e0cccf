/- Contracts of functions of the seat, proved in a logic on data over the model (part N5). -/
import Derived.Test.YtlphpbcafplnbaaGreatN11
import Derived.Test.YtlphpbcafplnbaaGreatVN13
import Derived.Test.YtlphpbcafplnbaaGreatBY
import Derived.Test.YtlphpbcafplnbaaGreatQS
import Derived.Test.YtlphpbcafplnbaaGreatV24
import Derived.Test.YtlphpbcafplnbaaGreatVN17
set_option linter.unusedSimpArgs false
set_option linter.unusedVariables false
namespace Go.Proofs.YtlphpbcafplnbaaGreat
open Go.VL Go.RowKit
def oB (nil:Bool) (xs:List Int):List (Nat × Res):=[(5,.box false [.own 6 xs.length]),(6,.arr nil (if nil then 0 else 1) (xs.map fun x=>[i64 x]) 0)]
def tkJ (nil:Bool) (xs:List Int) (k:List UInt8) (v:Int) (a b:List UInt8) (uf:Nat→Value):List (Nat × Res):=oB nil xs++[(7,.pin (uf 0) (.c (.dp (trC k v)))),(8,.pin (uf 1) (.c (str a))),(9,.pin (uf 2) (.c (str b))),(10,.pin (uf 3) (.ptr 5 0))]
def kvV:List S→Int
  | [_,.c (.v (.int _ v))]=>v
  | _=>0
set_option maxRecDepth 4000 in
set_option maxHeartbeats 8000000 in
theorem takeNo (k:List UInt8) (v:Int) (a b:List UInt8) (nil:Bool) (xs:List Int) (hw:ConW Tryz.prog 252 (fun y=>[.c (.dp (ndC k v)),.c (str a),.c (str b),y]) [] 0 isKV (fun ys=>ys=[])) :
    ConB Tryz.prog 240 [.c (.dp (trC k v)),.c (str a),.c (str b),.ptr 5 0] (oB nil xs) [] [.c (.dp (trC k v)),.c (str a),.c (str b),.ptr 5 0] (oB nil xs):=by
  refine spec_ofRFB 7 (B0:=1000) (E:=[(3,.ptr 5 0)]) (rsJ:=fun uf _=>tkJ nil xs k v a b uf) (bIt:=[]) (N:=0) (Ty:=isKV) (ps:=[13,14]) (fn:=Tryz.f240) (Qy:=fun ys=>ys=[]) (gf:=250) (caps:=(rgC k v a b).map .c) Tryz.func240 rfl (by kernel_rfl) (by simp [Tryz.f240]) (by simp [oB]) rfl
    (fun uf=>⟨[(12,.c (.fn 250 (rgC k v a b))),(3,.ptr 5 0)],(tkJ nil xs k v a b uf).map fun p:Nat × Res=>(p.1,some p.2)⟩)
    (fun uf=>⟨[(12,.fnp 250 ((rgC k v a b).map .c)),(12,.c (.fn 250 (rgC k v a b))),(3,.ptr 5 0)],(tkJ nil xs k v a b uf).map fun p:Nat × Res=>(p.1,some p.2)⟩)
    (by kernel_rfl) ?_ (fun w0 K0 uf a w g h=>h.asFnp 12 rfl) (fun x ⟨t,u,ht⟩=>by rw [ht];rfl) ?_ ⟨by kernel_rfl,by kernel_rfl⟩ ⟨by kernel_rfl,by kernel_rfl⟩ ?_ ?_ ?_ ?_ ?_ (fun _=>rfl) (range1 0 k v a b _ hw) ?_ ?_ ?_ ?_ ?_ ?_ ?_ ?_ ?_
  · intro w0 K0 uf
    simp -dsimp [initB,initEnv,pinsOf,oB]
    refine VC.mk _ (range_spec k v a b) ?_
    simp -dsimp [tkJ,oB]
    simp [St.le]
  · intro uf w1 K1 uf' pre x hpre
    omega
  · simp [Tryz.f240]
  · simp [tkJ,oB]
  · simp [S.men]
  · intro uf pre p hp j hj
    simp [tkJ,oB] at hp
    rcases hp with rfl | rfl | rfl | rfl | rfl | rfl <;> simp [Res.ment,S.mens,S.men] at hj <;> omega
  · simp
  · simp
  · simp [rgC,S.mens,S.men]
  · simp
  · intro uf p hp
    simp [tkJ,oB] at hp
    rcases hp with rfl | rfl | rfl | rfl | rfl | rfl <;> simp [tkJ,oB,St.rs,vlook]
  · simp [lk,vlook]
  · intro uf p hp j hj
    simp [tkJ,oB] at hp
    rcases hp with rfl | rfl | rfl | rfl | rfl | rfl <;> simp [Res.ment,S.mens,S.men] at hj <;> subst hj <;> simp [tkJ,oB,lk,vlook]
  · simp [S.men,tkJ,oB,lk,vlook]
  · simp [St.get,vlook]
  · rintro uf ys rfl
    simp [retQB,Tryz.f240,tkJ,oB,resEnd,pinsEnd]
set_option maxRecDepth 4000 in
set_option maxHeartbeats 8000000 in
theorem takeHit (k:List UInt8) (v:Int) (a b:List UInt8) (hw:ConW Tryz.prog 252 (fun y=>[.c (.dp (ndC k v)),.c (str a),.c (str b),y]) [] 1 isKV (fun ys=>ys=[[.c (str k),.c (i64 v)]])) :
    ConB Tryz.prog 240 [.c (.dp (trC k v)),.c (str a),.c (str b),.ptr 5 0] (oB true []) [] [.c (.dp (trC k v)),.c (str a),.c (str b),.ptr 5 0] (oB false [v]):=by
  refine spec_ofRFB 7 (B0:=1000) (E:=[(3,.ptr 5 0)]) (rsJ:=fun uf pre=>tkJ pre.isEmpty (pre.map kvV) k v a b uf) (bIt:=[]) (N:=1) (Ty:=isKV) (ps:=[13,14]) (fn:=Tryz.f240) (Qy:=fun ys=>ys=[[.c (str k),.c (i64 v)]]) (gf:=250) (caps:=(rgC k v a b).map .c) Tryz.func240 rfl (by kernel_rfl) (by simp [Tryz.f240]) (by simp [oB]) rfl
    (fun uf=>⟨[(12,.c (.fn 250 (rgC k v a b))),(3,.ptr 5 0)],(tkJ true [] k v a b uf).map fun p:Nat × Res=>(p.1,some p.2)⟩)
    (fun uf=>⟨[(12,.fnp 250 ((rgC k v a b).map .c)),(12,.c (.fn 250 (rgC k v a b))),(3,.ptr 5 0)],(tkJ true [] k v a b uf).map fun p:Nat × Res=>(p.1,some p.2)⟩)
    (by kernel_rfl) ?_ (fun w0 K0 uf a w g h=>h.asFnp 12 rfl) (fun x ⟨t,u,ht⟩=>by rw [ht];rfl) ?_ ⟨by kernel_rfl,by kernel_rfl⟩ ⟨by kernel_rfl,by kernel_rfl⟩ ?_ ?_ ?_ ?_ ?_ (fun _=>rfl) (range1 1 k v a b _ hw) ?_ ?_ ?_ ?_ ?_ ?_ ?_ ?_ ?_
  · intro w0 K0 uf
    simp -dsimp [initB,initEnv,pinsOf,oB]
    refine VC.mk _ (range_spec k v a b) ?_
    simp -dsimp [tkJ,oB]
    simp [St.le]
  · intro uf w1 K1 uf' pre x hpre
    obtain rfl:pre=[]:=by cases pre with | nil=>rfl | cons _ _=>simp at hpre
    rintro ⟨k',v',rfl⟩ _
    simp -dsimp [tkJ,oB,paramsE,pinsOf,kvV]
    exact fun _=>by simp [maxLen]
  · simp [Tryz.f240]
  · simp [tkJ,oB]
  · simp [S.men]
  · intro uf pre p hp j hj
    simp [tkJ,oB] at hp
    rcases hp with rfl | rfl | rfl | rfl | rfl | rfl <;> simp [Res.ment,S.mens,S.men] at hj <;> omega
  · simp
  · simp
  · simp [rgC,S.mens,S.men]
  · simp
  · intro uf p hp
    simp [tkJ,oB] at hp
    rcases hp with rfl | rfl | rfl | rfl | rfl | rfl <;> simp [tkJ,oB,St.rs,vlook]
  · simp [lk,vlook]
  · intro uf p hp j hj
    simp [tkJ,oB] at hp
    rcases hp with rfl | rfl | rfl | rfl | rfl | rfl <;> simp [Res.ment,S.mens,S.men] at hj <;> subst hj <;> simp [tkJ,oB,lk,vlook]
  · simp [S.men,tkJ,oB,lk,vlook]
  · simp [St.get,vlook]
  · rintro uf ys rfl
    simp [retQB,Tryz.f240,tkJ,oB,resEnd,pinsEnd,kvV]
end Go.Proofs.YtlphpbcafplnbaaGreat
namespace Go.VL
open Go.RowKit
section
variable {P:Program} {w0:World} {K0:K0T} {nt:Nat} {OPS:Array Oper} {st:St}
theorem fill_two (a b:Addr) (z:Array Value) (hz:z.size=2):Instr.fill (fun i=>some (i*1,1)) z [(0,.pointer (some a)),(1,.pointer (some b))]=some #[.pointer (some a),.pointer (some b)]:=by
  obtain ⟨l⟩:=z
  match l,hz with
  | [x,y],_=>simp [Instr.fill,Value.cells]
theorem VRS.bs2 {y:Nat} {t el ty:TypeId} {x0 x1:Operand} {z:Value} {p:String} {af:Array Edge} {l:List Oper} {K:St→Prop} (i j:Nat) (fi fj:Bool) (si sj:List S)
    (h0:st.ev x0 = .ptr i 0) (h1:st.ev x1 = .ptr j 0) (hi:st.rs i=some (.box fi si)) (hj:st.rs j=some (.box fj sj)) (ht:P.underlying t=some (.slice el)) (hs:tySz P el=some (false,1)) (hz:zeroOf P el=some z) (hzl:z.cells.size=1) (hni:64*y≠i) (hnj:64*y≠j)
    (h:VRS P w0 K0 nt OPS l (((st.clr (64*y)).setR (64*y) (some (.map (.rows false 1 [[.ptr i 0],[.ptr j 0]])))).put y (.mp (64*y))) K):VRS P w0 K0 nt OPS (⟨some y,.buildSlice t 2 #[(0,x0),(1,x1)],ty,p,af,none⟩::l) st K:=by
  refine VRS.step fun hok a w g hT next Q hn'=>wanted_step hT rfl ?_
  have hd:=opOk_dst hok
  have e0:=hT.ev x0
  rw [h0] at e0
  have s0:=e0
  rw [SR] at e0
  obtain ⟨b0,_,hu0⟩:=e0 _ _ hi
  have e1:=hT.ev x1
  rw [h1] at e1
  have s1:=e1
  rw [SR] at e1
  obtain ⟨b1,_,hu1⟩:=e1 _ _ hj
  have hrun:(execOp a.eval ⟨some y,.buildSlice t 2 #[(0,x0),(1,x1)],ty,p,af,none⟩).run P w = .ok (.value (.slice (some ⟨w.heap.size,0,none⟩) 2 2)) (w.alloc (.cells #[a.eval x0,a.eval x1] el)):=by
    simp only [execOp,Instr.buildSlice,Sem.run_bind,run_underlying ht,Result.andThen_ok,run_sizeOf hs]
    rw [if_neg (by decide),if_neg (by decide)]
    have e:(Array.map (fun q:Nat × Operand=>(q.1,a.eval q.2)) #[(0,x0),(1,x1)]).toList=[(0,.pointer (some ⟨b0,0,none⟩)),(1,.pointer (some ⟨b1,0,none⟩))]:=by simp [hu0,hu1]
    have hf:=fill_two ⟨b0,0,none⟩ ⟨b1,0,none⟩ (Array.map (fun q=>z.cells[q % z.cells.size]!) (Array.range (2*1))) (by simp)
    simp only [Sem.run_bind,run_zero hz,Result.andThen_ok,Sem.run_pure,e,hf,newRow,run_newObj,World.alloc_eq,hu0,hu1]
  obtain ⟨g1,m1,m2,m3,m4⟩:=hT.newrows (64*y) 1 [[.ptr i 0],[.ptr j 0]] #[a.eval x0,a.eval x1] el 2 _ (.inl rfl) (fun k e hk=>by
      match k,hk with
      | 0,hk =>
        simp at hk;subst hk
        refine ⟨rfl,fun q s' hq=>?_⟩
        match q,hq with
        | 0,hq=>simp at hq;subst hq;exact ⟨a.eval x0,by simp,s0,by rw [hu0];rfl⟩
      | 1,hk =>
        simp at hk;subst hk
        refine ⟨rfl,fun q s' hq=>?_⟩
        match q,hq with
        | 0,hq=>simp at hq;subst hq;exact ⟨a.eval x1,by simp,s1,by rw [hu1];rfl⟩) (by simp [S.mens,S.men,hni,hnj,Ne.symm hni,Ne.symm hnj]) (by simp) (by simp [maxLen]) (by simp)
  refine ow_value hrun (hn' _ _ _ g1 h ?_)
  refine T.put m1 (hd y rfl) ?_
  rw [SR]
  intro m _
  rw [m2];rfl
theorem VRS.lenM {y:Nat} {t ty:TypeId} {x:Operand} {p:String} {af:Array Edge} {l:List Oper} {K:St→Prop} (i sz:Nat) (xs:List (List S))
    (hx:st.ev x = .mp i) (hr:st.rs i=some (.map (.rows false sz xs))) (ht:isSl P t=true)
    (hk:VRS P w0 K0 nt OPS l (st.put y (.c (.v (.int .i64 xs.length)))) K):VRS P w0 K0 nt OPS (⟨some y,.call ⟨.builtin .len,#[x],#[t]⟩,ty,p,af,none⟩::l) st K:=by
  refine VRS.step fun hok a w g hT next Q hn'=>wanted_step hT rfl ?_
  have hd:=opOk_dst hok
  have hex:=hT.ev x
  rw [hx,SR] at hex
  have hu:=hex _ hr
  obtain ⟨e,he⟩:=isSl_some ht
  rcases hT.res i _ hr with ⟨q,_⟩ | ⟨_,b,cap,cur,E,hl,_⟩
  · cases q
  rw [hl] at hu
  have hrun:(execOp a.eval ⟨some y,.call ⟨.builtin .len,#[x],#[t]⟩,ty,p,af,none⟩).run P w = .ok (.value (.int .i64 xs.length)) w:=by
    simp [execOp,invoke,resolve,hu,builtin,Builtin.len_,run_underlying he,goInt,Sem.run_bind,Result.andThen_ok]
  refine ow_value hrun (hn' _ _ w g hk ?_)
  exact hT.put (hd y rfl) (by simp [SR,CR,Value.oneCell'])
end
def vroundsX (P:Program) (w0:World) (K0:K0T) (nt:Nat) (HH:Nat→Bool) (c:Code) (Q:Exit→St→Prop):Nat→St→Prop
  | 0,_=>False
  | n+1,st=>vx P w0 K0 nt HH c st (seqQ (vroundsX P w0 K0 nt HH c Q n) Q)
section
variable {P:Program} {w0:World} {K0:K0T} {nt:Nat}
theorem vroundsX_ok {HH:Nat→Bool} {c:Code} {Q:Exit→St→Prop} (hok:codeOk nt c=true):∀ (n:Nat) (st:St),vroundsX P w0 K0 nt HH c Q n st→∀ a w g,T w0 K0 nt st a w g →
    Code.rounds P c (fun e a w=>∃ st' g',Q e st'∧T w0 K0 nt st' a w g') n a w
  | 0,_,h,_,_,_,_=>h.elim
  | n+1,st,h,a,w,g,hT=>by
    rw [Code.rounds]
    refine wp_mono (vx_ok c st _ hok h a w g hT) fun e a' w' ⟨st',g',h1,h2⟩=>?_
    cases e with
    | normal=>exact vroundsX_ok hok n st' h1 a' w' g' h2
    | _=>exact ⟨st',g',h1,h2⟩
theorem VL.roundsX {c:Code} {st:St} {Q:Exit→St→Prop} {m1:Keep (Code.loop c)} {m2:Keep Q} (n:Nat) (HH:Nat→Bool) (hok:codeOk nt c=true) (h:vroundsX P w0 K0 nt HH c Q n st):VL P w0 K0 nt (.loop c) st Q m1 m2 :=
  fun a w g hT=>wp_loop_rounds n (vroundsX_ok hok n st h a w g hT)
@[simp] theorem vroundsX_succ (HH:Nat→Bool) (c:Code) (Q:Exit→St→Prop) (n:Nat) (st:St):vroundsX P w0 K0 nt HH c Q (n+1) st=vx P w0 K0 nt HH c st (seqQ (vroundsX P w0 K0 nt HH c Q n) Q):=rfl
end
end Go.VL
namespace Go.Proofs.YtlphpbcafplnbaaGreat
open Go.VL Go.RowKit
theorem way_0:Con Tryz.prog 249 [.c (i64 0)] [.c (.sl true [])]:=by
  refine Con.frz (rs:=[.fr true 0 [] 0]) ?_ 0 rfl
  refine spec_of Tryz.func249 rfl (by kernel_rfl) (by simp [Tryz.f249]) (fun w0 K0=>vc_ok _ _ _ (by kernel_rfl) ?_)
  simp only [Tryz.f249]
  simp -dsimp
  refine VL.rounds 1 (by kernel_rfl) ?_
  simp -dsimp
def chN (j:Nat):Int:=if j≤38 then 2 ^ (j+2) else 0
def chL (j:Nat):List Int:=(List.range j).map fun t=>chN (t+1)
theorem chL_snoc (j:Nat):chL (j+1)=chL j++[chN (j+1)]:=by simp [chL,List.range_succ]
theorem ch1:∀ k:Fin 39,bits BinOp.and IntKind.i64 (chN k) (IntKind.i64.wrap (-chN k))=chN k:=by decide +kernel
theorem ch2:∀ k:Fin 39,bits BinOp.or IntKind.i64 (bits BinOp.andNot IntKind.i64 (chN k) (chN k)) (IntKind.i64.wrap (chN k*2 ^ min 1 IntKind.i64.bits))=2*chN k:=by decide +kernel
theorem ch3:∀ k:Fin 39,(decide (1099511627776<2*chN k)=false→2*chN k=chN (k+1))∧(decide (1099511627776<2*chN k)=true→chN (k+1)=0):=by decide +kernel
set_option maxRecDepth 4000 in
set_option maxHeartbeats 8000000 in
theorem way_4:Con Tryz.prog 249 [.c (i64 4)] [.fr false 1 ((chL 39).map fun x=>[i64 x]) 0]:=by
  refine spec_of Tryz.func249 rfl (by kernel_rfl) (by simp [Tryz.f249]) (fun w0 K0=>vc_ok _ _ _ (by kernel_rfl) ?_)
  simp only [Tryz.f249]
  simp -dsimp
  refine VL.loop (ι:=Nat) (fun j=>⟨[(0,.c (i64 (chN j))),(3,.own 192 j)],[(192,some (.arr (decide (j=0)) (if j=0 then 0 else 1) ((chL j).map fun x=>[i64 x]) 0))]⟩) (fun j=>j≤39) (fun j=>40-j) 0 (by kernel_rfl) (by decide) ?_ ?_
  · simp [St.le,chL,chN]
  intro j hj
  simp -dsimp
  refine VIf.mk (fun h=>?_) (fun h=>?_)
  · have hj38:j<39:=by
      have hf:∀ k:Fin 40,(chN k != 0)=true→k.1<39:=by decide
      exact hf ⟨j,by omega⟩ h
    have e1:=ch1 ⟨j,hj38⟩
    have e2:=ch2 ⟨j,hj38⟩
    have e3:=ch3 ⟨j,hj38⟩
    simp only at e1 e2 e3
    have hz:((chL j).map fun x=>[i64 x]).length=j:=by simp [chL]
    simp -dsimp [e1,e2]
    refine VIf.mk (fun h2=>?_) (fun h2=>?_)
    · have e4:=e3.2 h2
      simp -dsimp [chL]
      refine ⟨by decide,by omega,j+1,by omega,?_,by omega⟩
      simp [St.le,e4,List.range_succ]
    · have e4:=e3.1 h2
      simp -dsimp [chL]
      refine ⟨by decide,by omega,j+1,by omega,?_,by omega⟩
      simp [St.le,e4,List.range_succ]
  · have:j=39:=by
      have hf:∀ k:Fin 40,(chN k != 0)=false→k.1=39:=by decide
      exact hf ⟨j,by omega⟩ h
    subst this
    simp -dsimp [chL]
theorem chL_len (j:Nat):(chL j).length=j:=by simp [chL]
theorem chL_at (n k:Nat) (h:k<n):((chL n).map fun x=>[i64 x])[k]? = some [i64 (chN (k+1))]:=by
  simp [chL,h]
theorem ch4:∀ k:Fin 40,0≤chN (k+1)∧(5≤chN (k+1)↔k.1<38):=by decide +kernel
def nRight:List Int:=chL 38
set_option maxRecDepth 4000 in
set_option maxHeartbeats 16000000 in
theorem nodes_05 (SI:SortsI):Con Tryz.prog 239 [.agg [i64 0,i64 5]] [.c (.sl true []),.c (.sl false (nRight.map fun x=>[i64 x])),.c (i64 0)]:=by
  refine Con.frz (rs:=[.c (.sl true []),.fr false 1 (nRight.map fun x=>[i64 x]) 0,.c (i64 0)]) ?_ 1 rfl
  refine spec_of Tryz.func239 rfl (by kernel_rfl) (by simp [Tryz.f239]) (fun w0 K0=>vx_ok (H:=fun i=>i == 16 || i == 18) _ _ _ (by kernel_rfl) ?_)
  simp only [Tryz.f239]
  simp -dsimp
  have hc:checkOf ⟨0,5⟩=0:=by decide
  refine VC.mk _ (check_at _ ⟨0,5⟩ rfl) ?_
  have w1:IntKind.i64.wrap 4=4:=by decide
  simp -dsimp [hc,w1]
  refine VL.rounds 3 (by kernel_rfl) ?_
  simp -dsimp
  refine VC.mk _ way_0 ?_
  simp -dsimp [maxLen]
  refine VL.rounds 2 (by kernel_rfl) ?_
  simp -dsimp
  refine VC.mk _ way_4 ?_
  have hL:(chL 39).map (fun x=>[i64 x])++[[i64 0]]=(chL 40).map fun x=>[i64 x]:=rfl
  simp -dsimp [maxLen,hL,chL_len]
  refine VL.loop (ι:=Nat) (fun k=>⟨[(31,.c (i64 k)),(30,.c (i64 40)),(29,.own 1728 40),(22,.agg [i64 0,i64 4]),(23,.c (i64 1)),(1,.ptr 64 0),(2,.ptr 128 0),(3,.ptr 192 0)],
    [(1728,some (.arr false 1 ((chL 40).map fun x=>[i64 x]) 0)),(64,some (.box false [.c (i64 0),.c (i64 5)])),(128,some (.box false [.own 129 0])),(129,some (.arr true 0 [] 0)),(192,some (.box false [.own 193 (min k 38)])),(193,some (.arr (decide (k=0)) (if k=0 then 0 else 1) ((chL (min k 38)).map fun x=>[i64 x]) 0))]⟩) (fun k=>k≤40) (fun k=>40-k) 0 (by kernel_rfl) (by decide) ?_ ?_
  · simp [St.le,chL]
  · intro k hk
    simp -dsimp [chL_len]
    refine VIf.mk (fun h=>?_) (fun h=>?_)
    · have hk':k<40:=by simp at h;omega
      have ha:=chL_at 40 k hk'
      have g1:=ch4 ⟨k,hk'⟩
      simp only at g1
      simp -dsimp [chL_len,ha]
      refine ⟨hk',VIf.mk (fun h1=>?_) (fun h1=>?_)⟩
      · simp at h1;omega
      simp -dsimp
      refine VIf.mk (fun h2=>?_) (fun h2=>?_)
      · have hk8:k<38:=by
          have:=g1.2
          simp at h2
          omega
        have m1:min k 38=k:=by omega
        have m2:min (k+1) 38=k+1:=by omega
        simp -dsimp [chL_len,m1,maxLen]
        refine ⟨by omega,k+1,by omega,?_,by omega⟩
        simp [St.le,m2,chL_snoc]
        exact IntWalk.i64_in _ (by omega)
      · have hk8:¬ k<38:=by
          have:=g1.2
          simp at h2
          omega
        have hk0:k≠0:=by omega
        have m1:min k 38=38:=by omega
        have m2:min (k+1) 38=38:=by omega
        simp -dsimp
        refine ⟨k+1,by omega,?_,by omega⟩
        simp [St.le,m1,m2,hk0]
        exact IntWalk.i64_in _ (by omega)
    · have hk':k=40:=by simp at h;omega
      subst hk'
      simp -dsimp [chL_len]
      refine VL.hand (by kernel_rfl) ?_
      refine VRS.bs2 128 192 false false [.own 129 0] [.own 193 38] rfl rfl rfl rfl (el:=352) (z:=.pointer none) (by kernel_rfl) (by kernel_rfl) (by kernel_rfl) (by kernel_rfl) (by decide) (by decide) ?_
      simp -dsimp
      refine VRS.lenM 3520 1 [[.ptr 128 0],[.ptr 192 0]] rfl rfl (by kernel_rfl) ?_
      refine VRS.fin ?_
      simp -dsimp
      refine VL.roundsX 3 (fun i=>i == 18) (by kernel_rfl) ?_
      simp -dsimp
      refine VL.hand (by kernel_rfl) ?_
      refine VRS.ixM 3520 0 1 [[.ptr 128 0],[.ptr 192 0]] rfl rfl rfl rfl (by decide) (by kernel_rfl) ?_
      refine VRS.ldM (n:=1) 3520 0 0 1 [[.ptr 128 0],[.ptr 192 0]] [.ptr 128 0] (.ptr 128 0) rfl rfl rfl rfl (by kernel_rfl) ?_
      refine VRS.fin ?_
      simp -dsimp
      refine VCL.snap ?_
      simp -dsimp
      refine VC.mk _ SI.nil ?_
      simp -dsimp
      refine VCL.snap ?_
      simp -dsimp
      refine VC.mk _ SI.cnil ?_
      simp -dsimp
      refine VL.hand (by kernel_rfl) ?_
      refine VRS.ixM 3520 1 1 [[.ptr 128 0],[.ptr 192 0]] rfl rfl rfl rfl (by decide) (by kernel_rfl) ?_
      refine VRS.ldM (n:=1) 3520 1 0 1 [[.ptr 128 0],[.ptr 192 0]] [.ptr 192 0] (.ptr 192 0) rfl rfl rfl rfl (by kernel_rfl) ?_
      refine VRS.fin ?_
      simp -dsimp
      have hcs:=SI.con (chL 38) (by rw [chL_len];decide)
      have hs:sortI (chL 38)=chL 38:=List.mergeSort_of_pairwise (by decide +kernel)
      have hcc:=SI.cmp (chL 38) (by rw [chL_len];decide)
      have hc2:Go.Lib.compact (chL 38)=chL 38:=by decide +kernel
      rw [hs] at hcs
      rw [hc2] at hcc
      simp only [chL_len,if_true] at hcs hcc
      refine VCL.lend (rowI 1 (chL 38)) (rowI 1 (chL 38)) [.own 1 38] _ _ (fun _=>193) [] ⟨hcs,?_,?_,?_,?_,?_,?_,?_⟩ ?_
      · simp [renSs,renS]
      · simp [rowI,renR,ints]
      · simp [rowI]
      · simp [rowI]
      · simp [rowI,Res.nam]
      · simp [S.nams]
      · simp [rowI,lk,keptP,ints]
        exact ⟨1,_,⟨rfl,rfl⟩,_,⟨rfl,rfl⟩,by simp [chL_len],by simp [chL_len]⟩
      simp -dsimp [rowI,retS,renSs,renS,renR]
      refine VCL.lend (rowI 1 (chL 38)) (rowI 1 (chL 38)) [.own 1 38] _ _ (fun _=>193) [] ⟨hcc,?_,?_,?_,?_,?_,?_,?_⟩ ?_
      · simp [renSs,renS]
      · simp [rowI,renR,ints]
      · simp [rowI]
      · simp [rowI]
      · simp [rowI,Res.nam]
      · simp [S.nams,S.nam]
        exact ⟨_,List.mem_singleton.2 rfl⟩
      · simp [rowI,lk,keptP,ints]
        exact ⟨1,_,⟨rfl,rfl⟩,_,⟨rfl,rfl⟩,by simp [chL_len],by simp [chL_len]⟩
      simp -dsimp [rowI,retS,renSs,renS,renR,chL_len]
      exact ⟨rfl,chL_len 38⟩
def kL:List UInt8:=keyS 8 3 9223372036854775808
def kU:List UInt8:=keyS 8 9 9223372036854775808
def rtD:List (Nat × Res):=[(1,.box false [.c (.dp (trC kL 0)),.c (.dp (trC kU 0)),.mp 6]),(6,.map (.ents [(.int .i64 0,[.c (i64 3),.c (i64 9)])]))]
theorem chM1:∀ k:Fin 38,chN (k+1)=((2 ^ (k.1+3):Nat):Int)∧(2 ^ (k.1+3):Nat)≤9223372036854775807:=by decide +kernel
theorem chM2:∀ k:Fin 38,k.1≠0→Op.bytesLess kL (keyS (2 ^ (k.1+3)) 0 0)=true:=by decide +kernel
theorem w_first:ConW Tryz.prog 252 (fun y=>[.c (.dp (ndC kL 0)),.c (str (keyS 0 0 0)),.c (str (keyS 5 0 0)),y]) [] 0 isKV (fun ys=>ys=[]):=walk_ge 0 kL 0 (keyS 0 0 0) (keyS 5 0 0) (by decide +kernel) (by decide +kernel) (by decide +kernel)
theorem w_hit:ConW Tryz.prog 252 (fun y=>[.c (.dp (ndC kL 0)),.c (str (keyS 8 0 0)),.c (str (keyS 8 5 0)),y]) [] 1 isKV (fun ys=>ys=[[.c (str kL),.c (i64 0)]]):=walk_hit kL 0 (keyS 8 0 0) (keyS 8 5 0) (by decide +kernel) (by decide +kernel) (by decide +kernel)
theorem w_no (k:Nat) (hk:k<38) (h0:k≠0):ConW Tryz.prog 252 (fun y=>[.c (.dp (ndC kL 0)),.c (str (keyS (2 ^ (k+3)) 0 0)),.c (str (keyS (2 ^ (k+3)) 5 0)),y]) [] 0 isKV (fun ys=>ys=[]):=walk_lt 0 kL 0 _ _ (chM2 ⟨k,hk⟩ h0)
theorem nR_at (k:Nat) (h:k<38):(nRight.map fun x=>[i64 x])[k]? = some [i64 ((2 ^ (k+3):Nat):Int)]:=by
  rw [show nRight=chL 38 from rfl,chL_at 38 k h,(chM1 ⟨k,h⟩).1]
theorem nR_len:nRight.length=38:=chL_len 38
set_option maxRecDepth 4000 in
set_option maxHeartbeats 32000000 in
theorem overlap_05 (SI:SortsI):ConB Tryz.prog 234 [.ptr 1 0,.agg [i64 0,i64 5]] rtD [.own 577 1,.c (i64 0)] [.ptr 1 0,.agg [i64 0,i64 5]] (rtD++[(577,.arr false 1 [[i64 0]] 0)]):=by
  refine spec_ofB 7 Tryz.func234 rfl (by kernel_rfl) (by simp [Tryz.f234]) (by simp [rtD]) rfl (fun w0 K0 uf=>vc_ok _ _ _ (by kernel_rfl) ?_)
  simp only [Tryz.f234]
  simp -dsimp [initB,initEnv,pinsOf,rtD]
  refine VC.mk _ (nodes_05 SI) ?_
  simp -dsimp
  refine VL.rounds 1 (by kernel_rfl) ?_
  simp -dsimp
  refine VL.draw (by kernel_rfl) [(0,false),(0,false),(2,false),(6,false),(14,false),(0,false),(32,false),(96,false),(0,false),(256,false),(992,false),(2047,true)] (by kernel_rfl) ?_
  simp -dsimp
  refine VCE.mk _ (keyM 0 0 (by decide) (by decide)) ?_
  simp -dsimp
  refine VCE.mk _ (keyM 5 0 (by decide) (by decide)) ?_
  simp -dsimp
  refine VCP.lend (oB true []) (oB true []) [.c (.dp (trC kL 0)),.c (str (keyS 0 0 0)),.c (str (keyS 5 0 0)),.ptr 5 0] _ _ (fun i=>if i=5 then 576 else 577) [577] ⟨takeNo kL 0 _ _ true [] w_first,?_,?_,?_,?_,?_,?_,?_⟩ ?_
  · simp [renSs,renS]
  · simp [oB,renR,renSs,renS]
  · simp [oB]
  · simp [oB]
  · simp [oB,Res.nam,S.nams,S.nam]
  · simp [S.nams]
  · simp [oB,lk,keptP]
  simp -dsimp [oB,retS,renSs,renS,renR]
  refine VL.loop (ι:=Nat) (fun k=>⟨[(60,.c (i64 k)),(59,.c (i64 38)),(58,.c (.sl false (nRight.map fun x=>[i64 x]))),(10,.fnp 240 [.ptr 576 0]),(9,.ptr 576 0),(3,.ptr 192 0),(0,.ptr 1 0)],
    [(576,some (.box false [.own 577 (if k=0 then 0 else 1)])),(577,some (.arr (decide (k=0)) (if k=0 then 0 else 1) (if k=0 then [] else [[i64 0]]) 0)),(192,some (.box false [.c (i64 0),.c (i64 5)])),(1,some (.box false [.c (.dp (trC kL 0)),.c (.dp (trC kU 0)),.mp 6])),(6,some (.map (.ents [(.int .i64 0,[.c (i64 3),.c (i64 9)])]))),(7,some (.pin (uf 0) (.ptr 1 0))),(8,some (.pin (uf 1) (.agg [i64 0,i64 5])))]⟩) (fun k=>k≤38) (fun k=>38-k) 0 (by kernel_rfl) (by decide) ?_ ?_
  · simp [St.le,nR_len,MB.clr,S.clr,S.clrs]
    rfl
  · intro k hk
    simp -dsimp
    refine VIf.mk (fun h=>?_) (fun h=>?_)
    · have hk':k<38:=by simp at h;omega
      have ha:=nR_at k hk'
      have hm:=(chM1 ⟨k,hk'⟩).2
      simp only at hm
      simp -dsimp [nR_len,ha]
      refine ⟨hk',VL.draw (by kernel_rfl) [(0,false),(0,false),(2,false),(6,false),(14,false),(0,false),(32,false),(0,false),(0,false),(256,false),(992,false),(2047,true)] (by kernel_rfl) ?_⟩
      simp -dsimp
      refine VCE.mk _ (keyM (2 ^ (k+3)) 0 hm (by decide)) ?_
      simp -dsimp
      refine VCE.mk _ (keyM (2 ^ (k+3)) 5 hm (by decide)) ?_
      simp -dsimp
      by_cases h0:k=0
      · subst h0
        refine VCP.lend (oB true []) (oB false [0]) [.c (.dp (trC kL 0)),.c (str (keyS 8 0 0)),.c (str (keyS 8 5 0)),.ptr 5 0] _ _ (fun i=>if i=5 then 576 else 577) [577] ⟨takeHit kL 0 _ _ w_hit,?_,?_,?_,?_,?_,?_,?_⟩ ?_
        · simp [renSs,renS]
        · simp [oB,renR,renSs,renS]
        · simp [oB]
        · simp [oB]
        · simp [oB,Res.nam,S.nams,S.nam]
        · simp [S.nams]
        · simp [oB,lk,keptP]
        simp -dsimp [oB,retS,renSs,renS,renR]
        refine ⟨1,by omega,?_,by omega⟩
        simp [St.le]
        rfl
      · refine VCP.lend (oB false [0]) (oB false [0]) [.c (.dp (trC kL 0)),.c (str (keyS (2 ^ (k+3)) 0 0)),.c (str (keyS (2 ^ (k+3)) 5 0)),.ptr 5 0] _ _ (fun i=>if i=5 then 576 else 577) [577] ⟨takeNo kL 0 _ _ false [0] (w_no k hk' h0),?_,?_,?_,?_,?_,?_,?_⟩ ?_
        · simp [renSs,renS]
        · simp [oB,renR,renSs,renS,h0]
        · simp [oB]
        · simp [oB]
        · simp [oB,Res.nam,S.nams,S.nam]
        · simp [S.nams]
        · simp [oB,lk,keptP]
        simp -dsimp [oB,retS,renSs,renS,renR]
        refine ⟨k+1,by omega,?_,by omega⟩
        simp [St.le]
        exact ⟨IntWalk.i64_in _ (by omega),rfl⟩
    · obtain rfl:k=38:=by simp at h;omega
      simp -dsimp
      have hcs:=SI.con [0] (by decide)
      have hs:sortI [0]=[0]:=List.mergeSort_of_pairwise (by decide)
      rw [hs] at hcs
      refine VCL.lend (rowI 1 [0]) (rowI 1 [0]) [.own 1 1] _ _ (fun _=>577) [] ⟨hcs,?_,?_,?_,?_,?_,?_,?_⟩ ?_
      · simp [renSs,renS]
      · simp [rowI,renR,ints]
      · simp [rowI]
      · simp [rowI]
      · simp [rowI,Res.nam]
      · simp [S.nams]
      · simp [rowI,lk,keptP,ints]
        exact ⟨1,_,⟨rfl,rfl⟩,_,⟨rfl,rfl⟩,rfl,rfl⟩
      simp -dsimp [rowI,retS,renSs,renS,renR]
      simp [rtD,resEnd,pinsEnd,ints]
structure Evt where
  f:Fact
  left:Bool
def Evt.cells (e:Evt):List C:=[.sl e.f.nl (vals e.f.row),i64 e.f.p.f,i64 e.f.p.t,bln e.left]
theorem evCmp_spec (a b:Evt):Con Tryz.prog 222 [.agg a.cells,.agg b.cells] [.c (i64 (cmpI a.f.p.f b.f.p.f))]:=by
  refine spec_of Tryz.func222 rfl (by kernel_rfl) (by simp [Tryz.f222]) (fun w0 K0=>vc_ok _ _ _ (by kernel_rfl) ?_)
  simp only [Tryz.f222]
  simp -dsimp [Evt.cells]
  refine VC.mk _ (compare_spec a.f.p.f b.f.p.f) ?_
  simp -dsimp
def evRow (a b:Evt):List (Nat × Res):=[(1,.arr false 4 [a.cells,b.cells] 0)]
abbrev evFn:S:=.c (.fn 222 [])
set_option maxRecDepth 4000 in
set_option maxHeartbeats 8000000 in
theorem evIns_spec (a b:Evt) (h:¬ cmpI b.f.p.f a.f.p.f<0):ConB Tryz.prog 227 [.own 1 2,.c (i64 0),.c (i64 2),evFn] (evRow a b) [] [.own 1 2,.c (i64 0),.c (i64 2),evFn] (evRow a b):=by
  refine spec_ofB 2 Tryz.func227 rfl (by kernel_rfl) (by simp [Tryz.f227]) (by simp [evRow]) rfl (fun w0 K0 uf=>vc_ok _ _ _ (by kernel_rfl) ?_)
  simp only [Tryz.f227]
  have hc:=evCmp_spec b a
  have w1:IntKind.i64.wrap (0+1)=1:=by decide
  have w2:IntKind.i64.wrap (1+1)=2:=by decide
  have w3:IntKind.i64.wrap (1-1)=0:=by decide
  have ea:a.cells=[.sl a.f.nl (vals a.f.row),i64 a.f.p.f,i64 a.f.p.t,bln a.left]:=rfl
  have eb:b.cells=[.sl b.f.nl (vals b.f.row),i64 b.f.p.f,i64 b.f.p.t,bln b.left]:=rfl
  rw [ea,eb] at hc
  simp -dsimp [initB,initEnv,pinsOf,evRow,ea,eb,w1]
  refine VL.rounds 2 (by kernel_rfl) ?_
  rw [vrounds]
  simp -dsimp
  refine VL.rounds 1 (by kernel_rfl) ?_
  rw [vrounds]
  simp -dsimp
  refine VL.draw (by kernel_rfl) [(0,false),(0,false),(3,true),(7,true),(15,false),(15,false),(15,false),(111,false),(239,false),(15,false),(15,false),(1039,false),(3599,false),(7695,false),(16383,true),(32767,true),(65535,true)] (by kernel_rfl) ?_
  simp -dsimp [w3]
  refine VG.mk _ _ (fun _=>hc) rfl ?_
  have hn:(decide (cmpI b.f.p.f a.f.p.f<0))=false:=by simpa using h
  simp -dsimp [hn,w2]
  simp [resEnd,pinsEnd,evRow,ea,eb]
theorem evStab_spec (a b:Evt) (h:¬ cmpI b.f.p.f a.f.p.f<0):ConB Tryz.prog 225 [.own 1 2,.c (i64 2),evFn] (evRow a b) [] [.own 1 2,.c (i64 2),evFn] (evRow a b):=by
  refine spec_ofB 2 Tryz.func225 rfl (by kernel_rfl) (by simp [Tryz.f225]) (by simp [evRow]) rfl (fun w0 K0 uf=>vc_ok _ _ _ (by kernel_rfl) ?_)
  simp only [Tryz.f225]
  simp -dsimp [initB,initEnv,pinsOf,evRow]
  refine VL.rounds 1 (by kernel_rfl) ?_
  simp -dsimp
  refine VCL.lend (evRow a b) (evRow a b) [.own 1 2,.c (i64 0),.c (i64 2),evFn] _ _ id [] ⟨evIns_spec a b h,?_,?_,?_,?_,?_,?_,?_⟩ ?_
  · simp [renSs,renS]
  · simp [evRow,renR]
  · simp [evRow]
  · simp [evRow]
  · simp [evRow,Res.nam]
  · simp [S.nams,S.nam]
  · simp [evRow,lk,keptP]
    exact ⟨4,_,⟨rfl,rfl⟩,_,⟨rfl,rfl⟩,rfl,rfl⟩
  simp -dsimp [evRow,retS,renSs]
  refine VL.rounds 1 (by kernel_rfl) ?_
  simp -dsimp [resEnd,pinsEnd,evRow]
theorem evSort_spec (a b:Evt) (h:¬ cmpI b.f.p.f a.f.p.f<0):ConB Tryz.prog 221 [.own 1 2,evFn] (evRow a b) [] [.own 1 2,evFn] (evRow a b):=by
  refine spec_ofB 2 Tryz.func221 rfl (by kernel_rfl) (by simp [Tryz.f221]) (by simp [evRow]) rfl (fun w0 K0 uf=>vc_ok _ _ _ (by kernel_rfl) ?_)
  simp only [Tryz.f221]
  simp -dsimp [initB,initEnv,pinsOf,evRow]
  refine VCL.lend (evRow a b) (evRow a b) [.own 1 2,.c (i64 2),evFn] _ _ id [] ⟨evStab_spec a b h,?_,?_,?_,?_,?_,?_,?_⟩ ?_
  · simp [renSs,renS]
  · simp [evRow,renR]
  · simp [evRow]
  · simp [evRow]
  · simp [evRow,Res.nam]
  · simp [S.nams,S.nam]
  · simp [evRow,lk,keptP]
    exact ⟨4,_,⟨rfl,rfl⟩,_,⟨rfl,rfl⟩,rfl,rfl⟩
  simp -dsimp [evRow,retS,renSs]
theorem evEnd_spec (f:Fact) (e:Evt):Con Tryz.prog 224 [.agg f.cells,.c (.dp e.cells)] [.c (bln (decide (f.p.t≤e.f.p.f)))]:=by
  refine spec_of Tryz.func224 rfl (by kernel_rfl) (by simp [Tryz.f224]) (fun w0 K0=>vc_ok _ _ _ (by kernel_rfl) ?_)
  simp only [Tryz.f224]
  simp -dsimp [Evt.cells,Fact.cells]
abbrev evG (e:Evt):S:=.c (.fn 224 [.dp e.cells])
theorem evIdx_nil (e:Evt) (nl:Bool):Con Tryz.prog 226 [.c (.sl nl []),evG e] [.c (i64 (-1))]:=by
  refine spec_of Tryz.func226 rfl (by kernel_rfl) (by simp [Tryz.f226]) (fun w0 K0=>vc_ok _ _ _ (by kernel_rfl) ?_)
  simp only [Tryz.f226]
  simp -dsimp
  refine VL.rounds 1 (by kernel_rfl) ?_
  simp -dsimp
theorem evIdx_one (e:Evt) (f:Fact) (h:¬ f.p.t≤e.f.p.f):Con Tryz.prog 226 [.c (.sl false [f.cells]),evG e] [.c (i64 (-1))]:=by
  refine spec_of Tryz.func226 rfl (by kernel_rfl) (by simp [Tryz.f226]) (fun w0 K0=>vc_ok _ _ _ (by kernel_rfl) ?_)
  simp only [Tryz.f226]
  have w1:IntKind.i64.wrap (0+1)=1:=by decide
  have hc:f.cells=[.sl f.nl (vals f.row),i64 f.p.f,i64 f.p.t]:=rfl
  have he:=evEnd_spec f e
  rw [hc] at he
  simp -dsimp
  refine VL.rounds 2 (by kernel_rfl) ?_
  simp -dsimp [w1,hc]
  refine VC.mk _ he ?_
  simp -dsimp [h]
theorem evDel_nil (e:Evt) (nl:Bool):Con Tryz.prog 223 [.c (.sl nl []),evG e] [.c (.sl nl [])]:=by
  refine spec_of Tryz.func223 rfl (by kernel_rfl) (by simp [Tryz.f223]) (fun w0 K0=>vc_ok _ _ _ (by kernel_rfl) ?_)
  simp only [Tryz.f223]
  simp -dsimp
  refine VC.mk _ (evIdx_nil e nl) ?_
  simp -dsimp
theorem evDel_one (e:Evt) (f:Fact) (h:¬ f.p.t≤e.f.p.f):Con Tryz.prog 223 [.c (.sl false [f.cells]),evG e] [.c (.sl false [f.cells])]:=by
  refine spec_of Tryz.func223 rfl (by kernel_rfl) (by simp [Tryz.f223]) (fun w0 K0=>vc_ok _ _ _ (by kernel_rfl) ?_)
  simp only [Tryz.f223]
  simp -dsimp
  refine VC.mk _ (evIdx_one e f h) ?_
  simp -dsimp
set_option maxRecDepth 4000 in
set_option maxHeartbeats 32000000 in
theorem swpRun_spec (oa ob:Opt) (x y:Fact) (hra:RunCon oa) (hrb:RunCon ob) (ha:oa.out=[x]) (hb:ob.out=[y]) (hl:lapOk x.p y.p=true) (hxy:x.p.f≤y.p.f) (hr:x.row.length+y.row.length≤4398046511104) :
    Con Tryz.prog 220 [.agg [.ifc oa.tc.1 oa.tc.2,.ifc ob.tc.1 ob.tc.2]] [.c (.sl false (facts [bothF x y]))]:=by
  refine Con.frz (rs:=[.fr false 3 (facts [bothF x y]) 0]) ?_ 0 rfl
  refine spec_of Tryz.func220 rfl (by kernel_rfl) (by simp [Tryz.f220]) (fun w0 K0=>vc_ok _ _ _ (by kernel_rfl) ?_)
  simp only [Tryz.f220]
  have hlo:=hl
  rw [lapOk_eq,Bool.and_eq_true,Bool.and_eq_true,Bool.and_eq_true,decide_eq_true_eq,decide_eq_true_eq] at hl
  obtain ⟨hrx,hry,hl1,hl2⟩:=hl
  have hB:=both_spec x y hr
  have hcx:x.cells=[.sl x.nl (vals x.row),i64 x.p.f,i64 x.p.t]:=rfl
  have hcy:y.cells=[.sl y.nl (vals y.row),i64 y.p.f,i64 y.p.t]:=rfl
  have hcb:(bothF x y).cells=[.sl (bothF x y).nl (vals (bothF x y).row),i64 (bothF x y).p.f,i64 (bothF x y).p.t]:=rfl
  rw [hcx,hcy,hcb,hlo] at hB
  have hckx:checkOf x.p=0:=by unfold checkOf;rw [hrx];rfl
  have hcky:checkOf y.p=0:=by unfold checkOf;rw [hry];rfl
  unfold RunCon at hra hrb
  rw [ha] at hra
  rw [hb] at hrb
  have w1:IntKind.i64.wrap (0+1)=1:=by decide
  have w2:IntKind.i64.wrap (1+1)=2:=by decide
  have hcm:¬ cmpI y.p.f x.p.f<0:=by unfold cmpI;split <;> (try split) <;> omega
  simp -dsimp
  refine VI.mk0 (.agg oa.tc.2) oa.tc.1 oa.fn _ rfl oa.meth hra ?_
  simp -dsimp
  refine VL.rounds 2 (by kernel_rfl) ?_
  simp -dsimp [hcx,w1,maxLen]
  refine VI.mk0 (.agg ob.tc.2) ob.tc.1 ob.fn _ rfl ob.meth hrb ?_
  simp -dsimp
  refine VL.rounds 2 (by kernel_rfl) ?_
  simp -dsimp [hcy,w1,w2,maxLen]
  refine VCL.lend (evRow ⟨x,true⟩ ⟨y,false⟩) (evRow ⟨x,true⟩ ⟨y,false⟩) [.own 1 2,evFn] _ _ (fun _=>192) [] ⟨evSort_spec ⟨x,true⟩ ⟨y,false⟩ hcm,?_,?_,?_,?_,?_,?_,?_⟩ ?_
  · simp [renSs,renS]
  · simp [evRow,renR,Evt.cells]
  · simp [evRow]
  · simp [evRow]
  · simp [evRow,Res.nam]
  · simp [S.nams,S.nam]
  · simp [evRow,lk,keptP]
    exact ⟨4,_,⟨rfl,rfl⟩,_,⟨rfl,rfl⟩,rfl,rfl⟩
  simp -dsimp [evRow,retS,renSs,renR,Evt.cells]
  refine VL.rounds 3 (by kernel_rfl) ?_
  simp -dsimp [w1,w2,vlkR_map (t:=310) (h1:=ft_mpT_310) (h2:=ft_zeroOf_22),vmuR_map (t:=310) (h1:=ft_mpT_310),findK,lkS,kfits,putK]
  refine VC.mk _ (evDel_nil ⟨x,true⟩ true) ?_
  simp -dsimp [w1,w2,vlkR_map (t:=310) (h1:=ft_mpT_310) (h2:=ft_zeroOf_22),vmuR_map (t:=310) (h1:=ft_mpT_310),findK,lkS,kfits,keq,putK,entC,maxLen,MB.clr,MB.map,MB.men,MB.cells]
  refine VL.rounds 1 (by kernel_rfl) ?_
  simp -dsimp [w1,w2,vlkR_map (t:=310) (h1:=ft_mpT_310) (h2:=ft_zeroOf_22),vmuR_map (t:=310) (h1:=ft_mpT_310),findK,lkS,kfits,keq,putK,entC,maxLen,MB.clr,MB.map,MB.men,MB.cells]
  refine VC.mk _ (check_at _ x.p rfl) ?_
  simp -dsimp [hckx,w1,w2,vlkR_map (t:=310) (h1:=ft_mpT_310) (h2:=ft_zeroOf_22),vmuR_map (t:=310) (h1:=ft_mpT_310),findK,lkS,kfits,keq,putK,entC,maxLen,MB.clr,MB.map,MB.men,MB.cells]
  refine VL.draw (by kernel_rfl) [(0,false),(0,false),(2,false),(0,false),(0,false),(16,false),(56,false),(0,false),(128,false),(384,false),(1016,false),(2047,true)] (by kernel_rfl) ?_
  simp -dsimp [w1,w2,vlkR_map (t:=310) (h1:=ft_mpT_310) (h2:=ft_zeroOf_22),vmuR_map (t:=310) (h1:=ft_mpT_310),findK,lkS,kfits,keq,putK,entC,maxLen,MB.clr,MB.map,MB.men,MB.cells]
  refine VCL.snap ?_
  simp -dsimp
  refine VC.mk _ (evDel_one ⟨y,false⟩ x (by simp only;omega)) ?_
  simp -dsimp [hcx,w1,w2,vlkR_map (t:=310) (h1:=ft_mpT_310) (h2:=ft_zeroOf_22),vmuR_map (t:=310) (h1:=ft_mpT_310),findK,lkS,kfits,keq,putK,entC,maxLen,MB.clr,MB.map,MB.men,MB.cells]
  refine VL.rounds 2 (by kernel_rfl) ?_
  simp -dsimp [w1,w2,vlkR_map (t:=310) (h1:=ft_mpT_310) (h2:=ft_zeroOf_22),vmuR_map (t:=310) (h1:=ft_mpT_310),findK,lkS,kfits,keq,putK,entC,maxLen,MB.clr,MB.map,MB.men,MB.cells]
  refine VL.draw (by kernel_rfl) [(0,false),(1,false),(0,false),(0,false),(0,false),(27,false),(63,true)] (by kernel_rfl) ?_
  simp -dsimp [w1,w2,vlkR_map (t:=310) (h1:=ft_mpT_310) (h2:=ft_zeroOf_22),vmuR_map (t:=310) (h1:=ft_mpT_310),findK,lkS,kfits,keq,putK,entC,maxLen,MB.clr,MB.map,MB.men,MB.cells]
  refine ⟨by kernel_rfl,?_⟩
  refine VL.draw (by kernel_rfl) [(0,false),(0,false),(2,false),(1,false),(15,true)] (by kernel_rfl) ?_
  simp -dsimp [w1,w2,vlkR_map (t:=310) (h1:=ft_mpT_310) (h2:=ft_zeroOf_22),vmuR_map (t:=310) (h1:=ft_mpT_310),findK,lkS,kfits,keq,putK,entC,maxLen,MB.clr,MB.map,MB.men,MB.cells]
  refine VC.mk _ hB ?_
  simp -dsimp [w1,w2,vlkR_map (t:=310) (h1:=ft_mpT_310) (h2:=ft_zeroOf_22),vmuR_map (t:=310) (h1:=ft_mpT_310),findK,lkS,kfits,keq,putK,entC,maxLen,MB.clr,MB.map,MB.men,MB.cells]
  refine VC.mk _ (check_at _ y.p rfl) ?_
  simp -dsimp [hcky,w1,w2,vlkR_map (t:=310) (h1:=ft_mpT_310) (h2:=ft_zeroOf_22),vmuR_map (t:=310) (h1:=ft_mpT_310),findK,lkS,kfits,keq,putK,entC,maxLen,MB.clr,MB.map,MB.men,MB.cells]
  refine VL.to ⟨[(9,.mp 3264),(11,.ptr 704 0),(54,.c (.v (.int .i64 1))),(53,.c (.v (.int .i64 2))),(52,.own 192 2),(8,.own 512 1)],
    [(704,some (.box true [.c (.sl y.nl (vals y.row)),.c (i64 y.p.f),.c (i64 y.p.t),.c (bln false)])),(3264,some (.map (.ents [(.bool false,[.c (.sl true [])]),(.bool true,[.c (.sl false [[.sl x.nl (vals x.row),i64 x.p.f,i64 x.p.t]])])]))),
      (192,some (.arr false 4 [[.sl x.nl (vals x.row),i64 x.p.f,i64 x.p.t,bln true],[.sl y.nl (vals y.row),i64 y.p.f,i64 y.p.t,bln false]] 0)),(512,some (.arr false 3 [[.sl (bothF x y).nl (vals (bothF x y).row),i64 (bothF x y).p.f,i64 (bothF x y).p.t]] 0))]⟩ (by simp [St.le]) ?_
  refine VL.draw (by kernel_rfl) [(0,false),(0,false),(2,false),(0,false),(0,false),(16,false),(56,false),(0,false),(128,false),(384,false),(1016,false),(2047,true)] (by kernel_rfl) ?_
  simp -dsimp [w1,w2,vlkR_map (t:=310) (h1:=ft_mpT_310) (h2:=ft_zeroOf_22),vmuR_map (t:=310) (h1:=ft_mpT_310),findK,lkS,kfits,keq,putK,entC,maxLen,MB.clr,MB.map,MB.men,MB.cells]
  exact rfl
end Go.Proofs.YtlphpbcafplnbaaGreat
