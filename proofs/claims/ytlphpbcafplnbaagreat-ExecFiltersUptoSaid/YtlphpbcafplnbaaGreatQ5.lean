/- Contracts of functions of the seat, proved in a logic on data over the model (part Q5). -/
import Derived.Test.YtlphpbcafplnbaaGreatAE
import Derived.Test.YtlphpbcafplnbaaGreatX6
set_option linter.unusedSimpArgs false
set_option linter.unusedVariables false
namespace Go.Proofs.YtlphpbcafplnbaaGreat
open Go.VL Go.RowKit
def holds1 (row:List Val) (t:Tm):Bool:=(evC (evalT row t) == 0) && ((evV (evalT row t)).kind == 3) && ((evV (evalT row t)).int == 1)
def holdsT (row:List Val) (ts:List Tm):Bool:=ts.all (holds1 row)
abbrev terms (l:List Tm):List (List C):=l.map Tm.cells
def TOk (l:List Tm):Prop:=∀ t∈l,t.Ok
def VFit (row:List Val):Prop:=∀ v∈row,fits64 v.int=true
def kne (k:Int) (t:Tm):Bool:=t.kind != k
theorem hold_stop {α:Type} {p:α→Bool} {l:List α} {k:Nat} (h:k<l.length) (hp:p l[k]=false):l.all p=false:=by
  rw [List.all_eq_false];exact ⟨l[k],List.getElem_mem h,by simp [hp]⟩
theorem all_next {α:Type} {p:α→Bool} {l:List α} {k:Nat} (h:k<l.length) (hb:(l.take k).all p=true) (hp:p l[k]=true):(l.take (k+1)).all p=true:=by
  rw [take_snoc h,List.all_append,hb];simp [hp]
set_option maxRecDepth 4000 in
set_option maxHeartbeats 4000000 in
theorem Holds_spec (rn nl:Bool) (row:List Val) (hrow:VFit row) (ts:List Tm) (hts:TOk ts) (hl:ts.length≤1000000000000):Con Tryz.prog 285 [.c (.sl rn (vals row)),.c (.sl nl (terms ts))] [.c (bln (holdsT row ts))]:=by
  refine spec_of Tryz.func285 rfl (by kernel_rfl) (by simp [Tryz.f285]) (fun w0 K0=>vc_ok _ _ _ (by kernel_rfl) ?_)
  simp only [Tryz.f285]
  simp -dsimp
  refine VL.loop (fun k:Nat=>⟨[(11,.c (i64 k)),(10,.c (i64 ts.length)),(9,.c (.sl nl (terms ts))),(0,.c (.sl rn (vals row)))],[]⟩) (fun k=>k≤ts.length∧holdsT row (ts.take k)=true) (fun k=>ts.length-k) 0 (by kernel_rfl) (by simp [holdsT]) (by simp [St.le]) ?_
  intro k ⟨hk,hb⟩
  simp -dsimp
  refine VIf.mk (fun h=>?_) (fun h=>?_)
  · have hlt:k<ts.length:=by simpa using h
    have hw:IntKind.i64.wrap ((k:Int)+1)=(k:Int)+1:=IntWalk.i64_in _ (by omega)
    have hE:=Eval_spec ts[k] (hts _ (List.getElem_mem hlt)) rn row hrow
    obtain ⟨op,kd,tv,pl,nl2,args,ht⟩:∃ op kd tv pl nl2 args,ts[k]=Tm.mk op kd tv pl nl2 args:=by
      cases ts[k];exact ⟨_,_,_,_,_,_,rfl⟩
    have hone:holds1 row ts[k]=((evC (evalT row ts[k]) == 0) && ((evV (evalT row ts[k])).kind == 3) && ((evV (evalT row ts[k])).int == 1)):=rfl
    generalize evC (evalT row ts[k])=ec at hE hone
    generalize evV (evalT row ts[k])=ev at hE hone
    rw [ht,Tm.cells_mk] at hE
    have hcell:(terms ts)[k]'(by simpa using hlt)=[str op,i64 kd,i64 tv.kind,i64 tv.int,str tv.text,i64 pl,.sl nl2 (args.map Tm.cells)]:=by
      simp [ht,Tm.cells_mk]
    simp -dsimp [hlt,hcell,ht,Tm.cells_mk]
    refine VC.mk _ hE ?_
    simp -dsimp [Val.cells]
    refine VIf.mk (fun h2=>?_) (fun h2=>?_)
    · have hz:holds1 row ts[k]=false:=by
        rw [hone,Bool.eq_false_iff];intro e;simp at e;simp [e.1.1,e.1.2,e.2] at h2
      simp -dsimp
      exact hold_stop hlt hz
    · have hz:holds1 row ts[k]=true:=by
        rw [hone];simp_all
      simp -dsimp [hw]
      refine ⟨k+1,⟨by omega,all_next hlt hb hz⟩,?_,by omega⟩
      simp [St.le]
  · simp at h
    obtain rfl:k=ts.length:=by omega
    simp -dsimp
    rw [List.take_length] at hb
    exact hb
set_option maxRecDepth 4000 in
set_option maxHeartbeats 4000000 in
theorem kindne_spec (t:Tm) (k:Int):Con Tryz.prog 99 [.agg t.cells,.c (.dp [i64 k])] [.c (bln (kne k t))]:=by
  obtain ⟨op,kd,tv,pl,nl2,args⟩:=t
  rw [Tm.cells_mk]
  refine spec_of Tryz.func99 rfl (by kernel_rfl) (by simp [Tryz.f99]) (fun w0 K0=>vc_ok _ _ _ (by kernel_rfl) ?_)
  simp only [Tryz.f99]
  simp -dsimp [Tm.kind,kne]
set_option maxRecDepth 4000 in
set_option maxHeartbeats 4000000 in
theorem idxTm_spec (nl:Bool) (l:List Tm) (k0:Int) (hl:l.length≤140737488355328) :
    Con Tryz.prog 121 [.c (.sl nl (terms l)),.c (.fn 99 [.dp [i64 k0]])] [.c (i64 (idxI (kne k0) l))]:=by
  refine spec_of Tryz.func121 rfl (by kernel_rfl) (by simp [Tryz.f121]) (fun w0 K0=>vc_ok _ _ _ (by kernel_rfl) ?_)
  simp only [Tryz.f121]
  simp -dsimp
  refine VL.loop (fun k:Nat=>⟨[(8,.c (i64 k)),(7,.c (i64 l.length)),(0,.c (.sl nl (terms l))),(1,.c (.fn 99 [.dp [i64 k0]]))],[]⟩) (fun k=>k≤l.length∧∀ j,(hj:j<k)→(hl:j<l.length)→kne k0 l[j]=false) (fun k=>l.length-k) 0 (by kernel_rfl) (by simp) (by simp [St.le]) ?_
  intro k ⟨hk,hbef⟩
  simp -dsimp
  refine VIf.mk (fun h=>?_) (fun h=>?_)
  · have hlt:k<l.length:=by simpa using h
    have hw:IntKind.i64.wrap ((k:Int)+1)=(k:Int)+1:=IntWalk.i64_in _ (by omega)
    simp -dsimp [hlt]
    refine VC.mk _ (kindne_spec l[k] k0) ?_
    simp -dsimp
    refine VIf.mk (fun h2=>?_) (fun h2=>?_)
    · simp -dsimp
      exact (idxI_at (p:=kne k0) hlt h2 (fun j hj=>hbef j hj (by omega))).symm
    · simp -dsimp [hw]
      refine ⟨k+1,⟨by omega,fun j hj hl=>?_⟩,?_,by omega⟩
      · by_cases e:j=k
        · subst e;exact h2
        · exact hbef j (by omega) hl
      · simp [St.le]
  · simp at h
    simp -dsimp
    exact (idxI_none (p:=kne k0) fun j hj=>hbef j (by omega) hj).symm
theorem allK_idx (k:Int) (l:List Tm):(!decide (0≤idxI (kne k) l))=allK k (l.map Tm.kind):=by
  have e:allK k (l.map Tm.kind)=l.all fun t=>decide (t.kind=k):=by unfold allK;rw [List.all_map];rfl
  rw [e]
  unfold idxI
  cases hf:l.findIdx? (kne k) with
  | none =>
    rw [List.findIdx?_eq_none_iff] at hf
    simp
    intro t ht;have:=hf t ht;simpa [kne] using this
  | some i =>
    rw [List.findIdx?_eq_some_iff_getElem] at hf
    obtain ⟨h1,h2,_⟩:=hf
    have:l.all (fun t=>decide (t.kind=k))=false:=hold_stop h1 (by simpa [kne] using h2)
    rw [this];simp
set_option maxRecDepth 4000 in
set_option maxHeartbeats 4000000 in
theorem contTm_spec (nl:Bool) (l:List Tm) (k0:Int) (hl:l.length≤140737488355328) :
    Con Tryz.prog 98 [.c (.sl nl (terms l)),.c (.fn 99 [.dp [i64 k0]])] [.c (bln (decide (0≤idxI (kne k0) l)))]:=by
  refine spec_of Tryz.func98 rfl (by kernel_rfl) (by simp [Tryz.f98]) (fun w0 K0=>vc_ok _ _ _ (by kernel_rfl) ?_)
  simp only [Tryz.f98]
  simp -dsimp
  refine VC.mk _ (idxTm_spec nl l k0 hl) ?_
  simp -dsimp
set_option maxRecDepth 4000 in
set_option maxHeartbeats 4000000 in
theorem allk_spec (nl:Bool) (l:List Tm) (k0:Int) (hl:l.length≤140737488355328) :
    Con Tryz.prog 97 [.c (i64 k0),.c (.dp [.sl nl (terms l)])] [.c (bln (allK k0 (l.map Tm.kind)))]:=by
  refine spec_of Tryz.func97 rfl (by kernel_rfl) (by simp [Tryz.f97]) (fun w0 K0=>vc_ok _ _ _ (by kernel_rfl) ?_)
  simp only [Tryz.f97]
  simp -dsimp
  refine VC.mk _ (contTm_spec nl l k0 hl) ?_
  simp -dsimp
  rw [← allK_idx];simp
set_option maxRecDepth 4000 in
set_option maxHeartbeats 16000000 in
theorem kind_spec (op:List UInt8) (nl:Bool) (l:List Tm) (hl:l.length≤140737488355328) :
    Con Tryz.prog 63 [.c (str op),.c (.sl nl (terms l))] [.c (i64 (kindK op (l.map Tm.kind)).1),.c (bln (kindK op (l.map Tm.kind)).2)]:=by
  refine spec_of Tryz.func63 rfl (by kernel_rfl) (by simp [Tryz.f63]) (fun w0 K0=>vc_ok _ _ _ (by kernel_rfl) ?_)
  simp only [Tryz.f63]
  simp -dsimp
  have hk:=fun k=>allk_spec nl l k hl
  have hb1:((l.length:Int) == 1)=decide (l.length=1):=by rw [Bool.eq_iff_iff];simp;omega
  have hb2:((l.length:Int) == 2)=decide (l.length=2):=by rw [Bool.eq_iff_iff];simp;omega
  by_cases hop:op∈[wOR,wAND,wNOT,wEQ,wNE,wLE,wGE,wLT,wGT,wSUB,wADD,wMUL]
  · simp at hop
    rcases hop with rfl | rfl | rfl | rfl | rfl | rfl | rfl | rfl | rfl | rfl | rfl | rfl
    · simp -dsimp
      refine VG.mk [.c (bln (allK 3 (l.map Tm.kind)))] _ (fun _=>hk 3) rfl ?_
      simp -dsimp [kindK]
      simp [hb1,hb2]
    · simp -dsimp
      refine VG.mk [.c (bln (allK 3 (l.map Tm.kind)))] _ (fun _=>hk 3) rfl ?_
      simp -dsimp [kindK]
      simp [hb1,hb2]
    · simp -dsimp
      refine VG.mk [.c (bln (allK 3 (l.map Tm.kind)))] _ (fun _=>hk 3) rfl ?_
      simp -dsimp [kindK]
      simp [hb1,hb2]
    · simp -dsimp
      refine VG.mk [.c (bln (allK 1 (l.map Tm.kind)))] _ (fun _=>hk 1) rfl ?_
      simp -dsimp [kindK]
      refine VG.mk [.c (bln (allK 2 (l.map Tm.kind)))] _ (fun _=>hk 2) rfl ?_
      simp -dsimp [kindK]
      rw [hb2]
      generalize decide (l.length=2)=x
      generalize allK 1 (l.map Tm.kind)=y
      generalize allK 2 (l.map Tm.kind)=z
      exact ⟨fun a=>⟨a,fun b=>⟨a,b⟩⟩,rfl⟩
    · simp -dsimp
      refine VG.mk [.c (bln (allK 1 (l.map Tm.kind)))] _ (fun _=>hk 1) rfl ?_
      simp -dsimp [kindK]
      refine VG.mk [.c (bln (allK 2 (l.map Tm.kind)))] _ (fun _=>hk 2) rfl ?_
      simp -dsimp [kindK]
      rw [hb2]
      generalize decide (l.length=2)=x
      generalize allK 1 (l.map Tm.kind)=y
      generalize allK 2 (l.map Tm.kind)=z
      exact ⟨fun a=>⟨a,fun b=>⟨a,b⟩⟩,rfl⟩
    · simp -dsimp
      refine VG.mk [.c (bln (allK 1 (l.map Tm.kind)))] _ (fun _=>hk 1) rfl ?_
      simp -dsimp [kindK]
      refine VG.mk [.c (bln (allK 2 (l.map Tm.kind)))] _ (fun _=>hk 2) rfl ?_
      simp -dsimp [kindK]
      rw [hb2]
      generalize decide (l.length=2)=x
      generalize allK 1 (l.map Tm.kind)=y
      generalize allK 2 (l.map Tm.kind)=z
      exact ⟨fun a=>⟨a,fun b=>⟨a,b⟩⟩,rfl⟩
    · simp -dsimp
      refine VG.mk [.c (bln (allK 1 (l.map Tm.kind)))] _ (fun _=>hk 1) rfl ?_
      simp -dsimp [kindK]
      refine VG.mk [.c (bln (allK 2 (l.map Tm.kind)))] _ (fun _=>hk 2) rfl ?_
      simp -dsimp [kindK]
      rw [hb2]
      generalize decide (l.length=2)=x
      generalize allK 1 (l.map Tm.kind)=y
      generalize allK 2 (l.map Tm.kind)=z
      exact ⟨fun a=>⟨a,fun b=>⟨a,b⟩⟩,rfl⟩
    · simp -dsimp
      refine VG.mk [.c (bln (allK 1 (l.map Tm.kind)))] _ (fun _=>hk 1) rfl ?_
      simp -dsimp [kindK]
      refine VG.mk [.c (bln (allK 2 (l.map Tm.kind)))] _ (fun _=>hk 2) rfl ?_
      simp -dsimp [kindK]
      rw [hb2]
      generalize decide (l.length=2)=x
      generalize allK 1 (l.map Tm.kind)=y
      generalize allK 2 (l.map Tm.kind)=z
      exact ⟨fun a=>⟨a,fun b=>⟨a,b⟩⟩,rfl⟩
    · simp -dsimp
      refine VG.mk [.c (bln (allK 1 (l.map Tm.kind)))] _ (fun _=>hk 1) rfl ?_
      simp -dsimp [kindK]
      refine VG.mk [.c (bln (allK 2 (l.map Tm.kind)))] _ (fun _=>hk 2) rfl ?_
      simp -dsimp [kindK]
      rw [hb2]
      generalize decide (l.length=2)=x
      generalize allK 1 (l.map Tm.kind)=y
      generalize allK 2 (l.map Tm.kind)=z
      exact ⟨fun a=>⟨a,fun b=>⟨a,b⟩⟩,rfl⟩
    · simp -dsimp
      refine VG.mk [.c (bln (allK 1 (l.map Tm.kind)))] _ (fun _=>hk 1) rfl ?_
      simp -dsimp [kindK]
      simp [hb1,hb2]
    · simp -dsimp
      refine VG.mk [.c (bln (allK 1 (l.map Tm.kind)))] _ (fun _=>hk 1) rfl ?_
      simp -dsimp [kindK]
      simp [hb1,hb2]
    · simp -dsimp
      refine VG.mk [.c (bln (allK 1 (l.map Tm.kind)))] _ (fun _=>hk 1) rfl ?_
      simp -dsimp [kindK]
      simp [hb1,hb2]
  · simp at hop
    simp -dsimp [hop]
    simp [kindK,hop]
abbrev scols (l:List SCol):List (List C):=l.map SCol.cells
def hitAt (sc:List SCol) (of name:List UInt8) (k:Nat):Int:=idxI (hit of name) (sc.take k)
def tabsN (sc:List SCol) (of:List UInt8) (k:Nat):Nat:=(sc.take k).countP (tabOk of)
def hitsN (sc:List SCol) (of name:List UInt8) (k:Nat):Nat:=(sc.take k).countP (hit of name)
theorem countP_step {α:Type} {p:α→Bool} {l:List α} {k:Nat} (h:k<l.length):(l.take (k+1)).countP p=(l.take k).countP p+(if p l[k]=true then 1 else 0):=by
  rw [take_snoc h,List.countP_append]
  by_cases e:p l[k]=true <;> simp [e]
theorem countP_take_le {α:Type} {p:α→Bool} {l:List α} (k:Nat):(l.take k).countP p≤l.countP p :=
  List.Sublist.countP_le (List.take_sublist k l)
theorem idxI_lt {α:Type} {p:α→Bool} {l:List α} : idxI p l<0↔l.countP p=0:=by
  unfold idxI
  cases h:l.findIdx? p with
  | none =>
    rw [List.findIdx?_eq_none_iff] at h
    simp [List.countP_eq_zero]
    intro a ha;simp [h a ha]
  | some i =>
    rw [List.findIdx?_eq_some_iff_getElem] at h
    obtain ⟨h1,h2,_⟩:=h
    have h0:¬ l.countP p=0:=by
      rw [List.countP_eq_zero];intro e;exact e l[i] (List.getElem_mem h1) h2
    simp only [h0,iff_false];omega
theorem idxI_snoc {α:Type} {p:α→Bool} {l:List α} {k:Nat} (h:k<l.length) (h0:(l.take k).countP p=0) (hp:p l[k]=true):idxI p (l.take (k+1))=k:=by
  have hk:k<(l.take (k+1)).length:=by simp;omega
  refine idxI_at hk (by simpa using hp) (fun j hj=>?_)
  rw [List.countP_eq_zero] at h0
  have:=h0 (l[j]'(by omega)) (by rw [List.mem_take_iff_getElem];exact ⟨j,by omega,rfl⟩)
  simpa using this
theorem idxI_snoc_no {α:Type} {p:α→Bool} {l:List α} {k:Nat} (h:k<l.length) (hp:p l[k]=false):idxI p (l.take (k+1))=idxI p (l.take k):=by
  rw [take_snoc h]
  unfold idxI
  rw [List.findIdx?_append]
  cases (l.take k).findIdx? p with
  | some i=>rfl
  | none=>simp [List.findIdx?_cons,hp]
def fdI:Fd→Int
  | .ok i=>i
  | .no _=>0
def fdC:Fd→Int
  | .ok _=>0
  | .no c=>c
theorem findC_twice {sc:List SCol} {of name:List UInt8} (h:2≤sc.countP (hit of name)):findC sc of name = .no 173:=by
  unfold findC;rw [if_pos h]
theorem findC_end {sc:List SCol} {of name:List UInt8} (h:sc.countP (hit of name)≤1):findC sc of name =
    if of≠[]∧sc.countP (tabOk of)=0 then .no 160 else if sc.countP (hit of name)=0 then .no 161 else .ok (idxI (hit of name) sc).toNat:=by
  unfold findC
  rw [if_neg (by omega)]
  have e1:sc.any (tabOk of)=false↔sc.countP (tabOk of)=0:=by
    rw [List.any_eq_false,List.countP_eq_zero]
  have e2:sc.any (hit of name)=false↔sc.countP (hit of name)=0:=by
    rw [List.any_eq_false,List.countP_eq_zero]
  simp only [e1,e2]
  split
  · rfl
  · split
    · rfl
    · rename_i h2
      congr 1
      have hne:¬ idxI (hit of name) sc<0:=by rw [idxI_lt];exact h2
      unfold idxI at hne ⊢
      cases hf:sc.findIdx? (hit of name) with
      | none=>rw [hf] at hne;simp at hne
      | some i =>
        simp
        exact (List.findIdx?_eq_some_iff_findIdx_eq.1 hf).2
set_option maxRecDepth 4000 in
set_option maxHeartbeats 16000000 in
theorem find_spec (nl:Bool) (sc:List SCol) (of name:List UInt8) (hl:sc.length≤1000000000000) :
    Con Tryz.prog 62 [.c (.sl nl (scols sc)),.c (str of),.c (str name)] [.c (i64 (fdI (findC sc of name))),.c (i64 (fdC (findC sc of name)))]:=by
  refine spec_of Tryz.func62 rfl (by kernel_rfl) (by simp [Tryz.f62]) (fun w0 K0=>vc_ok _ _ _ (by kernel_rfl) ?_)
  simp only [Tryz.f62]
  simp -dsimp
  refine VL.loop (fun k:Nat=>⟨[(14,.c (i64 k)),(13,.c (i64 sc.length)),(12,.c (.sl nl (scols sc))),(1,.c (str of)),(2,.c (str name)),(8,.c (i64 (hitAt sc of name k))),(9,.c (i64 (tabsN sc of k)))],[]⟩)
    (fun k=>k≤sc.length∧hitsN sc of name k≤1) (fun k=>sc.length-k) 0 (by kernel_rfl) (by simp [hitsN]) (by simp [St.le,hitAt,tabsN,idxI]) ?_
  intro k ⟨hk,hb⟩
  have htl:tabsN sc of k≤k:=by
    unfold tabsN;refine Nat.le_trans List.countP_le_length ?_;rw [List.length_take];omega
  simp -dsimp
  refine VIf.mk (fun h=>?_) (fun h=>?_)
  · have hlt:k<sc.length:=by simpa using h
    have hw:IntKind.i64.wrap ((k:Int)+1)=(k:Int)+1:=IntWalk.i64_in _ (by omega)
    have hw2:IntKind.i64.wrap ((tabsN sc of k:Int)+1)=(tabsN sc of k:Int)+1:=IntWalk.i64_in _ (by omega)
    have s1:tabsN sc of (k+1)=tabsN sc of k+(if tabOk of sc[k]=true then 1 else 0):=countP_step hlt
    have s2:hitsN sc of name (k+1)=hitsN sc of name k+(if hit of name sc[k]=true then 1 else 0):=countP_step hlt
    simp -dsimp [hlt,SCol.cells]
    refine VIf.mk (fun h2=>?_) (fun h2=>?_)
    · have ht:tabOk of sc[k]=false:=by simp at h2;simp [tabOk,h2]
      have hh:hit of name sc[k]=false:=by simp [hit,ht]
      simp -dsimp [hw]
      refine ⟨k+1,⟨by omega,by rw [s2,hh];simpa using hb⟩,?_,by omega⟩
      simp [St.le,s1,ht,hitAt,idxI_snoc_no hlt hh]
    · have ht:tabOk of sc[k]=true:=by
        simp at h2
        unfold tabOk
        by_cases e:of=[]
        · simp [e]
        · simp [h2 e]
      simp -dsimp [hw2]
      refine VIf.mk (fun h3=>?_) (fun h3=>?_)
      · have hh:hit of name sc[k]=false:=by simp at h3;simp [hit,h3]
        simp -dsimp [hw]
        refine ⟨k+1,⟨by omega,by rw [s2,hh];simpa using hb⟩,?_,by omega⟩
        simp [St.le,s1,ht,hitAt,idxI_snoc_no hlt hh]
      · have hh:hit of name sc[k]=true:=by simp at h3;simp [hit,ht,h3]
        simp -dsimp
        refine VIf.mk (fun h4=>?_) (fun h4=>?_)
        · have hn:¬ hitsN sc of name k=0:=by
            intro e;have:=(idxI_lt (p:=hit of name) (l:=sc.take k)).2 e
            have h4':0≤hitAt sc of name k:=of_decide_eq_true h4
            unfold hitAt at h4';omega
          have h5:2≤sc.countP (hit of name):=by
            have:=countP_take_le (p:=hit of name) (l:=sc) (k+1)
            rw [if_pos hh] at s2
            unfold hitsN at s2 hn
            omega
          simp -dsimp
          rw [findC_twice h5]
          simp [fdI,fdC]
        · have hn:(sc.take k).countP (hit of name)=0:=(idxI_lt (p:=hit of name) (l:=sc.take k)).1 (by have h4':¬ 0≤hitAt sc of name k:=of_decide_eq_false h4;unfold hitAt at h4';omega)
          simp -dsimp [hw]
          refine ⟨k+1,⟨by omega,by rw [s2,if_pos hh];unfold hitsN;omega⟩,?_,by omega⟩
          simp [St.le,s1,ht,hitAt,idxI_snoc hlt hn hh]
  · simp at h
    obtain rfl:k=sc.length:=by omega
    have e0:hitAt sc of name sc.length=idxI (hit of name) sc:=by simp [hitAt]
    have e1:tabsN sc of sc.length=sc.countP (tabOk of):=by simp [tabsN]
    have e2:hitsN sc of name sc.length=sc.countP (hit of name):=by simp [hitsN]
    rw [e2] at hb
    rw [findC_end hb]
    simp -dsimp [e0,e1]
    refine VIf.mk (fun h2=>?_) (fun h2=>?_)
    · have h3:of≠[]∧sc.countP (tabOk of)=0:=by simpa using h2
      rw [if_pos h3]
      simp -dsimp
      simp [fdI,fdC]
    · have h3:¬ (of≠[]∧sc.countP (tabOk of)=0):=by simpa using h2
      rw [if_neg h3]
      simp -dsimp
      refine VIf.mk (fun h4=>?_) (fun h4=>?_)
      · have h5:=(idxI_lt (p:=hit of name) (l:=sc)).1 (by simpa using h4)
        rw [if_pos h5]
        simp -dsimp
        simp [fdI,fdC]
      · have h5:¬ sc.countP (hit of name)=0:=fun e=>by
          have:=(idxI_lt (p:=hit of name) (l:=sc)).2 e
          simp at h4;omega
        rw [if_neg h5]
        simp -dsimp
        simp [fdI,fdC]
        simp at h4
        omega
abbrev exprs (l:List Ex):List (List C):=l.map Ex.cells
def bdT:Bd→Tm
  | .ok t=>t
  | .no _=>.mk [] 0 ⟨0,0,[]⟩ 0 true []
def bdC:Bd→Int
  | .ok _=>0
  | .no c=>c
theorem bindEs_cons (sc:List SCol) (e:Ex) (r:List Ex):bindEs sc (e::r)=match bindE sc e with | .no c=>.no c | .ok t=>match bindEs sc r with | .no c=>.no c | .ok ts=>.ok (t::ts):=by
  rw [bindEs]
  cases bindE sc e with
  | no c=>rfl
  | ok t=>cases bindEs sc r <;> rfl
theorem bindEs_stop (sc:List SCol) (a:Ex) (c:Int) (h:bindE sc a = .no c) (r:List Ex):∀ (l:List Ex) (ts:List Tm),bindEs sc l = .ok ts→bindEs sc (l++a::r) = .no c
  | [],ts,_=>by rw [List.nil_append,bindEs_cons,h]
  | e::l,ts,hl=>by
    rw [bindEs_cons] at hl
    rw [List.cons_append,bindEs_cons]
    cases he:bindE sc e with
    | no c'=>rw [he] at hl;cases hl
    | ok t =>
      rw [he] at hl
      cases hr:bindEs sc l with
      | no c'=>rw [hr] at hl;cases hl
      | ok ts'=>rw [bindEs_stop sc a c h r l ts' hr]
theorem bindEs_next (sc:List SCol) (a:Ex) (t:Tm) (h:bindE sc a = .ok t):∀ (l:List Ex) (ts:List Tm),bindEs sc l = .ok ts→bindEs sc (l++[a]) = .ok (ts++[t])
  | [],ts,hl=>by rw [bindEs] at hl;cases hl;rw [List.nil_append,bindEs_cons,h,bindEs];rfl
  | e::l,ts,hl=>by
    rw [bindEs_cons] at hl
    rw [List.cons_append,bindEs_cons]
    cases he:bindE sc e with
    | no c'=>rw [he] at hl;cases hl
    | ok t' =>
      rw [he] at hl
      cases hr:bindEs sc l with
      | no c'=>rw [hr] at hl;cases hl
      | ok ts' =>
        rw [hr] at hl
        cases hl
        rw [bindEs_next sc a t h l ts' hr]
        rfl
theorem findC_ne {sc:List SCol} {of name:List UInt8} {c:Int} (h:findC sc of name = .no c):c≠0:=by
  unfold findC at h
  repeat' split at h
  all_goals first | cases h;decide | cases h
mutual
theorem bindE_ne (sc:List SCol):∀ (e:Ex) (c:Int),bindE sc e = .no c→c≠0
  | .mk op int text of nl args,c,h=>by
    rw [bindE] at h
    split at h
    · cases h
    · split at h
      · split at h
        · cases h;decide
        · cases h
      · split at h
        · split at h
          · cases h
          · rename_i hf;cases h;exact findC_ne hf
        · split at h
          · rename_i hb;cases h;exact bindEs_ne sc args _ hb
          · split at h
            · cases h
            · cases h;decide
theorem bindEs_ne (sc:List SCol):∀ (es:List Ex) (c:Int),bindEs sc es = .no c→c≠0
  | [],c,h=>by rw [bindEs] at h;cases h
  | e::r,c,h=>by
    rw [bindEs] at h
    split at h
    · rename_i hb;cases h;exact bindE_ne sc e _ hb
    · split at h
      · rename_i hb;cases h;exact bindEs_ne sc r _ hb
      · cases h
end
structure BI where
  k:Nat
  nl:Bool
  sz:Nat
  ts:List Tm
def BI.Ok (sc:List SCol) (args:List Ex) (i:BI):Prop:=i.k≤args.length∧bindEs sc (args.take i.k) = .ok i.ts∧i.ts.length=i.k∧i.nl=i.ts.isEmpty∧i.sz=if i.nl then 0 else 7
def BindCon (sn:Bool) (sc:List SCol) (e:Ex):Prop:=Con Tryz.prog 28 [.agg e.cells,.c (.sl sn (scols sc))] [.ag (bdT (bindE sc e)).cells,.c (i64 (bdC (bindE sc e)))]
set_option maxRecDepth 4000 in
set_option maxHeartbeats 16000000 in
theorem bind_number (sn:Bool) (sc:List SCol) (int:Int) (text of:List UInt8) (nl:Bool) (args:List Ex):BindCon sn sc (.mk wNumber int text of nl args):=by
  unfold BindCon
  rw [Ex.cells_mk,bindE,if_pos rfl]
  refine spec_of Tryz.func28 rfl (by kernel_rfl) (by simp [Tryz.f28]) (fun w0 K0=>vc_ok _ _ _ (by kernel_rfl) ?_)
  simp only [Tryz.f28]
  simp -dsimp
  simp [bdT,bdC,Tm.cells_mk]
set_option maxRecDepth 4000 in
set_option maxHeartbeats 16000000 in
theorem bind_text (sn:Bool) (sc:List SCol) (int:Int) (text of:List UInt8) (nl:Bool) (args:List Ex):BindCon sn sc (.mk wText int text of nl args):=by
  unfold BindCon
  rw [Ex.cells_mk,bindE,if_neg (by decide),if_pos rfl]
  refine spec_of Tryz.func28 rfl (by kernel_rfl) (by simp [Tryz.f28]) (fun w0 K0=>vc_ok _ _ _ (by kernel_rfl) ?_)
  simp only [Tryz.f28]
  simp -dsimp
  refine VIf.mk (fun h=>?_) (fun h=>?_)
  · have h2:64<text.length:=by simp at h;omega
    rw [if_pos h2]
    simp -dsimp
    simp [bdT,bdC,Tm.cells_mk]
  · have h2:¬ 64<text.length:=by simp at h;omega
    rw [if_neg h2]
    simp -dsimp
    simp [bdT,bdC,Tm.cells_mk]
theorem findC_lt {sc:List SCol} {of name:List UInt8} {i:Nat} (h:findC sc of name = .ok i):i<sc.length:=by
  unfold findC at h
  split at h
  · cases h
  · split at h
    · cases h
    · split at h
      · cases h
      · rename_i h2
        cases h
        rw [Bool.not_eq_false,List.any_eq_true] at h2
        exact List.findIdx_lt_length_of_exists h2
set_option maxRecDepth 4000 in
set_option maxHeartbeats 16000000 in
theorem bind_name (sn:Bool) (sc:List SCol) (hsc:sc.length≤1000000000000) (int:Int) (text of:List UInt8) (nl:Bool) (args:List Ex):BindCon sn sc (.mk wName int text of nl args):=by
  unfold BindCon
  rw [Ex.cells_mk,bindE,if_neg (by decide),if_neg (by decide),if_pos rfl]
  have hf:=find_spec sn sc of text hsc
  refine spec_of Tryz.func28 rfl (by kernel_rfl) (by simp [Tryz.f28]) (fun w0 K0=>vc_ok _ _ _ (by kernel_rfl) ?_)
  simp only [Tryz.f28]
  simp -dsimp
  refine VC.mk _ hf ?_
  cases hfc:findC sc of text with
  | no c =>
    simp -dsimp [fdI,fdC]
    refine VIf.mk (fun h=>?_) (fun h=>?_)
    · simp -dsimp
      simp [bdT,bdC,Tm.cells_mk]
    · exfalso
      have h0:c=0:=by simpa using h
      subst h0
      unfold findC at hfc
      repeat' split at hfc
      all_goals simp at hfc
  | ok i =>
    have hi:=findC_lt hfc
    have e:sc.getD i default=sc[i]:=by simp [List.getD,hi]
    simp -dsimp [fdI,fdC,hi,SCol.cells]
    simp [bdT,bdC,Tm.cells_mk,hi]
set_option maxRecDepth 4000 in
set_option maxHeartbeats 16000000 in
theorem bind_op (sn:Bool) (sc:List SCol) (hsc:sc.length≤1000000000000) (op:List UInt8) (int:Int) (text of:List UInt8) (nl:Bool) (args:List Ex) (h1:op≠wNumber) (h2:op≠wText) (h3:op≠wName)
    (hl:args.length≤1000000000) (ih:∀ a∈args,BindCon sn sc a):BindCon sn sc (.mk op int text of nl args):=by
  unfold BindCon
  rw [Ex.cells_mk,bindE,if_neg h1,if_neg h2,if_neg h3]
  have e1:(op=wNumber)=False:=by simp [h1]
  have e2:(op=wText)=False:=by simp [h2]
  have e3:(op=wName)=False:=by simp [h3]
  refine spec_of Tryz.func28 rfl (by kernel_rfl) (by simp [Tryz.f28]) (fun w0 K0=>vc_ok _ _ _ (by kernel_rfl) ?_)
  simp only [Tryz.f28]
  simp -dsimp [e1,e2,e3]
  refine VL.nilcell 512 6 10000 (by decide) ?_
  simp -dsimp
  refine VL.loop (fun i:BI=>⟨[(63,.c (i64 i.k)),(62,.c (i64 args.length)),(61,.c (.sl nl (exprs args))),(8,.ptr 512 0),(4,.ptr 256 0),(2,.ptr 128 0),(1,.c (.sl sn (scols sc)))],
      [(512,some (.box false [.c (str op),.c (i64 0),.c (i64 0),.c (i64 0),.c (str []),.c (i64 0),.own 10000 i.ts.length])),(10000,some (.arr i.nl i.sz (terms i.ts) 0)),
        (256,some (.box false [.c (str []),.c (i64 0),.c (i64 0),.c (i64 0),.c (str []),.c (i64 0),.own 263 0])),(263,some (.arr true 0 [] 0)),
        (128,some (.box false [.c (str op),.c (i64 int),.c (str text),.c (str of),.c (.sl nl (exprs args))]))]⟩)
    (BI.Ok sc args) (fun i=>args.length-i.k) ⟨0,true,0,[]⟩ (by kernel_rfl) ⟨Nat.zero_le _,by rw [List.take_zero,bindEs],rfl,rfl,rfl⟩ (by simp [St.le]) ?_
  intro ⟨k,z,sz,ts⟩ ⟨hk,hb,htl,hz,hsz⟩
  simp only at hk hb htl hz hsz
  simp -dsimp
  refine VIf.mk (fun h=>?_) (fun h=>?_)
  · have hlt:k<args.length:=by simpa using h
    have hw:IntKind.i64.wrap ((k:Int)+1)=(k:Int)+1:=IntWalk.i64_in _ (by omega)
    have hE:=ih args[k] (List.getElem_mem hlt)
    unfold BindCon at hE
    obtain ⟨op',int',text',of',nl',args',ha⟩:∃ op' int' text' of' nl' args',args[k]=Ex.mk op' int' text' of' nl' args':=by
      cases args[k];exact ⟨_,_,_,_,_,_,rfl⟩
    have hcat:args=args.take k++args[k]::args.drop (k+1):=by rw [← List.drop_eq_getElem_cons hlt,List.take_append_drop]
    have hstep:∀ t,bindE sc args[k] = .ok t→bindEs sc (args.take (k+1)) = .ok (ts++[t]):=fun t ht=>by
      rw [take_snoc hlt];exact bindEs_next sc _ t ht _ ts hb
    have hstop:∀ c,bindE sc args[k] = .no c→bindEs sc args = .no c:=fun c hc=>by
      rw [hcat];exact bindEs_stop sc _ c hc _ _ ts hb
    rw [ha,Ex.cells_mk] at hE
    simp -dsimp [hlt,ha,Ex.cells_mk]
    refine VC.mk _ hE ?_
    rw [ha] at hstep hstop
    cases hbe:bindE sc (Ex.mk op' int' text' of' nl' args') with
    | no c =>
      have hc0:(c != 0)=true:=by simpa using bindE_ne sc _ c hbe
      rw [hstop c hbe]
      simp -dsimp [bdT,bdC,Tm.cells_mk,hc0]
    | ok t =>
      have hst:=hstep t hbe
      obtain ⟨o2,k2,v2,p2,n2,a2⟩:=t
      simp -dsimp [bdT,bdC,Tm.cells_mk]
      refine ⟨by decide,fun e=>by rw [hsz,e];rfl,by omega,⟨k+1,false,7,ts++[.mk o2 k2 v2 p2 n2 a2]⟩,⟨by simp only;omega,hst,by simp [htl],by simp,rfl⟩,?_,by simp only;omega⟩
      simp [St.le,hw,Tm.cells_mk]
  · simp at h
    obtain rfl:k=args.length:=by omega
    rw [List.take_length] at hb
    rw [hb]
    dsimp only
    by_cases hf:(kindK op (ts.map Tm.kind)).2=true
    · rw [if_pos hf]
      simp -dsimp
      refine VCL.snap ?_
      simp -dsimp
      refine VC.mk _ (kind_spec op z ts (by omega)) ?_
      simp -dsimp [hf,bdT,bdC,Tm.cells_mk]
      exact hz
    · rw [if_neg hf]
      have hf':(kindK op (ts.map Tm.kind)).2=false:=by simpa using hf
      simp -dsimp
      refine VCL.snap ?_
      simp -dsimp
      refine VC.mk _ (kind_spec op z ts (by omega)) ?_
      simp -dsimp [hf',bdT,bdC,Tm.cells_mk]
mutual
theorem bind_all (sn:Bool) (sc:List SCol) (hsc:sc.length≤1000000000000):∀ (e:Ex),e.fit→BindCon sn sc e
  | .mk op int text of nl args,hf=>by
    rw [Ex.fit] at hf
    by_cases h1:op=wNumber
    · subst h1;exact bind_number sn sc int text of nl args
    · by_cases h2:op=wText
      · subst h2;exact bind_text sn sc int text of nl args
      · by_cases h3:op=wName
        · subst h3;exact bind_name sn sc hsc int text of nl args
        · exact bind_op sn sc hsc op int text of nl args h1 h2 h3 hf.2.1 (bind_alls sn sc hsc args hf.2.2)
theorem bind_alls (sn:Bool) (sc:List SCol) (hsc:sc.length≤1000000000000):∀ (es:List Ex),Ex.fits es→∀ a∈es,BindCon sn sc a
  | [],_,a,h=>by cases h
  | e::r,hf,a,h=>by
    rw [Ex.fits] at hf
    rcases List.mem_cons.1 h with h | h
    · rw [h];exact bind_all sn sc hsc e hf.1
    · exact bind_alls sn sc hsc r hf.2 a h
end
set_option maxRecDepth 4000 in
set_option maxHeartbeats 4000000 in
theorem idx_spec (nil:Bool) (l:List Per) (hl:l.length≤140737488355328) :
    Con Tryz.prog 148 [.c (.sl nil (l.map Per.cells)),.c (.fn 130 [])] [.c (i64 (match l.findIdx? (fun p=>!right p) with | some k=>(k:Int) | none=>-1))]:=by
  refine spec_of Tryz.func148 rfl (by kernel_rfl) (by simp [Tryz.f148]) (fun w0 K0=>vc_ok _ _ _ (by kernel_rfl) ?_)
  simp only [Tryz.f148]
  simp -dsimp
  refine VL.loop (fun k:Nat=>⟨[(8,.c (i64 k)),(7,.c (i64 l.length)),(0,.c (.sl nil (l.map Per.cells))),(1,.c (.fn 130 []))],[]⟩) (fun k=>k≤l.length∧∀ j,(hj:j<k)→(hl:j<l.length)→right l[j]=true) (fun k=>l.length-k) 0 (by kernel_rfl) (by simp) (by simp [St.le]) ?_
  intro k ⟨hk,hbef⟩
  simp -dsimp
  refine VIf.mk (fun h=>?_) (fun h=>?_)
  · have hlt:k<l.length:=by simpa using h
    have hw:IntKind.i64.wrap ((k:Int)+1)=(k:Int)+1:=IntWalk.i64_in _ (by omega)
    simp -dsimp [hlt,Per.cells]
    refine VC.mk _ (bad_spec l[k]) ?_
    simp -dsimp
    refine VIf.mk (fun h2=>?_) (fun h2=>?_)
    · simp -dsimp
      have:l.findIdx? (fun p=>!right p)=some k:=by
        rw [List.findIdx?_eq_some_iff_getElem]
        exact ⟨hlt,h2,fun j hj=>by rw [hbef j hj (by omega)];simp⟩
      rw [this]
    · simp -dsimp [hw]
      refine ⟨k+1,⟨by omega,fun j hj hl=>?_⟩,?_,by omega⟩
      · by_cases e:j=k
        · subst e;simpa using h2
        · exact hbef j (by omega) hl
      · simp [St.le]
  · simp at h
    simp -dsimp
    have:l.findIdx? (fun p=>!right p)=none:=by
      rw [List.findIdx?_eq_none_iff]
      intro p hp
      obtain ⟨j,hj,rfl⟩:=List.getElem_of_mem hp
      simp [hbef j (by omega) hj]
    rw [this]
def idxBad (l:List Per):Int:=match l.findIdx? (fun p=>!right p) with | some k=>(k:Int) | none=>-1
def rowB (i:Nat) (l:List Per):List (Nat × Res):=[(i,.arr false 2 (l.map Per.cells) 0)]
set_option maxRecDepth 4000 in
set_option maxHeartbeats 4000000 in
theorem idxB_spec (l:List Per) (hl:l.length≤140737488355328) :
    ConB Tryz.prog 148 [.own 1 l.length,.c (.fn 130 [])] (rowB 1 l) [.c (i64 (idxBad l))] [.own 1 l.length,.c (.fn 130 [])] (rowB 1 l):=by
  refine spec_ofB 2 Tryz.func148 rfl (by kernel_rfl) (by simp [Tryz.f148]) (by simp [rowB]) rfl (fun w0 K0 uf=>vc_ok _ _ _ (by kernel_rfl) ?_)
  simp only [Tryz.f148]
  simp -dsimp [initB,initEnv,pinsOf,rowB]
  refine VL.loop (fun k:Nat=>⟨[(8,.c (i64 k)),(7,.c (i64 l.length)),(0,.own 1 l.length),(1,.c (.fn 130 []))],[(1,some (.arr false 2 (l.map Per.cells) 0)),(2,some (.pin (uf 0) (.own 1 l.length))),(3,some (.pin (uf 1) (.c (.fn 130 []))))]⟩) (fun k=>k≤l.length∧∀ j,(hj:j<k)→(hl:j<l.length)→right l[j]=true) (fun k=>l.length-k) 0 (by kernel_rfl) (by simp) (by simp [St.le]) ?_
  intro k ⟨hk,hbef⟩
  simp -dsimp
  refine VIf.mk (fun h=>?_) (fun h=>?_)
  · have hlt:k<l.length:=by simpa using h
    have hw:IntKind.i64.wrap ((k:Int)+1)=(k:Int)+1:=IntWalk.i64_in _ (by omega)
    simp -dsimp [hlt,Per.cells]
    refine VC.mk _ (bad_spec l[k]) ?_
    simp -dsimp
    refine VIf.mk (fun h2=>?_) (fun h2=>?_)
    · simp -dsimp
      have:l.findIdx? (fun p=>!right p)=some k:=by
        rw [List.findIdx?_eq_some_iff_getElem]
        exact ⟨hlt,h2,fun j hj=>by rw [hbef j hj (by omega)];simp⟩
      simp [resEnd,idxBad,this,rowB]
    · simp -dsimp [hw]
      refine ⟨k+1,⟨by omega,fun j hj hl=>?_⟩,?_,by omega⟩
      · by_cases e:j=k
        · subst e;simpa using h2
        · exact hbef j (by omega) hl
      · simp [St.le]
  · simp at h
    simp -dsimp
    have:l.findIdx? (fun p=>!right p)=none:=by
      rw [List.findIdx?_eq_none_iff]
      intro p hp
      obtain ⟨j,hj,rfl⟩:=List.getElem_of_mem hp
      simp [hbef j (by omega) hj]
    simp [resEnd,idxBad,this,rowB]
structure DS where
  i:Nat
  j:Nat
  row:List Per
structure DS.Ok (l:List Per) (s:DS):Prop where
  len:s.row.length=l.length
  le:s.i<s.j
  lj:s.j≤l.length
  pre:s.row.take s.i=(l.take s.j).filter right
  rest:∀ k,s.j≤k→s.row[k]? = l[k]?
theorem DS.skip {l:List Per} {i j:Nat} {row:List Per} (h:DS.Ok l ⟨i,j,row⟩) (hj:j<l.length) (hb:right l[j]=false):DS.Ok l ⟨i,j+1,row⟩:=by
  obtain ⟨h1,h2,h3,h4,h5⟩:=h
  simp only at h1 h2 h3 h4 h5
  refine ⟨h1,by simp only;omega,hj,?_,fun k hk=>h5 k (by simp only at hk;omega)⟩
  simp only
  rw [take_snoc hj,List.filter_append,h4]
  simp [hb]
theorem DS.keep {l:List Per} {i j:Nat} {row:List Per} (h:DS.Ok l ⟨i,j,row⟩) (hj:j<l.length) (hb:right l[j]=true):DS.Ok l ⟨i+1,j+1,row.set i l[j]⟩:=by
  obtain ⟨h1,h2,h3,h4,h5⟩:=h
  simp only at h1 h2 h3 h4 h5
  refine ⟨by simp [h1],by simp only;omega,hj,?_,fun k hk=>?_⟩
  · simp only
    rw [take_snoc hj,List.filter_append,← h4,take_snoc (by simp;omega)]
    simp [hb,List.take_set]
    exact List.set_eq_of_length_le (by simp;omega)
  · simp only at hk
    simp only
    rw [List.getElem?_set_ne (by omega)]
    exact h5 k (by omega)
set_option maxRecDepth 4000 in
set_option maxHeartbeats 8000000 in
theorem del_spec (l:List Per) (hl:l.length≤140737488355328) :
    ConB Tryz.prog 129 [.own 1 l.length,.c (.fn 130 [])] (rowB 1 l) [.own 1 (l.filter right).length] [if l.findIdx? (fun p=>!right p)=none then .own 1 l.length else .un,.c (.fn 130 [])] (rowB 1 (l.filter right)):=by
  refine spec_ofB 2 Tryz.func129 rfl (by kernel_rfl) (by simp [Tryz.f129]) (by simp [rowB]) rfl (fun w0 K0 uf=>vc_ok _ _ _ (by kernel_rfl) ?_)
  simp only [Tryz.f129]
  simp -dsimp [initB,initEnv,pinsOf,rowB]
  refine VCL.lend (rowB 1 l) (rowB 1 l) [.own 1 l.length,.c (.fn 130 [])] _ _ id [] ⟨idxB_spec l hl,?_,?_,?_,?_,?_,?_,?_⟩ ?_
  · simp [renSs,renS]
  · simp [rowB,renR]
  · simp [rowB]
  · simp [rowB]
  · simp [rowB,Res.nam,S.nams,S.nam]
  · simp [rowB,S.nams,S.nam]
  · simp [rowB,lk,keptP]
    exact ⟨2,_,⟨rfl,rfl⟩,_,⟨rfl,rfl⟩,by simp,by simp⟩
  simp -dsimp [rowB,retS,renSs,renS]
  cases hf:l.findIdx? (fun p=>!right p) with
  | none =>
    have hall:l.filter right=l:=by
      rw [List.filter_eq_self]
      rw [List.findIdx?_eq_none_iff] at hf
      intro p hp
      simpa using hf p hp
    simp -dsimp [idxBad,hf]
    simp [resEnd,rowB,hall]
  | some k0 =>
    rw [List.findIdx?_eq_some_iff_getElem] at hf
    obtain ⟨hk0,hb0,hg0⟩:=hf
    have e1:idxBad l=k0:=by
      unfold idxBad
      have:l.findIdx? (fun p=>!right p)=some k0:=List.findIdx?_eq_some_iff_getElem.2 ⟨hk0,hb0,hg0⟩
      rw [this]
    have hw0:IntKind.i64.wrap ((k0:Int)+1)=(k0:Int)+1:=IntWalk.i64_in _ (by omega)
    have hneg:((k0:Int) == -1)=false:=by simp
    simp -dsimp [e1,hneg,hw0]
    refine VL.loop (fun s:DS=>⟨[(5,.c (i64 s.i)),(6,.c (i64 s.j)),(0,.own 1 l.length),(1,.c (.fn 130 []))],[(1,some (.arr false 2 (s.row.map Per.cells) 0)),(2,some (.pin (uf 0) (.own 1 l.length))),(3,some (.pin (uf 1) (.c (.fn 130 []))))]⟩) (DS.Ok l) (fun s=>l.length-s.j) ⟨k0,k0+1,l⟩ (by kernel_rfl) ?_ (by simp [St.le]) ?_
    · refine ⟨rfl,by simp,hk0,?_,fun _ _=>rfl⟩
      simp only
      rw [take_snoc hk0,List.filter_append]
      have:List.filter right [l[k0]]=[]:=by simp at hb0;simp [hb0]
      rw [this,List.append_nil,eq_comm,List.filter_eq_self]
      intro p hp
      obtain ⟨j,hj,rfl⟩:=List.getElem_of_mem hp
      simp at hj
      have:=hg0 j (by omega)
      simpa using this
    intro ⟨i,j,row⟩ hs
    obtain ⟨h1,h2,h3,h4,h5⟩:=hs
    simp only at h1 h2 h3 h4 h5
    simp -dsimp [h1]
    refine VIf.mk (fun h=>?_) (fun h=>?_)
    · have hlt:j<l.length:=by simpa using h
      have hltr:j<row.length:=by omega
      have hw:IntKind.i64.wrap ((j:Int)+1)=(j:Int)+1:=IntWalk.i64_in _ (by omega)
      have hwi:IntKind.i64.wrap ((i:Int)+1)=(i:Int)+1:=IntWalk.i64_in _ (by omega)
      have hrj:row[j]=l[j]:=by
        have:=h5 j (Nat.le_refl _)
        rw [List.getElem?_eq_getElem hltr,List.getElem?_eq_getElem hlt] at this
        exact Option.some.inj this
      simp -dsimp [hlt,hltr,hrj,Per.cells]
      refine ⟨h1,VC.mk _ (bad_spec l[j]) ?_⟩
      simp -dsimp
      refine VIf.mk (fun h6=>?_) (fun h6=>?_)
      · simp -dsimp [hw,hwi]
        refine ⟨⟨by omega,h1⟩,h1,by omega,⟨i+1,j+1,row.set i l[j]⟩,DS.keep ⟨h1,h2,h3,h4,h5⟩ hlt h6,?_,by simp;omega⟩
        have hir:i<row.length:=by omega
        simp [St.le,List.map_set,Per.cells,List.getElem?_eq_getElem hir]
      · simp -dsimp [hw]
        refine ⟨⟨i,j+1,row⟩,?_,?_,by simp;omega⟩
        · exact DS.skip ⟨h1,h2,h3,h4,h5⟩ hlt h6
        · simp [St.le]
    · simp at h
      simp -dsimp
      refine VSL.own ?_
      simp -dsimp
      refine ⟨by omega,h1,by omega,VSL.own ?_⟩
      simp -dsimp
      obtain rfl:j=l.length:=by omega
      rw [List.take_length] at h4
      have hi:i=(l.filter right).length:=by rw [← h4,List.length_take];omega
      refine ⟨by omega,by omega,hi,?_⟩
      have hm:min i row.length=i:=by omega
      simp [resEnd,rowB,hm,← h4,List.take_take,← List.map_take]
      trace_state
set_option maxRecDepth 4000 in
set_option maxHeartbeats 4000000 in
theorem clone_spec (l:List Per) (hl:l.length≤8796093022208):Con Tryz.prog 113 [.c (.sl false (l.map Per.cells))] [.fr false 2 (l.map Per.cells) 0]:=by
  refine spec_of Tryz.func113 rfl (by kernel_rfl) (by simp [Tryz.f113]) (fun w0 K0=>vc_ok _ _ _ (by kernel_rfl) ?_)
  simp only [Tryz.f113]
  simp -dsimp
  omega
set_option maxRecDepth 4000 in
set_option maxHeartbeats 4000000 in
theorem clone_nil:Con Tryz.prog 113 [.c (.sl true [])] [.fr true 0 [] 0]:=by
  refine spec_of Tryz.func113 rfl (by kernel_rfl) (by simp [Tryz.f113]) (fun w0 K0=>vc_ok _ _ _ (by kernel_rfl) ?_)
  simp only [Tryz.f113]
  simp -dsimp
set_option maxRecDepth 4000 in
set_option maxHeartbeats 4000000 in
theorem del_nil:Con Tryz.prog 129 [.c (.sl true []),.c (.fn 130 [])] [.c (.sl true [])]:=by
  refine spec_of Tryz.func129 rfl (by kernel_rfl) (by simp [Tryz.f129]) (fun w0 K0=>vc_ok _ _ _ (by kernel_rfl) ?_)
  simp only [Tryz.f129]
  simp -dsimp
  refine VC.mk _ (idx_spec true [] (by simp)) ?_
  simp -dsimp
end Go.Proofs.YtlphpbcafplnbaaGreat
