/- Contracts of functions of the seat, proved in a logic on data over the model (part V34). -/
import Derived.Test.YtlphpbcafplnbaaGreatX6
import Derived.Test.YtlphpbcafplnbaaGreatV28
import Derived.Shelf.GgSortFunc.InsertionK
import Derived.Test.YtlphpbcafplnbaaGreatV24
import Derived.Sort.Grow
set_option linter.unusedSimpArgs false
set_option linter.unusedVariables false
namespace Go.Proofs.YtlphpbcafplnbaaGreat
open Go.VL Go.RowKit
theorem ordV_or (a b:Val):firstNZ [cmpI a.int b.int,cmpB a.text b.text]=ordV a b:=by
  simp only [firstNZ,ordV]
  split
  · split <;> simp_all
  · rfl
set_option maxRecDepth 4000 in
set_option maxHeartbeats 4000000 in
theorem reckon_ok (op:List UInt8) (a b v:Val) (ha:fits64 a.int=true) (hb:fits64 b.int=true) (hop:op∈two2) (h:reckonV op a b = .ok v):Con Tryz.prog 291 [.c (str op),.agg a.cells,.agg b.cells] [.ag v.cells]:=by
  refine spec_of Tryz.func291 rfl (by kernel_rfl) (by simp [Tryz.f291]) (fun w0 K0=>vc_ok _ _ _ (by kernel_rfl) ?_)
  simp only [Tryz.f291]
  simp -dsimp [Val.cells]
  refine VL.draw (by kernel_rfl) [(0,false),(1,false),(0,false),(4,false),(15,false),(0,false),(32,false),(0,false),(128,false),(511,true),(1023,true),(2047,true),(4095,true)] (by kernel_rfl) ?_
  simp -dsimp
  refine VCE.mk _ (compare_spec a.int b.int) ?_
  simp -dsimp
  refine VC.mk _ (compareS_spec a.text b.text) ?_
  simp -dsimp
  refine ⟨by decide,VCL.snap ?_⟩
  simp -dsimp
  refine VC.mk _ (or_spec false [cmpI a.int b.int,cmpB a.text b.text] (by simp)) ?_
  rw [ordV_or]
  simp -dsimp
  simp [two2] at hop
  have hbe:∀ x y:Int,(x == y)=decide (x=y):=fun x y=>by rw [Bool.eq_iff_iff];simp
  have e:∀ q:Bool,(truthV q).cells=[i64 3,i64 (bif q then 1 else 0),str []]:=fun q=>rfl
  rcases hop with rfl | rfl | rfl | rfl | rfl | rfl | rfl | rfl | hop
  · simp -dsimp
    refine VC.mk _ (truth_spec _) ?_
    simp -dsimp [e]
    simp [reckonV] at h
    subst h
    simp [truthV,Val.cells]
    try simp only [hbe,bne]
    try (by_cases hh:ordV a b=0 <;> simp [hh])
  · simp -dsimp
    refine VC.mk _ (truth_spec _) ?_
    simp -dsimp [e]
    simp [reckonV] at h
    subst h
    simp [truthV,Val.cells]
    try simp only [hbe,bne]
    try (by_cases hh:ordV a b=0 <;> simp [hh])
  · simp -dsimp
    refine VC.mk _ (truth_spec _) ?_
    simp -dsimp [e]
    simp [reckonV] at h
    subst h
    simp [truthV,Val.cells]
    try simp only [hbe,bne]
    try (by_cases hh:ordV a b=0 <;> simp [hh])
  · simp -dsimp
    refine VC.mk _ (truth_spec _) ?_
    simp -dsimp [e]
    simp [reckonV] at h
    subst h
    simp [truthV,Val.cells]
    try simp only [hbe,bne]
    try (by_cases hh:ordV a b=0 <;> simp [hh])
  · simp -dsimp
    refine VC.mk _ (truth_spec _) ?_
    simp -dsimp [e]
    simp [reckonV] at h
    subst h
    simp [truthV,Val.cells]
    try simp only [hbe,bne]
    try (by_cases hh:ordV a b=0 <;> simp [hh])
  · simp -dsimp
    refine VC.mk _ (truth_spec _) ?_
    simp -dsimp [e]
    simp [reckonV] at h
    subst h
    simp [truthV,Val.cells]
    try simp only [hbe,bne]
    try (by_cases hh:ordV a b=0 <;> simp [hh])
  · simp -dsimp
    refine VC.mk _ (truth_spec _) ?_
    simp -dsimp [e]
    simp [reckonV] at h
    subst h
    simp [truthV,Val.cells]
    try simp only [hbe,bne]
    try (by_cases hh:ordV a b=0 <;> simp [hh])
  · simp -dsimp
    refine VC.mk _ (truth_spec _) ?_
    simp -dsimp [e]
    simp [reckonV] at h
    subst h
    simp [truthV,Val.cells]
    try simp only [hbe,bne]
    try (by_cases hh:ordV a b=0 <;> simp [hh])
  · have hr:reckonV op a b=arithV op a.int b.int:=by rcases hop with rfl | rfl | rfl <;> simp [reckonV]
    rw [hr] at h
    have ka:=arith_ok op a.int b.int ha hb hop h
    rcases hop with rfl | rfl | rfl
    · simp -dsimp
      refine VC.mk _ ka ?_
      simp -dsimp [Val.cells]
    · simp -dsimp
      refine VC.mk _ ka ?_
      simp -dsimp [Val.cells]
    · simp -dsimp
      refine VC.mk _ ka ?_
      simp -dsimp [Val.cells]
set_option maxRecDepth 4000 in
set_option maxHeartbeats 4000000 in
theorem reckon_no (op:List UInt8) (a b:Val) (c:Int) (ha:fits64 a.int=true) (hb:fits64 b.int=true) (hop:op∈two2) (h:reckonV op a b = .no c):ConP Tryz.prog 291 [.c (str op),.agg a.cells,.agg b.cells] (noneV c):=by
  have hop:op=wADD∨op=wSUB∨op=wMUL:=by
    simp [two2] at hop
    rcases hop with rfl | rfl | rfl | rfl | rfl | rfl | rfl | rfl | hop
    all_goals first | exact hop | simp [reckonV] at h
  have hr:reckonV op a b=arithV op a.int b.int:=by rcases hop with rfl | rfl | rfl <;> simp [reckonV]
  rw [hr] at h
  have ka:=arith_no op a.int b.int ha hb hop h
  refine spec_ofP Tryz.func291 rfl (by kernel_rfl) (by simp [Tryz.f291]) (fun w0 K0=>vx_ok (H:=fun n=>n == 19) _ _ _ (by kernel_rfl) ?_)
  simp only [Tryz.f291]
  simp -dsimp [Val.cells]
  refine VL.draw (by kernel_rfl) [(0,false),(1,false),(0,false),(4,false),(15,false),(0,false),(32,false),(0,false),(128,false),(511,true),(1023,true),(2047,true),(4095,true)] (by kernel_rfl) ?_
  simp -dsimp
  refine VCE.mk _ (compare_spec a.int b.int) ?_
  simp -dsimp
  refine VC.mk _ (compareS_spec a.text b.text) ?_
  simp -dsimp
  refine ⟨by decide,VCL.snap ?_⟩
  simp -dsimp
  refine VC.mk _ (or_spec false [cmpI a.int b.int,cmpB a.text b.text] (by simp)) ?_
  rw [ordV_or]
  simp -dsimp
  rcases hop with rfl | rfl | rfl
  all_goals
    simp -dsimp
    refine VL.panicAt 5 (by kernel_rfl) ?_
    simp -dsimp
    refine VPN.call rfl rfl ⟨_,⟨trivial,trivial,trivial,trivial⟩,ka,?_⟩
    simp -dsimp
set_option maxRecDepth 4000 in
set_option maxHeartbeats 4000000 in
theorem eval_value (k:Int) (v:Val) (p:Int) (nl:Bool) (args:List Tm) (rn:Bool) (row:List Val):Con Tryz.prog 288 [.agg (Tm.mk wValue k v p nl args).cells,.c (.sl rn (vals row))] [.ag v.cells]:=by
  rw [Tm.cells_mk]
  refine spec_of Tryz.func288 rfl (by kernel_rfl) (by simp [Tryz.f288]) (fun w0 K0=>vc_ok _ _ _ (by kernel_rfl) ?_)
  simp only [Tryz.f288]
  simp -dsimp [Val.cells]
set_option maxRecDepth 4000 in
set_option maxHeartbeats 4000000 in
theorem eval_col_ok (k:Int) (v:Val) (p:Int) (nl:Bool) (args:List Tm) (rn:Bool) (row:List Val) (hp:0≤p∧p<row.length) (hk:(row.getD p.toNat default).kind=k):Con Tryz.prog 288 [.agg (Tm.mk wColumn k v p nl args).cells,.c (.sl rn (vals row))] [.ag (row.getD p.toNat default).cells]:=by
  obtain ⟨j,rfl⟩:∃ j:Nat,p=j:=⟨p.toNat,by omega⟩
  have hj:j<row.length:=by omega
  have e:row.getD ((j:Int).toNat) default=row[j]:=by simp [List.getD,hj]
  rw [e] at hk ⊢
  rw [Tm.cells_mk]
  refine spec_of Tryz.func288 rfl (by kernel_rfl) (by simp [Tryz.f288]) (fun w0 K0=>vc_ok _ _ _ (by kernel_rfl) ?_)
  simp only [Tryz.f288]
  simp -dsimp [Val.cells]
  refine VL.draw (by kernel_rfl) [(0,true),(1,true),(3,true),(7,true),(15,false),(31,false),(15,false),(79,false),(255,true),(511,true),(1023,true),(2047,false),(2047,false),(6143,false),(16383,false),(32767,false),(65535,false),(2047,false),(133119,false),(524287,true),(1048575,true)] (by kernel_rfl) ?_
  have j0:((j:Int)<0)=False:=by simp
  have j1:(row.length≤j)=False:=by simp [hj]
  simp -dsimp [hj,j0,j1,hk,Val.cells]
set_option maxRecDepth 4000 in
set_option maxHeartbeats 4000000 in
theorem eval_col_kind (k:Int) (v:Val) (p:Int) (nl:Bool) (args:List Tm) (rn:Bool) (row:List Val) (hp:0≤p∧p<row.length) (hk:(row.getD p.toNat default).kind≠k):ConP Tryz.prog 288 [.agg (Tm.mk wColumn k v p nl args).cells,.c (.sl rn (vals row))] (noneV 161):=by
  obtain ⟨j,rfl⟩:∃ j:Nat,p=j:=⟨p.toNat,by omega⟩
  have hj:j<row.length:=by omega
  have e:row.getD ((j:Int).toNat) default=row[j]:=by simp [List.getD,hj]
  rw [e] at hk
  rw [Tm.cells_mk]
  refine spec_ofP Tryz.func288 rfl (by kernel_rfl) (by simp [Tryz.f288]) (fun w0 K0=>vx_ok (H:=fun n=>n == 5) _ _ _ (by kernel_rfl) ?_)
  simp only [Tryz.f288]
  simp -dsimp [Val.cells]
  refine VL.draw (by kernel_rfl) [(0,true),(1,true),(3,true),(7,true),(15,false),(31,false),(15,false),(79,false),(255,true),(511,true),(1023,true),(2047,false),(2047,false),(6143,false),(16383,false),(32767,false),(65535,false),(2047,false),(133119,false),(524287,true),(1048575,true)] (by kernel_rfl) ?_
  have j0:((j:Int)<0)=False:=by simp
  have j1:(row.length≤j)=False:=by simp [hj]
  have hk':(row[j].kind != k)=true:=by simp [hk]
  simp -dsimp [hj,j0,j1,hk',Val.cells]
  refine VL.panicAt 1 (by kernel_rfl) ?_
  simp -dsimp
  refine VPN.raise (us:=[Value.int .i64 161]) rfl rfl isIface_138 ?_
  simp -dsimp [noneV]
set_option maxRecDepth 4000 in
set_option maxHeartbeats 4000000 in
theorem eval_col_out (k:Int) (v:Val) (p:Int) (nl:Bool) (args:List Tm) (rn:Bool) (row:List Val) (hp:¬ (0≤p∧p<row.length)):ConP Tryz.prog 288 [.agg (Tm.mk wColumn k v p nl args).cells,.c (.sl rn (vals row))] (noneV 161):=by
  rw [Tm.cells_mk]
  refine spec_ofP Tryz.func288 rfl (by kernel_rfl) (by simp [Tryz.f288]) (fun w0 K0=>vx_ok (H:=fun n=>n == 5) _ _ _ (by kernel_rfl) ?_)
  simp only [Tryz.f288]
  simp -dsimp [Val.cells]
  refine VL.draw (by kernel_rfl) [(0,true),(1,true),(3,true),(7,true),(15,false),(31,false),(15,false),(79,false),(255,true),(511,true),(1023,true),(2047,false),(2047,false),(6143,false),(16383,false),(32767,false),(65535,false),(2047,false),(133119,false),(524287,true),(1048575,true)] (by kernel_rfl) ?_
  by_cases h0:p<0
  · have j0:(p<0)=True:=by simp [h0]
    have j2:p.toNat=0:=by omega
    rcases row with _ | ⟨r0,row⟩
    all_goals
      simp -dsimp [j0,j2,Val.cells]
      refine VL.panicAt 1 (by kernel_rfl) ?_
      simp -dsimp
      refine VPN.raise (us:=[Value.int .i64 161]) rfl rfl isIface_138 ?_
      simp -dsimp [noneV]
  · have j0:(p<0)=False:=by simp [h0]
    have j1:((row.length:Int)≤p)=True:=by simp;omega
    have j2:row[p.toNat]? = none:=by simp;omega
    simp -dsimp [j0,j1,j2]
    refine VL.panicAt 1 (by kernel_rfl) ?_
    simp -dsimp
    refine VPN.raise (us:=[Value.int .i64 161]) rfl rfl isIface_138 ?_
    simp -dsimp [noneV]
set_option maxRecDepth 4000 in
set_option maxHeartbeats 4000000 in
theorem eval_not (k:Int) (v:Val) (p:Int) (nl:Bool) (x:Tm) (rn:Bool) (row:List Val) (a:Val) (hx:Con Tryz.prog 288 [.agg x.cells,.c (.sl rn (vals row))] [.ag a.cells]) :
    Con Tryz.prog 288 [.agg (Tm.mk wNOT k v p nl [x]).cells,.c (.sl rn (vals row))] [.ag (truthV (decide (a.int=0))).cells]:=by
  have hbe:∀ x y:Int,(x == y)=decide (x=y):=fun x y=>by rw [Bool.eq_iff_iff];simp
  rw [Tm.cells_mk]
  refine spec_of Tryz.func288 rfl (by kernel_rfl) (by simp [Tryz.f288]) (fun w0 K0=>vc_ok _ _ _ (by kernel_rfl) ?_)
  simp only [Tryz.f288]
  simp -dsimp [Val.cells]
  refine VC.mk _ hx ?_
  simp -dsimp [Val.cells]
  refine VC.mk _ (truth_spec _) ?_
  simp -dsimp [Val.cells,hbe,truthV]
set_option maxRecDepth 4000 in
set_option maxHeartbeats 4000000 in
theorem eval_neg (k:Int) (v:Val) (p:Int) (nl:Bool) (x:Tm) (rn:Bool) (row:List Val) (a:Val) (ha:fits64 a.int=true) (hx:Con Tryz.prog 288 [.agg x.cells,.c (.sl rn (vals row))] [.ag a.cells])
    (b:Val) (hb:arithV wSUB 0 a.int = .ok b) :
    Con Tryz.prog 288 [.agg (Tm.mk wSUB k v p nl [x]).cells,.c (.sl rn (vals row))] [.ag b.cells]:=by
  rw [Tm.cells_mk]
  refine spec_of Tryz.func288 rfl (by kernel_rfl) (by simp [Tryz.f288]) (fun w0 K0=>vc_ok _ _ _ (by kernel_rfl) ?_)
  simp only [Tryz.f288]
  simp -dsimp [Val.cells]
  refine VC.mk _ hx ?_
  simp -dsimp [Val.cells]
  refine VC.mk _ (arith_ok wSUB 0 a.int (by decide) ha (by simp) hb) ?_
  simp -dsimp [Val.cells]
set_option maxRecDepth 4000 in
set_option maxHeartbeats 4000000 in
theorem eval_neg_no (k:Int) (v:Val) (p:Int) (nl:Bool) (x:Tm) (rn:Bool) (row:List Val) (a:Val) (ha:fits64 a.int=true) (hx:Con Tryz.prog 288 [.agg x.cells,.c (.sl rn (vals row))] [.ag a.cells])
    (c:Int) (hb:arithV wSUB 0 a.int = .no c) :
    ConP Tryz.prog 288 [.agg (Tm.mk wSUB k v p nl [x]).cells,.c (.sl rn (vals row))] (noneV c):=by
  rw [Tm.cells_mk]
  refine spec_ofP Tryz.func288 rfl (by kernel_rfl) (by simp [Tryz.f288]) (fun w0 K0=>vx_ok (H:=fun n=>n == 10) _ _ _ (by kernel_rfl) ?_)
  simp only [Tryz.f288]
  simp -dsimp [Val.cells]
  refine VL.panicAt 7 (by kernel_rfl) ?_
  simp -dsimp
  refine VC.mk _ hx ?_
  simp -dsimp [Val.cells]
  refine VPN.call rfl rfl ⟨_,⟨trivial,trivial,trivial,trivial⟩,arith_no wSUB 0 a.int (by decide) ha (by simp) hb,?_⟩
  simp -dsimp
set_option maxRecDepth 4000 in
set_option maxHeartbeats 4000000 in
theorem eval_one_no (op:List UInt8) (hop:op=wNOT∨op=wSUB) (k:Int) (v:Val) (p:Int) (nl:Bool) (x:Tm) (rn:Bool) (row:List Val) (c:Int) (hx:ConP Tryz.prog 288 [.agg x.cells,.c (.sl rn (vals row))] (noneV c)) :
    ConP Tryz.prog 288 [.agg (Tm.mk op k v p nl [x]).cells,.c (.sl rn (vals row))] (noneV c):=by
  rw [Tm.cells_mk]
  refine spec_ofP Tryz.func288 rfl (by kernel_rfl) (by simp [Tryz.f288]) (fun w0 K0=>vx_ok (H:=fun n=>n == 8 || n == 10) _ _ _ (by kernel_rfl) ?_)
  simp only [Tryz.f288]
  rcases hop with rfl | rfl
  · simp -dsimp [Val.cells]
    refine VL.panicAt 5 (by kernel_rfl) ?_
    simp -dsimp
    refine VPN.call rfl rfl ⟨_,⟨trivial,trivial,trivial⟩,hx,?_⟩
    simp -dsimp
  · simp -dsimp [Val.cells]
    refine VL.panicAt 5 (by kernel_rfl) ?_
    simp -dsimp
    refine VPN.call rfl rfl ⟨_,⟨trivial,trivial,trivial⟩,hx,?_⟩
    simp -dsimp
theorem two2_ne {op:List UInt8} (h:op∈two2):(op=wValue)=False∧(op=wColumn)=False∧(op=wNOT)=False:=by
  simp [two2] at h
  rcases h with rfl | rfl | rfl | rfl | rfl | rfl | rfl | rfl | rfl | rfl | rfl <;> simp
set_option maxRecDepth 4000 in
set_option maxHeartbeats 4000000 in
theorem eval_two_no1 (op:List UInt8) (hop:op∈two2) (k:Int) (v:Val) (p:Int) (nl:Bool) (x y:Tm) (rn:Bool) (row:List Val) (c:Int) (hx:ConP Tryz.prog 288 [.agg x.cells,.c (.sl rn (vals row))] (noneV c)) :
    ConP Tryz.prog 288 [.agg (Tm.mk op k v p nl [x,y]).cells,.c (.sl rn (vals row))] (noneV c):=by
  obtain ⟨e1,e2,e3⟩:=two2_ne hop
  rw [Tm.cells_mk]
  refine spec_ofP Tryz.func288 rfl (by kernel_rfl) (by simp [Tryz.f288]) (fun w0 K0=>vx_ok (H:=fun n=>n == 11) _ _ _ (by kernel_rfl) ?_)
  simp only [Tryz.f288]
  simp -dsimp [Val.cells,e1,e2,e3]
  refine VL.panicAt 5 (by kernel_rfl) ?_
  simp -dsimp
  refine VPN.call rfl rfl ⟨_,⟨trivial,trivial,trivial⟩,hx,?_⟩
  simp -dsimp
set_option maxRecDepth 4000 in
set_option maxHeartbeats 4000000 in
theorem eval_two_no2 (op:List UInt8) (hop:op∈two2) (k:Int) (v:Val) (p:Int) (nl:Bool) (x y:Tm) (rn:Bool) (row:List Val) (a:Val) (c:Int) (hx:Con Tryz.prog 288 [.agg x.cells,.c (.sl rn (vals row))] [.ag a.cells])
    (hy:ConP Tryz.prog 288 [.agg y.cells,.c (.sl rn (vals row))] (noneV c)) :
    ConP Tryz.prog 288 [.agg (Tm.mk op k v p nl [x,y]).cells,.c (.sl rn (vals row))] (noneV c):=by
  obtain ⟨e1,e2,e3⟩:=two2_ne hop
  rw [Tm.cells_mk]
  refine spec_ofP Tryz.func288 rfl (by kernel_rfl) (by simp [Tryz.f288]) (fun w0 K0=>vx_ok (H:=fun n=>n == 5) _ _ _ (by kernel_rfl) ?_)
  simp only [Tryz.f288]
  simp -dsimp [Val.cells,e1,e2,e3]
  refine VC.mk _ hx ?_
  simp -dsimp [Val.cells]
  refine VL.drawP 8 (by kernel_rfl) [(0,false),(1,false),(0,false),(0,false),(8,false),(24,false),(56,false),(0,false),(248,false),(511,true),(1023,true)] (by kernel_rfl) ?_
  simp -dsimp
  refine VPC.mk rfl rfl rfl hy ?_
  simp -dsimp
set_option maxRecDepth 4000 in
set_option maxHeartbeats 4000000 in
theorem eval_two_no3 (op:List UInt8) (hop:op∈two2) (k:Int) (v:Val) (p:Int) (nl:Bool) (x y:Tm) (rn:Bool) (row:List Val) (a b:Val) (c:Int) (ha:fits64 a.int=true) (hb:fits64 b.int=true) (hx:Con Tryz.prog 288 [.agg x.cells,.c (.sl rn (vals row))] [.ag a.cells])
    (hy:Con Tryz.prog 288 [.agg y.cells,.c (.sl rn (vals row))] [.ag b.cells]) (hr:reckonV op a b = .no c) :
    ConP Tryz.prog 288 [.agg (Tm.mk op k v p nl [x,y]).cells,.c (.sl rn (vals row))] (noneV c):=by
  obtain ⟨e1,e2,e3⟩:=two2_ne hop
  rw [Tm.cells_mk]
  refine spec_ofP Tryz.func288 rfl (by kernel_rfl) (by simp [Tryz.f288]) (fun w0 K0=>vx_ok (H:=fun n=>n == 5) _ _ _ (by kernel_rfl) ?_)
  simp only [Tryz.f288]
  simp -dsimp [Val.cells,e1,e2,e3]
  refine VC.mk _ hx ?_
  simp -dsimp [Val.cells]
  refine VL.drawP 9 (by kernel_rfl) [(0,false),(1,false),(0,false),(0,false),(8,false),(24,false),(56,false),(0,false),(248,false),(511,true),(1023,true)] (by kernel_rfl) ?_
  simp -dsimp
  refine VCE.mk _ hy ?_
  simp -dsimp
  refine VPC.mk rfl rfl rfl (reckon_no op a b c ha hb hop hr) ?_
  simp -dsimp
set_option maxRecDepth 4000 in
set_option maxHeartbeats 4000000 in
theorem eval_two_ok (op:List UInt8) (hop:op∈two2) (k:Int) (v:Val) (p:Int) (nl:Bool) (x y:Tm) (rn:Bool) (row:List Val) (a b r:Val) (ha:fits64 a.int=true) (hb:fits64 b.int=true) (hx:Con Tryz.prog 288 [.agg x.cells,.c (.sl rn (vals row))] [.ag a.cells])
    (hy:Con Tryz.prog 288 [.agg y.cells,.c (.sl rn (vals row))] [.ag b.cells]) (hr:reckonV op a b = .ok r) :
    Con Tryz.prog 288 [.agg (Tm.mk op k v p nl [x,y]).cells,.c (.sl rn (vals row))] [.ag r.cells]:=by
  obtain ⟨e1,e2,e3⟩:=two2_ne hop
  rw [Tm.cells_mk]
  refine spec_of Tryz.func288 rfl (by kernel_rfl) (by simp [Tryz.f288]) (fun w0 K0=>vc_ok _ _ _ (by kernel_rfl) ?_)
  simp only [Tryz.f288]
  simp -dsimp [Val.cells,e1,e2,e3]
  refine VC.mk _ hx ?_
  simp -dsimp [Val.cells]
  refine VL.draw (by kernel_rfl) [(0,false),(1,false),(0,false),(0,false),(8,false),(24,false),(56,false),(0,false),(248,false),(511,true),(1023,true)] (by kernel_rfl) ?_
  simp -dsimp
  refine VCE.mk _ hy ?_
  simp -dsimp
  refine VC.mk _ (reckon_ok op a b r ha hb hop hr) ?_
  simp -dsimp [Val.cells]
theorem truthV_fits (b:Bool):fits64 (truthV b).int=true:=by cases b <;> rfl
theorem arithV_fits {op:List UInt8} {a b:Int} {v:Val} (h:arithV op a b = .ok v):fits64 v.int=true:=by
  unfold arithV at h
  split at h
  · rename_i e;cases h;exact e
  · cases h
theorem reckonV_fits {op:List UInt8} {a b v:Val} (h:reckonV op a b = .ok v):fits64 v.int=true:=by
  unfold reckonV at h
  repeat' split at h
  all_goals first | (cases h;exact truthV_fits _) | exact arithV_fits h
theorem eval_spec (rn:Bool) (row:List Val) (hrow:∀ v∈row,fits64 v.int=true):∀ (t:Tm),t.Ok →
    match evalT row t with
    | .ok v=>fits64 v.int=true∧Con Tryz.prog 288 [.agg t.cells,.c (.sl rn (vals row))] [.ag v.cells]
    | .no c=>ConP Tryz.prog 288 [.agg t.cells,.c (.sl rn (vals row))] (noneV c):=by
  intro t h
  induction h with
  | value kind v place nl args hv =>
    rw [evalT,if_pos rfl]
    exact ⟨hv,eval_value kind v place nl args rn row⟩
  | column kind v place nl args =>
    rw [evalT,if_neg (by decide),if_pos rfl]
    unfold colV
    by_cases h1:0≤place∧place<row.length
    · by_cases h2:(row.getD place.toNat default).kind=kind
      · rw [if_pos ⟨h1.1,h1.2,h2⟩]
        refine ⟨?_,eval_col_ok kind v place nl args rn row h1 h2⟩
        have hl:place.toNat<row.length:=by omega
        have:row.getD place.toNat default=row[place.toNat]:=by simp [List.getD,hl]
        rw [this]
        exact hrow _ (List.getElem_mem hl)
      · rw [if_neg (fun e=>h2 e.2.2)]
        exact eval_col_kind kind v place nl args rn row h1 h2
    · rw [if_neg (fun e=>h1 ⟨e.1,e.2.1⟩)]
      exact eval_col_out kind v place nl args rn row h1
  | one op kind v place nl x hop hx ih =>
    have n1:op≠wValue:=by rcases hop with rfl | rfl <;> decide
    have n2:op≠wColumn:=by rcases hop with rfl | rfl <;> decide
    rw [evalT,if_neg n1,if_neg n2,evalTs_map]
    simp only [List.map_cons,List.map_nil]
    cases hxe:evalT row x with
    | no c =>
      rw [hxe] at ih
      exact eval_one_no op hop kind v place nl x rn row c ih
    | ok a =>
      rw [hxe] at ih
      obtain ⟨ha,hc⟩:=ih
      simp only [opV]
      rcases hop with rfl | rfl
      · simp only [oneV,if_pos]
        exact ⟨truthV_fits _,eval_not kind v place nl x rn row a hc⟩
      · rw [oneV,if_neg (by decide)]
        cases hr:arithV wSUB 0 a.int with
        | ok b=>exact ⟨arithV_fits hr,eval_neg kind v place nl x rn row a ha hc b hr⟩
        | no c=>exact eval_neg_no kind v place nl x rn row a ha hc c hr
  | two op kind v place nl x y hop hx hy ih1 ih2 =>
    obtain ⟨e1,e2,e3⟩:=two2_ne hop
    rw [evalT,if_neg (by rw [e1];exact id),if_neg (by rw [e2];exact id),evalTs_map]
    simp only [List.map_cons,List.map_nil]
    cases hxe:evalT row x with
    | no c =>
      rw [hxe] at ih1
      exact eval_two_no1 op hop kind v place nl x y rn row c ih1
    | ok a =>
      rw [hxe] at ih1
      cases hye:evalT row y with
      | no c =>
        rw [hye] at ih2
        simp only [opV]
        rw [if_neg (by rw [e3];exact id)]
        exact eval_two_no2 op hop kind v place nl x y rn row a c ih1.2 ih2
      | ok b =>
        rw [hye] at ih2
        simp only [opV]
        rw [if_neg (by rw [e3];exact id)]
        cases hr:reckonV op a b with
        | ok r=>exact ⟨reckonV_fits hr,eval_two_ok op hop kind v place nl x y rn row a b r ih1.1 ih2.1 ih1.2 ih2.2 hr⟩
        | no c=>exact eval_two_no3 op hop kind v place nl x y rn row a b c ih1.1 ih2.1 ih1.2 ih2.2 hr
end Go.Proofs.YtlphpbcafplnbaaGreat
namespace Go.VL
open Go.RowKit
section
variable {P:Program} {α:Type} [Inhabited α]
theorem holdsK_of {enc:α→List Value} {k:Nat} {cells:α→List C} (hc:∀ x,cells x=(enc x).map C.v) (hk:∀ x,(enc x).length=k) {K:Nat→Nat→Prop} {w:World} {b:Nat} {cur:Array Value} {E:TypeId} {l:List α}
    (hh:w.heap[b]? = some (.cells cur E (0,0))) (h:Holds K w k (l.map cells) cur):Sort.HoldsK enc k w b 0 l.toArray:=by
  intro j hj
  rw [Sort.size_flatK] at hj
  have hj':j<l.length*k:=by simpa using hj
  have k0:0<k:=by rcases Nat.eq_zero_or_pos k with h | h; · subst h;simp at hj'
                  · exact h
  have hq:j / k<l.length:=(Nat.div_lt_iff_lt_mul k0).2 hj'
  have hm:j % k<k:=Nat.mod_lt _ k0
  rw [Sort.get_flatK _ _ _ _ hj]
  obtain ⟨_,h2⟩:=h (j / k) (cells l[j / k]) (by rw [List.getElem?_map,List.getElem?_eq_getElem hq];rfl)
  have hl:(enc l[j / k]).length=k:=hk _
  obtain ⟨u,hu,hcr⟩:=h2 (j % k) (.v ((enc l[j / k])[j % k]'(by omega))) (by rw [hc,List.getElem?_map,List.getElem?_eq_getElem (by omega)];rfl)
  rw [CR] at hcr
  rw [Nat.div_add_mod'] at hu
  have e1:l.toArray[j / k]! = l[j / k]:=by simp [hq]
  refine ⟨?_,?_⟩
  · unfold World.cell?
    simp only [hh,Nat.zero_add]
    rw [e1,getElem!_pos _ _ (by omega)]
    simp [hu,hcr.1]
  · unfold World.frozen?
    simp [hh]
theorem holds_sorted {enc:α→List Value} {k:Nat} {cells:α→List C} (hc:∀ x,cells x=(enc x).map C.v) (hk:∀ x,(enc x).length=k) (h1:∀ x,∀ v∈enc x,v.oneCell'=true) (K:Nat→Nat→Prop) (w:World) {cur:Array Value} {cap:Nat} {l:List α}
    (hs:cur.size=cap*k) (hcap:l.length≤cap):Holds K w k (l.map cells) (Sort.putCells id 0 (Sort.flatK enc k l.toArray) cur):=by
  intro j e he
  rw [List.getElem?_map] at he
  cases hj:l[j]? with
  | none=>rw [hj] at he;simp at he
  | some x =>
    rw [hj] at he
    simp only [Option.map_some,Option.some.injEq] at he
    subst he
    have hjl:j<l.length:=(List.getElem?_eq_some_iff.1 hj).1
    have hx:l[j]=x:=(List.getElem?_eq_some_iff.1 hj).2
    refine ⟨by rw [hc,List.length_map,hk],fun c y hy=>?_⟩
    rw [hc,List.getElem?_map] at hy
    cases hv:(enc x)[c]? with
    | none=>rw [hv] at hy;simp at hy
    | some v =>
      rw [hv] at hy
      simp only [Option.map_some,Option.some.injEq] at hy
      subst hy
      have hck:c<k:=by have:=(List.getElem?_eq_some_iff.1 hv).1;rwa [hk] at this
      have hb:j*k+c<l.length*k:=by
        have:=Nat.mul_le_mul_right k (show j+1≤l.length from hjl)
        rw [Nat.add_mul,Nat.one_mul] at this;omega
      have hb2:j*k+c<cur.size:=by
        have:=Nat.mul_le_mul_right k hcap
        omega
      have e1:(j*k+c) / k=j:=(Sort.blk_iff k j _ (by omega)).1 ⟨by omega,by omega⟩
      have e2:(j*k+c) % k=c:=by rw [Nat.mod_eq_sub_div_mul,e1];omega
      refine ⟨v,?_,by rw [CR];exact ⟨rfl,h1 x v (List.mem_of_getElem? hv)⟩⟩
      unfold Sort.putCells
      rw [Array.getElem?_mapIdx,Array.getElem?_eq_getElem hb2]
      simp only [Option.map_some,Nat.zero_le,true_and,Nat.zero_add,Sort.size_flatK,Nat.sub_zero,id]
      rw [if_pos (by simpa using hb),Sort.get_flatK _ _ _ _ (by simpa using hb),e1,e2]
      simp [hjl,hx,hv]
theorem ConB.sort {f:FuncId} {fv:FuncId} {enc:α→List Value} {k:Nat} {cells:α→List C} (hc:∀ x,cells x=(enc x).map C.v) (hk:∀ x,(enc x).length=k) (h1:∀ x,∀ v∈enc x,v.oneCell'=true) (hf:callable P f=true) (l l':List α) (hl:l'.length=l.length)
    (h:∀ (w:World) (b cap:Nat),Sort.HoldsK enc k w b 0 l.toArray→b<w.heap.size→Calls P f #[.slice (some ⟨b,0,none⟩) l.toArray.size cap,.func (.func fv) #[] #[]] w fun e w'=>e = .returned (.tuple #[])∧∃ n os,w'=Go.Proofs.sortWorldK enc k w b 0 n l'.toArray os) :
    ConB P f [.own 1 l.length,.c (.fn fv [])] [(1,.arr false k (l.map cells) 0)] [] [.own 1 l.length,.c (.fn fv [])] [(1,.arr false k (l'.map cells) 0)]:=by
  refine ⟨hf,fun w g us hM hargs=>?_⟩
  have hb1:lk [(1,Res.arr false k (l.map cells) 0)] 1=some (.arr false k (l.map cells) 0):=rfl
  rw [SRs] at hargs
  obtain ⟨u1,us1,rfl,hu1,hargs⟩:=hargs
  rw [SRs] at hargs
  obtain ⟨u2,us2,rfl,hu2,hargs⟩:=hargs
  rw [SRs] at hargs
  subst hargs
  have hu2':=hu2
  rw [SR] at hu1
  have e1:=hu1 false k (l.map cells) 0 hb1 (by simp)
  rw [SR,CR] at hu2
  obtain ⟨us3,e2,hu2⟩:=hu2
  rw [VR] at hu2
  subst hu2
  have hres:=hM.res 1 _ hb1
  rw [RR] at hres
  rcases hres with ⟨hn,_⟩ | ⟨_,b,cap,cur,E,hloc,hB,hheap,hcap,hmax,hsz,hfx,hH,hK⟩
  · cases hn
  have hbs:b<w.heap.size:=(Array.getElem?_eq_some_iff.1 hheap).1
  rw [List.length_map] at hloc hcap
  have hcall:=h w b cap (holdsK_of hc hk hheap hH) hbs
  rw [e1,hloc,e2]
  refine hcall.mono ?_
  rintro e w' ⟨rfl,n,os,rfl⟩
  have hheap':(Go.Proofs.sortWorldK enc k w b 0 n l'.toArray os).heap[b]? = some (.cells (Sort.putCells id 0 (Sort.flatK enc k l'.toArray) cur) E (0,0)):=by
    unfold Go.Proofs.sortWorldK
    rw [Sort.heap_grow_old _ _ (by show b<(Sort.putRow id (Sort.ahead w n) b 0 _).heap.size;rw [Sort.size_putRow];exact hbs)]
    show ((Sort.ahead w n).heap.modify b _)[b]? = _
    rw [Array.getElem?_modify,if_pos rfl]
    show Option.map _ w.heap[b]? = _
    rw [hheap]
    rfl
  have hother:∀ q,q<w.heap.size→q≠b→(Go.Proofs.sortWorldK enc k w b 0 n l'.toArray os).heap[q]? = w.heap[q]? := by
    intro q hq hne
    unfold Go.Proofs.sortWorldK
    rw [Sort.heap_grow_old _ _ (by show q<(Sort.putRow id (Sort.ahead w n) b 0 _).heap.size;rw [Sort.size_putRow];exact hq)]
    show ((Sort.ahead w n).heap.modify b _)[q]? = _
    rw [Array.getElem?_modify,if_neg (Ne.symm hne)]
    rfl
  have hsize:w.heap.size≤(Go.Proofs.sortWorldK enc k w b 0 n l'.toArray os).heap.size:=by
    show w.heap.size≤(((Sort.ahead w n).heap.modify b _)++os).size
    rw [Array.size_append,Array.size_modify]
    exact Nat.le_add_right _ _
  have hlent:∀ q,lent g [(1,Res.arr false k (l.map cells) 0)] q↔q=b:=by
    intro q
    constructor
    · rintro ⟨i,r,hi,hq⟩
      have:=(Prod.mk.inj (List.mem_singleton.1 (lk_mem hi))).1
      subst this
      rw [hloc] at hq
      simpa [blk] using hq.symm
    · rintro rfl
      exact ⟨1,_,hb1,by rw [hloc];rfl⟩
  have hKb:∀ o,¬ g.K b o:=fun o h=>by have:=(hK o).1 h;omega
  have hcell:∀ q o,g.K q o→(Go.Proofs.sortWorldK enc k w b 0 n l'.toArray os).cell? ⟨q,o,none⟩=w.cell? ⟨q,o,none⟩:=by
    intro q o h
    have hne:q≠b:=fun e=>hKb o (e ▸ h)
    unfold World.cell?
    simp only [hother q (hM.klt q o h) hne]
  have hk':Keeps g.K w g.K (Go.Proofs.sortWorldK enc k w b 0 n l'.toArray os):=⟨fun _ _ h=>h,hcell⟩
  refine ⟨[],g,rfl,⟨⟨rfl,rfl,rfl,hsize,fun q hq=>?_,Nat.le_add_right _ _⟩,fun _ _ h=>h,fun _ _ h _=>h,fun q o h=>Nat.lt_of_lt_of_le (hM.klt q o h) hsize,fun i r hi=>?_,fun i j r r' hi hj hne=>?_,fun q o h=>hcell q o h⟩,rfl,?_⟩
  · exact hother q hq.1 (fun e=>hq.2 ((hlent q).2 e))
  · obtain ⟨rfl,rfl⟩:=Prod.mk.inj (List.mem_singleton.1 (lk_mem hi))
    rw [RR]
    refine .inr ⟨rfl,b,cap,_,E,?_,hB,hheap',?_,hmax,?_,Nat.zero_le _,?_,hK⟩
    · rw [List.length_map,hl];exact hloc
    · rw [List.length_map,hl];exact hcap
    · unfold Sort.putCells
      rw [Array.size_mapIdx];exact hsz
    · exact holds_sorted hc hk h1 _ _ hsz (by rw [hl];exact hcap)
  · obtain ⟨rfl,rfl⟩:=Prod.mk.inj (List.mem_singleton.1 (lk_mem hi))
    obtain ⟨rfl,rfl⟩:=Prod.mk.inj (List.mem_singleton.1 (lk_mem hj))
    exact absurd rfl hne
  · rw [SRs]
    refine ⟨_,_,rfl,?_,?_⟩
    · rw [SR]
      intro _ _ _ _ _ _
      exact hloc.symm
    rw [SRs]
    refine ⟨_,_,rfl,?_,by rw [SRs]⟩
    rw [e2] at hu2'
    rw [SR] at hu2' ⊢
    exact CR.mono hk' _ _ hu2'
theorem Con.same {f:FuncId} {args:List S} (hf:callable P f=true) (h:∀ (w:World) (K:Nat→Nat→Prop) (us:List Value),DRs K w args us→Calls P f us.toArray w fun e w'=>e = .returned (.tuple #[])∧w'=w):Con P f args []:=by
  refine Con.of hf fun w K us hK hd=>(h w K us hd).mono ?_
  rintro e w' ⟨rfl,rfl⟩
  refine ⟨[],rfl,BelowD.refl _ _,K,fun _ _ h=>h,fun _ _ h _=>h,hK,rfl,fun k r v hr=>?_,fun j k r r' v v' _ hr=>?_⟩
  · simp at hr
  · simp at hr
end
section
variable {P:Program}
theorem holds1_of {K:Nat→Nat→Prop} {w:World} {b:Nat} {cur:Array Value} {E:TypeId} {l:List Int}
    (hh:w.heap[b]? = some (.cells cur E (0,0))) (h:Holds K w 1 (l.map fun x=>[C.v (.int .i64 x)]) cur):Sort.Holds (Value.int .i64) w b 0 l.toArray:=by
  intro j hj
  have hj':j<l.length:=by simpa using hj
  obtain ⟨_,h2⟩:=h j [C.v (.int .i64 l[j])] (by rw [List.getElem?_map,List.getElem?_eq_getElem hj'];rfl)
  obtain ⟨u,hu,hcr⟩:=h2 0 _ rfl
  rw [CR] at hcr
  rw [Nat.mul_one,Nat.add_zero] at hu
  have e1:l.toArray[j]! = l[j]:=by simp [hj']
  refine ⟨?_,?_⟩
  · unfold World.cell?
    simp only [hh,Nat.zero_add]
    rw [e1]
    simp [hu,hcr.1]
  · unfold World.frozen?
    simp [hh]
theorem holds1_put (K:Nat→Nat→Prop) (w:World) {cur:Array Value} {cap m:Nat} {d:List Int}
    (hs:cur.size=cap*1) (hcap:d.length≤cap):Holds K w 1 ((d.take m).map fun x=>[C.v (.int .i64 x)]) (Sort.putCells (Value.int .i64) 0 d.toArray cur):=by
  intro j e he
  rw [List.getElem?_map] at he
  cases hj:(d.take m)[j]? with
  | none=>rw [hj] at he;simp at he
  | some x =>
    rw [hj] at he
    simp only [Option.map_some,Option.some.injEq] at he
    subst he
    rw [List.getElem?_take] at hj
    split at hj
    · have hjl:j<d.length:=(List.getElem?_eq_some_iff.1 hj).1
      have hx:d[j]=x:=(List.getElem?_eq_some_iff.1 hj).2
      refine ⟨rfl,fun c y hy=>?_⟩
      cases c with
      | succ c=>simp at hy
      | zero =>
        simp at hy
        subst hy
        refine ⟨.int .i64 x,?_,by rw [CR];exact ⟨rfl,rfl⟩⟩
        have hb2:j*1+0<cur.size:=by omega
        unfold Sort.putCells
        rw [Array.getElem?_mapIdx,Array.getElem?_eq_getElem hb2]
        simp only [Option.map_some,Nat.zero_le,true_and,Nat.zero_add,Nat.mul_one,Nat.add_zero,Nat.sub_zero,List.size_toArray]
        rw [if_pos hjl]
        simp [hjl,hx]
    · cases hj
theorem ConB.ints {f:FuncId} (hf:callable P f=true) (l d:List Int) (m:Nat) (hd:d.length=l.length) (hm:m≤l.length) (ret:Bool)
    (h:∀ (w:World) (b cap:Nat),Sort.Holds (Value.int .i64) w b 0 l.toArray→b<w.heap.size→l.length≤cap→Calls P f #[.slice (some ⟨b,0,none⟩) l.length cap] w fun e w' =>
      e = .returned (if ret then .slice (some ⟨b,0,none⟩) m cap else .tuple #[])∧∃ n os,w'=Sort.grow (Sort.putRow (Value.int .i64) (Sort.ahead w n) b 0 d.toArray) os) :
    ConB P f [.own 1 l.length] [(1,.arr false 1 (l.map fun x=>[C.v (.int .i64 x)]) 0)] (if ret then [.own 1 m] else []) [if m=l.length then .own 1 l.length else .un] [(1,.arr false 1 ((d.take m).map fun x=>[C.v (.int .i64 x)]) 0)]:=by
  refine ⟨hf,fun w g us hM hargs=>?_⟩
  have hb1:lk [(1,Res.arr false 1 (l.map fun x=>[C.v (.int .i64 x)]) 0)] 1=some (.arr false 1 (l.map fun x=>[C.v (.int .i64 x)]) 0):=rfl
  rw [SRs] at hargs
  obtain ⟨u1,us1,rfl,hu1,hargs⟩:=hargs
  rw [SRs] at hargs
  subst hargs
  rw [SR] at hu1
  have e1:=hu1 false 1 _ 0 hb1 (by simp)
  have hres:=hM.res 1 _ hb1
  rw [RR] at hres
  rcases hres with ⟨hn,_⟩ | ⟨_,b,cap,cur,E,hloc,hB,hheap,hcap,hmax,hsz,hfx,hH,hK⟩
  · cases hn
  have hbs:b<w.heap.size:=(Array.getElem?_eq_some_iff.1 hheap).1
  rw [List.length_map] at hloc hcap
  have hcall:=h w b cap (holds1_of hheap hH) hbs hcap
  rw [e1,hloc]
  refine hcall.mono ?_
  rintro e w' ⟨rfl,n,os,rfl⟩
  generalize hw':Sort.grow (Sort.putRow (Value.int .i64) (Sort.ahead w n) b 0 d.toArray) os=w'
  have hheap':w'.heap[b]? = some (.cells (Sort.putCells (Value.int .i64) 0 d.toArray cur) E (0,0)):=by
    rw [← hw',Sort.heap_grow_old _ _ (by rw [Sort.size_putRow];exact hbs)]
    show ((Sort.ahead w n).heap.modify b _)[b]? = _
    rw [Array.getElem?_modify,if_pos rfl]
    show Option.map _ w.heap[b]? = _
    rw [hheap]
    rfl
  have hother:∀ q,q<w.heap.size→q≠b→w'.heap[q]? = w.heap[q]? := by
    intro q hq hne
    rw [← hw',Sort.heap_grow_old _ _ (by rw [Sort.size_putRow];exact hq)]
    show ((Sort.ahead w n).heap.modify b _)[q]? = _
    rw [Array.getElem?_modify,if_neg (Ne.symm hne)]
    rfl
  have hsize:w.heap.size≤w'.heap.size:=by
    rw [← hw']
    show w.heap.size≤(((Sort.ahead w n).heap.modify b _)++os).size
    rw [Array.size_append,Array.size_modify]
    exact Nat.le_add_right _ _
  have hdr:w.drawn≤w'.drawn:=by rw [← hw'];exact Nat.le_add_right _ _
  have hos:w'.os=w.os:=by rw [← hw'];rfl
  have htp:w'.tape=w.tape:=by rw [← hw'];rfl
  have hout:w'.output=w.output:=by rw [← hw'];rfl
  clear hw' hcall h
  have hlent:∀ q,lent g [(1,Res.arr false 1 (l.map fun x=>[C.v (.int .i64 x)]) 0)] q↔q=b:=by
    intro q
    constructor
    · rintro ⟨i,r,hi,hq⟩
      have:=(Prod.mk.inj (List.mem_singleton.1 (lk_mem hi))).1
      subst this
      rw [hloc] at hq
      simpa [blk] using hq.symm
    · rintro rfl
      exact ⟨1,_,hb1,by rw [hloc];rfl⟩
  have hKb:∀ o,¬ g.K b o:=fun o h=>by have:=(hK o).1 h;omega
  have hcell:∀ q o,g.K q o→w'.cell? ⟨q,o,none⟩=w.cell? ⟨q,o,none⟩:=by
    intro q o h
    have hne:q≠b:=fun e=>hKb o (e ▸ h)
    unfold World.cell?
    simp only [hother q (hM.klt q o h) hne]
  have hlen2:((d.take m).map fun x=>[C.v (.int .i64 x)]).length=m:=by rw [List.length_map,List.length_take];omega
  have hlk':∀ i r,lk [(1,Res.arr false 1 ((d.take m).map fun x=>[C.v (.int .i64 x)]) 0)] i=some r→i=1∧r = .arr false 1 ((d.take m).map fun x=>[C.v (.int .i64 x)]) 0:=fun i r hi=>Prod.mk.inj (List.mem_singleton.1 (lk_mem hi))
  refine ⟨if ret then [.slice (some ⟨b,0,none⟩) m cap] else [],⟨g.K,fun _=>.slice (some ⟨b,0,none⟩) m cap⟩,?_,⟨⟨hos,htp,hout,hsize,fun q hq=>?_,hdr⟩,fun _ _ h=>h,fun _ _ h _=>h,fun q o h=>Nat.lt_of_lt_of_le (hM.klt q o h) hsize,fun i r hi=>?_,fun i j r r' hi hj hne=>?_,fun q o h=>hcell q o h⟩,?_,?_⟩
  · cases ret <;> rfl
  · exact hother q hq.1 (fun e=>hq.2 ((hlent q).2 e))
  · obtain ⟨rfl,rfl⟩:=hlk' i r hi
    rw [RR]
    refine .inr ⟨rfl,b,cap,_,E,?_,hB,hheap',?_,hmax,?_,Nat.zero_le _,?_,hK⟩
    · rw [hlen2]
    · rw [hlen2];omega
    · unfold Sort.putCells
      rw [Array.size_mapIdx];exact hsz
    · exact holds1_put _ _ hsz (by omega)
  · obtain ⟨rfl,_⟩:=hlk' i r hi
    obtain ⟨rfl,_⟩:=hlk' j r' hj
    exact absurd rfl hne
  · cases ret with
    | false=>rw [if_neg (by simp),if_neg (by simp),SRs]
    | true =>
      rw [if_pos rfl,if_pos rfl,SRs]
      refine ⟨_,_,rfl,?_,by rw [SRs]⟩
      rw [SR]
      intro _ _ _ _ _ _
      rfl
  · rw [SRs]
    refine ⟨_,_,rfl,?_,by rw [SRs]⟩
    split
    · rename_i hml
      rw [SR]
      intro _ _ _ _ _ _
      rw [hml]
    · rw [SR];trivial
end
end Go.VL
