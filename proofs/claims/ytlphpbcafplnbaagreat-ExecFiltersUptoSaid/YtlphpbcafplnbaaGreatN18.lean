/- Contracts of functions of the seat, proved in a logic on data over the model (part N18). -/
import Derived.Test.YtlphpbcafplnbaaGreatP10
import Derived.Test.YtlphpbcafplnbaaGreatV24
import Derived.Test.YtlphpbcafplnbaaGreatVN14
import Derived.Test.YtlphpbcafplnbaaGreatN15
import Derived.Test.YtlphpbcafplnbaaGreatR4
set_option linter.unusedSimpArgs false
set_option linter.unusedVariables false
namespace Go.Proofs.YtlphpbcafplnbaaGreat
open Go.VL Go.RowKit
structure Evt where
  f:Fact
  left:Bool
def Evt.cells (e:Evt):List C:=[.sl e.f.nl (vals e.f.row),i64 e.f.p.f,i64 e.f.p.t,bln e.left]
theorem evCmp_spec (a b:Evt):Con Tryz.prog 222 [.agg a.cells,.agg b.cells] [.c (i64 (cmpI a.f.p.f b.f.p.f))]:=by
  refine spec_of Tryz.func222 rfl (by kernel_rfl) (by simp [Tryz.f222]) (fun w0 K0=>vc_ok _ _ _ (by kernel_rfl) ?_)
  simp only [Tryz.f222]
  simp -dsimp [Evt.cells]
  refine VC.mk _ (compare_spec a.f.p.f b.f.p.f) ?_
  simp -dsimp
def evRow (a b:Evt):List (Nat × Res):=[(1,.arr false 4 [a.cells,b.cells] 0)]
abbrev evFn:S:=.c (.fn 222 [])
set_option maxRecDepth 4000 in
set_option maxHeartbeats 8000000 in
theorem evIns_spec (a b:Evt) (h:¬ cmpI b.f.p.f a.f.p.f<0):ConB Tryz.prog 227 [.own 1 2,.c (i64 0),.c (i64 2),evFn] (evRow a b) [] [.own 1 2,.c (i64 0),.c (i64 2),evFn] (evRow a b):=by
  refine spec_ofB 2 Tryz.func227 rfl (by kernel_rfl) (by simp [Tryz.f227]) (by simp [evRow]) rfl (fun w0 K0 uf=>vc_ok _ _ _ (by kernel_rfl) ?_)
  simp only [Tryz.f227]
  have hc:=evCmp_spec b a
  have w1:IntKind.i64.wrap (0+1)=1:=by decide
  have w2:IntKind.i64.wrap (1+1)=2:=by decide
  have w3:IntKind.i64.wrap (1-1)=0:=by decide
  have ea:a.cells=[.sl a.f.nl (vals a.f.row),i64 a.f.p.f,i64 a.f.p.t,bln a.left]:=rfl
  have eb:b.cells=[.sl b.f.nl (vals b.f.row),i64 b.f.p.f,i64 b.f.p.t,bln b.left]:=rfl
  rw [ea,eb] at hc
  simp -dsimp [initB,initEnv,pinsOf,evRow,ea,eb,w1]
  refine VL.rounds 2 (by kernel_rfl) ?_
  rw [vrounds]
  simp -dsimp
  refine VL.rounds 1 (by kernel_rfl) ?_
  rw [vrounds]
  simp -dsimp
  refine VL.draw (by kernel_rfl) [(0,false),(0,false),(3,true),(7,true),(15,false),(15,false),(15,false),(111,false),(239,false),(15,false),(15,false),(1039,false),(3599,false),(7695,false),(16383,true),(32767,true),(65535,true)] (by kernel_rfl) ?_
  simp -dsimp [w3]
  refine VG.mk _ _ (fun _=>hc) rfl ?_
  have hn:(decide (cmpI b.f.p.f a.f.p.f<0))=false:=by simpa using h
  simp -dsimp [hn,w2]
  simp [resEnd,pinsEnd,evRow,ea,eb]
theorem evStab_spec (a b:Evt) (h:¬ cmpI b.f.p.f a.f.p.f<0):ConB Tryz.prog 225 [.own 1 2,.c (i64 2),evFn] (evRow a b) [] [.own 1 2,.c (i64 2),evFn] (evRow a b):=by
  refine spec_ofB 2 Tryz.func225 rfl (by kernel_rfl) (by simp [Tryz.f225]) (by simp [evRow]) rfl (fun w0 K0 uf=>vc_ok _ _ _ (by kernel_rfl) ?_)
  simp only [Tryz.f225]
  simp -dsimp [initB,initEnv,pinsOf,evRow]
  refine VL.rounds 1 (by kernel_rfl) ?_
  simp -dsimp
  refine VCL.lend (evRow a b) (evRow a b) [.own 1 2,.c (i64 0),.c (i64 2),evFn] _ _ id [] ⟨evIns_spec a b h,?_,?_,?_,?_,?_,?_,?_⟩ ?_
  · simp [renSs,renS]
  · simp [evRow,renR]
  · simp [evRow]
  · simp [evRow]
  · simp [evRow,Res.nam]
  · simp [S.nams,S.nam]
  · simp [evRow,lk,keptP]
    exact ⟨4,_,⟨rfl,rfl⟩,_,⟨rfl,rfl⟩,rfl,rfl⟩
  simp -dsimp [evRow,retS,renSs]
  refine VL.rounds 1 (by kernel_rfl) ?_
  simp -dsimp [resEnd,pinsEnd,evRow]
theorem evSort_spec (a b:Evt) (h:¬ cmpI b.f.p.f a.f.p.f<0):ConB Tryz.prog 221 [.own 1 2,evFn] (evRow a b) [] [.own 1 2,evFn] (evRow a b):=by
  refine spec_ofB 2 Tryz.func221 rfl (by kernel_rfl) (by simp [Tryz.f221]) (by simp [evRow]) rfl (fun w0 K0 uf=>vc_ok _ _ _ (by kernel_rfl) ?_)
  simp only [Tryz.f221]
  simp -dsimp [initB,initEnv,pinsOf,evRow]
  refine VCL.lend (evRow a b) (evRow a b) [.own 1 2,.c (i64 2),evFn] _ _ id [] ⟨evStab_spec a b h,?_,?_,?_,?_,?_,?_,?_⟩ ?_
  · simp [renSs,renS]
  · simp [evRow,renR]
  · simp [evRow]
  · simp [evRow]
  · simp [evRow,Res.nam]
  · simp [S.nams,S.nam]
  · simp [evRow,lk,keptP]
    exact ⟨4,_,⟨rfl,rfl⟩,_,⟨rfl,rfl⟩,rfl,rfl⟩
  simp -dsimp [evRow,retS,renSs]
theorem evEnd_spec (f:Fact) (e:Evt):Con Tryz.prog 224 [.agg f.cells,.c (.dp e.cells)] [.c (bln (decide (f.p.t≤e.f.p.f)))]:=by
  refine spec_of Tryz.func224 rfl (by kernel_rfl) (by simp [Tryz.f224]) (fun w0 K0=>vc_ok _ _ _ (by kernel_rfl) ?_)
  simp only [Tryz.f224]
  simp -dsimp [Evt.cells,Fact.cells]
abbrev evG (e:Evt):S:=.c (.fn 224 [.dp e.cells])
theorem evIdx_nil (e:Evt) (nl:Bool):Con Tryz.prog 226 [.c (.sl nl []),evG e] [.c (i64 (-1))]:=by
  refine spec_of Tryz.func226 rfl (by kernel_rfl) (by simp [Tryz.f226]) (fun w0 K0=>vc_ok _ _ _ (by kernel_rfl) ?_)
  simp only [Tryz.f226]
  simp -dsimp
  refine VL.rounds 1 (by kernel_rfl) ?_
  simp -dsimp
theorem evIdx_one (e:Evt) (f:Fact) (h:¬ f.p.t≤e.f.p.f):Con Tryz.prog 226 [.c (.sl false [f.cells]),evG e] [.c (i64 (-1))]:=by
  refine spec_of Tryz.func226 rfl (by kernel_rfl) (by simp [Tryz.f226]) (fun w0 K0=>vc_ok _ _ _ (by kernel_rfl) ?_)
  simp only [Tryz.f226]
  have w1:IntKind.i64.wrap (0+1)=1:=by decide
  have hc:f.cells=[.sl f.nl (vals f.row),i64 f.p.f,i64 f.p.t]:=rfl
  have he:=evEnd_spec f e
  rw [hc] at he
  simp -dsimp
  refine VL.rounds 2 (by kernel_rfl) ?_
  simp -dsimp [w1,hc]
  refine VC.mk _ he ?_
  simp -dsimp [h]
theorem evDel_nil (e:Evt) (nl:Bool):Con Tryz.prog 223 [.c (.sl nl []),evG e] [.c (.sl nl [])]:=by
  refine spec_of Tryz.func223 rfl (by kernel_rfl) (by simp [Tryz.f223]) (fun w0 K0=>vc_ok _ _ _ (by kernel_rfl) ?_)
  simp only [Tryz.f223]
  simp -dsimp
  refine VC.mk _ (evIdx_nil e nl) ?_
  simp -dsimp
theorem evDel_one (e:Evt) (f:Fact) (h:¬ f.p.t≤e.f.p.f):Con Tryz.prog 223 [.c (.sl false [f.cells]),evG e] [.c (.sl false [f.cells])]:=by
  refine spec_of Tryz.func223 rfl (by kernel_rfl) (by simp [Tryz.f223]) (fun w0 K0=>vc_ok _ _ _ (by kernel_rfl) ?_)
  simp only [Tryz.f223]
  simp -dsimp
  refine VC.mk _ (evIdx_one e f h) ?_
  simp -dsimp
set_option maxRecDepth 4000 in
set_option maxHeartbeats 32000000 in
theorem swpRun_spec (oa ob:Opt) (x y:Fact) (hra:RunCon oa) (hrb:RunCon ob) (ha:oa.out=[x]) (hb:ob.out=[y]) (hl:lapOk x.p y.p=true) (hxy:x.p.f≤y.p.f) (hr:x.row.length+y.row.length≤4398046511104) :
    Con Tryz.prog 220 [.agg [.ifc oa.tc.1 oa.tc.2,.ifc ob.tc.1 ob.tc.2]] [.c (.sl false (facts [bothF x y]))]:=by
  refine Con.frz (rs:=[.fr false 3 (facts [bothF x y]) 0]) ?_ 0 rfl
  refine spec_of Tryz.func220 rfl (by kernel_rfl) (by simp [Tryz.f220]) (fun w0 K0=>vc_ok _ _ _ (by kernel_rfl) ?_)
  simp only [Tryz.f220]
  have hlo:=hl
  rw [lapOk_eq,Bool.and_eq_true,Bool.and_eq_true,Bool.and_eq_true,decide_eq_true_eq,decide_eq_true_eq] at hl
  obtain ⟨hrx,hry,hl1,hl2⟩:=hl
  have hB:=both_spec x y hr
  have hcx:x.cells=[.sl x.nl (vals x.row),i64 x.p.f,i64 x.p.t]:=rfl
  have hcy:y.cells=[.sl y.nl (vals y.row),i64 y.p.f,i64 y.p.t]:=rfl
  have hcb:(bothF x y).cells=[.sl (bothF x y).nl (vals (bothF x y).row),i64 (bothF x y).p.f,i64 (bothF x y).p.t]:=rfl
  rw [hcx,hcy,hcb,hlo] at hB
  have hckx:checkOf x.p=0:=by unfold checkOf;rw [hrx];rfl
  have hcky:checkOf y.p=0:=by unfold checkOf;rw [hry];rfl
  unfold RunCon at hra hrb
  rw [ha] at hra
  rw [hb] at hrb
  have w1:IntKind.i64.wrap (0+1)=1:=by decide
  have w2:IntKind.i64.wrap (1+1)=2:=by decide
  have hcm:¬ cmpI y.p.f x.p.f<0:=by unfold cmpI;split <;> (try split) <;> omega
  simp -dsimp
  refine VI.mk0 (.agg oa.tc.2) oa.tc.1 oa.fn _ rfl oa.meth hra ?_
  simp -dsimp
  refine VL.rounds 2 (by kernel_rfl) ?_
  simp -dsimp [hcx,w1,maxLen]
  refine VI.mk0 (.agg ob.tc.2) ob.tc.1 ob.fn _ rfl ob.meth hrb ?_
  simp -dsimp
  refine VL.rounds 2 (by kernel_rfl) ?_
  simp -dsimp [hcy,w1,w2,maxLen]
  refine VCL.lend (evRow ⟨x,true⟩ ⟨y,false⟩) (evRow ⟨x,true⟩ ⟨y,false⟩) [.own 1 2,evFn] _ _ (fun _=>192) [] ⟨evSort_spec ⟨x,true⟩ ⟨y,false⟩ hcm,?_,?_,?_,?_,?_,?_,?_⟩ ?_
  · simp [renSs,renS]
  · simp [evRow,renR,Evt.cells]
  · simp [evRow]
  · simp [evRow]
  · simp [evRow,Res.nam]
  · simp [S.nams,S.nam]
  · simp [evRow,lk,keptP]
    exact ⟨4,_,⟨rfl,rfl⟩,_,⟨rfl,rfl⟩,rfl,rfl⟩
  simp -dsimp [evRow,retS,renSs,renR,Evt.cells]
  refine VL.rounds 3 (by kernel_rfl) ?_
  simp -dsimp [w1,w2,vlkR_map (t:=310) (h1:=ft_mpT_310) (h2:=ft_zeroOf_22),vmuR_map (t:=310) (h1:=ft_mpT_310),findK,lkS,kfits,putK]
  refine VC.mk _ (evDel_nil ⟨x,true⟩ true) ?_
  simp -dsimp [w1,w2,vlkR_map (t:=310) (h1:=ft_mpT_310) (h2:=ft_zeroOf_22),vmuR_map (t:=310) (h1:=ft_mpT_310),findK,lkS,kfits,keq,putK,entC,maxLen,MB.clr,MB.map,MB.men,MB.cells]
  refine VL.rounds 1 (by kernel_rfl) ?_
  simp -dsimp [w1,w2,vlkR_map (t:=310) (h1:=ft_mpT_310) (h2:=ft_zeroOf_22),vmuR_map (t:=310) (h1:=ft_mpT_310),findK,lkS,kfits,keq,putK,entC,maxLen,MB.clr,MB.map,MB.men,MB.cells]
  refine VC.mk _ (check_at _ x.p rfl) ?_
  simp -dsimp [hckx,w1,w2,vlkR_map (t:=310) (h1:=ft_mpT_310) (h2:=ft_zeroOf_22),vmuR_map (t:=310) (h1:=ft_mpT_310),findK,lkS,kfits,keq,putK,entC,maxLen,MB.clr,MB.map,MB.men,MB.cells]
  refine VL.draw (by kernel_rfl) [(0,false),(0,false),(2,false),(0,false),(0,false),(16,false),(56,false),(0,false),(128,false),(384,false),(1016,false),(2047,true)] (by kernel_rfl) ?_
  simp -dsimp [w1,w2,vlkR_map (t:=310) (h1:=ft_mpT_310) (h2:=ft_zeroOf_22),vmuR_map (t:=310) (h1:=ft_mpT_310),findK,lkS,kfits,keq,putK,entC,maxLen,MB.clr,MB.map,MB.men,MB.cells]
  refine VCL.snap ?_
  simp -dsimp
  refine VC.mk _ (evDel_one ⟨y,false⟩ x (by simp only;omega)) ?_
  simp -dsimp [hcx,w1,w2,vlkR_map (t:=310) (h1:=ft_mpT_310) (h2:=ft_zeroOf_22),vmuR_map (t:=310) (h1:=ft_mpT_310),findK,lkS,kfits,keq,putK,entC,maxLen,MB.clr,MB.map,MB.men,MB.cells]
  refine VL.rounds 2 (by kernel_rfl) ?_
  simp -dsimp [w1,w2,vlkR_map (t:=310) (h1:=ft_mpT_310) (h2:=ft_zeroOf_22),vmuR_map (t:=310) (h1:=ft_mpT_310),findK,lkS,kfits,keq,putK,entC,maxLen,MB.clr,MB.map,MB.men,MB.cells]
  refine VL.draw (by kernel_rfl) [(0,false),(1,false),(0,false),(0,false),(0,false),(27,false),(63,true)] (by kernel_rfl) ?_
  simp -dsimp [w1,w2,vlkR_map (t:=310) (h1:=ft_mpT_310) (h2:=ft_zeroOf_22),vmuR_map (t:=310) (h1:=ft_mpT_310),findK,lkS,kfits,keq,putK,entC,maxLen,MB.clr,MB.map,MB.men,MB.cells]
  refine ⟨by kernel_rfl,?_⟩
  refine VL.draw (by kernel_rfl) [(0,false),(0,false),(2,false),(1,false),(15,true)] (by kernel_rfl) ?_
  simp -dsimp [w1,w2,vlkR_map (t:=310) (h1:=ft_mpT_310) (h2:=ft_zeroOf_22),vmuR_map (t:=310) (h1:=ft_mpT_310),findK,lkS,kfits,keq,putK,entC,maxLen,MB.clr,MB.map,MB.men,MB.cells]
  refine VC.mk _ hB ?_
  simp -dsimp [w1,w2,vlkR_map (t:=310) (h1:=ft_mpT_310) (h2:=ft_zeroOf_22),vmuR_map (t:=310) (h1:=ft_mpT_310),findK,lkS,kfits,keq,putK,entC,maxLen,MB.clr,MB.map,MB.men,MB.cells]
  refine VC.mk _ (check_at _ y.p rfl) ?_
  simp -dsimp [hcky,w1,w2,vlkR_map (t:=310) (h1:=ft_mpT_310) (h2:=ft_zeroOf_22),vmuR_map (t:=310) (h1:=ft_mpT_310),findK,lkS,kfits,keq,putK,entC,maxLen,MB.clr,MB.map,MB.men,MB.cells]
  refine VL.to ⟨[(9,.mp 3264),(11,.ptr 704 0),(54,.c (.v (.int .i64 1))),(53,.c (.v (.int .i64 2))),(52,.own 192 2),(8,.own 512 1)],
    [(704,some (.box true [.c (.sl y.nl (vals y.row)),.c (i64 y.p.f),.c (i64 y.p.t),.c (bln false)])),(3264,some (.map (.ents [(.bool false,[.c (.sl true [])]),(.bool true,[.c (.sl false [[.sl x.nl (vals x.row),i64 x.p.f,i64 x.p.t]])])]))),
      (192,some (.arr false 4 [[.sl x.nl (vals x.row),i64 x.p.f,i64 x.p.t,bln true],[.sl y.nl (vals y.row),i64 y.p.f,i64 y.p.t,bln false]] 0)),(512,some (.arr false 3 [[.sl (bothF x y).nl (vals (bothF x y).row),i64 (bothF x y).p.f,i64 (bothF x y).p.t]] 0))]⟩ (by simp [St.le]) ?_
  refine VL.draw (by kernel_rfl) [(0,false),(0,false),(2,false),(0,false),(0,false),(16,false),(56,false),(0,false),(128,false),(384,false),(1016,false),(2047,true)] (by kernel_rfl) ?_
  simp -dsimp [w1,w2,vlkR_map (t:=310) (h1:=ft_mpT_310) (h2:=ft_zeroOf_22),vmuR_map (t:=310) (h1:=ft_mpT_310),findK,lkS,kfits,keq,putK,entC,maxLen,MB.clr,MB.map,MB.men,MB.cells]
  exact rfl
set_option maxRecDepth 4000 in
set_option maxHeartbeats 32000000 in
theorem idxRun_spec (SI:SortsI) (oa ob:Opt) (x y:Fact) (hra:RunCon oa) (hrb:RunCon ob) (ha:oa.out=[x]) (hb:ob.out=[y]) (hx:x.p=⟨0,5⟩) (hy:y.p=⟨3,9⟩) (hr:x.row.length+y.row.length≤4398046511104) :
    Con Tryz.prog 231 [.agg [.ifc oa.tc.1 oa.tc.2,.ifc ob.tc.1 ob.tc.2]] [.c (.sl false (facts [bothF x y]))]:=by
  refine Con.frz (rs:=[.fr false 3 (facts [bothF x y]) 0]) ?_ 0 rfl
  refine spec_of Tryz.func231 rfl (by kernel_rfl) (by simp [Tryz.f231]) (fun w0 K0=>vc_ok _ _ _ (by kernel_rfl) ?_)
  simp only [Tryz.f231]
  have hB:=both_spec x y hr
  have hcx:x.cells=[.sl x.nl (vals x.row),i64 0,i64 5]:=by unfold Fact.cells;rw [hx]
  have hcy:y.cells=[.sl y.nl (vals y.row),i64 3,i64 9]:=by unfold Fact.cells;rw [hy]
  have hcb:(bothF x y).cells=[.sl (bothF x y).nl (vals (bothF x y).row),i64 (bothF x y).p.f,i64 (bothF x y).p.t]:=rfl
  have hlo:lapOk x.p y.p=true:=by rw [hx,hy];decide
  rw [hcx,hcy,hcb,hlo] at hB
  unfold RunCon at hra hrb
  rw [ha] at hra
  rw [hb] at hrb
  have w1:IntKind.i64.wrap (0+1)=1:=by decide
  simp -dsimp
  refine VI.mk0 (.agg ob.tc.2) ob.tc.1 ob.fn _ rfl ob.meth hrb ?_
  simp -dsimp
  refine VC.lend [] (rt0 1088 384 385 640 641 960) [] _ _ (fun i=>if i=1088 then 1280 else if i=384 then 1281 else if i=385 then 1282 else if i=640 then 1283 else if i=641 then 1284 else 1285) [1280,1281,1282,1283,1284,1285] ⟨rtNew_spec,?_,?_,?_,?_,?_,?_,?_⟩ ?_
  · simp [renSs]
  · simp
  · simp [rt0]
  · simp
  · simp [rt0,Res.nam,S.nams,S.nam,MB.cells]
  · simp [S.nams,S.nam,rt0]
  · simp [rt0]
  simp -dsimp [rt0,retS,renSs,renS,renR]
  refine VL.rounds 2 (by kernel_rfl) ?_
  simp -dsimp [hcy,w1]
  refine VCL.lend (rt0 1 2 3 4 5 6) rt1 [.ptr 1 0,.c (i64 0),.agg [i64 3,i64 9]] _ _ (fun i=>if i=1 then 1280 else if i=2 then 1281 else if i=3 then 1282 else if i=4 then 1283 else if i=5 then 1284 else 1285) [1281,1282,1283,1284,1285] ⟨rtAdd_spec,?_,?_,?_,?_,?_,?_,?_⟩ ?_
  · simp [renSs,renS]
  · simp [rt0,renR,renSs,renS]
    rfl
  · simp [rt1]
  · simp [rt0,rt1]
  · simp [rt1,Res.nam,S.nams,S.nam,MB.cells]
  · simp [S.nams,S.nam]
  · simp [rt0,rt1,lk,keptP]
  simp -dsimp [rt1,retS,renSs,renS,renR,MB.clr,MB.map]
  refine VI.mk0 (.agg oa.tc.2) oa.tc.1 oa.fn _ rfl oa.meth hra ?_
  simp -dsimp [MB.clr,MB.map]
  refine VL.fixcell 1281 1 1282 ?_
  simp -dsimp
  refine VL.fixcell 1280 0 1281 ?_
  simp -dsimp
  refine VL.fixcell 1283 1 1284 ?_
  simp -dsimp
  refine VL.fixcell 1280 1 1283 ?_
  simp -dsimp
  refine VL.rounds 2 (by kernel_rfl) ?_
  simp -dsimp [hcx,w1]
  refine VCL.lend rtD (rtD++[(577,.arr false 1 [[i64 0]] 0)]) [.ptr 1 0,.agg [i64 0,i64 5]] _ _ (fun i=>if i=1 then 1280 else if i=6 then 1285 else 3008) [1285,3008] ⟨overlap_05 SI,?_,?_,?_,?_,?_,?_,?_⟩ ?_
  · simp [renSs,renS]
  · simp [rtD,renR,renSs,renS]
    exact ⟨⟨rfl,rfl⟩,rfl⟩
  · simp [rtD]
  · simp [rtD]
  · simp [rtD,Res.nam,S.nams,S.nam,MB.cells]
  · simp [S.nams,S.nam,rtD]
  · simp [rtD,lk,keptP]
  simp -dsimp [rtD,retS,renSs,renS,renR,MB.clr,MB.map]
  refine VL.rounds 2 (by kernel_rfl) ?_
  simp -dsimp
  refine VL.draw (by kernel_rfl) [(0,false),(0,false),(0,false),(6,false),(14,false),(31,false),(63,false),(127,false),(127,false),(0,false),(767,false),(2047,true)] (by kernel_rfl) ?_
  simp -dsimp
  refine VCE.mk _ hB ?_
  simp -dsimp [w1,maxLen,MB.clr,MB.map,MB.men,MB.cells]
  exact ⟨by kernel_rfl,rfl⟩
set_option maxRecDepth 4000 in
set_option maxHeartbeats 16000000 in
theorem ptsRun_spec (oa ob:Opt) (x y:Fact) (hra:RunCon oa) (hrb:RunCon ob) (ha:oa.out=[x]) (hb:ob.out=[y]) (hl:lapOk x.p y.p=true) (hr:x.row.length+y.row.length≤4398046511104) :
    Con Tryz.prog 273 [.agg [.ifc oa.tc.1 oa.tc.2,.ifc ob.tc.1 ob.tc.2]] [.c (.sl false (facts [bothF x y]))]:=by
  refine Con.frz (rs:=[.fr false 3 (facts [bothF x y]) 0]) ?_ 0 rfl
  refine spec_of Tryz.func273 rfl (by kernel_rfl) (by simp [Tryz.f273]) (fun w0 K0=>vc_ok _ _ _ (by kernel_rfl) ?_)
  simp only [Tryz.f273]
  rw [lapOk_eq,Bool.and_eq_true,Bool.and_eq_true,Bool.and_eq_true,decide_eq_true_eq,decide_eq_true_eq] at hl
  obtain ⟨hrx,hry,hl1,hl2⟩:=hl
  have hx:=(right_iff x.p).1 hrx
  have hy:=(right_iff y.p).1 hry
  have hB:=both_spec x y hr
  have hlo:lapOk x.p y.p=true:=by rw [lapOk_eq,hrx,hry];simp [hl1,hl2]
  have hcx:x.cells=[.sl x.nl (vals x.row),i64 x.p.f,i64 x.p.t]:=rfl
  have hcy:y.cells=[.sl y.nl (vals y.row),i64 y.p.f,i64 y.p.t]:=rfl
  have hcb:(bothF x y).cells=[.sl (bothF x y).nl (vals (bothF x y).row),i64 (bothF x y).p.f,i64 (bothF x y).p.t]:=rfl
  rw [hcx,hcy,hcb,hlo] at hB
  have hckx:checkOf x.p=0:=by unfold checkOf;rw [hrx];rfl
  have hcky:checkOf y.p=0:=by unfold checkOf;rw [hry];rfl
  unfold RunCon at hra hrb
  rw [ha] at hra
  rw [hb] at hrb
  have w1:IntKind.i64.wrap (0+1)=1:=by decide
  have w2:IntKind.i64.wrap (x.p.t-1)=x.p.t-1:=IntWalk.i64_in _ (by omega)
  have w3:IntKind.i64.wrap (x.p.f+1)=x.p.f+1:=IntWalk.i64_in _ (by omega)
  simp -dsimp
  refine VI.mk0 (.agg ob.tc.2) ob.tc.1 ob.fn _ rfl ob.meth hrb ?_
  simp -dsimp
  refine VC.lend [] ps0 [] [.ptr 192 0] [] (fun i=>if i=192 then 1152 else 1153) [1152,1153] ⟨psNew_spec,?_,?_,?_,?_,?_,?_,?_⟩ ?_
  · simp [renSs]
  · simp
  · simp [ps0]
  · simp
  · simp [ps0,Res.nam,S.nams,S.nam,MB.cells]
  · simp [S.nams,S.nam,ps0]
  · simp [ps0]
  simp -dsimp [ps0,retS,renSs,renS,renR]
  refine VL.rounds 2 (by kernel_rfl) ?_
  simp -dsimp [hcy,w1]
  refine VC.mk _ (check_at _ y.p rfl) ?_
  simp -dsimp [hcky]
  refine VCL.lend psA (psB y.p.f y.p.t 0) [.ptr 1 0,.agg [i64 y.p.f,i64 y.p.t,i64 0]] _ _ (fun i=>if i=1 then 1152 else if i=2 then 1153 else 2496) [1153,2496] ⟨psAdd_spec y.p.f y.p.t 0,?_,?_,?_,?_,?_,?_,?_⟩ ?_
  · simp [renSs,renS]
  · simp [psA,renR,renSs,renS]
    rfl
  · simp [psB]
  · simp [psA,psB]
  · simp [psB,Res.nam,S.nams,S.nam,MB.cells]
  · simp [S.nams,S.nam,psB]
  · simp [psA,psB,lk,keptP]
  simp -dsimp [psB,retS,renSs,renS,renR,MB.clr,MB.map]
  refine VI.mk0 (.agg oa.tc.2) oa.tc.1 oa.fn _ rfl oa.meth hra ?_
  simp -dsimp [MB.clr,MB.map]
  refine VL.rounds 2 (by kernel_rfl) ?_
  simp -dsimp [hcx,w1]
  refine VC.mk _ (check_at _ x.p rfl) ?_
  simp -dsimp [hckx,w2,w3]
  refine VCL.lend (psT y.p.f y.p.t 0) (psT y.p.f y.p.t 0++[(577,.arr false 3 [[i64 y.p.f,i64 y.p.t,i64 0]] 0)]) [.ptr 1 0,.c (i64 0),.c (i64 (x.p.t-1)),.c (i64 (x.p.f+1))] _ _ (fun i=>if i=1 then 1152 else if i=2 then 1153 else if i=3 then 2496 else 4032) [1153,2496,4032] ⟨psFindT y.p.f y.p.t 0 0 (x.p.t-1) (x.p.f+1) (by omega) (by omega) (by omega),?_,?_,?_,?_,?_,?_,?_⟩ ?_
  · simp [renSs,renS]
  · simp [psT,renR,renSs,renS]
    rfl
  · simp [psT]
  · simp [psT]
  · simp [psT,Res.nam,S.nams,S.nam,MB.cells]
  · simp [S.nams,S.nam,psT]
  · simp [psT,lk,keptP]
  simp -dsimp [psT,retS,renSs,renS,renR,MB.clr,MB.map]
  refine VL.rounds 2 (by kernel_rfl) ?_
  simp -dsimp
  refine VL.draw (by kernel_rfl) [(0,false),(0,false),(0,false),(4,false),(14,false),(30,false),(63,false),(127,false),(255,false),(255,false),(0,false),(1535,false),(4095,true)] (by kernel_rfl) ?_
  simp -dsimp
  refine VCE.mk _ hB ?_
  simp -dsimp [w1,maxLen,MB.clr,MB.map,MB.men,MB.cells]
  exact ⟨by kernel_rfl,rfl⟩
set_option maxRecDepth 4000 in
set_option maxHeartbeats 4000000 in
theorem result_at {sortP:List Per→List Per} (hs:Sorts sortP) (hi:SortsI) (hf:SortsF) (t:TypeId) (cs:List C) (fn:FuncId) (hm:methOf Tryz.prog t "annals/exec.run" = some fn) (nl:Bool) (l:List Fact) (hrun:Con Tryz.prog fn [.agg cs] [.c (.sl nl (facts l))]) (hl:l.length≤3518437208883) (hr:Rows1 l) :
    Con Tryz.prog 20 [.c (.ifc t cs)] [.c (.sl (normalL sortP l).isEmpty (facts (normalL sortP l)))]:=by
  refine spec_of Tryz.func20 rfl (by kernel_rfl) (by simp [Tryz.f20]) (fun w0 K0=>vc_ok _ _ _ (by kernel_rfl) ?_)
  simp only [Tryz.f20]
  simp -dsimp
  refine VI.mk0 (.agg cs) t fn _ rfl hm hrun ?_
  simp -dsimp
  have hcg:=catG_leq hs l
  refine ⟨by decide,VCL.snap ?_⟩
  simp -dsimp
  refine VC.mk _ (normal_one hs hi hf false nl _ l rfl hl hr (by omega)) ?_
  simp -dsimp
theorem normal_single2 {sortP:List Per→List Per} (hs:Sorts sortP) (f:Fact) (h:right f.p=true):∃ g,normalL sortP [f]=[g]∧g.row=f.row∧g.p=f.p:=by
  obtain ⟨g,h1,h2⟩:=normal_single hs f h
  refine ⟨g,h1,h2,?_⟩
  have hb:=(right_iff f.p).1 h
  have hv:∀ t,validAt g t=validAt f t:=fun t=>by
    have h3:=normal_cnt hs [f] f.row t
    rw [h1] at h3
    unfold cnt at h3
    cases e1:validAt g t <;> cases e2:validAt f t <;> simp [h2,e1,e2] at h3 <;> rfl
  have hf:∀ t,f.p.f≤t→t<f.p.t→right g.p=true∧g.p.f≤t∧t<g.p.t:=fun t a b=>by
    have:validAt f t=true:=by unfold validAt;rw [h,Bool.true_and,has_iff];exact ⟨a,b⟩
    rw [← hv t] at this
    unfold validAt at this
    rw [Bool.and_eq_true,has_iff] at this
    exact this
  have h4:=hf f.p.f (by omega) hb.2.1
  have hgb:=(right_iff g.p).1 h4.1
  have hg:∀ t,g.p.f≤t→t<g.p.t→f.p.f≤t∧t<f.p.t:=fun t a b=>by
    have:validAt g t=true:=by unfold validAt;rw [h4.1,Bool.true_and,has_iff];exact ⟨a,b⟩
    rw [hv t] at this
    unfold validAt at this
    rw [Bool.and_eq_true,has_iff] at this
    exact this.2
  have h5:=hf (f.p.t-1) (by omega) (by omega)
  have h6:=hg g.p.f (by omega) (by omega)
  have h7:=hg (g.p.t-1) (by omega) (by omega)
  have e1:g.p.f=f.p.f:=by omega
  have e2:g.p.t=f.p.t:=by omega
  cases hgp:g.p;cases hfp:f.p
  rw [hgp,hfp] at e1 e2
  simp at e1 e2
  rw [e1,e2]
theorem fact18_spec (n f t:Int):Con Tryz.prog 48 [.c (i64 n),.c (i64 f),.c (i64 t)] [.ag (⟨false,[⟨1,n,[]⟩],⟨f,t⟩⟩:Fact).cells]:=by
  refine spec_of Tryz.func48 rfl (by kernel_rfl) (by simp [Tryz.f48]) (fun w0 K0=>vc_ok _ _ _ (by kernel_rfl) ?_)
  simp only [Tryz.f48]
  simp -dsimp [Fact.cells,Val.cells,maxLen]
set_option maxRecDepth 4000 in
set_option maxHeartbeats 4000000 in
theorem join_2 (a b:Opt):Con Tryz.prog 15 [.c a.c,.c b.c,.c (i64 2)] [.c (.ifc 126 [a.c,b.c]),.c (i64 0)]:=by
  refine spec_of Tryz.func15 rfl (by kernel_rfl) (by simp [Tryz.f15]) (fun w0 K0=>vc_ok _ _ _ (by kernel_rfl) ?_)
  simp only [Tryz.f15]
  simp -dsimp [Opt.c,Opt.tc]
set_option maxRecDepth 4000 in
set_option maxHeartbeats 4000000 in
theorem join_3 (a b:Opt):Con Tryz.prog 15 [.c a.c,.c b.c,.c (i64 3)] [.c (.ifc 127 [a.c,b.c]),.c (i64 0)]:=by
  refine spec_of Tryz.func15 rfl (by kernel_rfl) (by simp [Tryz.f15]) (fun w0 K0=>vc_ok _ _ _ (by kernel_rfl) ?_)
  simp only [Tryz.f15]
  simp -dsimp [Opt.c,Opt.tc]
set_option maxRecDepth 4000 in
set_option maxHeartbeats 4000000 in
theorem join_4 (a b:Opt):Con Tryz.prog 15 [.c a.c,.c b.c,.c (i64 4)] [.c (.ifc 128 [a.c,b.c]),.c (i64 0)]:=by
  refine spec_of Tryz.func15 rfl (by kernel_rfl) (by simp [Tryz.f15]) (fun w0 K0=>vc_ok _ _ _ (by kernel_rfl) ?_)
  simp only [Tryz.f15]
  simp -dsimp [Opt.c,Opt.tc]
theorem shiftK_snoc (first:Int) (l:List Fact) {k:Nat} (h:k<l.length):shiftK first (l.take (k+1))=shiftK first (l.take k)++[mkF (shR first l[k].row) l[k].p]:=by
  unfold shiftK;rw [take_snoc h,List.map_append];rfl
theorem shiftD_snoc (first:Int) (l:List Fact) {k:Nat} (h:k<l.length):shiftD first (l.take (k+1))=shiftD first (l.take k)++[⟨false,shR first l[k].row,l[k].p⟩]:=by
  unfold shiftD;rw [take_snoc h,List.map_append];rfl
theorem shiftK_len (first:Int) (l:List Fact):(shiftK first l).length=l.length:=by unfold shiftK;simp
theorem shiftD_len (first:Int) (l:List Fact):(shiftD first l).length=l.length:=by unfold shiftD;simp
theorem shN_eq (first:Int) (n:Nat):((shN first n:Nat):Int)=min (max first 0) n:=by unfold shN;omega
theorem shiftOp_spec (t:TypeId) (cs:List C) (first:Int):Con Tryz.prog 21 [.c (.ifc t cs),.c (i64 first)] [.c (.ifc 141 [.ifc t cs,i64 first])]:=by
  refine spec_of Tryz.func21 rfl (by kernel_rfl) (by simp [Tryz.f21]) (fun w0 K0=>vc_ok _ _ _ (by kernel_rfl) ?_)
  simp only [Tryz.f21]
  simp -dsimp
set_option maxRecDepth 4000 in
set_option maxHeartbeats 16000000 in
theorem shiftRun_spec (o:Opt) (first:Int) (hr:RunCon o) (hol:o.out.length≤3518437208883) (hrow:∀ f∈o.out,f.row.length≤4398046511104) :
    Con Tryz.prog 282 [.agg [.ifc o.tc.1 o.tc.2,i64 first]] [.c (.sl o.out.isEmpty (facts (shiftK first o.out)))]:=by
  refine Con.frz (rs:=[.fr o.out.isEmpty (if o.out.isEmpty then 0 else 3) (facts (shiftK first o.out)) 0]) ?_ 0 rfl
  refine spec_of Tryz.func282 rfl (by kernel_rfl) (by simp [Tryz.f282]) (fun w0 K0=>vc_ok _ _ _ (by kernel_rfl) ?_)
  simp only [Tryz.f282]
  simp -dsimp
  refine VI.mk0 (.agg o.tc.2) o.tc.1 o.fn _ rfl o.meth hr ?_
  simp -dsimp
  generalize o.out=l at *
  refine VL.loop (fun i:KI=>⟨[(12,.c (i64 i.k)),(11,.c (i64 l.length)),(10,.c (.sl o.nl (facts l))),(1,.ptr 64 0),(3,.own 192 (shiftK first (l.take i.k)).length)],[(64,some (.box false [.c (.ifc o.tc.1 o.tc.2),.c (i64 first)])),(192,some (.arr i.nl i.sz (facts (shiftK first (l.take i.k))) 0))]⟩)
    (fun i=>i.k≤l.length∧i.nl=(l.take i.k).isEmpty∧i.sz=if i.nl then 0 else 3) (fun i=>l.length-i.k) ⟨0,true,0⟩ (by kernel_rfl) ⟨by simp,rfl,rfl⟩ (by simp [St.le,shiftK]) ?_
  intro ⟨k,z,sz⟩ ⟨hk,hz,hsz⟩
  simp only at hk hz hsz
  by_cases h1:k<l.length
  · have hw:IntKind.i64.wrap ((k:Int)+1)=(k:Int)+1:=IntWalk.i64_in _ (by omega)
    have hsn:=shiftK_snoc first l h1
    have hlen:(shiftK first (l.take k)).length=k:=by rw [shiftK_len,List.length_take];omega
    have hrk:=hrow l[k] (List.getElem_mem h1)
    have hn:=shN_eq first l[k].row.length
    have hnl:=shN_le first l[k].row.length
    have hR:shR first l[k].row=l[k].row.drop (shN first l[k].row.length)++l[k].row.take (shN first l[k].row.length):=rfl
    simp -dsimp [h1,hw,Fact.cells]
    refine VL.draw (by kernel_rfl) [(0,false),(0,false),(2,false),(0,false),(14,false),(0,false),(32,false),(0,false),(224,false),(510,false),(1022,false),(0,false),(2048,false),(8190,false),(16382,false),(32767,true),(65535,true)] (by kernel_rfl) ?_
    simp -dsimp [h1,hw,Fact.cells,← hn]
    refine ⟨hnl,by decide,VCE.mk _ (concatV_at false _ l[k].nl l[k].nl (l[k].row.drop (shN first l[k].row.length)) (l[k].row.take (shN first l[k].row.length)) ?_ (by simp;omega)) ?_⟩
    · rw [List.take_of_length_le (by simp)]
      simp
    rw [← hR]
    simp -dsimp [h1,hw,Fact.cells,← hn,maxLen]
    refine ⟨fun e=>by rw [hsz,e];rfl,by omega,⟨k+1,false,3⟩,⟨by simp only;omega,?_,rfl⟩,?_,by simp only;omega⟩
    · show false=(l.take (k+1)).isEmpty
      rw [take_snoc h1]
      cases l.take k <;> rfl
    · simp [St.le,hsn,mkF,Fact.cells]
  · obtain rfl:k=l.length:=by omega
    rw [List.take_length] at *
    simp -dsimp
    refine ⟨hz,?_⟩
    rw [hsz,hz]
    cases l <;> simp
set_option maxRecDepth 4000 in
set_option maxHeartbeats 16000000 in
theorem refShift_spec (nl:Bool) (first:Int) (l:List Fact) (hol:l.length≤3518437208883) (hrow:∀ f∈l,f.row.length≤4398046511104) :
    Con Tryz.prog 25 [.c (.sl nl (facts l)),.c (i64 first)] [.c (.sl l.isEmpty (facts (shiftD first l)))]:=by
  refine Con.frz (rs:=[.fr l.isEmpty (if l.isEmpty then 0 else 3) (facts (shiftD first l)) 0]) ?_ 0 rfl
  refine spec_of Tryz.func25 rfl (by kernel_rfl) (by simp [Tryz.f25]) (fun w0 K0=>vc_ok _ _ _ (by kernel_rfl) ?_)
  simp only [Tryz.f25]
  simp -dsimp
  refine VL.loop (fun i:KI=>⟨[(6,.c (i64 i.k)),(0,.c (.sl nl (facts l))),(1,.c (i64 first)),(5,.own 320 (shiftD first (l.take i.k)).length)],[(320,some (.arr i.nl i.sz (facts (shiftD first (l.take i.k))) 0))]⟩)
    (fun i=>i.k≤l.length∧i.nl=(l.take i.k).isEmpty∧i.sz=if i.nl then 0 else 3) (fun i=>l.length-i.k) ⟨0,true,0⟩ (by kernel_rfl) ⟨by simp,rfl,rfl⟩ (by simp [St.le,shiftD]) ?_
  intro ⟨k,z,sz⟩ ⟨hk,hz,hsz⟩
  simp only at hk hz hsz
  by_cases h1:k<l.length
  · have hw:IntKind.i64.wrap ((k:Int)+1)=(k:Int)+1:=IntWalk.i64_in _ (by omega)
    have hsn:=shiftD_snoc first l h1
    have hlen:(shiftD first (l.take k)).length=k:=by rw [shiftD_len,List.length_take];omega
    have hrk:=hrow l[k] (List.getElem_mem h1)
    have hn:=shN_eq first l[k].row.length
    have hnl:=shN_le first l[k].row.length
    have hR:shR first l[k].row=l[k].row.drop (shN first l[k].row.length)++l[k].row.take (shN first l[k].row.length):=rfl
    have hcp:=copy_spec l[k].nl (l[k].row.drop (shN first l[k].row.length)) (by simp;omega)
    have hmem:∀ (q:Nat) (e:List C),e∈List.take q (vals l[k].row)→e.length=3:=fun q e he=>by
      obtain ⟨v,_,rfl⟩:=List.mem_map.1 (List.mem_of_mem_take he)
      rfl
    have htl:List.take l[k].row.length (vals l[k].row)=vals l[k].row:=List.take_of_length_le (by simp)
    have htk:(l.take (k+1)).isEmpty=false:=by
      rw [take_snoc h1]
      cases l.take k <;> rfl
    by_cases hf0:first<0
    · have e0:shN first l[k].row.length=0:=by unfold shN;omega
      have hd:decide (first<0)=true:=decide_eq_true hf0
      have hneg:decide (((l[k].row.length:Nat):Int)<0)=false:=decide_eq_false (by omega)
      rw [e0] at hcp hR
      simp only [List.drop_zero,List.take_zero,List.append_nil] at hcp hR
      rw [hR] at hsn
      simp -dsimp [h1,hw,Fact.cells,hd,hneg]
      refine VC.mk [.fr false 3 (vals l[k].row) 0] (by rw [List.take_of_length_le (by simp)];exact hcp) ?_
      simp -dsimp [h1]
      refine VL.draw (by kernel_rfl) [(0,false),(0,false),(0,false),(0,false),(12,false),(28,false),(60,false),(0,false),(252,false),(510,false),(0,false),(0,false),(3072,false),(7168,false),(15360,false),(32766,false),(65534,false),(131071,true),(262143,true)] (by kernel_rfl) ?_
      simp -dsimp [h1,Fact.cells,maxLen,hw]
      refine ⟨by omega,fun e=>by rw [hsz,e];rfl,by omega,⟨k+1,false,3⟩,⟨by simp only;omega,htk.symm,rfl⟩,?_,by simp only;omega⟩
      simp [St.le,hsn,Fact.cells,htl]
    · have hd:decide (first<0)=false:=decide_eq_false hf0
      by_cases hf1:(l[k].row.length:Int)<first
      · have e0:shN first l[k].row.length=l[k].row.length:=by unfold shN;omega
        rw [e0] at hcp hR
        simp only [List.drop_length,List.take_length,List.nil_append] at hcp hR
        rw [hR] at hsn
        simp -dsimp [h1,hw,Fact.cells,hd,hf1]
        refine VC.mk _ hcp ?_
        simp -dsimp [h1]
        refine VL.draw (by kernel_rfl) [(0,false),(0,false),(0,false),(0,false),(12,false),(28,false),(60,false),(0,false),(252,false),(510,false),(0,false),(0,false),(3072,false),(7168,false),(15360,false),(32766,false),(65534,false),(131071,true),(262143,true)] (by kernel_rfl) ?_
        simp -dsimp [h1,Fact.cells,maxLen,hw]
        refine ⟨hmem _,by omega,fun e=>by rw [hsz,e];rfl,by omega,⟨k+1,false,3⟩,⟨by simp only;omega,htk.symm,rfl⟩,?_,by simp only;omega⟩
        simp [St.le,hsn,Fact.cells,htl]
      · have e0:((shN first l[k].row.length:Nat):Int)=first:=by unfold shN;omega
        have e1:first.toNat=shN first l[k].row.length:=by omega
        rw [hR] at hsn
        simp -dsimp [h1,hw,Fact.cells,hd,hf1,e1]
        have hcp2:=hcp
        rw [show vals (l[k].row.drop (shN first l[k].row.length))=List.drop (shN first l[k].row.length) (List.take l[k].row.length (vals l[k].row)) from by rw [List.take_of_length_le (by simp)];simp] at hcp2
        refine ⟨⟨by omega,by omega⟩,?_⟩
        refine VC.mk _ hcp2 ?_
        simp -dsimp [h1]
        refine VL.draw (by kernel_rfl) [(0,false),(0,false),(0,false),(0,false),(12,false),(28,false),(60,false),(0,false),(252,false),(510,false),(0,false),(0,false),(3072,false),(7168,false),(15360,false),(32766,false),(65534,false),(131071,true),(262143,true)] (by kernel_rfl) ?_
        simp -dsimp [h1,Fact.cells,maxLen,hw,e1]
        refine ⟨⟨by omega,by omega⟩,hmem _,by omega,fun e=>by rw [hsz,e];rfl,by omega,⟨k+1,false,3⟩,⟨by simp only;omega,htk.symm,rfl⟩,?_,by simp only;omega⟩
        simp [St.le,hsn,Fact.cells,htl]
  · obtain rfl:k=l.length:=by omega
    rw [List.take_length] at *
    simp -dsimp
    refine ⟨hz,?_⟩
    rw [hsz,hz]
    cases l <;> simp
def tab18 (nm:List UInt8):Tab:=⟨0,nm,false,[⟨[65],1⟩,⟨[66],2⟩],true,[],false⟩
set_option maxRecDepth 4000 in
set_option maxHeartbeats 4000000 in
theorem table18_spec (nm:List UInt8):Con Tryz.prog 30 [.c (str nm)] [.ag (tab18 nm).cells]:=by
  refine spec_of Tryz.func30 rfl (by kernel_rfl) (by simp [Tryz.f30]) (fun w0 K0=>vc_ok _ _ _ (by kernel_rfl) ?_)
  simp only [Tryz.f30]
  simp -dsimp [tab18,Tab.cells,Col.cells,maxLen]
def scT:List SCol:=scopeOf [tab18 [84]]
set_option maxRecDepth 4000 in
set_option maxHeartbeats 4000000 in
theorem scope18_spec:Con Tryz.prog 33 [.c (.sl false [[str [84]]])] [.c (.sl false (scols scT))]:=by
  refine spec_of Tryz.func33 rfl (by kernel_rfl) (by simp [Tryz.f33]) (fun w0 K0=>vc_ok _ _ _ (by kernel_rfl) ?_)
  simp only [Tryz.f33]
  have ht:=table18_spec [84]
  have hs:=refScope_spec false [tab18 [84]] (by decide) (by decide)
  have e1:tabs [tab18 [84]]=[[i64 0,str [84],.sl false [[str [65],i64 1],[str [66],i64 2]],.sl true [],bln false]]:=rfl
  have e2:(tab18 [84]).cells=[i64 0,str [84],.sl false [[str [65],i64 1],[str [66],i64 2]],.sl true [],bln false]:=rfl
  rw [e1,show (scopeOf [tab18 [84]]).isEmpty=false from rfl,show scopeOf [tab18 [84]]=scT from rfl] at hs
  rw [e2] at ht
  generalize scT=sc at *
  simp -dsimp
  refine VL.rounds 2 (by kernel_rfl) ?_
  simp -dsimp
  refine VC.mk _ ht ?_
  simp -dsimp [maxLen]
  refine VCL.snap ?_
  simp -dsimp
  refine VC.mk _ hs ?_
  simp -dsimp
def gX:Fact:=⟨false,[⟨1,1,[]⟩],⟨0,5⟩⟩
def gY:Fact:=⟨false,[⟨1,2,[]⟩],⟨3,9⟩⟩
def oX:Opt:=.scan false [gX]
def oY:Opt:=.scan false [gY]
def gXY:Fact:=bothF gX gY
theorem joinXY:joinK [gX] [gY]=[gXY]:=by decide
theorem okXY:(Opt.nested oX oY).Ok:=by
  refine ⟨by show 1≤MaxF;decide,by show 1≤MaxF;decide,by show 1≤MaxF;decide,by show 1≤MaxF;decide,?_,?_⟩
  · show (joinK [gX] [gY]).length≤MaxF
    rw [joinXY];decide
  · intro x hx y hy
    have hx:x∈[gX]:=hx
    have hy:y∈[gY]:=hy
    simp at hx hy
    subst hx hy
    decide
theorem run1:Con Tryz.prog 215 [.agg [oX.c,oY.c]] [.c (.sl false (facts [gXY]))]:=by
  have:=run_spec _ okXY
  unfold RunCon at this
  have h2:(Opt.nested oX oY).out=[gXY]:=joinXY
  have h3:(Opt.nested oX oY).nl=false:=by show (Opt.nested oX oY).out.isEmpty=false;rw [h2];rfl
  rw [h2,h3] at this
  exact this
theorem run2:Con Tryz.prog 220 [.agg [oX.c,oY.c]] [.c (.sl false (facts [gXY]))] :=
  swpRun_spec oX oY gX gY (scanRun_spec false [gX]) (scanRun_spec false [gY]) rfl rfl (by decide) (by decide) (by decide)
theorem run3 (SI:SortsI):Con Tryz.prog 231 [.agg [oX.c,oY.c]] [.c (.sl false (facts [gXY]))] :=
  idxRun_spec SI oX oY gX gY (scanRun_spec false [gX]) (scanRun_spec false [gY]) rfl rfl rfl rfl (by decide)
theorem run4:Con Tryz.prog 273 [.agg [oX.c,oY.c]] [.c (.sl false (facts [gXY]))] :=
  ptsRun_spec oX oY gX gY (scanRun_spec false [gX]) (scanRun_spec false [gY]) rfl rfl (by decide) (by decide)
theorem fok18 (f:Fact) (h:f=gX∨f=gY):FOk [f]:=by
  intro g hg
  simp at hg
  subst hg
  rcases h with rfl | rfl <;> decide
set_option maxRecDepth 4000 in
set_option maxHeartbeats 32000000 in
theorem awake18_spec {sortP:List Per→List Per} (hs:Sorts sortP) (hi:SortsI) (hf:SortsF):Con Tryz.prog 13 [] [.c (bln true)]:=by
  refine spec_of Tryz.func13 rfl (by kernel_rfl) (by simp [Tryz.f13]) (fun w0 K0=>vc_ok _ _ _ (by kernel_rfl) ?_)
  simp only [Tryz.f13]
  have hfa:=fact18_spec 1 0 5
  have hfb:=fact18_spec 2 3 9
  have hsa:=scan_spec false [gX] (fok18 _ (.inl rfl)) (by decide)
  have hsb:=scan_spec false [gY] (fok18 _ (.inr rfl)) (by decide)
  have hfac:(⟨false,[⟨1,1,[]⟩],⟨0,5⟩⟩:Fact).cells=[.sl false [[i64 1,i64 1,str []]],i64 0,i64 5]:=rfl
  have hfbc:(⟨false,[⟨1,2,[]⟩],⟨3,9⟩⟩:Fact).cells=[.sl false [[i64 1,i64 2,str []]],i64 3,i64 9]:=rfl
  rw [hfac] at hfa
  rw [hfbc] at hfb
  rw [show facts [gX]=[[.sl false [[i64 1,i64 1,str []]],i64 0,i64 5]] from rfl,show (Opt.scan [gX].isEmpty [gX]).c=oX.c from rfl] at hsa
  rw [show facts [gY]=[[.sl false [[i64 1,i64 2,str []]],i64 3,i64 9]] from rfl,show (Opt.scan [gY].isEmpty [gY]).c=oY.c from rfl] at hsb
  have hj1:=join_nested oX oY
  rw [show (Opt.nested oX oY).c = .ifc 125 [oX.c,oY.c] from rfl] at hj1
  have hj2:=join_2 oX oY
  have hj3:=join_3 oX oY
  have hj4:=join_4 oX oY
  have hrw:Rows1 [gXY]:=by intro f hf;simp at hf;subst hf;decide
  have hr1:=result_at hs hi hf 125 [oX.c,oY.c] 215 (by simp) false [gXY] run1 (by decide) hrw
  have hr2:=result_at hs hi hf 126 [oX.c,oY.c] 220 (by simp) false [gXY] run2 (by decide) hrw
  have hr3:=result_at hs hi hf 127 [oX.c,oY.c] 231 (by simp) false [gXY] (run3 hi) (by decide) hrw
  have hr4:=result_at hs hi hf 128 [oX.c,oY.c] 273 (by simp) false [gXY] run4 (by decide) hrw
  obtain ⟨gg,hg1,hg2,hg3⟩:=normal_single2 hs gXY (by decide)
  rw [hg1] at hr1 hr2 hr3 hr4
  have hgc:gg.cells=[.sl gg.nl [[i64 1,i64 1,str []],[i64 1,i64 2,str []]],i64 3,i64 5]:=by unfold Fact.cells;rw [hg2,hg3];rfl
  rw [show [gg].isEmpty=false from rfl,show facts [gg]=[[.sl gg.nl [[i64 1,i64 1,str []],[i64 1,i64 2,str []]],i64 3,i64 5]] from by rw [← hgc];rfl] at hr1 hr2 hr3 hr4
  have w1:IntKind.i64.wrap (1+1)=2:=by decide
  have w2:IntKind.i64.wrap 3=3:=by decide
  have w3:IntKind.i64.wrap 4=4:=by decide
  have w4:IntKind.i64.wrap 5=5:=by decide
  generalize oX.c=cx at *
  generalize oY.c=cy at *
  simp -dsimp
  refine VL.rounds 5 (by kernel_rfl) ?_
  simp -dsimp
  refine VC.mk _ hfa ?_
  simp -dsimp [maxLen]
  refine VCL.snap ?_
  simp -dsimp
  refine VC.mk _ hsa ?_
  simp -dsimp [maxLen]
  refine VC.mk _ hfb ?_
  simp -dsimp [maxLen]
  refine VCL.snap ?_
  simp -dsimp
  refine VC.mk _ hsb ?_
  simp -dsimp [maxLen]
  refine VC.mk _ hj1 ?_
  simp -dsimp
  refine ⟨rfl,VC.mk _ hr1 ?_⟩
  simp -dsimp [w1]
  refine VC.mk _ hfa ?_
  simp -dsimp [maxLen]
  refine VCL.snap ?_
  simp -dsimp
  refine VC.mk _ hsa ?_
  simp -dsimp [maxLen]
  refine VC.mk _ hfb ?_
  simp -dsimp [maxLen]
  refine VCL.snap ?_
  simp -dsimp
  refine VC.mk _ hsb ?_
  simp -dsimp [maxLen]
  refine VC.mk _ hj2 ?_
  simp -dsimp
  refine ⟨rfl,VC.mk _ hr2 ?_⟩
  simp -dsimp [w2]
  refine VC.mk _ hfa ?_
  simp -dsimp [maxLen]
  refine VCL.snap ?_
  simp -dsimp
  refine VC.mk _ hsa ?_
  simp -dsimp [maxLen]
  refine VC.mk _ hfb ?_
  simp -dsimp [maxLen]
  refine VCL.snap ?_
  simp -dsimp
  refine VC.mk _ hsb ?_
  simp -dsimp [maxLen]
  refine VC.mk _ hj3 ?_
  simp -dsimp
  refine ⟨rfl,VC.mk _ hr3 ?_⟩
  simp -dsimp [w3]
  refine VC.mk _ hfa ?_
  simp -dsimp [maxLen]
  refine VCL.snap ?_
  simp -dsimp
  refine VC.mk _ hsa ?_
  simp -dsimp [maxLen]
  refine VC.mk _ hfb ?_
  simp -dsimp [maxLen]
  refine VCL.snap ?_
  simp -dsimp
  refine VC.mk _ hsb ?_
  simp -dsimp [maxLen]
  refine VC.mk _ hj4 ?_
  simp -dsimp
  refine ⟨rfl,VC.mk _ hr4 ?_⟩
  simp -dsimp [w4]
end Go.Proofs.YtlphpbcafplnbaaGreat
