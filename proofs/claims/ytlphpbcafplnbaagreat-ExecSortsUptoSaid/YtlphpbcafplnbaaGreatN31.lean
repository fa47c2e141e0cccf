/- Contracts of functions of the seat, proved in a logic on data over the model (part N31). -/
import Derived.Test.YtlphpbcafplnbaaGreatN5
import Derived.Test.YtlphpbcafplnbaaGreatVY2
import Derived.Test.YtlphpbcafplnbaaGreatQS
import Derived.Test.YtlphpbcafplnbaaGreatS13
set_option linter.unusedSimpArgs false
set_option linter.unusedVariables false
namespace Go.Proofs.YtlphpbcafplnbaaGreat
open Go.VL Go.RowKit
set_option maxRecDepth 4000 in
set_option maxHeartbeats 32000000 in
theorem idxRun_spec (SI:SortsI) (oa ob:Opt) (x y:Fact) (hra:RunCon oa) (hrb:RunCon ob) (ha:oa.out=[x]) (hb:ob.out=[y]) (hx:x.p=⟨0,5⟩) (hy:y.p=⟨3,9⟩) (hr:x.row.length+y.row.length≤4398046511104) :
    Con Tryz.prog 231 [.agg [.ifc oa.tc.1 oa.tc.2,.ifc ob.tc.1 ob.tc.2]] [.c (.sl false (facts [bothF x y]))]:=by
  refine Con.frz (rs:=[.fr false 3 (facts [bothF x y]) 0]) ?_ 0 rfl
  refine spec_of Tryz.func231 rfl (by kernel_rfl) (by simp [Tryz.f231]) (fun w0 K0=>vc_ok _ _ _ (by kernel_rfl) ?_)
  simp only [Tryz.f231]
  have hB:=both_spec x y hr
  have hcx:x.cells=[.sl x.nl (vals x.row),i64 0,i64 5]:=by unfold Fact.cells;rw [hx]
  have hcy:y.cells=[.sl y.nl (vals y.row),i64 3,i64 9]:=by unfold Fact.cells;rw [hy]
  have hcb:(bothF x y).cells=[.sl (bothF x y).nl (vals (bothF x y).row),i64 (bothF x y).p.f,i64 (bothF x y).p.t]:=rfl
  have hlo:lapOk x.p y.p=true:=by rw [hx,hy];decide
  rw [hcx,hcy,hcb,hlo] at hB
  unfold RunCon at hra hrb
  rw [ha] at hra
  rw [hb] at hrb
  have w1:IntKind.i64.wrap (0+1)=1:=by decide
  simp -dsimp
  refine VI.mk0 (.agg ob.tc.2) ob.tc.1 ob.fn _ rfl ob.meth hrb ?_
  simp -dsimp
  refine VC.lend [] (rt0 1088 384 385 640 641 960) [] _ _ (fun i=>if i=1088 then 1280 else if i=384 then 1281 else if i=385 then 1282 else if i=640 then 1283 else if i=641 then 1284 else 1285) [1280,1281,1282,1283,1284,1285] ⟨rtNew_spec,?_,?_,?_,?_,?_,?_,?_⟩ ?_
  · simp [renSs]
  · simp
  · simp [rt0]
  · simp
  · simp [rt0,Res.nam,S.nams,S.nam,MB.cells]
  · simp [S.nams,S.nam,rt0]
  · simp [rt0]
  simp -dsimp [rt0,retS,renSs,renS,renR]
  refine VL.rounds 2 (by kernel_rfl) ?_
  simp -dsimp [hcy,w1]
  refine VCL.lend (rt0 1 2 3 4 5 6) rt1 [.ptr 1 0,.c (i64 0),.agg [i64 3,i64 9]] _ _ (fun i=>if i=1 then 1280 else if i=2 then 1281 else if i=3 then 1282 else if i=4 then 1283 else if i=5 then 1284 else 1285) [1281,1282,1283,1284,1285] ⟨rtAdd_spec,?_,?_,?_,?_,?_,?_,?_⟩ ?_
  · simp [renSs,renS]
  · simp [rt0,renR,renSs,renS]
    rfl
  · simp [rt1]
  · simp [rt0,rt1]
  · simp [rt1,Res.nam,S.nams,S.nam,MB.cells]
  · simp [S.nams,S.nam]
  · simp [rt0,rt1,lk,keptP]
  simp -dsimp [rt1,retS,renSs,renS,renR,MB.clr,MB.map]
  refine VI.mk0 (.agg oa.tc.2) oa.tc.1 oa.fn _ rfl oa.meth hra ?_
  simp -dsimp [MB.clr,MB.map]
  refine VL.fixcell 1281 1 1282 ?_
  simp -dsimp
  refine VL.fixcell 1280 0 1281 ?_
  simp -dsimp
  refine VL.fixcell 1283 1 1284 ?_
  simp -dsimp
  refine VL.fixcell 1280 1 1283 ?_
  simp -dsimp
  refine VL.rounds 2 (by kernel_rfl) ?_
  simp -dsimp [hcx,w1]
  refine VCL.lend rtD (rtD++[(577,.arr false 1 [[i64 0]] 0)]) [.ptr 1 0,.agg [i64 0,i64 5]] _ _ (fun i=>if i=1 then 1280 else if i=6 then 1285 else 3008) [1285,3008] ⟨overlap_05 SI,?_,?_,?_,?_,?_,?_,?_⟩ ?_
  · simp [renSs,renS]
  · simp [rtD,renR,renSs,renS]
    exact ⟨⟨rfl,rfl⟩,rfl⟩
  · simp [rtD]
  · simp [rtD]
  · simp [rtD,Res.nam,S.nams,S.nam,MB.cells]
  · simp [S.nams,S.nam,rtD]
  · simp [rtD,lk,keptP]
  simp -dsimp [rtD,retS,renSs,renS,renR,MB.clr,MB.map]
  refine VL.rounds 2 (by kernel_rfl) ?_
  simp -dsimp
  refine VL.draw (by kernel_rfl) [(0,false),(0,false),(0,false),(6,false),(14,false),(31,false),(63,false),(127,false),(127,false),(0,false),(767,false),(2047,true)] (by kernel_rfl) ?_
  simp -dsimp
  refine VCE.mk _ hB ?_
  simp -dsimp [w1,maxLen,MB.clr,MB.map,MB.men,MB.cells]
  exact ⟨by kernel_rfl,rfl⟩
set_option maxRecDepth 4000 in
set_option maxHeartbeats 16000000 in
theorem ptsRun_spec (oa ob:Opt) (x y:Fact) (hra:RunCon oa) (hrb:RunCon ob) (ha:oa.out=[x]) (hb:ob.out=[y]) (hl:lapOk x.p y.p=true) (hr:x.row.length+y.row.length≤4398046511104) :
    Con Tryz.prog 273 [.agg [.ifc oa.tc.1 oa.tc.2,.ifc ob.tc.1 ob.tc.2]] [.c (.sl false (facts [bothF x y]))]:=by
  refine Con.frz (rs:=[.fr false 3 (facts [bothF x y]) 0]) ?_ 0 rfl
  refine spec_of Tryz.func273 rfl (by kernel_rfl) (by simp [Tryz.f273]) (fun w0 K0=>vc_ok _ _ _ (by kernel_rfl) ?_)
  simp only [Tryz.f273]
  rw [lapOk_eq,Bool.and_eq_true,Bool.and_eq_true,Bool.and_eq_true,decide_eq_true_eq,decide_eq_true_eq] at hl
  obtain ⟨hrx,hry,hl1,hl2⟩:=hl
  have hx:=(right_iff x.p).1 hrx
  have hy:=(right_iff y.p).1 hry
  have hB:=both_spec x y hr
  have hlo:lapOk x.p y.p=true:=by rw [lapOk_eq,hrx,hry];simp [hl1,hl2]
  have hcx:x.cells=[.sl x.nl (vals x.row),i64 x.p.f,i64 x.p.t]:=rfl
  have hcy:y.cells=[.sl y.nl (vals y.row),i64 y.p.f,i64 y.p.t]:=rfl
  have hcb:(bothF x y).cells=[.sl (bothF x y).nl (vals (bothF x y).row),i64 (bothF x y).p.f,i64 (bothF x y).p.t]:=rfl
  rw [hcx,hcy,hcb,hlo] at hB
  have hckx:checkOf x.p=0:=by unfold checkOf;rw [hrx];rfl
  have hcky:checkOf y.p=0:=by unfold checkOf;rw [hry];rfl
  unfold RunCon at hra hrb
  rw [ha] at hra
  rw [hb] at hrb
  have w1:IntKind.i64.wrap (0+1)=1:=by decide
  have w2:IntKind.i64.wrap (x.p.t-1)=x.p.t-1:=IntWalk.i64_in _ (by omega)
  have w3:IntKind.i64.wrap (x.p.f+1)=x.p.f+1:=IntWalk.i64_in _ (by omega)
  simp -dsimp
  refine VI.mk0 (.agg ob.tc.2) ob.tc.1 ob.fn _ rfl ob.meth hrb ?_
  simp -dsimp
  refine VC.lend [] ps0 [] [.ptr 192 0] [] (fun i=>if i=192 then 1152 else 1153) [1152,1153] ⟨psNew_spec,?_,?_,?_,?_,?_,?_,?_⟩ ?_
  · simp [renSs]
  · simp
  · simp [ps0]
  · simp
  · simp [ps0,Res.nam,S.nams,S.nam,MB.cells]
  · simp [S.nams,S.nam,ps0]
  · simp [ps0]
  simp -dsimp [ps0,retS,renSs,renS,renR]
  refine VL.rounds 2 (by kernel_rfl) ?_
  simp -dsimp [hcy,w1]
  refine VC.mk _ (check_at _ y.p rfl) ?_
  simp -dsimp [hcky]
  refine VCL.lend psA (psB y.p.f y.p.t 0) [.ptr 1 0,.agg [i64 y.p.f,i64 y.p.t,i64 0]] _ _ (fun i=>if i=1 then 1152 else if i=2 then 1153 else 2496) [1153,2496] ⟨psAdd_spec y.p.f y.p.t 0,?_,?_,?_,?_,?_,?_,?_⟩ ?_
  · simp [renSs,renS]
  · simp [psA,renR,renSs,renS]
    rfl
  · simp [psB]
  · simp [psA,psB]
  · simp [psB,Res.nam,S.nams,S.nam,MB.cells]
  · simp [S.nams,S.nam,psB]
  · simp [psA,psB,lk,keptP]
  simp -dsimp [psB,retS,renSs,renS,renR,MB.clr,MB.map]
  refine VI.mk0 (.agg oa.tc.2) oa.tc.1 oa.fn _ rfl oa.meth hra ?_
  simp -dsimp [MB.clr,MB.map]
  refine VL.rounds 2 (by kernel_rfl) ?_
  simp -dsimp [hcx,w1]
  refine VC.mk _ (check_at _ x.p rfl) ?_
  simp -dsimp [hckx,w2,w3]
  refine VCL.lend (psT y.p.f y.p.t 0) (psT y.p.f y.p.t 0++[(577,.arr false 3 [[i64 y.p.f,i64 y.p.t,i64 0]] 0)]) [.ptr 1 0,.c (i64 0),.c (i64 (x.p.t-1)),.c (i64 (x.p.f+1))] _ _ (fun i=>if i=1 then 1152 else if i=2 then 1153 else if i=3 then 2496 else 4032) [1153,2496,4032] ⟨psFindT y.p.f y.p.t 0 0 (x.p.t-1) (x.p.f+1) (by omega) (by omega) (by omega),?_,?_,?_,?_,?_,?_,?_⟩ ?_
  · simp [renSs,renS]
  · simp [psT,renR,renSs,renS]
    rfl
  · simp [psT]
  · simp [psT]
  · simp [psT,Res.nam,S.nams,S.nam,MB.cells]
  · simp [S.nams,S.nam,psT]
  · simp [psT,lk,keptP]
  simp -dsimp [psT,retS,renSs,renS,renR,MB.clr,MB.map]
  refine VL.rounds 2 (by kernel_rfl) ?_
  simp -dsimp
  refine VL.draw (by kernel_rfl) [(0,false),(0,false),(0,false),(4,false),(14,false),(30,false),(63,false),(127,false),(255,false),(255,false),(0,false),(1535,false),(4095,true)] (by kernel_rfl) ?_
  simp -dsimp
  refine VCE.mk _ hB ?_
  simp -dsimp [w1,maxLen,MB.clr,MB.map,MB.men,MB.cells]
  exact ⟨by kernel_rfl,rfl⟩
set_option maxRecDepth 4000 in
set_option maxHeartbeats 4000000 in
theorem result_at {sortP:List Per→List Per} (hs:Sorts sortP) (hi:SortsI) (hf:SortsF) (t:TypeId) (cs:List C) (fn:FuncId) (hm:methOf Tryz.prog t "annals/exec.run" = some fn) (nl:Bool) (l:List Fact) (hrun:Con Tryz.prog fn [.agg cs] [.c (.sl nl (facts l))]) (hl:l.length≤3518437208883) (hr:Rows1 l) :
    Con Tryz.prog 20 [.c (.ifc t cs)] [.c (.sl (normalL sortP l).isEmpty (facts (normalL sortP l)))]:=by
  refine spec_of Tryz.func20 rfl (by kernel_rfl) (by simp [Tryz.f20]) (fun w0 K0=>vc_ok _ _ _ (by kernel_rfl) ?_)
  simp only [Tryz.f20]
  simp -dsimp
  refine VI.mk0 (.agg cs) t fn _ rfl hm hrun ?_
  simp -dsimp
  have hcg:=catG_leq hs l
  refine ⟨by decide,VCL.snap ?_⟩
  simp -dsimp
  refine VC.mk _ (normal_one hs hi hf false nl _ l rfl hl hr (by omega)) ?_
  simp -dsimp
theorem normal_single2 {sortP:List Per→List Per} (hs:Sorts sortP) (f:Fact) (h:right f.p=true):∃ g,normalL sortP [f]=[g]∧g.row=f.row∧g.p=f.p:=by
  obtain ⟨g,h1,h2⟩:=normal_single hs f h
  refine ⟨g,h1,h2,?_⟩
  have hb:=(right_iff f.p).1 h
  have hv:∀ t,validAt g t=validAt f t:=fun t=>by
    have h3:=normal_cnt hs [f] f.row t
    rw [h1] at h3
    unfold cnt at h3
    cases e1:validAt g t <;> cases e2:validAt f t <;> simp [h2,e1,e2] at h3 <;> rfl
  have hf:∀ t,f.p.f≤t→t<f.p.t→right g.p=true∧g.p.f≤t∧t<g.p.t:=fun t a b=>by
    have:validAt f t=true:=by unfold validAt;rw [h,Bool.true_and,has_iff];exact ⟨a,b⟩
    rw [← hv t] at this
    unfold validAt at this
    rw [Bool.and_eq_true,has_iff] at this
    exact this
  have h4:=hf f.p.f (by omega) hb.2.1
  have hgb:=(right_iff g.p).1 h4.1
  have hg:∀ t,g.p.f≤t→t<g.p.t→f.p.f≤t∧t<f.p.t:=fun t a b=>by
    have:validAt g t=true:=by unfold validAt;rw [h4.1,Bool.true_and,has_iff];exact ⟨a,b⟩
    rw [hv t] at this
    unfold validAt at this
    rw [Bool.and_eq_true,has_iff] at this
    exact this.2
  have h5:=hf (f.p.t-1) (by omega) (by omega)
  have h6:=hg g.p.f (by omega) (by omega)
  have h7:=hg (g.p.t-1) (by omega) (by omega)
  have e1:g.p.f=f.p.f:=by omega
  have e2:g.p.t=f.p.t:=by omega
  cases hgp:g.p;cases hfp:f.p
  rw [hgp,hfp] at e1 e2
  simp at e1 e2
  rw [e1,e2]
theorem fact18_spec (n f t:Int):Con Tryz.prog 48 [.c (i64 n),.c (i64 f),.c (i64 t)] [.ag (⟨false,[⟨1,n,[]⟩],⟨f,t⟩⟩:Fact).cells]:=by
  refine spec_of Tryz.func48 rfl (by kernel_rfl) (by simp [Tryz.f48]) (fun w0 K0=>vc_ok _ _ _ (by kernel_rfl) ?_)
  simp only [Tryz.f48]
  simp -dsimp [Fact.cells,Val.cells,maxLen]
set_option maxRecDepth 4000 in
set_option maxHeartbeats 4000000 in
theorem join_2 (a b:Opt):Con Tryz.prog 15 [.c a.c,.c b.c,.c (i64 2)] [.c (.ifc 126 [a.c,b.c]),.c (i64 0)]:=by
  refine spec_of Tryz.func15 rfl (by kernel_rfl) (by simp [Tryz.f15]) (fun w0 K0=>vc_ok _ _ _ (by kernel_rfl) ?_)
  simp only [Tryz.f15]
  simp -dsimp [Opt.c,Opt.tc]
set_option maxRecDepth 4000 in
set_option maxHeartbeats 4000000 in
theorem join_3 (a b:Opt):Con Tryz.prog 15 [.c a.c,.c b.c,.c (i64 3)] [.c (.ifc 127 [a.c,b.c]),.c (i64 0)]:=by
  refine spec_of Tryz.func15 rfl (by kernel_rfl) (by simp [Tryz.f15]) (fun w0 K0=>vc_ok _ _ _ (by kernel_rfl) ?_)
  simp only [Tryz.f15]
  simp -dsimp [Opt.c,Opt.tc]
set_option maxRecDepth 4000 in
set_option maxHeartbeats 4000000 in
theorem join_4 (a b:Opt):Con Tryz.prog 15 [.c a.c,.c b.c,.c (i64 4)] [.c (.ifc 128 [a.c,b.c]),.c (i64 0)]:=by
  refine spec_of Tryz.func15 rfl (by kernel_rfl) (by simp [Tryz.f15]) (fun w0 K0=>vc_ok _ _ _ (by kernel_rfl) ?_)
  simp only [Tryz.f15]
  simp -dsimp [Opt.c,Opt.tc]
def gX:Fact:=⟨false,[⟨1,1,[]⟩],⟨0,5⟩⟩
def gY:Fact:=⟨false,[⟨1,2,[]⟩],⟨3,9⟩⟩
def oX:Opt:=.scan false [gX]
def oY:Opt:=.scan false [gY]
def gXY:Fact:=bothF gX gY
theorem joinXY:joinK [gX] [gY]=[gXY]:=by decide
theorem okXY:(Opt.nested oX oY).Ok:=by
  refine ⟨by show 1≤MaxF;decide,by show 1≤MaxF;decide,by show 1≤MaxF;decide,by show 1≤MaxF;decide,?_,?_⟩
  · show (joinK [gX] [gY]).length≤MaxF
    rw [joinXY];decide
  · intro x hx y hy
    have hx:x∈[gX]:=hx
    have hy:y∈[gY]:=hy
    simp at hx hy
    subst hx hy
    decide
theorem run1:Con Tryz.prog 215 [.agg [oX.c,oY.c]] [.c (.sl false (facts [gXY]))]:=by
  have:=nestedRun_spec oX oY (scanRun_spec false [gX]) (scanRun_spec false [gY]) okXY
  unfold RunCon at this
  have h2:(Opt.nested oX oY).out=[gXY]:=joinXY
  have h3:(Opt.nested oX oY).nl=false:=by show (Opt.nested oX oY).out.isEmpty=false;rw [h2];rfl
  rw [h2,h3] at this
  exact this
theorem run2:Con Tryz.prog 220 [.agg [oX.c,oY.c]] [.c (.sl false (facts [gXY]))] :=
  swpRun_spec oX oY gX gY (scanRun_spec false [gX]) (scanRun_spec false [gY]) rfl rfl (by decide) (by decide) (by decide)
theorem run3 (SI:SortsI):Con Tryz.prog 231 [.agg [oX.c,oY.c]] [.c (.sl false (facts [gXY]))] :=
  idxRun_spec SI oX oY gX gY (scanRun_spec false [gX]) (scanRun_spec false [gY]) rfl rfl rfl rfl (by decide)
theorem run4:Con Tryz.prog 273 [.agg [oX.c,oY.c]] [.c (.sl false (facts [gXY]))] :=
  ptsRun_spec oX oY gX gY (scanRun_spec false [gX]) (scanRun_spec false [gY]) rfl rfl (by decide) (by decide)
theorem fok18 (f:Fact) (h:f=gX∨f=gY):FOk [f]:=by
  intro g hg
  simp at hg
  subst hg
  rcases h with rfl | rfl <;> decide
set_option maxRecDepth 4000 in
set_option maxHeartbeats 32000000 in
theorem awake18_spec {sortP:List Per→List Per} (hs:Sorts sortP) (hi:SortsI) (hf:SortsF):Con Tryz.prog 13 [] [.c (bln true)]:=by
  refine spec_of Tryz.func13 rfl (by kernel_rfl) (by simp [Tryz.f13]) (fun w0 K0=>vc_ok _ _ _ (by kernel_rfl) ?_)
  simp only [Tryz.f13]
  have hfa:=fact18_spec 1 0 5
  have hfb:=fact18_spec 2 3 9
  have hsa:=scan_spec false [gX] (fok18 _ (.inl rfl)) (by decide)
  have hsb:=scan_spec false [gY] (fok18 _ (.inr rfl)) (by decide)
  have hfac:(⟨false,[⟨1,1,[]⟩],⟨0,5⟩⟩:Fact).cells=[.sl false [[i64 1,i64 1,str []]],i64 0,i64 5]:=rfl
  have hfbc:(⟨false,[⟨1,2,[]⟩],⟨3,9⟩⟩:Fact).cells=[.sl false [[i64 1,i64 2,str []]],i64 3,i64 9]:=rfl
  rw [hfac] at hfa
  rw [hfbc] at hfb
  rw [show facts [gX]=[[.sl false [[i64 1,i64 1,str []]],i64 0,i64 5]] from rfl,show (Opt.scan [gX].isEmpty [gX]).c=oX.c from rfl] at hsa
  rw [show facts [gY]=[[.sl false [[i64 1,i64 2,str []]],i64 3,i64 9]] from rfl,show (Opt.scan [gY].isEmpty [gY]).c=oY.c from rfl] at hsb
  have hj1:=join_nested oX oY
  rw [show (Opt.nested oX oY).c = .ifc 125 [oX.c,oY.c] from rfl] at hj1
  have hj2:=join_2 oX oY
  have hj3:=join_3 oX oY
  have hj4:=join_4 oX oY
  have hrw:Rows1 [gXY]:=by intro f hf;simp at hf;subst hf;decide
  have hr1:=result_at hs hi hf 125 [oX.c,oY.c] 215 (by simp) false [gXY] run1 (by decide) hrw
  have hr2:=result_at hs hi hf 126 [oX.c,oY.c] 220 (by simp) false [gXY] run2 (by decide) hrw
  have hr3:=result_at hs hi hf 127 [oX.c,oY.c] 231 (by simp) false [gXY] (run3 hi) (by decide) hrw
  have hr4:=result_at hs hi hf 128 [oX.c,oY.c] 273 (by simp) false [gXY] run4 (by decide) hrw
  obtain ⟨gg,hg1,hg2,hg3⟩:=normal_single2 hs gXY (by decide)
  rw [hg1] at hr1 hr2 hr3 hr4
  have hgc:gg.cells=[.sl gg.nl [[i64 1,i64 1,str []],[i64 1,i64 2,str []]],i64 3,i64 5]:=by unfold Fact.cells;rw [hg2,hg3];rfl
  rw [show [gg].isEmpty=false from rfl,show facts [gg]=[[.sl gg.nl [[i64 1,i64 1,str []],[i64 1,i64 2,str []]],i64 3,i64 5]] from by rw [← hgc];rfl] at hr1 hr2 hr3 hr4
  have w1:IntKind.i64.wrap (1+1)=2:=by decide
  have w2:IntKind.i64.wrap 3=3:=by decide
  have w3:IntKind.i64.wrap 4=4:=by decide
  have w4:IntKind.i64.wrap 5=5:=by decide
  generalize oX.c=cx at *
  generalize oY.c=cy at *
  simp -dsimp
  refine VL.rounds 5 (by kernel_rfl) ?_
  simp -dsimp
  refine VC.mk _ hfa ?_
  simp -dsimp [maxLen]
  refine VCL.snap ?_
  simp -dsimp
  refine VC.mk _ hsa ?_
  simp -dsimp [maxLen]
  refine VC.mk _ hfb ?_
  simp -dsimp [maxLen]
  refine VCL.snap ?_
  simp -dsimp
  refine VC.mk _ hsb ?_
  simp -dsimp [maxLen]
  refine VC.mk _ hj1 ?_
  simp -dsimp
  refine ⟨rfl,VC.mk _ hr1 ?_⟩
  simp -dsimp [w1]
  refine VC.mk _ hfa ?_
  simp -dsimp [maxLen]
  refine VCL.snap ?_
  simp -dsimp
  refine VC.mk _ hsa ?_
  simp -dsimp [maxLen]
  refine VC.mk _ hfb ?_
  simp -dsimp [maxLen]
  refine VCL.snap ?_
  simp -dsimp
  refine VC.mk _ hsb ?_
  simp -dsimp [maxLen]
  refine VC.mk _ hj2 ?_
  simp -dsimp
  refine ⟨rfl,VC.mk _ hr2 ?_⟩
  simp -dsimp [w2]
  refine VC.mk _ hfa ?_
  simp -dsimp [maxLen]
  refine VCL.snap ?_
  simp -dsimp
  refine VC.mk _ hsa ?_
  simp -dsimp [maxLen]
  refine VC.mk _ hfb ?_
  simp -dsimp [maxLen]
  refine VCL.snap ?_
  simp -dsimp
  refine VC.mk _ hsb ?_
  simp -dsimp [maxLen]
  refine VC.mk _ hj3 ?_
  simp -dsimp
  refine ⟨rfl,VC.mk _ hr3 ?_⟩
  simp -dsimp [w3]
  refine VC.mk _ hfa ?_
  simp -dsimp [maxLen]
  refine VCL.snap ?_
  simp -dsimp
  refine VC.mk _ hsa ?_
  simp -dsimp [maxLen]
  refine VC.mk _ hfb ?_
  simp -dsimp [maxLen]
  refine VCL.snap ?_
  simp -dsimp
  refine VC.mk _ hsb ?_
  simp -dsimp [maxLen]
  refine VC.mk _ hj4 ?_
  simp -dsimp
  refine ⟨rfl,VC.mk _ hr4 ?_⟩
  simp -dsimp [w4]
theorem Rise.lt {E:List Int} (h:Rise E) {i j:Nat} (hij:i<j) (hj:j<E.length):(ge E (i))<(ge E (j)):=by
  rw [ge_pos _ _ hj,ge_pos _ _ (by omega)]
  exact List.pairwise_iff_getElem.1 h i j (by omega) hj hij
theorem Rise.gap {E:List Int} (h:Rise E) {j:Nat} (hj:j+1<E.length) {x:Int} (hx:x∈E) (hlt:(ge E (j))<x):(ge E (j+1))≤x:=by
  obtain ⟨i,hi,rfl⟩:=List.getElem_of_mem hx
  rw [← ge_pos E i hi] at hlt ⊢
  have:j<i:=by
    apply Classical.byContradiction
    intro hn
    by_cases e:i=j
    · subst e;omega
    · have:=h.lt (show i<j by omega) (by omega);omega
  by_cases e:i=j+1
  · subst e;exact Int.le_refl _
  · have:=h.lt (show j+1<i by omega) hi;omega
theorem Rise.cell {E:List Int} (h:Rise E) {x y t:Int} (hx:x∈E) (hy:y∈E) (h1:x≤t) (h2:t<y):∃ j,j+1<E.length∧(ge E (j))≤t∧t<(ge E (j+1)):=by
  obtain ⟨i,hi,rfl⟩:=List.getElem_of_mem hx
  obtain ⟨k,hk,rfl⟩:=List.getElem_of_mem hy
  rw [← ge_pos E i hi] at h1
  rw [← ge_pos E k hk] at h2
  clear hx hy
  induction k with
  | zero =>
    exfalso
    by_cases e:i=0
    · subst e;omega
    · have:=h.lt (show 0<i by omega) hi;omega
  | succ k ih =>
    by_cases e:t<(ge E (k))
    · exact ih (by omega) e
    · exact ⟨k,hk,by omega,h2⟩
def whereS (E:List Int) (cond:Int→Bool) (out:List Per) (i:Nat):List Per :=
  if cond (ge E (i)) then (if decide (0<out.length) && decide ((out[out.length-1]!).t=(ge E (i))) then out.set (out.length-1) ⟨(out[out.length-1]!).f,(ge E (i+1))⟩ else out++[⟨(ge E (i)),(ge E (i+1))⟩]) else out
def whereK (E:List Int) (cond:Int→Bool):Nat→List Per
  | 0=>[]
  | k+1=>whereS E cond (whereK E cond k) k
theorem whereK_ok {E:List Int} (hE:Rise E) (hb:∀ t∈E,0≤t∧t≤1099511627776) (cond:Int→Bool):∀ k,k+1≤E.length →
    Canon (whereK E cond k)∧(∀ q∈whereK E cond k,q.t≤(ge E (k)))∧∀ t,inL (whereK E cond k) t=true↔∃ j,j<k∧(ge E (j))≤t∧t<(ge E (j+1))∧cond (ge E (j))=true
  | 0,_=>⟨Canon.nil,by simp [whereK],fun t=>by simp [whereK,inL]⟩
  | k+1,hk=>by
    obtain ⟨h1,h2,h3⟩:=whereK_ok hE hb cond k (by omega)
    have hlt:=hE.lt (show k<k+1 by omega) (show k+1<E.length by omega)
    rw [whereK]
    unfold whereS
    have b0:=hb (ge E (k)) (by rw [ge_pos _ _ (by omega)];exact List.getElem_mem _)
    have b1:=hb (ge E (k+1)) (by rw [ge_pos _ _ (by omega)];exact List.getElem_mem _)
    by_cases hc:cond (ge E (k))=true
    · rw [if_pos hc]
      generalize hout:whereK E cond k=out at *
      rcases List.eq_nil_or_concat out with rfl | ⟨ini,q,rfl⟩
      · rw [if_neg (by simp)]
        refine ⟨h1.snoc (by rw [right_iff];simp only;omega) (by simp),fun q hq=>by simp at hq;subst hq;exact Int.le_refl _,fun t=>?_⟩
        rw [inL_append,Bool.or_eq_true,h3]
        constructor
        · rintro (⟨j,a,b,c,d⟩ | h)
          · exact ⟨j,by omega,b,c,d⟩
          · simp [inL,has_iff] at h;exact ⟨k,by omega,h.1,h.2,hc⟩
        · rintro ⟨j,a,b,c,d⟩
          by_cases e:j=k
          · subst e;exact .inr (by simp [inL,has_iff];exact ⟨b,c⟩)
          · exact .inl ⟨j,by omega,b,c,d⟩
      · simp only [List.concat_eq_append] at *
        have hq:=h2 q (by simp)
        have hlast:(ini++[q])[(ini++[q]).length-1]! = q:=by
          rw [getElem!_pos _ _ (by simp)];simp
        rw [hlast]
        obtain ⟨c1,c2,c3⟩:=h1.init
        have hqr:=(right_iff q).1 c2
        by_cases he:q.t=(ge E (k))
        · rw [if_pos (by simp [he])]
          have hset:(ini++[q]).set ((ini++[q]).length-1) ⟨q.f,(ge E (k+1))⟩=ini++[⟨q.f,(ge E (k+1))⟩]:=by
            rw [List.set_append_right _ _ (by simp)];simp
          rw [hset]
          refine ⟨c1.snoc (by rw [right_iff];simp only;omega) c3,fun r hr=>?_,fun t=>?_⟩
          · rcases List.mem_append.1 hr with hr | hr
            · have:=h2 r (by simp [hr]);omega
            · simp at hr;subst hr;exact Int.le_refl _
          · have h3:=h3 t
            rw [inL_append,Bool.or_eq_true] at h3 ⊢
            have e1:inL [q] t=true↔q.f≤t∧t<q.t:=by simp [inL,has_iff]
            have e2:inL [⟨q.f,(ge E (k+1))⟩] t=true↔q.f≤t∧t<(ge E (k+1)):=by simp [inL,has_iff]
            rw [e1] at h3
            rw [e2]
            constructor
            · rintro (h | ⟨ha,hb⟩)
              · obtain ⟨j,a,b,c,d⟩:=h3.1 (.inl h)
                exact ⟨j,by omega,b,c,d⟩
              · by_cases hlt2:t<q.t
                · obtain ⟨j,a,b,c,d⟩:=h3.1 (.inr ⟨ha,hlt2⟩)
                  exact ⟨j,by omega,b,c,d⟩
                · exact ⟨k,by omega,by omega,hb,hc⟩
            · rintro ⟨j,a,b,c,d⟩
              by_cases e:j=k
              · subst e;exact .inr ⟨by omega,c⟩
              · rcases h3.2 ⟨j,by omega,b,c,d⟩ with h | ⟨ha,hb⟩
                · exact .inl h
                · exact .inr ⟨ha,by omega⟩
        · rw [if_neg (by simp [he])]
          refine ⟨h1.snoc (by rw [right_iff];simp only;omega) (fun r hr=>?_),fun r hr=>?_,fun t=>?_⟩
          · simp only
            rcases List.mem_append.1 hr with hr | hr
            · have:=c3 r hr;omega
            · simp at hr;subst hr;omega
          · rcases List.mem_append.1 hr with hr | hr
            · have:=h2 r hr;omega
            · simp at hr;subst hr;exact Int.le_refl _
          · rw [inL_append,Bool.or_eq_true,h3]
            constructor
            · rintro (⟨j,a,b,c,d⟩ | h)
              · exact ⟨j,by omega,b,c,d⟩
              · simp [inL,has_iff] at h;exact ⟨k,by omega,h.1,h.2,hc⟩
            · rintro ⟨j,a,b,c,d⟩
              by_cases e:j=k
              · subst e;exact .inr (by simp [inL,has_iff];exact ⟨b,c⟩)
              · exact .inl ⟨j,by omega,b,c,d⟩
    · rw [if_neg hc]
      refine ⟨h1,fun q hq=>by have:=h2 q hq;omega,fun t=>?_⟩
      rw [h3]
      constructor
      · rintro ⟨j,a,b,c,d⟩;exact ⟨j,by omega,b,c,d⟩
      · rintro ⟨j,a,b,c,d⟩
        by_cases e:j=k
        · subst e;exact absurd d hc
        · exact ⟨j,by omega,b,c,d⟩
def condW (a:Per) (w wo:List Per) (t:Int):Bool:=(right a && has a t && !someP wo t) || someP w t
def allW (a:Per) (w wo:List Per):List Per:=[a]++w++wo
def whereL (a:Per) (w wo:List Per):List Per:=whereK (edgesL (allW a w wo)) (condW a w wo) ((edgesL (allW a w wo)).length-1)
theorem has_cell {l:List Per} {p:Per} (hp:p∈l) (hr:right p=true) {j:Nat} (hj:j+1<(edgesL l).length) {t:Int} (h1:(ge (edgesL l) j)≤t) (h2:t<(ge (edgesL l) (j+1))):has p t=has p (ge (edgesL l) j):=by
  obtain ⟨hE,hm⟩:=edgesL_ok l
  have m1:=(hm p.f).2 ((mem_endsOf l _).2 ⟨p,hp,hr,.inl rfl⟩)
  have m2:=(hm p.t).2 ((mem_endsOf l _).2 ⟨p,hp,hr,.inr rfl⟩)
  rw [Bool.eq_iff_iff,has_iff,has_iff]
  constructor
  · rintro ⟨a,b⟩
    refine ⟨?_,by omega⟩
    apply Classical.byContradiction
    intro hn
    have:=hE.gap hj m1 (by omega)
    omega
  · rintro ⟨a,b⟩
    refine ⟨by omega,?_⟩
    have:=hE.gap hj m2 b
    omega
theorem some_cell {l m:List Per} (hs:∀ p∈m,p∈l) {j:Nat} (hj:j+1<(edgesL l).length) {t:Int} (h1:(ge (edgesL l) j)≤t) (h2:t<(ge (edgesL l) (j+1))):someP m t=someP m (ge (edgesL l) j):=by
  unfold someP
  rw [Bool.eq_iff_iff,List.any_eq_true,List.any_eq_true]
  constructor
  · rintro ⟨p,hp,h⟩
    simp only [Bool.and_eq_true] at h
    exact ⟨p,hp,by rw [h.1,← has_cell (hs p hp) h.1 hj h1 h2,h.2];rfl⟩
  · rintro ⟨p,hp,h⟩
    simp only [Bool.and_eq_true] at h
    exact ⟨p,hp,by rw [h.1,has_cell (hs p hp) h.1 hj h1 h2,h.2];rfl⟩
theorem whereL_ok (a:Per) (w wo:List Per):Canon (whereL a w wo)∧∀ t,inL (whereL a w wo) t=condW a w wo t:=by
  obtain ⟨hE,hm⟩:=edgesL_ok (allW a w wo)
  have ha:a∈allW a w wo:=by simp [allW]
  have hw:∀ p∈w,p∈allW a w wo:=fun p hp=>by simp [allW,hp]
  have hwo:∀ p∈wo,p∈allW a w wo:=fun p hp=>by simp [allW,hp]
  have hcell:=fun (j:Nat) (hj:j+1<(edgesL (allW a w wo)).length) (t:Int) (h1:(ge (edgesL (allW a w wo)) j)≤t) (h2:t<(ge (edgesL (allW a w wo)) (j+1))) =>
    show condW a w wo t=condW a w wo (ge (edgesL (allW a w wo)) j) by
      unfold condW
      rw [some_cell hw hj h1 h2,some_cell hwo hj h1 h2]
      cases hr:right a with
      | false=>simp
      | true=>rw [has_cell ha hr hj h1 h2]
  have hin:∀ t,condW a w wo t=true→∃ j,j+1<(edgesL (allW a w wo)).length∧(ge (edgesL (allW a w wo)) j)≤t∧t<(ge (edgesL (allW a w wo)) (j+1)):=by
    intro t h
    have:∃ p∈allW a w wo,right p=true∧has p t=true:=by
      unfold condW at h
      rw [Bool.or_eq_true] at h
      rcases h with h | h
      · simp only [Bool.and_eq_true] at h
        exact ⟨a,ha,h.1.1,h.1.2⟩
      · unfold someP at h
        rw [List.any_eq_true] at h
        obtain ⟨p,hp,h⟩:=h
        simp only [Bool.and_eq_true] at h
        exact ⟨p,hw p hp,h.1,h.2⟩
    obtain ⟨p,hp,hr,ht⟩:=this
    rw [has_iff] at ht
    exact hE.cell ((hm p.f).2 ((mem_endsOf _ _).2 ⟨p,hp,hr,.inl rfl⟩)) ((hm p.t).2 ((mem_endsOf _ _).2 ⟨p,hp,hr,.inr rfl⟩)) ht.1 ht.2
  have hb:∀ t∈edgesL (allW a w wo),0≤t∧t≤1099511627776:=by
    intro t ht
    obtain ⟨p,hp,hr,e⟩:=(mem_endsOf _ _).1 ((hm t).1 ht)
    have:=(right_iff p).1 hr
    rcases e with rfl | rfl <;> omega
  unfold whereL
  generalize edgesL (allW a w wo)=E at *
  rcases Nat.eq_zero_or_pos E.length with h0 | h0
  · have:E.length-1=0:=by omega
    rw [this]
    refine ⟨Canon.nil,fun t=>?_⟩
    cases hc:condW a w wo t with
    | false=>rfl
    | true=>obtain ⟨j,hj,_⟩:=hin t hc;omega
  · obtain ⟨h1,_,h3⟩:=whereK_ok hE hb (condW a w wo) (E.length-1) (by omega)
    refine ⟨h1,fun t=>?_⟩
    rw [Bool.eq_iff_iff,h3]
    constructor
    · rintro ⟨j,a1,b,c,d⟩
      rw [hcell j (by omega) t b c];exact d
    · intro h
      obtain ⟨j,hj,b,c⟩:=hin t h
      exact ⟨j,by omega,b,c,by rw [← hcell j hj t b c];exact h⟩
theorem where_union {sortP:List Per→List Per} (hs:Sorts sortP) (l:List Per):whereL ⟨0,0⟩ l []=unionL sortP l:=by
  obtain ⟨h1,h2⟩:=whereL_ok ⟨0,0⟩ l []
  obtain ⟨h3,h4⟩:=unionL_ok hs l
  refine Canon.ext h1 h3 fun t=>?_
  rw [h2,h4]
  have:right ⟨0,0⟩=false:=by decide
  simp [condW,this]
theorem refHas_at' (cs:List C) (p:Per) (t:Int) (h:cs=p.cells):Con Tryz.prog 64 [.agg cs,.c (i64 t)] [.c (bln (has p t))]:=by rw [h];exact refHas_spec p t
theorem refEdges_at (nl:Bool) (xs:List (List C)) (l:List Per) (h:xs=l.map Per.cells) (hl:l.length≤8796093022207) :
    Con Tryz.prog 106 [.c (.sl nl xs)] [.fr (edgesL l).isEmpty (ez (edgesL l)) (ints (edgesL l)) 0]:=by rw [h];exact refEdges_spec nl l hl
set_option maxRecDepth 4000 in
set_option maxHeartbeats 4000000 in
theorem some_spec (nil:Bool) (l:List Per) (t:Int) (hl:l.length≤140737488355328):Con Tryz.prog 128 [.c (.sl nil (l.map Per.cells)),.c (i64 t)] [.c (bln (someP l t))]:=by
  refine spec_of Tryz.func128 rfl (by kernel_rfl) (by simp [Tryz.f128]) (fun w0 K0=>vc_ok _ _ _ (by kernel_rfl) ?_)
  simp only [Tryz.f128]
  simp -dsimp
  refine VL.loop (fun k:Nat=>⟨[(5,.c (i64 k)),(0,.c (.sl nil (l.map Per.cells))),(1,.c (i64 t))],[]⟩) (fun k=>k≤l.length∧someP (l.take k) t=false) (fun k=>l.length-k) 0 (by kernel_rfl) (by simp [someP]) (by simp [St.le]) ?_
  intro k ⟨hk,hbef⟩
  simp -dsimp
  refine VIf.mk (fun h=>?_) (fun h=>?_)
  · have hlt:k<l.length:=by simpa using h
    have hw:IntKind.i64.wrap ((k:Int)+1)=(k:Int)+1:=IntWalk.i64_in _ (by omega)
    simp -dsimp [hlt,Per.cells]
    refine VC.mk _ (refRight_spec l[k]) ?_
    simp -dsimp
    have hg:(Option.map Per.cells l[k]?).getD []=l[k].cells:=by rw [List.getElem?_eq_getElem hlt];rfl
    refine ⟨fun _=>⟨hlt,by rw [hg];rfl⟩,fun _=>by rw [hg];exact Nat.le_refl 2,?_⟩
    refine VG.mk [.c (bln (has l[k] t))] _ (fun _=>by rw [hg];exact refHas_spec l[k] t) rfl ?_
    simp -dsimp
    refine VIf.mk (fun h2=>?_) (fun h2=>?_)
    · simp -dsimp
      unfold someP
      have:(l.any fun p=>right p && has p t)=true:=List.any_eq_true.2 ⟨l[k],List.getElem_mem hlt,h2⟩
      exact this
    · simp -dsimp [hw]
      refine ⟨k+1,⟨by omega,?_⟩,?_,by omega⟩
      · unfold someP at hbef ⊢
        rw [any_snoc _ hlt,hbef];exact h2
      · simp [St.le]
  · simp at h
    obtain rfl:k=l.length:=by omega
    simp -dsimp
    rw [← hbef,List.take_length]
theorem refRight_at' (cs:List C) (p:Per) (h:cs=p.cells):Con Tryz.prog 53 [.agg cs] [.c (bln (right p))]:=by rw [h];exact refRight_spec p
theorem whereS_len2 (E:List Int) (cond:Int→Bool) (out:List Per) (k:Nat) (h1:2*out.length≤k+1) (h2:(∀ h:0<out.length,(out[out.length-1]'(by omega)).t≠ge E k)→2*out.length≤k) :
    ∀ o,o=whereS E cond out k→2*o.length≤k+1+1∧((∀ h:0<o.length,(o[o.length-1]'(by omega)).t≠ge E (k+1))→2*o.length≤k+1):=by
  intro o ho
  unfold whereS at ho
  by_cases hc:cond (ge E k)=true
  · rw [if_pos hc] at ho
    by_cases hl:0<out.length
    · have hlast:out[out.length-1]! = out[out.length-1]:=getElem!_pos out _ (by omega)
      rw [hlast] at ho
      by_cases he:out[out.length-1].t=ge E k
      · rw [if_pos (by simp [hl,he])] at ho
        subst ho
        refine ⟨by simp;omega,fun h=>absurd ?_ (h (by simp;omega))⟩
        simp
      · rw [if_neg (by simp [he])] at ho
        subst ho
        have:=h2 (fun _=>he)
        refine ⟨by simp;omega,fun h=>absurd ?_ (h (by simp))⟩
        simp
    · rw [if_neg (by simp [hl])] at ho
      subst ho
      have h0:out.length=0:=by omega
      refine ⟨by simp;omega,fun h=>absurd ?_ (h (by simp))⟩
      simp
  · rw [if_neg hc] at ho
    subst ho
    exact ⟨by omega,fun _=>by omega⟩
theorem whereK_len2 (E:List Int) (cond:Int→Bool):∀ k,∀ o,o=whereK E cond k→2*o.length≤k+1∧((∀ h:0<o.length,(o[o.length-1]'(by omega)).t≠ge E k)→2*o.length≤k)
  | 0,o,ho=>by subst ho;simp [whereK]
  | k+1,o,ho=>by
    obtain ⟨h1,h2⟩:=whereK_len2 E cond k _ rfl
    exact whereS_len2 E cond _ k h1 h2 o ho
set_option maxRecDepth 4000 in
set_option maxHeartbeats 16000000 in
theorem refWhere_spec (a:Per) (n1 n2:Bool) (w wo:List Per) (hl:w.length+wo.length+1≤8796093022207) :
    Con Tryz.prog 104 [.agg a.cells,.c (.sl n1 (w.map Per.cells)),.c (.sl n2 (wo.map Per.cells))] [.fr (whereL a w wo).isEmpty (esz (whereL a w wo)) ((whereL a w wo).map Per.cells) 0]:=by
  refine spec_of Tryz.func104 rfl (by kernel_rfl) (by simp [Tryz.f104]) (fun w0 K0=>vc_ok _ _ _ (by kernel_rfl) ?_)
  simp only [Tryz.f104]
  simp -dsimp [Per.cells,maxLen]
  refine ⟨by omega,by omega,by omega,VCL.snap ?_⟩
  simp -dsimp
  refine ⟨by omega,?_⟩
  have hE:=refEdges_at false ([i64 a.f,i64 a.t]::(w.map Per.cells++wo.map Per.cells)) (allW a w wo) (by simp [allW,Per.cells]) (by simp [allW];try omega)
  refine VC.mk _ hE ?_
  have hlen:=edgesL_len (allW a w wo)
  have hal:(allW a w wo).length=w.length+wo.length+1:=by simp [allW];try omega
  have hwd:whereL a w wo=whereK (edgesL (allW a w wo)) (condW a w wo) ((edgesL (allW a w wo)).length-1):=rfl
  rw [hwd]
  clear hwd hE
  generalize edgesL (allW a w wo)=E at *
  simp -dsimp
  refine VL.loop (fun i:LI=>⟨[(10,.c (i64 i.k)),(9,.own 576 (whereK E (condW a w wo) i.k).length),(8,.own 1280 E.length),(3,.ptr 192 0),(1,.c (.sl n1 (w.map Per.cells))),(2,.c (.sl n2 (wo.map Per.cells)))],
      [(576,some (.arr i.nl i.sz ((whereK E (condW a w wo) i.k).map Per.cells) 0)),(1280,some (.arr E.isEmpty (ez E) (ints E) 0)),(192,some (.box false [.c (i64 a.f),.c (i64 a.t)]))]⟩)
    (fun i=>i.k≤E.length-1∧i.nl=(whereK E (condW a w wo) i.k).isEmpty∧i.sz=esz (whereK E (condW a w wo) i.k)) (fun i=>E.length-i.k) ⟨0,true,0⟩ (by kernel_rfl) (by simp [whereK,esz]) (by simp [St.le,whereK]) ?_
  intro ⟨k,nl',sz⟩ ⟨hk,hnl,hsz⟩
  simp only at hk hnl hsz
  have hol:=(whereK_len2 E (condW a w wo) k _ rfl).1
  have hsu:whereK E (condW a w wo) (k+1)=whereS E (condW a w wo) (whereK E (condW a w wo) k) k:=rfl
  generalize ho:whereK E (condW a w wo) k=out at *
  have hw:IntKind.i64.wrap ((k:Int)+1)=(k:Int)+1:=IntWalk.i64_in _ (by omega)
  by_cases hlt:k+1<E.length
  · have hEe:E.isEmpty=false:=by cases E with | nil=>simp at hlt | cons=>rfl
    have hEz:ez E=1:=by simp [ez,hEe]
    have hd:decide ((k:Int)+1<(E.length:Int))=true:=by simp;omega
    have hk1:k<E.length:=by omega
    have g0:ge E k=E[k]:=ge_pos E k hk1
    have g1:ge E (k+1)=E[k+1]:=ge_pos E _ hlt
    simp -dsimp [hw,hd,hEe,hEz,hk1]
    refine VC.mk _ (refRight_at' _ a rfl) ?_
    simp -dsimp
    refine VG.mk [.c (bln (has a E[k]))] _ (fun _=>refHas_at' _ a _ rfl) rfl ?_
    simp -dsimp
    refine VG.mk [.c (bln (someP wo E[k]))] _ (fun _=>some_spec n2 wo _ (by omega)) rfl ?_
    simp -dsimp
    refine VG.mk [.c (bln (someP w E[k]))] _ (fun _=>some_spec n1 w _ (by omega)) rfl ?_
    simp -dsimp
    refine ⟨fun h=>?_,?_⟩
    · cases h1:right a <;> cases h2:has a E[k] <;> cases h3:someP wo E[k] <;> simp_all
    have hc:condW a w wo E[k] = !((!right a || !has a E[k] || someP wo E[k]) && !someP w E[k]):=by
      unfold condW
      cases right a <;> cases has a E[k] <;> cases someP wo E[k] <;> cases someP w E[k] <;> rfl
    refine VIf.mk (fun h=>?_) (fun h=>?_)
    · have e:whereS E (condW a w wo) out k=out:=by unfold whereS;rw [g0,hc,h];rfl
      rw [e] at hsu
      simp -dsimp [hw]
      refine ⟨⟨k+1,nl',sz⟩,⟨show k+1≤E.length-1 by omega,by rw [hsu];exact hnl,by rw [hsu];exact hsz⟩,?_,by simp;omega⟩
      simp [St.le,hsu,hEe,hEz]
    · have hcd:condW a w wo E[k]=true:=by rw [hc,h];rfl
      simp -dsimp
      match out,hnl,hol,hsz,hsu with
      | [],hnl,hol,hsz,hsu =>
        obtain rfl:nl'=true:=hnl
        obtain rfl:sz=0:=hsz
        have e:whereS E (condW a w wo) [] k=[⟨E[k],E[k+1]⟩]:=by unfold whereS;rw [g0,hcd,g1];simp
        rw [e] at hsu
        simp -dsimp [hw,maxLen,defC,hlt,hk1]
        refine ⟨by omega,⟨k+1,false,2⟩,⟨show k+1≤E.length-1 by omega,by rw [hsu];rfl,by rw [hsu];rfl⟩,?_,show E.length-(k+1)<E.length-k by omega⟩
        simp [St.le,hsu,hEe,hEz,Per.cells]
      | x::r,hnl,hol,hsz,hsu =>
        obtain rfl:nl'=false:=hnl
        obtain rfl:sz=2:=hsz
        generalize hout:x::r=out at *
        have hne:0<out.length:=by rw [← hout];simp
        have hT:IntKind.i64.wrap ((out.length:Int)-1)=((out.length-1:Nat):Int):=by rw [IntWalk.i64_in _ (by omega)];omega
        have hl1:out.length-1<out.length:=by omega
        have hlast:out[out.length-1]! = out[out.length-1]:=getElem!_pos out _ hl1
        simp -dsimp [hw,hne,hl1,hT,Per.cells]
        refine VIf.mk (fun hle=>?_) (fun hle=>?_)
        · have hle':out[out.length-1].t=E[k]:=by simpa using hle
          have e:whereS E (condW a w wo) out k=out.set (out.length-1) ⟨out[out.length-1].f,E[k+1]⟩:=by
            unfold whereS;rw [g0,hcd,g1,hlast];simp [hne,hle']
          rw [e] at hsu
          simp -dsimp [hw,hne,hl1,hT,hlt,hk1,Per.cells]
          refine ⟨by omega,⟨k+1,false,2⟩,⟨show k+1≤E.length-1 by omega,?_,?_⟩,?_,show E.length-(k+1)<E.length-k by omega⟩
          · rw [hsu];simp only [Bool.false_eq,List.isEmpty_eq_false_iff];intro e2;have:=congrArg List.length e2;rw [List.length_set] at this;simp at this;simp [this] at hne
          · rw [hsu];unfold esz;rw [if_neg];simp only [List.isEmpty_iff];intro e2;have:=congrArg List.length e2;rw [List.length_set] at this;simp at this;simp [this] at hne
          · simp [St.le,hsu,List.map_set,hEe,hEz,Per.cells]
        · have hle':¬ out[out.length-1].t=E[k]:=by simpa using hle
          have e:whereS E (condW a w wo) out k=out++[⟨E[k],E[k+1]⟩]:=by
            unfold whereS;rw [g0,hcd,g1,hlast];simp [hle']
          rw [e] at hsu
          simp -dsimp [hw,maxLen,hlt,hk1,Per.cells]
          refine ⟨by omega,by omega,⟨k+1,false,2⟩,⟨show k+1≤E.length-1 by omega,by rw [hsu];simp,by rw [hsu];simp [esz]⟩,?_,show E.length-(k+1)<E.length-k by omega⟩
          simp [St.le,hsu,hEe,hEz,Per.cells]
  · have hd:decide ((k:Int)+1<(E.length:Int))=false:=by simp;omega
    simp -dsimp [hw,hd]
    obtain rfl:k=E.length-1:=by omega
    rw [ho]
    exact ⟨⟨hnl,hsz,rfl⟩,rfl⟩
theorem refUnion_spec {sortP:List Per→List Per} (hs:Sorts sortP) (nl:Bool) (l:List Per) (hl:l.length≤8796093022206) :
    Con Tryz.prog 80 [.c (.sl nl (l.map Per.cells))] [.fr (unionL sortP l).isEmpty (esz (unionL sortP l)) ((unionL sortP l).map Per.cells) 0]:=by
  have h:=refWhere_spec ⟨0,0⟩ nl true l [] (by simp;omega)
  rw [where_union hs] at h
  refine spec_of Tryz.func80 rfl (by kernel_rfl) (by simp [Tryz.f80]) (fun w0 K0=>vc_ok _ _ _ (by kernel_rfl) ?_)
  simp only [Tryz.f80]
  simp -dsimp
  refine VC.mk _ h ?_
  simp -dsimp
end Go.Proofs.YtlphpbcafplnbaaGreat
