/- Contracts of functions of the seat, proved in a logic on data over the model (part P10). -/
import Derived.Test.YtlphpbcafplnbaaGreatBC
import Derived.Test.YtlphpbcafplnbaaGreatBE
import Derived.Test.YtlphpbcafplnbaaGreatQ5
set_option linter.unusedSimpArgs false
set_option linter.unusedVariables false
namespace Go.Proofs.YtlphpbcafplnbaaGreat
open Go.VL Go.RowKit
def gN (sortP:List Per→List Per) (x:List Val × List Per):List Fact:=layersL sortP x.1 (stepsL x.2 [])
theorem normalL_eq (sortP:List Per→List Per) (l:List Fact):normalL sortP l=sortF (catG (gN sortP) (groupsL (rightL l))):=rfl
theorem group_in {l:List Fact} {x:List Val × List Per} (h:x∈groupsL (rightL l)):(∃ f∈l,f.row=x.1)∧x.2.length≤l.length:=by
  obtain ⟨_,h2,_⟩:=groups_ok _ (rightL l) (Nat.le_refl _) (sortF_up _)
  obtain ⟨e,f,hf,e2⟩:=h2 x h
  obtain ⟨g,hg,_,rfl⟩:=rightL_mem.1 hf
  refine ⟨⟨g,hg,e2⟩,?_⟩
  rw [e,List.length_map]
  exact Nat.le_trans (List.length_filter_le _ _) (rightL_len l)
theorem catG_in {G:List Val × List Per→List Fact} {gs:List (List Val × List Per)} {f:Fact} (h:f∈catG G gs):∃ x∈gs,f∈G x:=List.mem_flatMap.1 h
theorem group_nil {G:List Val × List Per→List Fact} {r:List Fact} (h:catG G (groupsL r)≠[]):r.isEmpty=false:=by
  cases r with
  | nil=>rw [groupsL_nil] at h;exact absurd rfl h
  | cons=>rfl
set_option maxRecDepth 4000 in
set_option maxHeartbeats 16000000 in
theorem normal_spec {sortP:List Per→List Per} (hs:Sorts sortP) (hi:SortsI) (hf:SortsF) (nl:Bool) (ls:List (Bool × List Fact)) (hl:ls.length≤2) (hR:(catF ls).length≤3518437208883) (hr:Rows1 (catF ls)) (hB:(catG (gN sortP) (groupsL (rightL (catF ls)))).length≤3518437208883) :
    Con Tryz.prog 55 [.c (.sl nl (ls.map listV))] [.c (.sl (normalL sortP (catF ls)).isEmpty (facts (normalL sortP (catF ls))))]:=by
  refine Con.frz (rs:=[.fr (normalL sortP (catF ls)).isEmpty (if (rightL (catF ls)).isEmpty then 0 else 3) (facts (normalL sortP (catF ls))) 0]) ?_ 0 rfl
  refine spec_of Tryz.func55 rfl (by kernel_rfl) (by simp [Tryz.f55]) (fun w0 K0=>vc_ok _ _ _ (by kernel_rfl) ?_)
  have hcon:=concat_spec nl ls hl hR
  rw [normalL_eq]
  generalize catF ls=l at *
  have hri:=right_spec hf l.isEmpty l hR hr
  have hgi:=fun x=>@group_in l x
  have hrl:=rightL_len l
  have hrN:∀ f∈rightL l,f.nl=f.row.isEmpty∧f.row.length≤4398046511104:=by
    intro f hf
    obtain ⟨g,hg,_,rfl⟩:=rightL_mem.1 hf
    exact ⟨rfl,Nat.le_trans (hr g hg) (by decide)⟩
  generalize rightL l=r at *
  have hgr:=group_spec 87 (gN sortP) 3518437208883 r.isEmpty r (by omega) hrN (fun x hx=>by
    obtain ⟨⟨f,hf,e⟩,h2⟩:=hgi x hx
    exact normal1_spec hs hi x _ (Nat.le_refl _) (by rw [← e];exact Nat.le_trans (hr f hf) (by decide)) (by omega)) hB
  have hgn:=@group_nil (gN sortP) r
  have hN:∀ f∈catG (gN sortP) (groupsL r),Normed f∧f.row.length≤140737488355328:=by
    intro f hf
    obtain ⟨x,hx,h⟩:=catG_in hf
    obtain ⟨e,h2⟩:=layers_row h
    obtain ⟨⟨g,hg,e2⟩,_⟩:=hgi x hx
    have:=hr g hg
    exact ⟨h2,by rw [e,← e2];omega⟩
  generalize catG (gN sortP) (groupsL r)=m at *
  have hsl:=sortF_len m
  simp only [Tryz.f55]
  simp -dsimp
  refine VC.mk _ hcon ?_
  simp -dsimp
  refine VC.mk _ hri ?_
  simp -dsimp
  refine VC.lend _ _ _ [] _ (oτ 192 193) [193] (lend_out (by decide) hgr ?_ ?_ ?_ ?_) ?_
  · simp [renSs,renS,oτ]
  · simp [St.rs,vlook]
  · simp [St.rs,vlook]
  · simp [keptP,keptQ]
  simp -dsimp [outB,retS,renSs,oτ]
  cases m with
  | nil =>
    have e0:sortF []=[]:=by simpa using hsl
    rw [e0]
    refine VCL.snap ?_
    simp -dsimp
    refine VC.mk _ hf.nil ?_
    simp -dsimp
  | cons x0 r0 =>
    have hrf:=hgn (by simp)
    generalize hx:x0::r0=m at *
    have hne:m≠[]:=by rw [← hx];simp
    have hre:r≠[]:=List.isEmpty_eq_false_iff.1 hrf
    have hme:m.isEmpty=false:=List.isEmpty_eq_false_iff.2 hne
    have hse:(sortF m).isEmpty=false:=by
      rw [List.isEmpty_eq_false_iff];intro e;rw [e] at hsl
      exact hne (List.length_eq_zero_iff.1 hsl.symm)
    rw [hse,hme,if_neg hre]
    have hcs:=hf.con m hne hN (by omega)
    generalize sortF m=s at *
    refine VCL.lend (rowF 1 m) (rowF 1 s) [.own 1 m.length,.c (.fn 91 [])] _ _ (fun _=>193) [] ⟨hcs,?_,?_,?_,?_,?_,?_,?_⟩ ?_
    · simp [renSs,renS]
    · simp [rowF,renR]
    · simp [rowF]
    · simp [rowF]
    · simp [rowF,Res.nam]
    · simp [S.nams]
    · simp [rowF,lk,keptP]
      exact ⟨3,_,⟨rfl,rfl⟩,_,⟨rfl,rfl⟩,by simp,by simp [hsl]⟩
    simp -dsimp [rowF,retS,renSs]
    exact ⟨hre,hsl⟩
def clipP (p:Per) (l:List Fact):List Fact:=(l.filter fun f=>lapOk f.p p).map fun f=>mkF f.row (lap f.p p)
def clipL (sortP:List Per→List Per) (l:List Fact) (p:Per):List Fact:=normalL sortP (clipP p l)
theorem clipP_len (p:Per) (l:List Fact):(clipP p l).length≤l.length:=by
  unfold clipP
  rw [List.length_map];exact List.length_filter_le _ _
theorem clipP_rows {p:Per} {l:List Fact} (hr:Rows1 l):Rows1 (clipP p l):=by
  intro f hf
  obtain ⟨g,hg,rfl⟩:=List.mem_map.1 hf
  exact hr g (List.mem_filter.1 hg).1
theorem normal_one {sortP:List Per→List Per} (hs:Sorts sortP) (hi:SortsI) (hf:SortsF) (nl z:Bool) (xs:List (List C)) (l:List Fact) (h:xs=[[.sl z (facts l)]]) (hl:l.length≤3518437208883) (hr:Rows1 l) (hB:(catG (gN sortP) (groupsL (rightL l))).length≤3518437208883) :
    Con Tryz.prog 55 [.c (.sl nl xs)] [.c (.sl (normalL sortP l).isEmpty (facts (normalL sortP l)))]:=by
  have e:catF [(z,l)]=l:=by simp [catF]
  have:=normal_spec hs hi hf nl [(z,l)] (by simp) (by rw [e];exact hl) (by rw [e];exact hr) (by rw [e];exact hB)
  rw [e] at this
  rw [h]
  exact this
theorem overlap_at (cs ds:List C) (a b:Per) (h:cs=a.cells) (h':ds=b.cells):Con Tryz.prog 217 [.agg cs,.agg ds] [.ag (lap a b).cells,.c (bln (lapOk a b))]:=by rw [h,h'];exact overlap_spec a b
inductive Opt where
  | scan (nl:Bool) (l:List Fact)
  | filter (o:Opt) (nl:Bool) (ts:List Tm)
  | during (o:Opt) (p:Per)
  | nested (a b:Opt)
def Opt.tc:Opt→TypeId × List C
  | .scan nl l=>(130,[.sl nl (facts l)])
  | .filter o nl ts=>(170,[.ifc o.tc.1 o.tc.2,.sl nl (terms ts)])
  | .during o p=>(143,[.ifc o.tc.1 o.tc.2,i64 p.f,i64 p.t])
  | .nested a b=>(125,[.ifc a.tc.1 a.tc.2,.ifc b.tc.1 b.tc.2])
def Opt.c (o:Opt):C:=.ifc o.tc.1 o.tc.2
def Opt.fn:Opt→FuncId
  | .scan _ _=>281
  | .filter _ _ _=>284
  | .during _ _=>283
  | .nested _ _=>215
theorem Opt.meth (o:Opt):methOf Tryz.prog o.tc.1 "annals/exec.run" = some o.fn:=by
  cases o <;> simp [Opt.tc,Opt.fn]
@[simp] theorem b1_130:B1 Tryz.prog 130:=fun d=>by simp [pbuild]
theorem scan_spec (nl:Bool) (l:List Fact) (ho:FOk l) (hl:l.length≤3518437208883):Con Tryz.prog 16 [.c (.sl nl (facts l))] [.c (Opt.scan l.isEmpty l).c]:=by
  refine spec_of Tryz.func16 rfl (by kernel_rfl) (by simp [Tryz.f16]) (fun w0 K0=>vc_ok _ _ _ (by kernel_rfl) ?_)
  simp only [Tryz.f16]
  simp -dsimp
  refine VC.mk _ (copied_spec nl l ho hl) ?_
  simp -dsimp [Opt.c,Opt.tc]
set_option maxRecDepth 4000 in
set_option maxHeartbeats 4000000 in
theorem cloneT_spec (nl:Bool) (l:List Tm) (hn:nl=true→l=[]) (hl:l.length≤1000000000):Con Tryz.prog 68 [.c (.sl nl (terms l))] [.fr nl (if nl then 0 else 7) (terms l) 0]:=by
  refine spec_of Tryz.func68 rfl (by kernel_rfl) (by simp [Tryz.f68]) (fun w0 K0=>vc_ok _ _ _ (by kernel_rfl) ?_)
  simp only [Tryz.f68]
  cases nl with
  | true =>
    obtain rfl:=hn rfl
    simp -dsimp
  | false =>
    simp -dsimp
    omega
theorem filterOp_spec (o:Opt) (nl:Bool) (ts:List Tm) (hn:nl=true→ts=[]) (hl:ts.length≤1000000000):Con Tryz.prog 34 [.c o.c,.c (.sl nl (terms ts))] [.c (Opt.filter o nl ts).c]:=by
  refine spec_of Tryz.func34 rfl (by kernel_rfl) (by simp [Tryz.f34]) (fun w0 K0=>vc_ok _ _ _ (by kernel_rfl) ?_)
  simp only [Tryz.f34]
  simp -dsimp
  refine VC.mk _ (Con.frz (rs:=[.fr nl (if nl then 0 else 7) (terms ts) 0]) (cloneT_spec nl ts hn hl) 0 rfl) ?_
  simp -dsimp [Opt.c,Opt.tc]
set_option maxRecDepth 4000 in
set_option maxHeartbeats 4000000 in
theorem join_nested (a b:Opt):Con Tryz.prog 15 [.c a.c,.c b.c,.c (i64 1)] [.c (Opt.nested a b).c,.c (i64 0)]:=by
  refine spec_of Tryz.func15 rfl (by kernel_rfl) (by simp [Tryz.f15]) (fun w0 K0=>vc_ok _ _ _ (by kernel_rfl) ?_)
  simp only [Tryz.f15]
  simp -dsimp [Opt.c,Opt.tc]
set_option maxRecDepth 4000 in
set_option maxHeartbeats 4000000 in
theorem duringOp_spec (o:Opt) (p:Per):Con Tryz.prog 23 [.c o.c,.agg p.cells] [.c (Opt.during o p).c]:=by
  refine spec_of Tryz.func23 rfl (by kernel_rfl) (by simp [Tryz.f23]) (fun w0 K0=>vc_ok _ _ _ (by kernel_rfl) ?_)
  simp only [Tryz.f23]
  simp -dsimp [Opt.c,Opt.tc,Per.cells]
theorem scanRun_spec (nl:Bool) (l:List Fact):Con Tryz.prog 281 [.agg [.sl nl (facts l)]] [.c (.sl nl (facts l))]:=by
  refine spec_of Tryz.func281 rfl (by kernel_rfl) (by simp [Tryz.f281]) (fun w0 K0=>vc_ok _ _ _ (by kernel_rfl) ?_)
  simp only [Tryz.f281]
  simp -dsimp
end Go.Proofs.YtlphpbcafplnbaaGreat
namespace Go.Proofs.YtlphpbcafplnbaaGreat
open Go.Shelf Go.RowKit Go.Lib Go.VL
def Tryz.growV_ren:Go.Shelf.Ren:=⟨fun | 4=>219 | n=>n,fun | 22=>36 | 25=>58 | 3=>3 | 4=>4 | 9=>9 | 20=>20 | 0=>0 | n=>n,fun | n=>n⟩
theorem Tryz.growV:Go.Proofs.Lays8.n4 Tryz.prog Tryz.growV_ren:={ mixed:=by kernel_rfl,f4:=⟨Tryz.f219.name,by decide,Tryz.func219.trans (congrArg some (by kernel_rfl))⟩,t0:=Tryz.underlying0,a0:=Tryz.isAgg0,z0:=Tryz.sizeOf0,v0:=Tryz.zeroValue0,t3:=Tryz.underlying3,a3:=Tryz.isAgg3,z3:=Tryz.sizeOf3,v3:=Tryz.zeroValue3,t4:=Tryz.underlying4,a4:=Tryz.isAgg4,z4:=Tryz.sizeOf4,v4:=Tryz.zeroValue4,t9:=Tryz.underlying9,a9:=Tryz.isAgg9,z9:=Tryz.sizeOf9,v9:=Tryz.zeroValue9,t20:=Tryz.underlying20,a20:=Tryz.isAgg20,z20:=Tryz.sizeOf20,v20:=Tryz.zeroValue20,t22:=Tryz.underlying36,a22:=Tryz.isAgg36,z22:=Tryz.sizeOf36,v22:=Tryz.zeroValue36 }
theorem val_info:Tryz.prog.info? 58=some Tryz.t58:=by kernel_rfl
theorem growV_spec (n:Nat) (hn:n≤4398046511104):Con Tryz.prog 219 [.c (.sl true []),.c (i64 n)] [.fr (decide (n=0)) (if n=0 then 0 else 3) [] 0]:=by
  refine Con.of (by kernel_rfl) fun w K us hK hd=>?_
  unfold DRs at hd
  rw [SRs] at hd
  obtain ⟨u,us',rfl,hu,hd⟩:=hd
  rw [SRs] at hd
  obtain ⟨u2,us'',rfl,hu2,hd⟩:=hd
  rw [SRs] at hd
  subst hd
  rw [SR] at hu hu2
  rw [CR] at hu
  replace hu2:CR K w (C.v (.int .i64 n)) u2:=hu2
  rw [CR] at hu2
  obtain ⟨rfl,_⟩:=hu2
  have hu':u = .slice none 0 0:=by
    rcases hu with ⟨_,_,h⟩ | ⟨h,_⟩
    · exact h
    · cases h
  subst hu'
  by_cases h0:n=0
  · subst h0
    have h:=Any8.slices_Grow_room Tryz.growV none 0 0 0 w (by omega) (by omega) (by omega) (by omega)
    change Calls Tryz.prog 219 _ _ _ at h
    refine h.mono ?_
    rintro e w' ⟨rfl,rfl⟩
    refine ⟨[.slice none 0 0],rfl,BelowD.refl _ _,K,fun _ _ h=>h,fun _ _ h _=>h,hK,rfl,fun k r v hr hv=>?_,fun j k r r' v v' hne hr hr' _ _ _ _=>?_⟩
    · match k with
      | 0 =>
        simp at hr hv
        subst hr hv
        rw [RtR,RR];exact .inl ⟨rfl,rfl,rfl,rfl⟩
      | k+1=>simp at hr
    · match j,k with
      | 0,0=>exact absurd rfl hne
      | j+1,_=>simp at hr
      | 0,k+1=>simp at hr'
  · have h:=Any8.slices_Grow_grow Tryz.growV Tryz.t58 _ val_info rfl (by decide) none 0 0 n [] w (by omega) (by omega) (by rw [show Tryz.t58.bytes=32 from by kernel_rfl];omega) (by omega) (by simp) (fun _=>rfl) (fun a h=>by cases h)
    change Calls Tryz.prog 219 _ _ _ at h
    refine h.mono ?_
    rintro e w' ⟨rfl,rfl⟩
    refine ⟨[_],rfl,((BelowD.refl _ _).drew.alloc (Nat.le_refl _) _),K,fun _ _ h=>h,fun _ _ h _=>h,fun b o h=>?_,rfl,fun k r v hr hv=>?_,fun j k r r' v v' hne hr hr' _ _ _ _=>?_⟩
    · have:=hK b o h
      show b<(w.drew.heap.push _).size
      rw [Array.size_push]
      show b<w.heap.size+1
      omega
    · match k with
      | 0 =>
        simp at hr hv
        subst hr hv
        rw [RtR,RR]
        refine .inr ⟨by simp [h0],w.heap.size,_,_,_,rfl,Nat.le_refl _,by show (w.heap.push _)[w.heap.size]? = _;rw [Array.getElem?_push_size],Nat.zero_le _,?_,?_,Nat.zero_le _,?_,?_⟩
        · exact grownCap_le_maxLen w n 0 _ (by unfold maxLen;omega)
        · have hge:=grownCap_ge w n 0 (Tryz.growV_ren.t 25)
          rw [if_neg h0]
          simp only [Nat.zero_add,Nat.sub_zero,Array.size_append,Builtin.zeroCells,Array.size_map,Array.size_range,Array.size_empty]
          generalize grownCap w n 0 (Tryz.growV_ren.t 25)=g at *
          show n*3+(g-n)*3=g*3
          omega
        · intro j e he;simp at he
        · intro o
          constructor
          · intro h;have:=hK _ o h;omega
          · intro h;omega
      | k+1=>simp at hr
    · match j,k with
      | 0,0=>exact absurd rfl hne
      | j+1,_=>simp at hr
      | 0,k+1=>simp at hr'
def listR (x:Bool × List Val):List C:=[.sl x.1 (vals x.2)]
@[simp] theorem catR_nil:catR []=[]:=rfl
set_option maxRecDepth 4000 in
set_option maxHeartbeats 8000000 in
theorem concatV_spec (nl:Bool) (ls:List (Bool × List Val)) (hl:ls.length≤2) (hR:(catR ls).length≤4398046511104) :
    Con Tryz.prog 218 [.c (.sl nl (ls.map listR))] [.c (.sl (catR ls).isEmpty (vals (catR ls)))]:=by
  refine Con.frz (rs:=[.fr (catR ls).isEmpty (if ls.length=0 then 0 else 3) (vals (catR ls)) 0]) ?_ 0 rfl
  refine spec_of Tryz.func218 rfl (by kernel_rfl) (by simp [Tryz.f218]) (fun w0 K0=>vc_ok _ _ _ (by kernel_rfl) ?_)
  simp only [Tryz.f218]
  simp -dsimp
  refine VL.loop (fun k:Nat=>⟨[(11,.c (i64 k)),(10,.c (i64 ls.length)),(9,.c (.sl nl (ls.map listR))),(3,.c (i64 (catR (ls.take k)).length)),(0,.c (.sl nl (ls.map listR)))],[]⟩)
    (fun k=>k≤ls.length) (fun k=>ls.length-k) 0 (by kernel_rfl) (by simp) (by simp [St.le]) ?_
  intro k hk
  have hlen:=catR_mono ls (k+1)
  have hk2:k=0∨k=1∨k=2:=by omega
  by_cases h1:k<ls.length
  · have hw:IntKind.i64.wrap ((k:Int)+1)=(k:Int)+1:=IntWalk.i64_in _ (by omega)
    have hsn:=catR_snoc ls h1
    have hsl:=congrArg List.length hsn
    rw [List.length_append] at hsl
    have hw2:IntKind.i64.wrap (((catR (ls.take k)).length:Int)+ls[k].2.length)=((catR (ls.take (k+1))).length:Int):=by rw [IntWalk.i64_in _ (by omega),hsn];simp
    have hn0:¬ ((catR (ls.take (k+1))).length:Int)<0:=by omega
    simp -dsimp [h1,hw,listR,hw2]
    refine VIf.mk (fun h=>absurd (of_decide_eq_true h) hn0) (fun h=>?_)
    simp -dsimp [hw]
    refine ⟨k+1,by omega,?_,by omega⟩
    simp [St.le]
  · obtain rfl:k=ls.length:=by omega
    rw [List.take_length] at *
    simp -dsimp
    refine VC.mk _ (growV_spec (catR ls).length hR) ?_
    simp -dsimp
    refine VL.loop (fun i:KI=>⟨[(27,.c (i64 i.k)),(26,.c (i64 ls.length)),(25,.c (.sl nl (ls.map listR))),(6,.own 1536 (catR (ls.take i.k)).length)],[(1536,some (.arr i.nl i.sz (vals (catR (ls.take i.k))) 0))]⟩)
      (fun i=>i.k≤ls.length∧i.nl=(catR ls).isEmpty∧i.sz=if i.k=0 then (if (catR ls).length=0 then 0 else 3) else 3) (fun i=>ls.length-i.k) ⟨0,(catR ls).isEmpty,if (catR ls).length=0 then 0 else 3⟩ (by kernel_rfl) ⟨by simp,rfl,rfl⟩ ?_ ?_
    · simp [St.le]
      cases catR ls <;> simp
    intro ⟨k,z,sz⟩ ⟨hk',hz,hsz⟩
    simp only at hk' hz hsz
    have hlen:=catR_mono ls (k+1)
    by_cases h1:k<ls.length
    · have hw:IntKind.i64.wrap ((k:Int)+1)=(k:Int)+1:=IntWalk.i64_in _ (by omega)
      have hsn:=catR_snoc ls h1
      have hsl:=congrArg List.length hsn
      rw [List.length_append] at hsl
      simp -dsimp [h1,hw,listR,maxLen]
      refine ⟨fun e=>?_,by omega,⟨k+1,z && ls[k].2.isEmpty,3⟩,⟨by simp only;omega,?_,by simp⟩,?_,by simp only;omega⟩
      · rw [hsz]
        split
        · rw [if_neg]
          intro e2
          rw [e,eq_comm,List.isEmpty_eq_false_iff] at hz
          exact hz (List.length_eq_zero_iff.1 e2)
        · rfl
      · simp only
        rw [hz]
        cases he:(catR ls).isEmpty with
        | false=>rfl
        | true =>
          rw [List.isEmpty_iff] at he
          unfold catR at he
          rw [List.flatMap_eq_nil_iff] at he
          rw [he _ (List.getElem_mem h1)];rfl
      · simp [St.le,hsn]
    · obtain rfl:k=ls.length:=by omega
      rw [List.take_length] at *
      simp -dsimp
      refine ⟨hz,?_⟩
      rw [hsz]
      cases ls <;> simp
end Go.Proofs.YtlphpbcafplnbaaGreat
namespace Go.Proofs.YtlphpbcafplnbaaGreat
open Go.VL Go.RowKit
def bothF (x y:Fact):Fact:=mkF (x.row++y.row) (lap x.p y.p)
theorem concatV_at (b:Bool) (xs:List (List C)) (n1 n2:Bool) (r1 r2:List Val) (h:xs=[[.sl n1 (vals r1)],[.sl n2 (vals r2)]]) (hR:r1.length+r2.length≤4398046511104):Con Tryz.prog 218 [.c (.sl b xs)] [.c (.sl (r1++r2).isEmpty (vals (r1++r2)))]:=by
  have:=concatV_spec b [(n1,r1),(n2,r2)] (by simp) (by simpa [catR] using hR)
  rw [h]
  simpa [catR,listR] using this
set_option maxRecDepth 4000 in
set_option maxHeartbeats 8000000 in
theorem both_spec (x y:Fact) (h:x.row.length+y.row.length≤4398046511104):Con Tryz.prog 216 [.agg x.cells,.agg y.cells] [.ag (bothF x y).cells,.c (bln (lapOk x.p y.p))]:=by
  refine spec_of Tryz.func216 rfl (by kernel_rfl) (by simp [Tryz.f216]) (fun w0 K0=>vc_ok _ _ _ (by kernel_rfl) ?_)
  simp only [Tryz.f216]
  simp -dsimp [Fact.cells]
  refine VC.mk _ (overlap_at _ _ x.p y.p rfl rfl) ?_
  simp -dsimp [Per.cells]
  refine VL.draw (by kernel_rfl) [(0,false),(1,false),(0,false),(4,false),(15,false),(31,false),(0,false),(127,false),(0,false),(255,false),(1023,true)] (by kernel_rfl) ?_
  simp -dsimp
  refine ⟨by decide,VCE.mk _ (concatV_at false _ x.nl y.nl x.row y.row rfl h) ?_⟩
  simp -dsimp
  simp [bothF,mkF,Fact.cells]
def joinK (a:List Fact) (b:List Fact):List Fact:=a.flatMap fun x=>(b.filter fun y=>lapOk x.p y.p).map (bothF x)
def Opt.out:Opt→List Fact
  | .scan _ l=>l
  | .filter o _ ts=>o.out.filter fun x=>holdsT x.row ts
  | .during o p=>(o.out.filter fun x=>lapOk x.p p).map fun x=>⟨x.nl,x.row,lap x.p p⟩
  | .nested a b=>joinK a.out b.out
def Opt.nl:Opt→Bool
  | .scan nl _=>nl
  | .filter o _ ts=>(Opt.filter o true ts).out.isEmpty
  | .during o p=>(Opt.during o p).out.isEmpty
  | .nested a b=>(Opt.nested a b).out.isEmpty
def MaxF:Nat:=3518437208883
def Opt.Ok:Opt→Prop
  | .scan _ l=>l.length≤MaxF
  | .filter o _ ts=>o.Ok∧TOk ts∧ts.length≤1000000000000∧o.out.length≤MaxF∧∀ x∈o.out,VFit x.row
  | .during o p=>o.Ok∧o.out.length≤MaxF
  | .nested a b=>a.Ok∧b.Ok∧a.out.length≤MaxF∧b.out.length≤MaxF∧(joinK a.out b.out).length≤MaxF∧∀ x∈a.out,∀ y∈b.out,x.row.length+y.row.length≤4398046511104
def RunCon (o:Opt):Prop:=Con Tryz.prog o.fn [.agg o.tc.2] [.c (.sl o.nl (facts o.out))]
theorem filter_snoc {α:Type} {p:α→Bool} {l:List α} {k:Nat} (h:k<l.length):(l.take (k+1)).filter p=(l.take k).filter p++if p l[k] then [l[k]] else []:=by
  rw [take_snoc h,List.filter_append]
  by_cases e:p l[k]=true <;> simp [e]
theorem filter_take_le {α:Type} {p:α→Bool} {l:List α} (k:Nat):((l.take k).filter p).length≤l.length :=
  Nat.le_trans (List.length_filter_le _ _) (by rw [List.length_take];omega)
set_option maxRecDepth 4000 in
set_option maxHeartbeats 8000000 in
theorem filterRun_spec (o:Opt) (nl:Bool) (ts:List Tm) (hr:RunCon o) (ho:(Opt.filter o nl ts).Ok):RunCon (.filter o nl ts):=by
  obtain ⟨_,hts,htl,hol,hfit⟩:=ho
  unfold MaxF at hol
  refine Con.frz (rs:=[.fr (Opt.filter o nl ts).out.isEmpty (if (Opt.filter o nl ts).out.isEmpty then 0 else 3) (facts (Opt.filter o nl ts).out) 0]) ?_ 0 rfl
  show Con Tryz.prog 284 _ _
  refine spec_of Tryz.func284 rfl (by kernel_rfl) (by simp [Tryz.f284]) (fun w0 K0=>vc_ok _ _ _ (by kernel_rfl) ?_)
  simp only [Tryz.f284]
  simp -dsimp [Opt.tc]
  refine VI.mk0 (.agg o.tc.2) o.tc.1 o.fn _ rfl o.meth hr ?_
  simp -dsimp
  have e:(Opt.filter o nl ts).out=o.out.filter fun x=>holdsT x.row ts:=rfl
  rw [e]
  generalize o.out=l at *
  refine VL.loop (fun i:KI=>⟨[(11,.c (i64 i.k)),(10,.c (i64 l.length)),(9,.c (.sl o.nl (facts l))),(1,.ptr 64 0),(3,.own 192 ((l.take i.k).filter fun x=>holdsT x.row ts).length)],[(64,some (.box false [.c (.ifc o.tc.1 o.tc.2),.c (.sl nl (terms ts))])),(192,some (.arr i.nl i.sz (facts ((l.take i.k).filter fun x=>holdsT x.row ts)) 0))]⟩)
    (fun i=>i.k≤l.length∧i.nl=((l.take i.k).filter fun x=>holdsT x.row ts).isEmpty∧i.sz=if i.nl then 0 else 3) (fun i=>l.length-i.k) ⟨0,true,0⟩ (by kernel_rfl) ⟨by simp,rfl,rfl⟩ (by simp [St.le]) ?_
  intro ⟨k,z,sz⟩ ⟨hk,hz,hsz⟩
  simp only at hk hz hsz
  have hkl:=filter_take_le (p:=fun x:Fact=>holdsT x.row ts) (l:=l) k
  by_cases h1:k<l.length
  · have hw:IntKind.i64.wrap ((k:Int)+1)=(k:Int)+1:=IntWalk.i64_in _ (by omega)
    have hsn:=filter_snoc (p:=fun x:Fact=>holdsT x.row ts) h1
    simp -dsimp [h1,hw,Fact.cells]
    refine VC.mk _ (Holds_spec l[k].nl nl l[k].row (hfit _ (List.getElem_mem h1)) ts hts htl) ?_
    simp -dsimp
    refine VIf.mk (fun h=>?_) (fun h=>?_)
    · rw [h] at hsn
      have hlen:=congrArg List.length hsn
      have hk2:=filter_take_le (p:=fun x:Fact=>holdsT x.row ts) (l:=l) (k+1)
      simp only [if_true,List.length_append,List.length_cons,List.length_nil] at hlen
      simp -dsimp [hw,maxLen]
      refine ⟨fun e=>by rw [hsz,e];rfl,by omega,⟨k+1,false,3⟩,⟨by simp only;omega,by rw [hsn];simp,rfl⟩,?_,by simp only;omega⟩
      simp [St.le,hsn,Fact.cells]
    · rw [h] at hsn
      simp -dsimp [hw]
      refine ⟨⟨k+1,z,sz⟩,⟨by simp only;omega,by rw [hsn];simpa using hz,hsz⟩,?_,by simp only;omega⟩
      simp [St.le,hsn]
  · obtain rfl:k=l.length:=by omega
    rw [List.take_length] at *
    simp -dsimp
    refine ⟨hz,?_⟩
    rw [hsz,hz]
    simp only [List.isEmpty_iff,List.filter_eq_nil_iff,Bool.not_eq_true]
theorem joinK_snoc (a b:List Fact) {k:Nat} (h:k<a.length):joinK (a.take (k+1)) b=joinK (a.take k) b++(b.filter fun y=>lapOk a[k].p y.p).map (bothF a[k]):=by
  unfold joinK
  rw [take_snoc h,List.flatMap_append];simp
theorem joinK_mono (a b:List Fact) (k:Nat):(joinK (a.take k) b).length≤(joinK a b).length:=by
  conv=>rhs;rw [← List.take_append_drop k a]
  unfold joinK
  rw [List.flatMap_append,List.length_append]
  omega
def innK (x:Fact) (b:List Fact) (k:Nat):List Fact:=((b.take k).filter fun y=>lapOk x.p y.p).map (bothF x)
theorem innK_snoc (x:Fact) (b:List Fact) {k:Nat} (h:k<b.length):innK x b (k+1)=innK x b k++if lapOk x.p b[k].p then [bothF x b[k]] else []:=by
  unfold innK
  rw [filter_snoc h,List.map_append]
  by_cases e:lapOk x.p b[k].p=true <;> simp [e]
theorem innK_mono (x:Fact) (b:List Fact) (k:Nat):(innK x b k).length≤(innK x b b.length).length:=by
  unfold innK
  rw [List.take_length,List.length_map,List.length_map]
  exact (List.Sublist.filter _ (List.take_sublist k b)).length_le
set_option maxRecDepth 4000 in
set_option maxHeartbeats 16000000 in
theorem nestedRun_spec (oa ob:Opt) (hra:RunCon oa) (hrb:RunCon ob) (ho:(Opt.nested oa ob).Ok):RunCon (.nested oa ob):=by
  obtain ⟨_,_,ha,hb,hj,hrow⟩:=ho
  unfold MaxF at ha hb hj
  have e:(Opt.nested oa ob).out=joinK oa.out ob.out:=rfl
  unfold RunCon
  rw [show (Opt.nested oa ob).nl=(joinK oa.out ob.out).isEmpty from rfl,e]
  refine Con.frz (rs:=[.fr (joinK oa.out ob.out).isEmpty (if (joinK oa.out ob.out).isEmpty then 0 else 3) (facts (joinK oa.out ob.out)) 0]) ?_ 0 rfl
  show Con Tryz.prog 215 _ _
  refine spec_of Tryz.func215 rfl (by kernel_rfl) (by simp [Tryz.f215]) (fun w0 K0=>vc_ok _ _ _ (by kernel_rfl) ?_)
  simp only [Tryz.f215]
  simp -dsimp [Opt.tc]
  refine VI.mk0 (.agg ob.tc.2) ob.tc.1 ob.fn _ rfl ob.meth hrb ?_
  simp -dsimp
  refine VI.mk0 (.agg oa.tc.2) oa.tc.1 oa.fn _ rfl oa.meth hra ?_
  simp -dsimp
  generalize oa.out=l at *
  generalize ob.out=m at *
  refine VL.loop (fun i:KI=>⟨[(20,.c (i64 i.k)),(19,.c (i64 l.length)),(18,.c (.sl oa.nl (facts l))),(4,.c (.sl ob.nl (facts m))),(3,.own 192 (joinK (l.take i.k) m).length)],[(192,some (.arr i.nl i.sz (facts (joinK (l.take i.k) m)) 0))]⟩)
    (fun i=>i.k≤l.length∧i.nl=(joinK (l.take i.k) m).isEmpty∧i.sz=if i.nl then 0 else 3) (fun i=>l.length-i.k) ⟨0,true,0⟩ (by kernel_rfl) ⟨by simp,rfl,rfl⟩ (by simp [St.le,joinK]) ?_
  intro ⟨k,z,sz⟩ ⟨hk,hz,hsz⟩
  simp only at hk hz hsz
  by_cases h1:k<l.length
  · have hw:IntKind.i64.wrap ((k:Int)+1)=(k:Int)+1:=IntWalk.i64_in _ (by omega)
    have hjn:=joinK_snoc l m h1
    have hjl:=congrArg List.length hjn
    rw [List.length_append] at hjl
    have hjm:=joinK_mono l m (k+1)
    have hin:(List.map (bothF l[k]) (List.filter (fun y=>lapOk l[k].p y.p) m))=innK l[k] m m.length:=by unfold innK;rw [List.take_length]
    rw [hin] at hjn hjl
    have hrk:=fun y hy=>hrow l[k] (List.getElem_mem h1) y hy
    have hcl:l[k].cells=[.sl l[k].nl (vals l[k].row),i64 l[k].p.f,i64 l[k].p.t]:=rfl
    simp -dsimp [h1,hcl]
    generalize l[k]=x at *
    generalize joinK (l.take k) m=out at *
    refine VL.loop (fun i:KI=>⟨[(26,.c (i64 i.k)),(25,.c (i64 m.length)),(24,.c (.sl ob.nl (facts m))),(6,.ptr 384 0),(20,.c (i64 k)),(19,.c (i64 l.length)),(18,.c (.sl oa.nl (facts l))),(4,.c (.sl ob.nl (facts m))),(3,.own 192 (out++innK x m i.k).length)],[(384,some (.box false [.c (.sl x.nl (vals x.row)),.c (i64 x.p.f),.c (i64 x.p.t)])),(192,some (.arr i.nl i.sz (facts (out++innK x m i.k)) 0))]⟩)
      (fun i=>i.k≤m.length∧i.nl=(out++innK x m i.k).isEmpty∧i.sz=if i.nl then 0 else 3) (fun i=>m.length-i.k) ⟨0,z,sz⟩ (by kernel_rfl) ⟨by simp,by simp [innK,hz],hsz⟩ (by simp [St.le,innK]) ?_
    intro ⟨k2,z2,sz2⟩ ⟨hk2,hz2,hsz2⟩
    simp only at hk2 hz2 hsz2
    have him:=innK_mono x m k2
    by_cases h2:k2<m.length
    · have hw2:IntKind.i64.wrap ((k2:Int)+1)=(k2:Int)+1:=IntWalk.i64_in _ (by omega)
      have hsn:=innK_snoc x m h2
      have him2:=innK_mono x m (k2+1)
      have hcl2:m[k2].cells=[.sl m[k2].nl (vals m[k2].row),i64 m[k2].p.f,i64 m[k2].p.t]:=rfl
      have hB:=both_spec x m[k2] (hrk _ (List.getElem_mem h2))
      have hcb:(bothF x m[k2]).cells=[.sl (bothF x m[k2]).nl (vals (bothF x m[k2]).row),i64 (bothF x m[k2]).p.f,i64 (bothF x m[k2]).p.t]:=rfl
      have hcx:x.cells=[.sl x.nl (vals x.row),i64 x.p.f,i64 x.p.t]:=rfl
      simp -dsimp [h2,hcl2]
      rw [hcl2,hcb,hcx] at hB
      refine VC.mk _ hB ?_
      simp -dsimp
      refine VIf.mk (fun h=>?_) (fun h=>?_)
      · rw [h,if_pos rfl] at hsn
        have hlen:=congrArg List.length hsn
        rw [List.length_append] at hlen
        simp only [List.length_cons,List.length_nil] at hlen
        simp -dsimp [hw2,maxLen]
        refine ⟨fun e=>by rw [hsz2,e];rfl,by omega,⟨k2+1,false,3⟩,⟨by simp only;omega,by rw [hsn];simp,rfl⟩,?_,by simp only;omega⟩
        simp [St.le,hsn,hcb] <;> omega
      · rw [h,if_neg (by simp),List.append_nil] at hsn
        simp -dsimp [hw2]
        refine ⟨⟨k2+1,z2,sz2⟩,⟨by simp only;omega,by rw [hsn];exact hz2,hsz2⟩,?_,by simp only;omega⟩
        simp [St.le,hsn]
    · obtain rfl:k2=m.length:=by omega
      simp -dsimp [hw]
      refine ⟨⟨k+1,z2,sz2⟩,⟨by simp only;omega,by rw [hjn];exact hz2,hsz2⟩,?_,by simp only;omega⟩
      simp [St.le,hjn]
  · obtain rfl:k=l.length:=by omega
    rw [List.take_length] at *
    simp -dsimp
    refine ⟨hz,?_⟩
    rw [hsz,hz]
    cases joinK l m <;> simp
def durK (p:Per) (l:List Fact):List Fact:=(l.filter fun x=>lapOk x.p p).map fun x=>⟨x.nl,x.row,lap x.p p⟩
theorem durK_snoc (p:Per) (l:List Fact) {k:Nat} (h:k<l.length):durK p (l.take (k+1))=durK p (l.take k)++if lapOk l[k].p p then [⟨l[k].nl,l[k].row,lap l[k].p p⟩] else []:=by
  unfold durK
  rw [filter_snoc h,List.map_append]
  by_cases e:lapOk l[k].p p=true <;> simp [e]
theorem durK_le (p:Per) (l:List Fact) (k:Nat):(durK p (l.take k)).length≤l.length:=by
  unfold durK
  rw [List.length_map]
  exact filter_take_le k
set_option maxRecDepth 4000 in
set_option maxHeartbeats 8000000 in
theorem duringRun_spec (o:Opt) (p:Per) (hr:RunCon o) (ho:(Opt.during o p).Ok):RunCon (.during o p):=by
  obtain ⟨_,hol⟩:=ho
  unfold MaxF at hol
  have e:(Opt.during o p).out=durK p o.out:=rfl
  unfold RunCon
  rw [show (Opt.during o p).nl=(durK p o.out).isEmpty from rfl,e]
  refine Con.frz (rs:=[.fr (durK p o.out).isEmpty (if (durK p o.out).isEmpty then 0 else 3) (facts (durK p o.out)) 0]) ?_ 0 rfl
  show Con Tryz.prog 283 _ _
  refine spec_of Tryz.func283 rfl (by kernel_rfl) (by simp [Tryz.f283]) (fun w0 K0=>vc_ok _ _ _ (by kernel_rfl) ?_)
  simp only [Tryz.f283]
  simp -dsimp [Opt.tc]
  refine VI.mk0 (.agg o.tc.2) o.tc.1 o.fn _ rfl o.meth hr ?_
  simp -dsimp
  generalize o.out=l at *
  refine VL.loop (fun i:KI=>⟨[(13,.c (i64 i.k)),(12,.c (i64 l.length)),(11,.c (.sl o.nl (facts l))),(1,.ptr 64 0),(3,.own 192 (durK p (l.take i.k)).length)],[(64,some (.box false [.c (.ifc o.tc.1 o.tc.2),.c (i64 p.f),.c (i64 p.t)])),(192,some (.arr i.nl i.sz (facts (durK p (l.take i.k))) 0))]⟩)
    (fun i=>i.k≤l.length∧i.nl=(durK p (l.take i.k)).isEmpty∧i.sz=if i.nl then 0 else 3) (fun i=>l.length-i.k) ⟨0,true,0⟩ (by kernel_rfl) ⟨by simp,rfl,rfl⟩ (by simp [St.le,durK]) ?_
  intro ⟨k,z,sz⟩ ⟨hk,hz,hsz⟩
  simp only at hk hz hsz
  have hkl:=durK_le p l k
  by_cases h1:k<l.length
  · have hw:IntKind.i64.wrap ((k:Int)+1)=(k:Int)+1:=IntWalk.i64_in _ (by omega)
    have hsn:=durK_snoc p l h1
    have hk2:=durK_le p l (k+1)
    simp -dsimp [h1,hw,Fact.cells]
    refine VC.mk _ (overlap_at _ _ l[k].p p rfl rfl) ?_
    simp -dsimp [Per.cells]
    refine VIf.mk (fun h=>?_) (fun h=>?_)
    · rw [h,if_pos rfl] at hsn
      have hlen:=congrArg List.length hsn
      simp only [List.length_append,List.length_cons,List.length_nil] at hlen
      simp -dsimp [hw,maxLen]
      refine ⟨fun e=>by rw [hsz,e];rfl,by omega,⟨k+1,false,3⟩,⟨by simp only;omega,by rw [hsn];simp,rfl⟩,?_,by simp only;omega⟩
      simp [St.le,hsn,Fact.cells]
    · rw [h,if_neg (by simp),List.append_nil] at hsn
      simp -dsimp [hw]
      refine ⟨⟨k+1,z,sz⟩,⟨by simp only;omega,by rw [hsn];exact hz,hsz⟩,?_,by simp only;omega⟩
      simp [St.le,hsn]
  · obtain rfl:k=l.length:=by omega
    rw [List.take_length] at *
    simp -dsimp
    refine ⟨hz,?_⟩
    rw [hsz,hz]
    cases durK p l <;> simp
theorem run_spec:∀ (o:Opt),o.Ok→RunCon o
  | .scan nl l,_=>scanRun_spec nl l
  | .filter o nl ts,h=>filterRun_spec o nl ts (run_spec o h.1) h
  | .during o p,h=>duringRun_spec o p (run_spec o h.1) h
  | .nested a b,h=>nestedRun_spec a b (run_spec a h.1) (run_spec b h.2.1) h
structure Src where
  nl:Bool
  fs:List Fact
  cols:Int
  ix:Bool
instance:Inhabited Src:=⟨⟨true,[],0,false⟩⟩
def Src.cells (s:Src):List C:=[.sl s.nl (facts s.fs),i64 s.cols,bln s.ix]
abbrev srcs (l:List Src):List (List C):=l.map Src.cells
structure Qry where
  sn:Bool
  src:List Src
  tn:Bool
  ts:List Tm
  dn:Bool
  du:List Per
def Qry.cells (q:Qry):List C:=[.sl q.sn (srcs q.src),.sl q.tn (terms q.ts),.sl q.dn (q.du.map Per.cells)]
structure Pln where
  swap:Bool
  way:Int
  push:Bool
  early:Bool
  deriving DecidableEq
instance:Inhabited Pln:=⟨⟨false,0,false,false⟩⟩
def Pln.cells (p:Pln):List C:=[bln p.swap,i64 p.way,bln p.push,bln p.early]
def innerB (q:Qry) (p:Pln):Bool:=p.swap || decide ((q.src.length:Int)=1)
def inner (q:Qry) (p:Pln):Src:=if innerB q p then q.src[0]! else q.src[1]!
mutual
def colsT:Tm→List Int
  | .mk op _ _ place _ args=>Go.Lib.compact (sortI ((if op=wColumn then [place] else [])++colsTs args))
def colsTs:List Tm→List Int
  | []=>[]
  | t::r=>colsT t++colsTs r
end
mutual
def moveT (d:Int):Tm→Tm
  | .mk op kd v place _ args=>.mk op kd v (if op=wColumn then IntKind.i64.wrap (place+d) else place) args.isEmpty (moveTs d args)
def moveTs (d:Int):List Tm→List Tm
  | []=>[]
  | t::r=>moveT d t::moveTs d r
end
def fromK (l:List Src) (k:Nat):Int:=((l.take k).map Src.cols).sum
def ownB (cs:List Int) (fr n:Int):Bool:=match cs with
  | []=>false
  | x::r=>decide (fr≤x) && decide ((x::r)[(x::r).length-1]! < fr+n)
def ownT (q:Qry) (i:Nat) (t:Tm):Bool:=ownB (colsT t) (fromK q.src i) (q.src[i]!).cols
def ownL (q:Qry) (i:Nat):List Tm:=(q.ts.filter (ownT q i)).map (moveT (-(fromK q.src i)))
def dig (n:Nat):Nat:=if n=0 then 0 else n.log2+1
theorem dig_half (n:Nat) (h:1≤n):dig n=1+dig (n / 2):=by
  unfold dig
  rw [if_neg (by omega),Nat.log2_def]
  by_cases h2:2≤n
  · rw [if_pos h2,if_neg (by omega)];omega
  · rw [if_neg h2,if_pos (by omega)]
theorem dig_shift:∀ (k n:Nat),2 ^ k≤n→dig n=k+dig (n / 2 ^ k)
  | 0,n,_=>by simp
  | k+1,n,h=>by
    have h1:2 ^ k≤n / 2:=by
      rw [Nat.le_div_iff_mul_le (by omega)];rw [Nat.pow_succ] at h;exact h
    have h0:1≤n:=Nat.le_trans (Nat.one_le_two_pow) h
    rw [dig_half n h0,dig_shift k (n / 2) h1,Nat.div_div_eq_div_mul,show 2*2 ^ k=2 ^ (k+1) from by rw [Nat.pow_succ];omega]
    omega
theorem fd16 (a:Nat):(a:Int).fdiv (2 ^ min 16 IntKind.u64.bits)=((a / 65536:Nat):Int):=by
  have e:(2:Int) ^ min 16 IntKind.u64.bits=65536:=by decide
  rw [e,Int.fdiv_eq_ediv_of_nonneg _ (by decide)]
  rfl
theorem fd8 (a:Nat):(a:Int).fdiv (2 ^ min 8 IntKind.u64.bits)=((a / 256:Nat):Int):=by
  have e:(2:Int) ^ min 8 IntKind.u64.bits=256:=by decide
  rw [e,Int.fdiv_eq_ediv_of_nonneg _ (by decide)]
  rfl
def tab8:List UInt8:=[0,1,2,2,3,3,3,3,4,4,4,4,4,4,4,4,5,5,5,5,5,5,5,5,5,5,5,5,5,5,5,5,6,6,6,6,6,6,6,6,6,6,6,6,6,6,6,6,6,6,6,6,6,6,6,6,6,6,6,6,6,6,6,6,7,7,7,7,7,7,7,7,7,7,7,7,7,7,7,7,7,7,7,7,7,7,7,7,7,7,7,7,7,7,7,7,7,7,7,7,7,7,7,7,7,7,7,7,7,7,7,7,7,7,7,7,7,7,7,7,7,7,7,7,7,7,7,7,8,8,8,8,8,8,8,8,8,8,8,8,8,8,8,8,8,8,8,8,8,8,8,8,8,8,8,8,8,8,8,8,8,8,8,8,8,8,8,8,8,8,8,8,8,8,8,8,8,8,8,8,8,8,8,8,8,8,8,8,8,8,8,8,8,8,8,8,8,8,8,8,8,8,8,8,8,8,8,8,8,8,8,8,8,8,8,8,8,8,8,8,8,8,8,8,8,8,8,8,8,8,8,8,8,8,8,8,8,8,8,8,8,8,8,8,8,8,8,8,8,8,8,8,8,8,8,8]
set_option maxRecDepth 10000 in
theorem tab8_dig:∀ x,x<256→(tab8[x]?.getD 0).toNat=dig x:=by decide +kernel
theorem u8_in {x:Nat} (h:x<256):IntKind.u8.wrap (x:Int)=x:=by
  have e:IntKind.u8.wrap (x:Int)=(x:Int) % 256:=by first | rfl | simp [IntKind.wrap,IntKind.signed,IntKind.bits]
  rw [e];omega
theorem dig_le (n:Nat) (h:n<4294967296):dig n≤32:=by
  unfold dig
  split
  · omega
  · have:=(Nat.log2_lt (by omega:n≠0)).2 (show n<2 ^ 32 from h)
    omega
set_option maxRecDepth 10000 in
set_option maxHeartbeats 4000000 in
theorem len64_spec (n:Nat) (hn:n<4294967296):Con Tryz.prog 75 [.c (.v (.int .u64 n))] [.c (i64 (dig n))]:=by
  refine spec_of Tryz.func75 rfl (by kernel_rfl) (by simp [Tryz.f75]) (fun w0 K0=>vc_ok _ _ _ (by kernel_rfl) ?_)
  simp only [Tryz.f75]
  have h0:¬ (4294967296≤(n:Int)):=by omega
  simp -dsimp [h0]
  have hw8:IntKind.i64.wrap 8=8:=by decide
  have hw16:IntKind.i64.wrap 16=16:=by decide
  have hw24:IntKind.i64.wrap (16+8)=24:=by decide
  refine VIf.mk (fun g=>?_) (fun g=>?_)
  · have hf:=fd16 n
    have hs:=dig_shift 16 n (by simp at g;omega)
    have hx:n / 65536<65536:=by omega
    rw [show (2:Nat) ^ 16=65536 from rfl] at hs
    generalize n / 65536=x at *
    simp -dsimp [hf,hw16]
    refine VIf.mk (fun g2=>?_) (fun g2=>?_)
    · have hf2:=fd8 x
      have hs2:=dig_shift 8 x (by simp at g2;omega)
      have hx8:x / 256<256:=by omega
      rw [show (2:Nat) ^ 8=256 from rfl] at hs2
      generalize x / 256=y at *
      simp -dsimp [hf2,hw16,hw24]
      have hu:=u8_in hx8
      have ht:=tab8_dig _ hx8
      unfold tab8 at ht
      have hdl:=dig_le y (by omega)
      have hw24b:IntKind.i64.wrap 24=24:=by decide
      rw [hw24b,hu,Int.toNat_natCast,ht,IntWalk.i64_in (dig y:Int) (by omega),IntWalk.i64_in _ (by omega)]
      exact ⟨⟨by omega,by omega⟩,by omega⟩
    · have hx8:x<256:=by simp at g2;omega
      simp -dsimp [hw16]
      have hu:=u8_in hx8
      have ht:=tab8_dig _ hx8
      unfold tab8 at ht
      have hdl:=dig_le x (by omega)
      rw [hu,Int.toNat_natCast,ht,IntWalk.i64_in (dig x:Int) (by omega),IntWalk.i64_in _ (by omega)]
      exact ⟨⟨by omega,by omega⟩,by omega⟩
  · simp -dsimp
    refine VIf.mk (fun g2=>?_) (fun g2=>?_)
    · have hf2:=fd8 n
      have hs2:=dig_shift 8 n (by simp at g2;omega)
      have hx8:n / 256<256:=by simp at g;omega
      rw [show (2:Nat) ^ 8=256 from rfl] at hs2
      generalize n / 256=y at *
      simp -dsimp [hf2,hw8]
      have hu:=u8_in hx8
      have ht:=tab8_dig _ hx8
      unfold tab8 at ht
      have hdl:=dig_le y (by omega)
      rw [hu,Int.toNat_natCast,ht,IntWalk.i64_in (dig y:Int) (by omega),IntWalk.i64_in _ (by omega)]
      exact ⟨⟨by omega,by omega⟩,by omega⟩
    · have hx8:n<256:=by simp at g2;omega
      simp -dsimp
      have hu:=u8_in hx8
      have ht:=tab8_dig _ hx8
      unfold tab8 at ht
      have hdl:=dig_le n (by omega)
      rw [hu,Int.toNat_natCast,ht,IntWalk.i64_in (dig n:Int) (by omega),IntWalk.i64_in _ (by omega)]
      exact ⟨⟨by omega,by omega⟩,by omega⟩
def dgI (n:Int):Int:=(dig n.toNat:Int)
theorem len64_at {n:Int} (h0:0≤n) (h1:n≤268435456):Con Tryz.prog 75 [.c (.v (.int .u64 n))] [.c (i64 (dgI n))]:=by
  have:=len64_spec n.toNat (by omega)
  rw [Int.toNat_of_nonneg h0] at this
  exact this
end Go.Proofs.YtlphpbcafplnbaaGreat
