/- Contracts of functions of the seat, proved in a logic on data over the model (part BY). -/
import Derived.Test.YtlphpbcafplnbaaGreatVN13
import Derived.Test.YtlphpbcafplnbaaGreatB1
import Derived.Test.YtlphpbcafplnbaaGreatE3
import Derived.Test.YtlphpbcafplnbaaGreatS4
set_option linter.unusedSimpArgs false
set_option linter.unusedVariables false
namespace Go.VL
open Go.RowKit
section
variable {P:Program} {w0:World} {K0:K0T} {nt:Nat} {OPS:Array Oper} {st:St}
theorem VRS.bldA {y:Nat} {t ty:TypeId} {x0 x1:Operand} {f0 f1:Nat} {p:String} {af:Array Edge} {l:List Oper} {K:St→Prop} (c0:C) (pat:List (Nat ⊕ Value))
    (hp:∀ u0 u1:Value,pbuild P t [(f0,.agg [.v u0]),(f1,.c (.v u1))]=(.agg (pat.map (patC [u0,u1])),True))
    (hpat:∀ k,Sum.inl k∈pat→k<2) (h0:st.ev x0 = .agg [c0]) (h1:oneS st (st.ev x1))
    (hk:VRS P w0 K0 nt OPS l (st.put y (.st (pat.map (patS [.c c0,st.ev x1])))) K) :
    VRS P w0 K0 nt OPS (⟨some y,.build t #[(f0,x0),(f1,x1)],ty,p,af,none⟩::l) st K:=by
  refine VRS.step fun hok a w g hT next Q hn'=>wanted_step hT rfl ?_
  have hd:=opOk_dst hok
  have e0:=hT.ev x0
  rw [h0,SR] at e0
  obtain ⟨us0,q0,v0⟩:=e0
  simp only [VR] at v0
  obtain ⟨u0,us',rfl,c0',rfl⟩:=v0
  have o0:u0.oneCell'=true:=CR.one c0'
  have e1:=hT.ev x1
  have o1:(a.eval x1).oneCell'=true:=oneS_ok hT e1 h1
  have e:=hp u0 (a.eval x1)
  have hpr:PartsR g w st.rs [(f0,.agg [.v u0]),(f1,.c (.v (a.eval x1)))] (Array.map (fun q:Nat × Operand=>(q.1,a.eval q.2)) #[(f0,x0),(f1,x1)]).toList:=by
    simp only [List.map_toArray,List.map_cons,List.map_nil,PartsR]
    refine ⟨_,_,rfl,?_,_,_,rfl,by rw [SR,CR];exact ⟨rfl,o1⟩,rfl⟩
    rw [q0,SR]
    exact ⟨[u0],rfl,by simp only [VR];exact ⟨_,_,rfl,by rw [CR];exact ⟨rfl,o0⟩,rfl⟩⟩
  obtain ⟨r,h1',h2⟩:=pbuild_ok (P:=P) (t:=t) hpr (by rw [e];trivial)
  rw [e,SR] at h2
  obtain ⟨us,rfl,h2⟩:=h2
  obtain ⟨rfl,h3⟩:=patC_VR h2
  have hrun:(execOp a.eval ⟨some y,.build t #[(f0,x0),(f1,x1)],ty,p,af,none⟩).run P w = .ok (.value (.agg (pat.map (patV [u0,a.eval x1])).toArray)) w:=by
    simp only [execOp,Sem.run_bind,h1',Result.andThen_ok,Sem.run_pure]
  refine ow_value hrun (hn' _ _ w g hk ?_)
  refine hT.put (hd y rfl) ?_
  rw [SR]
  refine ⟨_,rfl,?_,h3⟩
  clear h1' h2 hrun e hk hp
  induction pat with
  | nil=>simp [SRs]
  | cons q r ih =>
    simp only [List.map_cons,SRs]
    refine ⟨_,_,rfl,?_,ih (fun k hk=>hpat k (by simp [hk])) fun v hv=>h3 v (by simp only [List.map_cons];exact List.mem_cons_of_mem _ hv)⟩
    cases q with
    | inr z =>
      simp only [patS,patV]
      rw [SR,CR]
      exact ⟨rfl,h3 z (by simp [patV])⟩
    | inl k =>
      have hkl:=hpat k (by simp)
      simp only [patS,patV]
      match k,hkl with
      | 0,_=>show SR g w st.rs (.c c0) u0;rw [SR];exact c0'
      | 1,_=>exact e1
end
end Go.VL
namespace Go.VL
open Go.RowKit
section
variable {P:Program} {w0:World} {K0:K0T} {nt:Nat} {OPS:Array Oper} {st:St}
theorem VRS.gf (X:S) {o:Oper} {l:List Oper} {y:Nat} {K:St→Prop} (hg:gflag OPS st o.guard=some false) (hd:o.dst=some y)
    (hk:VRS P w0 K0 nt OPS l (st.put y (.g false X)) K):VRS P w0 K0 nt OPS (o::l) st K:=by
  refine VRS.step fun hok a w g hT next Q hn'=>?_
  have hw:=gflag_ok hT hg o rfl
  unfold stepW
  rw [hw,if_neg (by decide),hd]
  refine hn' _ _ w g hk (hT.put (opOk_dst hok y hd) ?_)
  rw [SR]
  exact ⟨fun e=>Bool.noConfusion e,fun _=>rfl⟩
end
def allDa:List S→Bool
  | []=>true
  | .c _::r=>allDa r
  | _=>false
def unDa:List S→List C
  | .c x::r=>x::unDa r
  | _=>[]
@[simp] theorem allDa_nil:allDa []=true:=rfl
@[simp] theorem allDa_cons (x:C) (r:List S):allDa (.c x::r)=allDa r:=rfl
@[simp] theorem unDa_nil:unDa []=[]:=rfl
@[simp] theorem unDa_cons (x:C) (r:List S):unDa (.c x::r)=x::unDa r:=rfl
theorem allDa_unC:∀ {ss:List S},allDa ss=true→ss=(unDa ss).map .c
  | [],_=>rfl
  | .c x::r,h=>by rw [unDa_cons,List.map_cons,← allDa_unC (ss:=r) h]
section
variable {P:Program} {w0:World} {K0:K0T} {nt:Nat} {c:Code} {st:St} {Q:Exit→St→Prop} {a:Act} {w:World} {g:G}
theorem T.boxdata (h:T w0 K0 nt st a w g) {i:Nat} {fz:Bool} {ss:List S} (hi:st.rs i=some (.box fz ss)) (hs:allDa ss=true) :
    ∃ g',T w0 K0 nt (st.setR i (some (.box true ss))) a w g'∧∀ b,g'.loc i = .pointer (some ⟨b,0,none⟩)→LR g'.K w b 0 (unDa ss):=by
  have e:=allDa_unC hs
  obtain ⟨g',h1,_,h3,h4,_⟩:=h.fixbox (cs:=unDa ss) hi (fun b cur E e1 e2=>by
    obtain ⟨b',cur',E',q1,q2,q3,q4,q5,q6⟩:=h.res i _ hi
    rw [q1] at e1
    cases e1
    rw [q3] at e2
    cases e2
    refine (VR_iff _ _).2 ⟨by have:=congrArg List.length e;simp at this;simp [q4,this],fun k x u hk hu=>?_⟩
    obtain ⟨u',m1,m2,m3⟩:=q5 k (.c x) (by rw [e];simp [hk])
    rw [Array.getElem?_toList,m1] at hu
    cases hu
    rwa [SR] at m2)
  rw [← e] at h1
  exact ⟨g',h1,fun b hb=>h3 b (by rw [h4] at hb;exact hb)⟩
theorem T.ptrdata (h:T w0 K0 nt st a w g) {i:Nat} {fz:Bool} {ss:List S} (hi:st.rs i=some (.box fz ss)) {cs:List C} (hl:∀ b,g.loc i = .pointer (some ⟨b,0,none⟩)→LR g.K w b 0 cs) {u:Value} (hu:SR g w st.rs (.ptr i 0) u):CR g.K w (.dp cs) u:=by
  rw [SR] at hu
  obtain ⟨b,e1,rfl⟩:=hu fz ss hi
  rw [CR]
  exact ⟨b,0,rfl,hl b e1⟩
def fixB (r:Option Res) (K:List S→Prop):Prop :=
  match r with
  | some (.box _ ss)=>allDa ss=true∧K ss
  | _=>False
@[simp] theorem fixB_box (fz:Bool) (ss:List S) (K:List S→Prop):fixB (some (.box fz ss)) K=(allDa ss=true∧K ss):=rfl
def isP (j:Nat):S→Bool
  | .ptr i 0=>i == j
  | _=>false
@[simp] theorem isP_ptr (i j:Nat):isP j (.ptr i 0)=(i == j):=rfl
theorem isP_eq {j:Nat} {s:S} (h:isP j s=true):s = .ptr j 0:=by
  unfold isP at h
  split at h
  · rw [beq_iff_eq] at h;rw [h]
  · cases h
theorem VL.fixptr (t j:Nat) (h:force (tick (st.rs j)) fun r=>fixB r fun ss=>force (tick (st.get t)) fun s=>isP j s=true∧force (tick ((st.setR j (some (.box true ss))).put t (.c (.dp (unDa ss))))) fun st'=>VL P w0 K0 nt c st' Q .mk .mk):VL P w0 K0 nt c st Q .mk .mk:=by
  intro a w g hT
  have h':fixB (st.rs j) fun ss=>isP j (st.get t)=true∧VL P w0 K0 nt c ((st.setR j (some (.box true ss))).put t (.c (.dp (unDa ss)))) Q .mk .mk:=h
  unfold fixB at h'
  split at h'
  · rename_i fz ss hj
    obtain ⟨hs,hp,hv⟩:=h'
    obtain ⟨g',hT',hl⟩:=hT.boxdata hj hs
    have hu:=hT'.env t
    rw [St.get_setR,isP_eq hp] at hu
    have hc:=hT'.ptrdata (i:=j) (fz:=true) (ss:=ss) (by rw [St.rs_setR,if_pos rfl]) hl hu
    refine hv a w g' ⟨hT'.below,hT'.k0,hT'.kold,hT'.klt,hT'.res,hT'.dis,fun t'=>?_,hT'.nt,hT'.defers,hT'.keep⟩
    rw [St.get_put]
    by_cases e:t=t'
    · rw [if_pos e,← e,SR];exact hc
    · rw [if_neg e];exact hT'.env t'
  · exact h'.elim
def celB (r:Option Res) (k j:Nat) (K:List S→Prop):Prop :=
  match r with
  | some (.box false ss)=>ss[k]? = some (.ptr j 0)∧K ss
  | _=>False
@[simp] theorem celB_box (ss:List S) (k j:Nat) (K:List S→Prop):celB (some (.box false ss)) k j K=(ss[k]? = some (.ptr j 0)∧K ss):=rfl
theorem VL.fixcell (i k j:Nat) (h:force (tick (st.rs j)) fun r=>fixB r fun ss=>force (tick ((st.setR j (some (.box true ss))).rs i)) fun r2=>celB r2 k j fun ss2=>force (tick ((st.setR j (some (.box true ss))).setR i (some (.box false (ss2.set k (.c (.dp (unDa ss)))))))) fun st'=>VL P w0 K0 nt c st' Q .mk .mk):VL P w0 K0 nt c st Q .mk .mk:=by
  intro a w g hT
  have h':fixB (st.rs j) fun ss=>celB ((st.setR j (some (.box true ss))).rs i) k j fun ss2=>VL P w0 K0 nt c ((st.setR j (some (.box true ss))).setR i (some (.box false (ss2.set k (.c (.dp (unDa ss))))))) Q .mk .mk:=h
  unfold fixB at h'
  split at h'
  · rename_i fz ss hj
    obtain ⟨hs,h'⟩:=h'
    unfold celB at h'
    split at h'
    · rename_i ss2 hi
      obtain ⟨hk,hv⟩:=h'
      obtain ⟨g1,h1,hl⟩:=hT.boxdata hj hs
      refine hv a w g1 (T.mod h1 hi (Bel.refl _ _ _) (Keeps.refl _ _) h1.kold h1.klt rfl (fun j r b _ _ _=>⟨rfl,fun _ k=>k⟩) (.inl ⟨_,_,_,_,rfl,rfl⟩) (fun hc=>?_))
      obtain ⟨b,cur,E,e1,e2,e3,e4,e5,e6⟩:=h1.res i _ hi
      refine ⟨b,cur,E,e1,e2,e3,by simpa using e4,fun k' s hs=>?_,e6⟩
      rw [List.getElem?_set] at hs
      by_cases e:k=k'
      · subst e
        rw [if_pos rfl] at hs
        have hlt:k<ss2.length:=(List.getElem?_eq_some_iff.1 hk).1
        rw [if_pos hlt] at hs
        simp at hs
        subst hs
        obtain ⟨u,m1,m2,m3⟩:=e5 k _ hk
        exact ⟨u,m1,by rw [SR];exact h1.ptrdata (i:=j) (fz:=true) (ss:=ss) (by rw [St.rs_setR,if_pos rfl]) hl m2,m3⟩
      · rw [if_neg e] at hs
        obtain ⟨u,m1,m2,m3⟩:=e5 k' s hs
        exact ⟨u,m1,SR.mono (Keeps.refl _ _) s u (fun j _=>hc j) m2,m3⟩
    · exact h'.elim
  · exact h'.elim
end
end Go.VL
namespace Go.Proofs.YtlphpbcafplnbaaGreat
open Go.VL Go.RowKit
theorem sortS_spec (nc:Bool) (cs:List Int) (hcs:cs.length≤1000000000000) (l:List Fact) (n:Nat) (hn:n=l.length) (hl:n≤4398046511104) (hr:∀ f∈l,f.row.length≤140737488355328) :
    ConB Tryz.prog 56 [.own 1 n,srtFn nc cs] (rowF 1 l) [] [.own 1 n,srtFn nc cs] (rowF 1 (stab (cmpC cs) l)):=by
  refine spec_ofB 2 Tryz.func56 rfl (by kernel_rfl) (by simp [Tryz.f56]) (by simp [rowF]) rfl (fun w0 K0 uf=>vc_ok _ _ _ (by kernel_rfl) ?_)
  simp only [Tryz.f56]
  have hsp:=stable_spec nc cs hcs l n hn hl hr
  simp -dsimp [initB,initEnv,pinsOf,rowF]
  refine ⟨hn.symm,VCL.lend _ _ _ _ _ _ _ (lend2 hsp hn.symm (by rw [stab_len];exact hn.symm) (by simp)) ?_⟩
  simp -dsimp [rowF,retS,renSs,renR]
theorem ins_nil (fn:C):Con Tryz.prog 117 [.c (.sl true []),.c (i64 0),.c (i64 0),.c fn] []:=by
  refine spec_of Tryz.func117 rfl (by kernel_rfl) (by simp [Tryz.f117]) (fun w0 K0=>vc_ok _ _ _ (by kernel_rfl) ?_)
  simp only [Tryz.f117]
  have hw:IntKind.i64.wrap (0+1)=1:=by decide
  simp -dsimp [hw]
  refine VL.rounds 1 (by kernel_rfl) ?_
  simp -dsimp
theorem stable_nil (fn:C):Con Tryz.prog 92 [.c (.sl true []),.c (i64 0),.c fn] []:=by
  refine spec_of Tryz.func92 rfl (by kernel_rfl) (by simp [Tryz.f92]) (fun w0 K0=>vc_ok _ _ _ (by kernel_rfl) ?_)
  simp only [Tryz.f92]
  have hi:=ins_nil fn
  simp -dsimp
  refine VL.rounds 1 (by kernel_rfl) ?_
  simp -dsimp
  refine VC.mk _ hi ?_
  simp -dsimp
  refine VL.rounds 1 (by kernel_rfl) ?_
  simp -dsimp
theorem sortS_nil (fn:C):Con Tryz.prog 56 [.c (.sl true []),.c fn] []:=by
  refine spec_of Tryz.func56 rfl (by kernel_rfl) (by simp [Tryz.f56]) (fun w0 K0=>vc_ok _ _ _ (by kernel_rfl) ?_)
  simp only [Tryz.f56]
  have hi:=stable_nil fn
  simp -dsimp
  refine VC.mk _ hi ?_
  simp -dsimp
set_option maxRecDepth 4000 in
set_option maxHeartbeats 8000000 in
theorem sort18_spec (nl nc:Bool) (cs:List Int) (hcs:cs.length≤1000000000000) (l:List Fact) (ho:FOk l) (hl:l.length≤3518437208883) :
    Con Tryz.prog 26 [.c (.sl nl (facts l)),.c (.sl nc (ints cs))] [.c (.sl l.isEmpty (facts (stab (cmpC cs) l)))]:=by
  refine Con.frz (rs:=[.fr l.isEmpty (if l.isEmpty then 0 else 3) (facts (stab (cmpC cs) l)) 0]) ?_ 0 rfl
  refine spec_of Tryz.func26 rfl (by kernel_rfl) (by simp [Tryz.f26]) (fun w0 K0=>vc_ok _ _ _ (by kernel_rfl) ?_)
  simp only [Tryz.f26]
  have hcp:=copied_spec nl l ho hl
  simp -dsimp
  refine VC.mk _ hcp ?_
  simp -dsimp
  cases l with
  | nil =>
    have e:stab (cmpC cs) ([]:List Fact)=[]:=List.perm_nil.1 (stab_perm _)
    rw [e]
    refine VCL.snap ?_
    simp -dsimp
    refine VC.mk _ (sortS_nil _) ?_
    simp -dsimp
  | cons x0 l0 =>
    generalize hL:x0::l0=l at *
    have hne:l.isEmpty=false:=by rw [← hL];rfl
    have hne':l≠[]:=by rw [← hL];simp
    have hsp:=sortS_spec nc cs hcs l l.length rfl (by omega) (fun f hf=>by have:=(ho f hf).2;omega)
    refine VCL.lend _ _ _ _ _ _ _ (lend1 hsp rfl (stab_len l) (by simp [hne,hne'])) ?_
    simp -dsimp [rowF,retS,renSs,renR,hne]
    exact stab_len l
def rowI (i:Nat) (l:List Int):List (Nat × Res):=[(i,.arr false 1 (ints l) 0)]
structure SortsI:Prop where
  con:∀ l:List Int,l.length≤140737488355328→ConB Tryz.prog 133 [.own 1 l.length] (rowI 1 l) [] [.own 1 l.length] (rowI 1 (sortI l))
  nil:Con Tryz.prog 133 [.c (.sl true [])] []
  cmp:∀ l:List Int,l.length≤140737488355328→ConB Tryz.prog 134 [.own 1 l.length] (rowI 1 l) [.own 1 (Go.Lib.compact l).length] [if (Go.Lib.compact l).length=l.length then .own 1 l.length else .un] (rowI 1 (Go.Lib.compact l))
  cnil:Con Tryz.prog 134 [.c (.sl true [])] [.c (.sl true [])]
set_option maxRecDepth 4000 in
set_option maxHeartbeats 4000000 in
theorem compact_nil:Con Tryz.prog 134 [.c (.sl true [])] [.c (.sl true [])]:=by
  refine spec_of Tryz.func134 rfl (by kernel_rfl) (by simp [Tryz.f134]) (fun w0 K0=>vc_ok _ _ _ (by kernel_rfl) ?_)
  simp only [Tryz.f134]
  simp -dsimp
set_option maxRecDepth 4000 in
set_option maxHeartbeats 8000000 in
theorem edges_spec (hi:SortsI) (nl:Bool) (l:List Per) (_:nl=true→l=[]) (hl:l.length≤8796093022207) :
    Con Tryz.prog 112 [.c (.sl nl (l.map Per.cells))] [.fr (edgesL l).isEmpty (ez (edgesL l)) (ints (edgesL l)) 0]:=by
  refine spec_of Tryz.func112 rfl (by kernel_rfl) (by simp [Tryz.f112]) (fun w0 K0=>vc_ok _ _ _ (by kernel_rfl) ?_)
  simp only [Tryz.f112]
  simp -dsimp
  refine VL.loop (fun i:LI=>⟨[(8,.c (i64 i.k)),(7,.c (i64 l.length)),(6,.c (.sl nl (l.map Per.cells))),(3,.own 192 (endsOf (l.take i.k)).length)],
      [(192,some (.arr i.nl i.sz (ints (endsOf (l.take i.k))) 0))]⟩)
    (fun i=>i.k≤l.length∧i.nl=(endsOf (l.take i.k)).isEmpty∧i.sz=ez (endsOf (l.take i.k))) (fun i=>l.length-i.k) ⟨0,true,0⟩ (by kernel_rfl) (by simp [endsOf,ez]) (by simp [St.le,endsOf]) ?_
  intro ⟨k,nl',sz⟩ ⟨hk,hnl,hsz⟩
  simp only at hk hnl hsz
  have hol:=endsOf_len (l.take k)
  have hlk:(l.take k).length=k:=by rw [List.length_take];omega
  have hsu:=fun h:k<l.length=>endsOf_snoc l h
  generalize ho:endsOf (l.take k)=out at *
  simp -dsimp
  refine VIf.mk (fun h=>?_) (fun h=>?_)
  · have hlt:k<l.length:=by simpa using h
    have hw:IntKind.i64.wrap ((k:Int)+1)=(k:Int)+1:=IntWalk.i64_in _ (by omega)
    have hsu:=hsu hlt
    simp -dsimp [hlt,Per.cells]
    refine VC.mk _ (check_at _ l[k] rfl) ?_
    simp -dsimp
    refine VIf.mk (fun h2=>?_) (fun h2=>?_)
    · have hr:right l[k]=true:=by simpa using h2
      rw [if_pos hr] at hsu
      simp -dsimp [maxLen,hw]
      refine ⟨fun e=>?_,by omega,⟨k+1,false,1⟩,⟨hlt,?_,?_⟩,?_,by simp;omega⟩
      · rw [hsz];rw [hnl] at e;simp [ez,e]
      · rw [hsu];simp
      · rw [hsu];simp [ez]
      · simp [St.le,hsu,ints]
    · have hr:right l[k]=false:=by simpa using h2
      rw [hr,if_neg (by simp),List.append_nil] at hsu
      simp -dsimp [hw]
      refine ⟨⟨k+1,nl',sz⟩,⟨hlt,by rw [hsu];exact hnl,by rw [hsu];exact hsz⟩,?_,by simp;omega⟩
      simp [St.le,hsu]
  · simp at h
    obtain rfl:k=l.length:=by omega
    rw [List.take_length] at ho
    have hed:edgesL l=Go.Lib.compact (sortI out):=by unfold edgesL;rw [ho]
    rw [hed]
    rcases List.eq_nil_or_concat out with rfl | ⟨ini,q,hq⟩
    · obtain rfl:nl'=true:=hnl
      have e:sortI []=[]:=by simp [sortI]
      have e2:Go.Lib.compact (sortI [])=[]:=by rw [e];rfl
      rw [e2]
      simp -dsimp
      refine VCL.snap ?_
      simp -dsimp
      refine VC.mk _ hi.nil ?_
      simp -dsimp
      refine VCL.snap ?_
      simp -dsimp
      refine VC.mk _ hi.cnil ?_
      simp -dsimp [ez]
    · have hne:out.isEmpty=false:=by rw [hq];simp
      have hnl2:nl'=false:=by rw [hnl,hne]
      have hsz2:sz=1:=by rw [hsz];simp [ez,hne]
      subst hnl2 hsz2
      have hcne:(Go.Lib.compact (sortI out)).isEmpty=false:=by
        have hm:=(compact_ok (sortI out) (sortI_sorted out)).2 q
        have:q∈Go.Lib.compact (sortI out):=hm.2 ((sortI_perm out).mem_iff.2 (by rw [hq];simp))
        rw [List.isEmpty_eq_false_iff]
        intro e;rw [e] at this;simp at this
      clear hq ho hsu hnl hsz hed
      have hcs:=hi.con out (by omega)
      have hlen:=sortI_len out
      have hcc:=hi.cmp (sortI out) (by omega)
      generalize sortI out=so at *
      have hcl:=compact_len so
      generalize Go.Lib.compact so=co at *
      simp -dsimp
      refine VCL.lend (rowI 1 out) (rowI 1 so) [.own 1 out.length] _ _ (fun _=>192) [] ⟨hcs,?_,?_,?_,?_,?_,?_,?_⟩ ?_
      · simp [renSs,renS]
      · simp [rowI,renR]
      · simp [rowI]
      · simp [rowI]
      · simp [rowI,Res.nam]
      · simp [S.nams]
      · simp [rowI,lk,keptP]
        exact ⟨1,_,⟨rfl,rfl⟩,_,⟨rfl,rfl⟩,by simp,by simp [hlen]⟩
      simp -dsimp [rowI,retS,renSs]
      refine VCL.lend (rowI 1 so) (rowI 1 co) [.own 1 so.length] _ _ (fun _=>192) [192] ⟨hcc,?_,?_,?_,?_,?_,?_,?_⟩ ?_
      · simp [renSs,renS,hlen]
      · simp [rowI,renR]
      · simp [rowI]
      · simp [rowI]
      · simp [rowI,Res.nam]
      · simp [rowI,S.nams,S.nam]
      · simp [rowI]
      simp -dsimp [rowI,retS,renSs,renS]
      have hc2:co≠[]:=List.isEmpty_eq_false_iff.1 hcne
      simp [ez,hcne,hc2]
def stepC (s:Per × Int):List C:=[i64 s.1.f,i64 s.1.t,i64 s.2]
abbrev stepCs (l:List (Per × Int)):List (List C):=l.map stepC
theorem clone_any (nl:Bool) (l:List Per) (hn:nl=true→l=[]) (hl:l.length≤8796093022208):Con Tryz.prog 113 [.c (.sl nl (l.map Per.cells))] [.fr nl (if nl then 0 else 2) (l.map Per.cells) 0]:=by
  cases nl with
  | false=>exact clone_spec l hl
  | true=>obtain rfl:=hn rfl;exact clone_nil
theorem edges_frz (hi:SortsI) (nl:Bool) (l:List Per) (hn:nl=true→l=[]) (hl:l.length≤8796093022207) :
    Con Tryz.prog 112 [.c (.sl nl (l.map Per.cells))] [.c (.sl (edgesL l).isEmpty (ints (edgesL l)))]:=Con.frz (edges_spec hi nl l hn hl) 0 rfl
theorem cntP_snoc (ps:List Per) (t:Int) {k:Nat} (h:k<ps.length):cntP (ps.take (k+1)) t=cntP (ps.take k) t+if has ps[k] t then 1 else 0:=by
  unfold cntP
  rw [take_snoc h,List.filter_append,List.length_append]
  by_cases e:has ps[k] t=true <;> simp [e]
theorem cntP_le (ps:List Per) (t:Int) (k:Nat):cntP (ps.take k) t≤ps.length:=by
  unfold cntP
  exact Nat.le_trans (List.length_filter_le _ _) (by rw [List.length_take];omega)
theorem stepsL_len (plus minus:List Per):(stepsL plus minus).length=(edgesL (plus++minus)).length-1:=by unfold stepsL;simp
theorem stepsL_at (plus minus:List Per) {k:Nat} (h:k<(stepsL plus minus).length):(stepsL plus minus)[k]=(⟨(edgesL (plus++minus))[k]!,(edgesL (plus++minus))[k+1]!⟩,(cntP plus (edgesL (plus++minus))[k]! : Int)-cntP minus (edgesL (plus++minus))[k]!):=by
  unfold stepsL;simp
theorem rise_ge {E:List Int} (hE:Rise E) (h0:∀ t∈E,0≤t):∀ i,(h:i<E.length)→(i:Int)≤E[i]
  | 0,h=>h0 _ (List.getElem_mem h)
  | i+1,h=>by
    have:=rise_ge hE h0 i (by omega)
    have:=List.pairwise_iff_getElem.1 hE i (i+1) (by omega) h (by omega)
    omega
theorem edgesL_bound (l:List Per):(edgesL l).length≤1099511627777:=by
  obtain ⟨hE,hm⟩:=edgesL_ok l
  have hb:∀ t∈edgesL l,0≤t∧t≤1099511627776:=by
    intro t ht
    obtain ⟨p,_,hr,e⟩:=(mem_endsOf l t).1 ((hm t).1 ht)
    have:=(right_iff p).1 hr
    rcases e with rfl | rfl <;> omega
  rcases Nat.eq_zero_or_pos (edgesL l).length with h | h
  · omega
  · have h1:=rise_ge hE (fun t ht=>(hb t ht).1) ((edgesL l).length-1) (by omega)
    have h2:=(hb _ (List.getElem_mem (h:=(by omega:(edgesL l).length-1<(edgesL l).length)))).2
    omega
set_option maxRecDepth 4000 in
set_option maxHeartbeats 16000000 in
theorem steps_spec (hi:SortsI) (np nm:Bool) (plus minus:List Per) (hp:np=true→plus=[]) (hm:nm=true→minus=[]) (lp:plus.length≤3518437208883) (lm:minus.length≤3518437208883) :
    Con Tryz.prog 89 [.c (.sl np (plus.map Per.cells)),.c (.sl nm (minus.map Per.cells))] [.c (.sl (stepsL plus minus).isEmpty (stepCs (stepsL plus minus)))]:=by
  refine Con.frz (rs:=[.fr (stepsL plus minus).isEmpty (if (stepsL plus minus).isEmpty then 0 else 3) (stepCs (stepsL plus minus)) 0]) ?_ 0 rfl
  refine spec_of Tryz.func89 rfl (by kernel_rfl) (by simp [Tryz.f89]) (fun w0 K0=>vc_ok _ _ _ (by kernel_rfl) ?_)
  simp only [Tryz.f89]
  simp -dsimp
  refine VC.mk _ (clone_any np plus hp (by omega)) ?_
  simp -dsimp [maxLen]
  refine ⟨by omega,VCL.snap ?_⟩
  simp -dsimp
  have hec:=edges_frz hi (np && minus.isEmpty) (plus++minus) (by
    intro e
    rw [Bool.and_eq_true,List.isEmpty_iff] at e
    rw [hp e.1,e.2];rfl) (by rw [List.length_append];omega)
  rw [List.map_append] at hec
  refine VC.mk _ hec ?_
  have hE:=edgesL_bound (plus++minus)
  have hsl:=stepsL_len plus minus
  have hsa:=fun k=>@stepsL_at plus minus k
  generalize stepsL plus minus=st at *
  generalize edgesL (plus++minus)=E at *
  simp -dsimp
  refine VL.loop (fun i:KI=>⟨[(22,.c (i64 i.k)),(21,.c (i64 (E.length-1:Nat))),(5,.c (.sl E.isEmpty (ints E))),(6,.own 384 i.k),(0,.c (.sl np (plus.map Per.cells))),(1,.c (.sl nm (minus.map Per.cells)))],[(384,some (.arr i.nl i.sz (stepCs (st.take i.k)) 0))]⟩)
    (fun i=>i.k≤st.length∧i.nl=decide (i.k=0)∧i.sz=if i.nl then 0 else 3) (fun i=>st.length-i.k) ⟨0,true,0⟩ (by kernel_rfl) ⟨by simp,rfl,rfl⟩ ?_ ?_
  · have hw:IntKind.i64.wrap ((E.length:Int)-1)=(E.length:Int)-1:=IntWalk.i64_in _ (by omega)
    simp [St.le,hw]
    omega
  intro ⟨k,z,sz⟩ ⟨hk,hz,hsz⟩
  simp only at hk hz hsz
  have hmin:min k st.length=k:=by omega
  have hw:IntKind.i64.wrap ((k:Int)+1)=(k:Int)+1:=IntWalk.i64_in _ (by omega)
  by_cases h1:k<st.length
  · have hsk:=hsa k h1
    have htk:=take_snoc h1
    have h2:k<E.length-1:=by omega
    have h3:k<E.length:=by omega
    have h4:k+1<E.length:=by omega
    have g1:E[k]! = E[k]:=getElem!_pos E k h3
    have g2:E[k+1]! = E[k+1]:=getElem!_pos E (k+1) h4
    simp -dsimp [h2,h3,h4,hw]
    refine VL.draw (by kernel_rfl) [(0,false),(0,false),(3,false),(7,false),(0,false),(0,false),(32,false),(112,false),(240,false),(511,false),(1023,false),(0,false),(4095,true)] (by kernel_rfl) ?_
    simp -dsimp [h2,h3,h4,hw]
    refine ⟨by omega,by simp [Value.cells],?_⟩
    refine VL.loop (fun j:Nat=>⟨[(38,.c (i64 j)),(37,.c (i64 plus.length)),(36,.c (.sl np (plus.map Per.cells))),(8,.ptr 512 0),(22,.c (i64 k)),(21,.c (i64 (E.length-1:Nat))),(5,.c (.sl E.isEmpty (ints E))),(6,.own 384 k),(0,.c (.sl np (plus.map Per.cells))),(1,.c (.sl nm (minus.map Per.cells)))],[(512,some (.box false [.c (i64 E[k]),.c (i64 E[k+1]),.c (i64 (cntP (plus.take j) E[k]))])),(384,some (.arr z sz (stepCs (st.take k)) 0))]⟩)
      (fun j=>j≤plus.length) (fun j=>plus.length-j) 0 (by kernel_rfl) (by simp) (by simp [St.le,cntP,hmin]) ?_
    intro j hj
    by_cases j1:j<plus.length
    · have hwj:IntKind.i64.wrap ((j:Int)+1)=(j:Int)+1:=IntWalk.i64_in _ (by omega)
      have hcs:=cntP_snoc plus E[k] j1
      have hcl:=cntP_le plus E[k] j
      have hwc:IntKind.i64.wrap ((cntP (plus.take j) E[k]:Int)+1)=(cntP (plus.take j) E[k]:Int)+1:=IntWalk.i64_in _ (by omega)
      simp -dsimp [j1,Per.cells]
      refine VC.mk _ (has_at _ plus[j] E[k] rfl) ?_
      simp -dsimp
      refine VIf.mk (fun h=>?_) (fun h=>?_)
      · rw [h,if_pos rfl] at hcs
        simp -dsimp [hwj,hwc]
        refine ⟨j+1,by omega,?_,by omega⟩
        simp [St.le,hcs]
      · rw [h,if_neg (by simp)] at hcs
        simp -dsimp [hwj]
        refine ⟨j+1,by omega,?_,by omega⟩
        simp [St.le,hcs]
    · obtain rfl:j=plus.length:=by omega
      rw [List.take_length]
      simp -dsimp
      have hcp:cntP plus E[k]≤plus.length:=by have:=cntP_le plus E[k] plus.length;rwa [List.take_length] at this
      refine VL.loop (fun j:Nat=>⟨[(54,.c (i64 j)),(53,.c (i64 minus.length)),(52,.c (.sl nm (minus.map Per.cells))),(8,.ptr 512 0),(22,.c (i64 k)),(21,.c (i64 (E.length-1:Nat))),(5,.c (.sl E.isEmpty (ints E))),(6,.own 384 k),(0,.c (.sl np (plus.map Per.cells))),(1,.c (.sl nm (minus.map Per.cells)))],[(512,some (.box false [.c (i64 E[k]),.c (i64 E[k+1]),.c (i64 ((cntP plus E[k]:Int)-cntP (minus.take j) E[k]))])),(384,some (.arr z sz (stepCs (st.take k)) 0))]⟩)
        (fun j=>j≤minus.length) (fun j=>minus.length-j) 0 (by kernel_rfl) (by simp) (by simp [St.le,cntP,hmin]) ?_
      intro j hj
      by_cases j1:j<minus.length
      · have hwj:IntKind.i64.wrap ((j:Int)+1)=(j:Int)+1:=IntWalk.i64_in _ (by omega)
        have hcs:=cntP_snoc minus E[k] j1
        have hcl:=cntP_le minus E[k] j
        have hwc:IntKind.i64.wrap ((cntP plus E[k]:Int)-cntP (minus.take j) E[k] - 1)=(cntP plus E[k]:Int)-cntP (minus.take j) E[k] - 1:=IntWalk.i64_in _ (by omega)
        simp -dsimp [j1,Per.cells]
        refine VC.mk _ (has_at _ minus[j] E[k] rfl) ?_
        simp -dsimp
        refine VIf.mk (fun h=>?_) (fun h=>?_)
        · rw [h,if_pos rfl] at hcs
          simp -dsimp [hwj,hwc]
          refine ⟨j+1,by omega,?_,by omega⟩
          simp [St.le,hcs]
          omega
        · rw [h,if_neg (by simp)] at hcs
          simp -dsimp [hwj]
          refine ⟨j+1,by omega,?_,by omega⟩
          simp [St.le,hcs]
      · obtain rfl:j=minus.length:=by omega
        rw [List.take_length]
        simp -dsimp [hw,maxLen]
        have htk2:List.take (k+1) (List.map stepC st)=List.take k (List.map stepC st)++[[i64 E[k],i64 E[k+1],i64 ((cntP plus E[k]:Int)-cntP minus E[k])]]:=by
          have:=congrArg (List.map stepC) htk
          rw [List.map_append,List.map_take,List.map_take,List.map_singleton,hsk,g1,g2] at this
          exact this
        refine ⟨hmin,fun e=>by rw [hsz,e];rfl,by omega,⟨k+1,false,3⟩,⟨by simp only;omega,by simp,rfl⟩,?_,by simp only;omega⟩
        have hmin2:min (k+1) st.length=k+1:=by omega
        simp [St.le,htk2,hmin2]
  · obtain rfl:k=st.length:=by omega
    have h2:¬ st.length<E.length-1:=by omega
    simp -dsimp [h2]
    refine ⟨by rw [hz];cases st <;> simp,?_⟩
    rw [hsz,hz]
    cases st <;> simp
theorem union_frz {sortP:List Per→List Per} (hs:Sorts sortP) (nl:Bool) (l:List Per) (hn:nl=true→l=[]) (hl:l.length≤8796093021952) :
    Con Tryz.prog 111 [.c (.sl nl (l.map Per.cells))] [.c (.sl (unionL sortP l).isEmpty ((unionL sortP l).map Per.cells))]:=Con.frz (union_spec hs nl l hn hl) 0 rfl
def hereJ (st:List (Per × Int)) (k j:Nat):List Per:=here (st.take j) k
theorem hereJ_snoc (st:List (Per × Int)) (k:Nat) {j:Nat} (h:j<st.length):hereJ st k (j+1)=hereJ st k j++if (k:Int)≤st[j].2 then [st[j].1] else []:=by
  unfold hereJ here
  rw [take_snoc h,List.filter_append,List.map_append]
  by_cases e:(k:Int)≤st[j].2 <;> simp [e]
theorem hereJ_len (st:List (Per × Int)) (k j:Nat):(hereJ st k j).length≤st.length:=by
  unfold hereJ here
  rw [List.length_map]
  exact Nat.le_trans (List.length_filter_le _ _) (by rw [List.length_take];omega)
theorem hereJ_end (st:List (Per × Int)) (k:Nat):hereJ st k st.length=here st k:=by unfold hereJ;rw [List.take_length]
theorem layersN_le {sortP:List Per→List Per} (row:List Val) (st:List (Per × Int)):∀ {N M:Nat},N≤M→(layersN sortP row st N).length≤(layersN sortP row st M).length
  | N,0,h=>by obtain rfl:N=0:=by omega
              exact Nat.le_refl _
  | N,M+1,h=>by
    rcases Nat.lt_or_eq_of_le h with h | rfl
    · have:=layersN_le (sortP:=sortP) row st (N:=N) (M:=M) (by omega)
      rw [layersN_succ,List.length_append];omega
    · exact Nat.le_refl _
theorem here_maxN {st:List (Per × Int)} {k:Nat} (h:here st k≠[]):k≤maxN st:=by
  rcases Nat.lt_or_ge (maxN st) k with e | e
  · exact absurd (here_big e) h
  · exact e
theorem maxN_bound {st:List (Per × Int)} {B:Nat} (h:∀ s∈st,s.2≤B):maxN st≤B:=by
  have key:∀ (l:List (Per × Int)) (m:Nat),m≤B→(∀ s∈l,s.2≤B)→l.foldl (fun m s=>max m s.2.toNat) m≤B:=by
    intro l
    induction l with
    | nil=>intro m hm _;exact hm
    | cons x l ih =>
      intro m hm hl
      have:=hl x (by simp)
      exact ih (max m x.2.toNat) (by omega) (fun s hs=>hl s (by simp [hs]))
  exact key st 0 (Nat.zero_le _) h
set_option maxRecDepth 4000 in
set_option maxHeartbeats 16000000 in
theorem layers_spec {sortP:List Per→List Per} (hs:Sorts sortP) (nr ns:Bool) (row:List Val) (st:List (Per × Int)) (hr:row.length≤4398046511104) (hst:st.length≤4000000000000) (hn:∀ s∈st,s.2≤(4000000000000:Nat)) (hL:(layersL sortP row st).length≤3518437208883) :
    Con Tryz.prog 88 [.c (.sl nr (vals row)),.c (.sl ns (stepCs st))] [.c (.sl (layersL sortP row st).isEmpty (facts (layersL sortP row st)))]:=by
  refine Con.frz (rs:=[.fr (layersL sortP row st).isEmpty (if (layersL sortP row st).isEmpty then 0 else 3) (facts (layersL sortP row st)) 0]) ?_ 0 rfl
  refine spec_of Tryz.func88 rfl (by kernel_rfl) (by simp [Tryz.f88]) (fun w0 K0=>vc_ok _ _ _ (by kernel_rfl) ?_)
  have hmb:=maxN_bound hn
  have hstop:=fun N=>@layersN_stop sortP hs row st N
  have hle:=fun N h=>@layersN_le sortP row st N (maxN st) h
  have hsucc:=layersN_succ (sortP:=sortP) row st
  have hL':(layersN sortP row st (maxN st)).length≤3518437208883:=hL
  generalize layersL sortP row st=LL at *
  simp only [Tryz.f88]
  simp -dsimp
  refine VL.loop (fun i:KI=>⟨[(6,.c (i64 ((i.k:Int)+1))),(5,.own 320 (layersN sortP row st i.k).length),(0,.c (.sl nr (vals row))),(1,.c (.sl ns (stepCs st)))],[(320,some (.arr i.nl i.sz (facts (layersN sortP row st i.k)) 0))]⟩)
    (fun i=>i.k≤maxN st∧i.nl=(layersN sortP row st i.k).isEmpty∧i.sz=if i.nl then 0 else 3) (fun i=>maxN st-i.k) ⟨0,true,0⟩ (by kernel_rfl) ⟨Nat.zero_le _,rfl,rfl⟩ (by simp [St.le,layersN]) ?_
  intro ⟨k,z,sz⟩ ⟨hk,hz,hsz⟩
  simp only at hk hz hsz
  have hlk:=hle k hk
  have hw:IntKind.i64.wrap ((k:Int)+1+1)=(k:Int)+1+1:=IntWalk.i64_in _ (by omega)
  simp -dsimp
  refine VL.loop (fun j:KI=>⟨[(16,.c (i64 j.k)),(15,.c (i64 st.length)),(14,.c (.sl ns (stepCs st))),(7,.own 448 (hereJ st (k+1) j.k).length),(6,.c (i64 ((k:Int)+1))),(5,.own 320 (layersN sortP row st k).length),(0,.c (.sl nr (vals row))),(1,.c (.sl ns (stepCs st)))],
      [(448,some (.arr j.nl j.sz ((hereJ st (k+1) j.k).map Per.cells) 0)),(320,some (.arr z sz (facts (layersN sortP row st k)) 0))]⟩)
    (fun j=>j.k≤st.length∧j.nl=(hereJ st (k+1) j.k).isEmpty∧j.sz=if j.nl then 0 else 2) (fun j=>st.length-j.k) ⟨0,true,0⟩ (by kernel_rfl) ⟨Nat.zero_le _,rfl,rfl⟩ (by simp [St.le,hereJ,here]) ?_
  intro ⟨j,y,sy⟩ ⟨hj,hy,hsy⟩
  simp only at hj hy hsy
  have hhl:=hereJ_len st (k+1) j
  by_cases j1:j<st.length
  · have hwj:IntKind.i64.wrap ((j:Int)+1)=(j:Int)+1:=IntWalk.i64_in _ (by omega)
    have hsn:=hereJ_snoc st (k+1) j1
    simp -dsimp [j1,stepC]
    refine VIf.mk (fun h=>?_) (fun h=>?_)
    · have h':((k+1:Nat):Int)≤st[j].2:=by simp at h;omega
      rw [if_pos h'] at hsn
      simp -dsimp [hwj,maxLen]
      refine ⟨fun e=>by rw [hsy,e];rfl,by omega,⟨j+1,false,2⟩,⟨by simp only;omega,by rw [hsn];simp,rfl⟩,?_,by simp only;omega⟩
      simp [St.le,hsn,Per.cells]
    · have h':¬ ((k+1:Nat):Int)≤st[j].2:=by simp at h;omega
      rw [if_neg h',List.append_nil] at hsn
      simp -dsimp [hwj]
      refine ⟨⟨j+1,y,sy⟩,⟨by simp only;omega,by rw [hsn];exact hy,hsy⟩,?_,by simp only;omega⟩
      simp [St.le,hsn]
  · obtain rfl:j=st.length:=by omega
    rw [hereJ_end] at *
    simp -dsimp
    refine VIf.mk (fun h=>?_) (fun h=>?_)
    · have h':here st (k+1)=[]:=by simpa using h
      have e:=hstop k h'
      rw [e] at hz ⊢
      simp -dsimp
      exact ⟨hz,by rw [hsz,hz];cases LL <;> rfl⟩
    · have h':here st (k+1)≠[]:=by simpa using h
      have hm:=here_maxN h'
      have hlk2:=hle (k+1) hm
      have hyf:y=false:=by rw [hy,List.isEmpty_eq_false_iff];exact h'
      subst hyf
      have hsuc:=hsucc k
      simp -dsimp
      refine VCL.snap ?_
      simp -dsimp
      refine VC.mk _ (union_frz hs false (here st (k+1)) (by simp) (by omega)) ?_
      generalize unionL sortP (here st (k+1))=U at *
      simp -dsimp
      refine VL.loop (fun m:KI=>⟨[(37,.c (i64 m.k)),(36,.c (i64 U.length)),(35,.c (.sl U.isEmpty (U.map Per.cells))),(6,.c (i64 ((k:Int)+1))),(5,.own 320 (layersN sortP row st k++(U.take m.k).map (mkF row)).length),(0,.c (.sl nr (vals row))),(1,.c (.sl ns (stepCs st)))],
          [(320,some (.arr m.nl m.sz (facts (layersN sortP row st k++(U.take m.k).map (mkF row))) 0))]⟩)
        (fun m=>m.k≤U.length∧m.nl=(layersN sortP row st k++(U.take m.k).map (mkF row)).isEmpty∧m.sz=if m.nl then 0 else 3) (fun m=>U.length-m.k) ⟨0,z,sz⟩ (by kernel_rfl) ⟨Nat.zero_le _,by simp [hz],hsz⟩ (by simp [St.le]) ?_
      intro ⟨m,x,sx⟩ ⟨hm1,hx,hsx⟩
      simp only at hm1 hx hsx
      by_cases m1:m<U.length
      · have hll:(layersN sortP row st (k+1)).length=(layersN sortP row st k).length+U.length:=by rw [hsuc];simp
        have hwm:IntKind.i64.wrap ((m:Int)+1)=(m:Int)+1:=IntWalk.i64_in _ (by omega)
        have htk:=take_snoc m1
        have hmin:min m U.length=m:=by omega
        simp -dsimp [m1,Per.cells]
        refine VL.draw (by kernel_rfl) [(0,false),(0,false),(2,false),(6,false),(0,false),(30,false),(62,false),(127,true),(255,true)] (by kernel_rfl) ?_
        simp -dsimp [m1,Per.cells]
        refine ⟨by decide,VCE.mk _ (bcopied_at false _ nr row rfl hr) ?_⟩
        simp -dsimp [hwm,maxLen]
        have htk2:List.take (m+1) (List.map (Fact.cells ∘ mkF row) U)=List.take m (List.map (Fact.cells ∘ mkF row) U)++[[C.sl row.isEmpty (vals row),i64 U[m].f,i64 U[m].t]]:=by
          have:=congrArg (List.map (Fact.cells ∘ mkF row)) htk
          rw [List.map_append,List.map_take,List.map_take,List.map_singleton] at this
          exact this
        refine ⟨fun e=>by rw [hsx,e];rfl,by omega,⟨m+1,false,3⟩,⟨by simp only;omega,?_,rfl⟩,?_,by simp only;omega⟩
        · simp only
          rw [← List.map_take,htk];simp
          intro _ e;rw [e] at m1;simp at m1
        · have hmin2:min (m+1) U.length=m+1:=by omega
          simp [St.le,htk2,hmin,hmin2]
          omega
      · obtain rfl:m=U.length:=by omega
        rw [List.take_length,← hsuc] at *
        simp -dsimp [hw]
        refine ⟨⟨k+1,x,sx⟩,⟨hm,hx,hsx⟩,?_,by simp only;omega⟩
        simp [St.le]
end Go.Proofs.YtlphpbcafplnbaaGreat
