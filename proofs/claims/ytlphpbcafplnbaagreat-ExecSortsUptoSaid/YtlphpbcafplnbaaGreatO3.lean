/- Contracts of functions of the seat, proved in a logic on data over the model (part O3). -/
import Derived.Test.YtlphpbcafplnbaaGreatS4
import Derived.Test.YtlphpbcafplnbaaGreatBY
import Derived.Shelf.Spec.SlicesGrow
import Derived.Test.YtlphpbcafplnbaaGreatVN13
set_option linter.unusedSimpArgs false
set_option linter.unusedVariables false
namespace Go.Proofs.YtlphpbcafplnbaaGreat
open Go.VL Go.RowKit
def outB (sz:Nat) (acc:List Fact):List (Nat × Res):=[(1,.box false [.own 2 acc.length]),(2,.arr acc.isEmpty sz (facts acc) 0)]
def grpA (x:List Val × List Per):List S:=[.c (.sl x.1.isEmpty (vals x.1)),.c (.sl false (x.2.map Per.cells)),.ptr 1 0]
def GrpOk (F:FuncId) (x:List Val × List Per) (G:List Fact) (B:Nat):Prop :=
  ∀ (sz:Nat) (acc:List Fact),acc.length+G.length≤B→(acc≠[]→sz=3)→ConB Tryz.prog F (grpA x) (outB sz acc) [] (grpA x) (outB 3 (acc++G))
def catG (G:List Val × List Per→List Fact) (xs:List (List Val × List Per)):List Fact:=xs.flatMap G
@[simp] theorem catG_nil (G:List Val × List Per→List Fact):catG G []=[]:=rfl
theorem catG_snoc (G:List Val × List Per→List Fact) (xs:List (List Val × List Per)) (x:List Val × List Per):catG G (xs++[x])=catG G xs++G x:=by unfold catG;simp
def oτ (p q:Nat) (n:Nat):Nat:=if n=1 then p else if n=2 then q else n
theorem lend_out {st:St} {f:FuncId} {args a0 a1:List S} {sz sz':Nat} {acc acc':List Fact} {p q:Nat} (hpq:p≠q) (con:ConB Tryz.prog f a0 (outB sz acc) [] a1 (outB sz' acc'))
    (h0:args=renSs (oτ p q) a0) (h1:st.rs p=some (.box false [.own q acc.length])) (h2:st.rs q=some (.arr acc.isEmpty sz (facts acc) 0)) (hk:keptP (.box false [.own 2 acc.length]) (.box false [.own 2 acc'.length]) 1 a0 a1) :
    LendOk Tryz.prog st f args (outB sz acc) (outB sz' acc') a0 [] a1 (oτ p q) [q]:=by
  refine ⟨con,h0,?_,?_,?_,?_,?_,?_⟩
  · intro x hx
    simp [outB] at hx
    rcases hx with rfl | rfl
    · simpa [renR,renSs,renS,oτ] using h1
    · simpa [renR,oτ] using h2
  · simpa [outB,oτ] using hpq
  · simp [outB]
  · simp [outB,Res.nam,S.nams,S.nam]
  · simp [S.nams]
  · intro x hx
    simp [outB] at hx
    rcases hx with rfl | rfl
    · exact .inr ⟨_,rfl,hk⟩
    · exact .inl (by simp [oτ])
structure GI where
  i:Nat
  sz:Nat
  done:List (List Val × List Per)
theorem dropWhile_at {α:Type} (q:α→Bool):∀ (u:List α) (k:Nat),k≤u.length→(∀ j,(h:j<u.length)→j<k→q u[j]=true)→(∀ h:k<u.length,q u[k]=false)→u.dropWhile q=u.drop k
  | [],k,_,_,_=>by simp
  | x::u,0,_,_,h=>by
    have:=h (by simp)
    simp at this
    rw [List.dropWhile_cons,if_neg (by simp [this])];rfl
  | x::u,k+1,hk,h1,h2=>by
    have h0:=h1 0 (by simp) (by omega)
    simp at h0
    rw [List.dropWhile_cons,if_pos h0,List.drop_succ_cons]
    exact dropWhile_at q u k (by simpa using hk) (fun j hj hjk=>by have:=h1 (j+1) (by simp;omega) (by omega);simpa using this) (fun h=>by have:=h2 (by simp;omega);simpa using this)
def seg (l:List Fact) (i k:Nat):List Per:=((l.drop i).take (k-i)).map Fact.p
theorem seg_snoc (l:List Fact) {i k:Nat} (h1:i≤k) (h2:k<l.length):seg l i (k+1)=seg l i k++[l[k].p]:=by
  unfold seg
  rw [show k+1-i=(k-i)+1 by omega,take_snoc (by simp;omega),List.map_append]
  simp [show i+(k-i)=k by omega]
theorem seg_len (l:List Fact) {i k:Nat} (h1:i≤k) (h2:k≤l.length):(seg l i k).length=k-i:=by
  unfold seg
  rw [List.length_map,List.length_take,List.length_drop];omega
theorem groups_at (l:List Fact) {i k:Nat} (h1:i<k) (h2:k≤l.length) (ha:∀ j,i≤j→j<k→(h:j<l.length)→l[j].row=(l[i]'(by omega)).row) (he:∀ h:k<l.length,l[k].row≠(l[i]'(by omega)).row) :
    groupsL (l.drop i)=((l[i]'(by omega)).row,seg l i k)::groupsL (l.drop k):=by
  have hi:i<l.length:=by omega
  rw [List.drop_eq_getElem_cons hi,groupsL_cons]
  have a:∀ j,(h:j<(l.drop (i+1)).length)→j<k-i-1→alikeR l[i].row (l.drop (i+1))[j]=true:=by
    intro j h hj
    simp only [alikeR,decide_eq_true_eq,List.getElem_drop]
    exact ha _ (by omega) (by omega) _
  have b:∀ h:k-i-1<(l.drop (i+1)).length,alikeR l[i].row (l.drop (i+1))[k-i-1]=false:=by
    intro h
    simp only [alikeR,decide_eq_false_iff_not,List.getElem_drop]
    have e:i+1+(k-i-1)=k:=by omega
    simp only [e]
    simp at h
    exact he (by omega)
  have hle:k-i-1≤(l.drop (i+1)).length:=by simp;omega
  rw [takeWhile_at _ _ _ hle a b,dropWhile_at _ _ _ hle a b,List.drop_drop]
  have e:i+1+(k-i-1)=k:=by omega
  rw [e]
  congr 2
  unfold seg
  rw [List.drop_eq_getElem_cons hi,show k-i=(k-i-1)+1 by omega,List.take_succ_cons,List.map_cons]
  simp
set_option maxRecDepth 4000 in
set_option maxHeartbeats 16000000 in
theorem group_spec (F:FuncId) (G:List Val × List Per→List Fact) (B:Nat) (nl:Bool) (l:List Fact) (hl:l.length≤3518437208883) (hN:∀ f∈l,f.nl=f.row.isEmpty∧f.row.length≤4398046511104) (hF:∀ x∈groupsL l,GrpOk F x (G x) B) (hB:(catG G (groupsL l)).length≤B) :
    ConB Tryz.prog 84 [.c (.sl nl (facts l)),.fnp F [.ptr 1 0]] (outB 0 []) [] [.c (.sl nl (facts l)),.fnp F [.ptr 1 0]] (outB (if l.isEmpty then 0 else 3) (catG G (groupsL l))):=by
  refine spec_ofB 3 Tryz.func84 rfl (by kernel_rfl) (by simp [Tryz.f84]) (by simp [outB]) rfl (fun w0 K0 uf=>vc_ok _ _ _ (by kernel_rfl) ?_)
  simp only [Tryz.f84]
  simp -dsimp [initB,initEnv,pinsOf,outB]
  refine VL.loop (fun g:GI=>⟨[(4,.c (i64 g.i)),(0,.c (.sl nl (facts l))),(1,.fnp F [.ptr 1 0])],
    [(1,some (.box false [.own 2 (catG G g.done).length])),(2,some (.arr (catG G g.done).isEmpty g.sz (facts (catG G g.done)) 0)),(3,some (.pin (uf 0) (.c (.sl nl (facts l))))),(4,some (.pin (uf 1) (.fnp F [.ptr 1 0])))]⟩)
    (fun g=>g.i≤l.length∧groupsL l=g.done++groupsL (l.drop g.i)∧g.sz=if g.i=0 then 0 else 3) (fun g=>l.length-g.i) ⟨0,0,[]⟩ (by kernel_rfl) (by simp) (by simp [St.le]) ?_
  intro ⟨i,sz,done⟩ ⟨hi,hg,hsz⟩
  simp only at hi hg hsz
  by_cases h1:i<l.length
  · simp -dsimp [h1]
    refine VL.loop (fun j:KI=>⟨[(6,.c (i64 j.k)),(5,.own 320 (seg l i j.k).length),(4,.c (i64 i)),(0,.c (.sl nl (facts l))),(1,.fnp F [.ptr 1 0])],
      [(320,some (.arr j.nl j.sz ((seg l i j.k).map Per.cells) 0)),(1,some (.box false [.own 2 (catG G done).length])),(2,some (.arr (catG G done).isEmpty sz (facts (catG G done)) 0)),(3,some (.pin (uf 0) (.c (.sl nl (facts l))))),(4,some (.pin (uf 1) (.fnp F [.ptr 1 0])))]⟩)
      (fun j=>i≤j.k∧j.k≤l.length∧j.nl=decide (j.k=i)∧(j.sz=if j.nl then 0 else 2)∧∀ m,i≤m→m<j.k→(h:m<l.length)→l[m].row=l[i].row) (fun j=>l.length-j.k) ⟨i,true,0⟩ (by kernel_rfl) ?_ (by simp [St.le,seg]) ?_
    · exact ⟨Nat.le_refl _,by simp only;omega,by simp,rfl,fun m h2 h3=>by simp only at h3;omega⟩
    intro ⟨k,z,s⟩ ⟨hik,hk,hz,hs,ha⟩
    simp only at hik hk hz hs ha
    have hsl:=seg_len l hik hk
    have fin:∀ (he:∀ h:k<l.length,l[k].row≠l[i].row),i<k→True:=fun _ _=>trivial
    by_cases h2:k<l.length
    · simp -dsimp [h1,h2]
      refine VL.draw (by kernel_rfl) [(0,false),(0,false),(2,false),(7,true),(15,true),(31,false),(31,false),(127,false),(255,false),(511,false),(31,false),(31,false),(3103,false),(7199,false),(15391,false),(32767,true),(65535,true),(131071,true)] (by kernel_rfl) ?_
      simp -dsimp [h1,h2,Fact.cells]
      refine VG.mk [.c (i64 (cmpR l[k].row l[i].row))] _ (fun _=>compareR_spec _ _ _ _ (by have:=hN _ (List.getElem_mem h2);omega) (by have:=hN _ (List.getElem_mem h1);omega)) rfl ?_
      simp -dsimp
      have hc0:=cmpR_0 l[k].row l[i].row
      refine VIf.mk (fun h=>?_) (fun h=>?_)
      · have h':l[k].row=l[i].row:=hc0.1 (by simpa using h)
        have hw:IntKind.i64.wrap ((k:Int)+1)=(k:Int)+1:=IntWalk.i64_in _ (by omega)
        have hsn:=seg_snoc l hik h2
        simp -dsimp [h2,Fact.cells,hw,maxLen]
        refine ⟨fun e=>by rw [hs,e];rfl,by omega,⟨k+1,false,2⟩,⟨by simp only;omega,by simp only;omega,by simp only;rw [eq_comm,decide_eq_false_iff_not];omega,rfl,fun m m1 m2 m3=>?_⟩,?_,by simp only;omega⟩
        · simp only at m2
          by_cases e:m=k
          · subst e;exact h'
          · exact ha m m1 (by omega) m3
        · simp [St.le,hsn,Per.cells]
      · have h':l[k].row≠l[i].row:=fun e=>by rw [hc0.2 e] at h;simp at h
        simp -dsimp
        have hik':i<k:=by
          rcases Nat.lt_or_eq_of_le hik with e | e
          · exact e
          · subst e;exact absurd rfl h'
        simp -dsimp [h1,Fact.cells]
        obtain rfl:z=false:=by rw [hz,decide_eq_false_iff_not];omega
        obtain rfl:s=2:=hs
        have hgr:=groups_at l hik' hk (fun j j1 j2 j3=>ha j j1 j2 j3) (fun _=>h')
        have hnrm:=(hN _ (List.getElem_mem h1)).1
        rw [hgr] at hg
        have hgk:=hF (l[i].row,seg l i k) (by rw [hg];simp) sz (catG G done) ?_ ?_
        · refine VCP.some [false,true,false] ?_
          simp -dsimp
          rw [hnrm]
          refine VLD.lend _ _ _ [] _ (oτ 1 2) [2] (lend_out (by decide) hgk ?_ ?_ ?_ ?_) ?_
          · simp [grpA,renSs,renS,oτ]
          · simp [St.rs,vlook]
          · simp [St.rs,vlook]
          · simp [grpA,keptP]
          simp -dsimp [outB,retS,renSs,oτ]
          refine ⟨⟨k,3,done++[(l[i].row,seg l i k)]⟩,⟨hk,by simp only;rw [List.append_assoc];exact hg,by simp only;rw [if_neg (by omega)]⟩,?_,by simp only;omega⟩
          simp only
          rw [catG_snoc]
          simp [St.le]
        · have:=hB
          rw [hg,← List.singleton_append,← List.append_assoc] at this
          unfold catG at this ⊢
          rw [List.flatMap_append,List.flatMap_append,List.length_append,List.length_append] at this
          simp at this ⊢
          omega
        · intro e
          rw [hsz,if_neg]
          rintro rfl
          rw [List.drop_zero,hg] at hgr
          have:=congrArg List.length hgr
          simp at this
          exact e (by rw [this];rfl)
    · have hik':i<k:=by omega
      have h':∀ h:k<l.length,l[k].row≠l[i].row:=fun h=>absurd h h2
      obtain rfl:k=l.length:=by omega
      simp -dsimp
      refine VL.draw (by kernel_rfl) [(0,false),(0,false),(2,false),(7,true),(15,true),(31,false),(31,false),(127,false),(255,false),(511,false),(31,false),(31,false),(3103,false),(7199,false),(15391,false),(32767,true),(65535,true),(131071,true)] (by kernel_rfl) ?_
      simp -dsimp [h1,Fact.cells]
      refine VG.mk [.c (i64 0)] _ (fun h=>Bool.noConfusion h) rfl ?_
      simp -dsimp [h1,Fact.cells]
      obtain rfl:z=false:=by rw [hz,decide_eq_false_iff_not];omega
      obtain rfl:s=2:=hs
      have hgr:=groups_at l hik' hk (fun j j1 j2 j3=>ha j j1 j2 j3) h'
      have hnrm:=(hN _ (List.getElem_mem h1)).1
      rw [hgr] at hg
      have hgk:=hF (l[i].row,seg l i l.length) (by rw [hg];simp) sz (catG G done) ?_ ?_
      · refine VCP.some [false,true,false] ?_
        simp -dsimp
        rw [hnrm]
        refine VLD.lend _ _ _ [] _ (oτ 1 2) [2] (lend_out (by decide) hgk ?_ ?_ ?_ ?_) ?_
        · simp [grpA,renSs,renS,oτ]
        · simp [St.rs,vlook]
        · simp [St.rs,vlook]
        · simp [grpA,keptP]
        simp -dsimp [outB,retS,renSs,oτ]
        refine ⟨⟨l.length,3,done++[(l[i].row,seg l i l.length)]⟩,⟨hk,by simp only;rw [List.append_assoc];exact hg,by simp only;rw [if_neg (by omega)]⟩,?_,by simp only;rw [Nat.sub_self];exact Nat.sub_pos_of_lt h1⟩
        simp only
        rw [catG_snoc]
        simp [St.le]
      · have:=hB
        rw [hg,← List.singleton_append,← List.append_assoc] at this
        unfold catG at this ⊢
        rw [List.flatMap_append,List.flatMap_append,List.length_append,List.length_append] at this
        simp at this ⊢
        omega
      · intro e
        rw [hsz,if_neg]
        rintro rfl
        rw [List.drop_zero,hg] at hgr
        have:=congrArg List.length hgr
        simp at this
        exact e (by rw [this];rfl)
  · obtain rfl:i=l.length:=by omega
    rw [List.drop_length,groupsL_nil,List.append_nil] at hg
    simp -dsimp
    rw [hg]
    simp [resEnd,outB,pinsEnd,hsz]
theorem stepsL_le {plus minus:List Per} {s:Per × Int} {B:Nat} (h:s∈stepsL plus minus) (hp:plus.length≤B):s.2≤B:=by
  unfold stepsL at h
  obtain ⟨i,_,rfl⟩:=List.mem_map.1 h
  have:cntP plus (edgesL (plus++minus))[i]! ≤ plus.length:=List.length_filter_le _ _
  simp only
  omega
set_option maxRecDepth 4000 in
set_option maxHeartbeats 16000000 in
theorem normal1_spec {sortP:List Per→List Per} (hs:Sorts sortP) (hi:SortsI) (x:List Val × List Per) (B:Nat) (hB:B≤3518437208883) (hr:x.1.length≤4398046511104) (hp:x.2.length≤3518437208883) :
    GrpOk 87 x (layersL sortP x.1 (stepsL x.2 [])) B:=by
  intro sz acc hacc hsz
  refine spec_ofB 3 Tryz.func87 rfl (by kernel_rfl) (by simp [Tryz.f87,grpA]) (by simp [outB]) rfl (fun w0 K0 uf=>vc_ok _ _ _ (by kernel_rfl) ?_)
  simp only [Tryz.f87]
  simp -dsimp [initB,initEnv,pinsOf,outB,grpA]
  refine VL.draw (by kernel_rfl) [(0,false),(0,false),(0,false),(4,false),(14,false),(31,true),(63,true)] (by kernel_rfl) ?_
  simp -dsimp
  have hst:=stepsL_len x.2 []
  have hel:=edgesL_bound (x.2++[])
  have hsn:∀ s∈stepsL x.2 [],s.2≤(4000000000000:Nat):=fun s hs=>stepsL_le hs (by omega)
  have hsp:=steps_spec hi false true x.2 [] (by simp) (by simp) hp (by simp)
  generalize stepsL x.2 []=st at *
  refine VCE.mk _ hsp ?_
  simp -dsimp
  have hls:=layers_spec hs x.1.isEmpty st.isEmpty x.1 st hr (by omega) hsn (by omega)
  refine VCE.mk _ hls ?_
  generalize layersL sortP x.1 st=L at *
  simp -dsimp
  refine ⟨hsz,by omega,?_⟩
  have e:(acc++L).isEmpty=(acc.isEmpty && L.isEmpty):=by cases acc <;> simp
  simp [resEnd,outB,pinsEnd,grpA,e]
end Go.Proofs.YtlphpbcafplnbaaGreat
namespace Go.Proofs.YtlphpbcafplnbaaGreat
open Go.Shelf Go.RowKit Go.Lib Go.VL
def Tryz.growF_ren:Go.Shelf.Ren:=⟨fun | 4=>110 | n=>n,fun | 22=>22 | 25=>40 | 3=>3 | 4=>4 | 9=>9 | 20=>20 | 0=>0 | n=>n,fun | n=>n⟩
theorem Tryz.growF:Go.Proofs.Lays8.n4 Tryz.prog Tryz.growF_ren:={ mixed:=by kernel_rfl,f4:=⟨Tryz.f110.name,by decide,Tryz.func110.trans (congrArg some (by kernel_rfl))⟩,t0:=Tryz.underlying0,a0:=Tryz.isAgg0,z0:=Tryz.sizeOf0,v0:=Tryz.zeroValue0,t3:=Tryz.underlying3,a3:=Tryz.isAgg3,z3:=Tryz.sizeOf3,v3:=Tryz.zeroValue3,t4:=Tryz.underlying4,a4:=Tryz.isAgg4,z4:=Tryz.sizeOf4,v4:=Tryz.zeroValue4,t9:=Tryz.underlying9,a9:=Tryz.isAgg9,z9:=Tryz.sizeOf9,v9:=Tryz.zeroValue9,t20:=Tryz.underlying20,a20:=Tryz.isAgg20,z20:=Tryz.sizeOf20,v20:=Tryz.zeroValue20,t22:=Tryz.underlying22,a22:=Tryz.isAgg22,z22:=Tryz.sizeOf22,v22:=Tryz.zeroValue22 }
theorem fact_info:Tryz.prog.info? 40=some Tryz.t40:=by kernel_rfl
theorem growF_spec (n:Nat) (hn:n≤3518437208883):Con Tryz.prog 110 [.c (.sl true []),.c (i64 n)] [.fr (decide (n=0)) (if n=0 then 0 else 3) [] 0]:=by
  refine Con.of (by kernel_rfl) fun w K us hK hd=>?_
  unfold DRs at hd
  rw [SRs] at hd
  obtain ⟨u,us',rfl,hu,hd⟩:=hd
  rw [SRs] at hd
  obtain ⟨u2,us'',rfl,hu2,hd⟩:=hd
  rw [SRs] at hd
  subst hd
  rw [SR] at hu hu2
  rw [CR] at hu
  replace hu2:CR K w (C.v (.int .i64 n)) u2:=hu2
  rw [CR] at hu2
  obtain ⟨rfl,_⟩:=hu2
  have hu':u = .slice none 0 0:=by
    rcases hu with ⟨_,_,h⟩ | ⟨h,_⟩
    · exact h
    · cases h
  subst hu'
  by_cases h0:n=0
  · subst h0
    have h:=Any8.slices_Grow_room Tryz.growF none 0 0 0 w (by omega) (by omega) (by omega) (by omega)
    change Calls Tryz.prog 110 _ _ _ at h
    refine h.mono ?_
    rintro e w' ⟨rfl,rfl⟩
    refine ⟨[.slice none 0 0],rfl,BelowD.refl _ _,K,fun _ _ h=>h,fun _ _ h _=>h,hK,rfl,fun k r v hr hv=>?_,fun j k r r' v v' hne hr hr' _ _ _ _=>?_⟩
    · match k with
      | 0 =>
        simp at hr hv
        subst hr hv
        rw [RtR,RR];exact .inl ⟨rfl,rfl,rfl,rfl⟩
      | k+1=>simp at hr
    · match j,k with
      | 0,0=>exact absurd rfl hne
      | j+1,_=>simp at hr
      | 0,k+1=>simp at hr'
  · have h:=Any8.slices_Grow_grow Tryz.growF Tryz.t40 _ fact_info rfl (by decide) none 0 0 n [] w (by omega) (by omega) (by rw [show Tryz.t40.bytes=40 from by kernel_rfl];omega) (by omega) (by simp) (fun _=>rfl) (fun a h=>by cases h)
    change Calls Tryz.prog 110 _ _ _ at h
    refine h.mono ?_
    rintro e w' ⟨rfl,rfl⟩
    refine ⟨[_],rfl,((BelowD.refl _ _).drew.alloc (Nat.le_refl _) _),K,fun _ _ h=>h,fun _ _ h _=>h,fun b o h=>?_,rfl,fun k r v hr hv=>?_,fun j k r r' v v' hne hr hr' _ _ _ _=>?_⟩
    · have:=hK b o h
      show b<(w.drew.heap.push _).size
      rw [Array.size_push]
      show b<w.heap.size+1
      omega
    · match k with
      | 0 =>
        simp at hr hv
        subst hr hv
        rw [RtR,RR]
        refine .inr ⟨by simp [h0],w.heap.size,_,_,_,rfl,Nat.le_refl _,by show (w.heap.push _)[w.heap.size]? = _;rw [Array.getElem?_push_size],Nat.zero_le _,?_,?_,Nat.zero_le _,?_,?_⟩
        · exact grownCap_le_maxLen w n 0 _ (by unfold maxLen;omega)
        · have hge:=grownCap_ge w n 0 (Tryz.growF_ren.t 25)
          rw [if_neg h0]
          simp only [Nat.zero_add,Nat.sub_zero,Array.size_append,Builtin.zeroCells,Array.size_map,Array.size_range,Array.size_empty]
          generalize grownCap w n 0 (Tryz.growF_ren.t 25)=g at *
          show n*3+(g-n)*3=g*3
          omega
        · intro j e he;simp at he
        · intro o
          constructor
          · intro h;have:=hK _ o h;omega
          · intro h;omega
      | k+1=>simp at hr
    · match j,k with
      | 0,0=>exact absurd rfl hne
      | j+1,_=>simp at hr
      | 0,k+1=>simp at hr'
def listV (x:Bool × List Fact):List C:=[.sl x.1 (facts x.2)]
def catF (ls:List (Bool × List Fact)):List Fact:=ls.flatMap Prod.snd
@[simp] theorem catF_nil:catF []=[]:=rfl
theorem catF_snoc (ls:List (Bool × List Fact)) {k:Nat} (h:k<ls.length):catF (ls.take (k+1))=catF (ls.take k)++ls[k].2:=by
  unfold catF;rw [take_snoc h,List.flatMap_append];simp
theorem catF_mono (ls:List (Bool × List Fact)) (k:Nat):(catF (ls.take k)).length≤(catF ls).length:=by
  conv=>rhs;rw [← List.take_append_drop k ls]
  unfold catF
  rw [List.flatMap_append,List.length_append]
  omega
set_option maxRecDepth 4000 in
set_option maxHeartbeats 8000000 in
theorem concat_spec (nl:Bool) (ls:List (Bool × List Fact)) (hl:ls.length≤2) (hR:(catF ls).length≤3518437208883) :
    Con Tryz.prog 86 [.c (.sl nl (ls.map listV))] [.c (.sl (catF ls).isEmpty (facts (catF ls)))]:=by
  refine Con.frz (rs:=[.fr (catF ls).isEmpty (if ls.length=0 then 0 else 3) (facts (catF ls)) 0]) ?_ 0 rfl
  refine spec_of Tryz.func86 rfl (by kernel_rfl) (by simp [Tryz.f86]) (fun w0 K0=>vc_ok _ _ _ (by kernel_rfl) ?_)
  simp only [Tryz.f86]
  simp -dsimp
  refine VL.loop (fun k:Nat=>⟨[(11,.c (i64 k)),(10,.c (i64 ls.length)),(9,.c (.sl nl (ls.map listV))),(3,.c (i64 (catF (ls.take k)).length)),(0,.c (.sl nl (ls.map listV)))],[]⟩)
    (fun k=>k≤ls.length) (fun k=>ls.length-k) 0 (by kernel_rfl) (by simp) (by simp [St.le]) ?_
  intro k hk
  have hlen:=catF_mono ls (k+1)
  have hk2:k=0∨k=1∨k=2:=by omega
  by_cases h1:k<ls.length
  · have hw:IntKind.i64.wrap ((k:Int)+1)=(k:Int)+1:=IntWalk.i64_in _ (by omega)
    have hsn:=catF_snoc ls h1
    have hsl:=congrArg List.length hsn
    rw [List.length_append] at hsl
    have hw2:IntKind.i64.wrap (((catF (ls.take k)).length:Int)+ls[k].2.length)=((catF (ls.take (k+1))).length:Int):=by rw [IntWalk.i64_in _ (by omega),hsn];simp
    have hn0:¬ ((catF (ls.take (k+1))).length:Int)<0:=by omega
    simp -dsimp [h1,hw,listV,hw2]
    refine VIf.mk (fun h=>absurd (of_decide_eq_true h) hn0) (fun h=>?_)
    simp -dsimp [hw]
    refine ⟨k+1,by omega,?_,by omega⟩
    simp [St.le]
  · obtain rfl:k=ls.length:=by omega
    rw [List.take_length] at *
    simp -dsimp
    refine VC.mk _ (growF_spec (catF ls).length hR) ?_
    simp -dsimp
    refine VL.loop (fun i:KI=>⟨[(27,.c (i64 i.k)),(26,.c (i64 ls.length)),(25,.c (.sl nl (ls.map listV))),(6,.own 1536 (catF (ls.take i.k)).length)],[(1536,some (.arr i.nl i.sz (facts (catF (ls.take i.k))) 0))]⟩)
      (fun i=>i.k≤ls.length∧i.nl=(catF ls).isEmpty∧i.sz=if i.k=0 then (if (catF ls).length=0 then 0 else 3) else 3) (fun i=>ls.length-i.k) ⟨0,(catF ls).isEmpty,if (catF ls).length=0 then 0 else 3⟩ (by kernel_rfl) ⟨by simp,rfl,rfl⟩ ?_ ?_
    · simp [St.le]
      cases catF ls <;> simp
    intro ⟨k,z,sz⟩ ⟨hk',hz,hsz⟩
    simp only at hk' hz hsz
    have hlen:=catF_mono ls (k+1)
    by_cases h1:k<ls.length
    · have hw:IntKind.i64.wrap ((k:Int)+1)=(k:Int)+1:=IntWalk.i64_in _ (by omega)
      have hsn:=catF_snoc ls h1
      have hsl:=congrArg List.length hsn
      rw [List.length_append] at hsl
      simp -dsimp [h1,hw,listV,maxLen]
      refine ⟨fun e=>?_,by omega,⟨k+1,z && ls[k].2.isEmpty,3⟩,⟨by simp only;omega,?_,by simp⟩,?_,by simp only;omega⟩
      · rw [hsz]
        split
        · rw [if_neg]
          intro e2
          rw [e,eq_comm,List.isEmpty_eq_false_iff] at hz
          exact hz (List.length_eq_zero_iff.1 e2)
        · rfl
      · simp only
        rw [hz]
        cases he:(catF ls).isEmpty with
        | false=>rfl
        | true =>
          rw [List.isEmpty_iff] at he
          unfold catF at he
          rw [List.flatMap_eq_nil_iff] at he
          rw [he _ (List.getElem_mem h1)];rfl
      · simp [St.le,hsn]
    · obtain rfl:k=ls.length:=by omega
      rw [List.take_length] at *
      simp -dsimp
      refine ⟨hz,?_⟩
      rw [hsz]
      cases ls <;> simp
end Go.Proofs.YtlphpbcafplnbaaGreat
namespace Go.Proofs.YtlphpbcafplnbaaGreat
open Go.VL Go.RowKit
def gN (sortP:List Per→List Per) (x:List Val × List Per):List Fact:=layersL sortP x.1 (stepsL x.2 [])
theorem normalL_eq (sortP:List Per→List Per) (l:List Fact):normalL sortP l=sortF (catG (gN sortP) (groupsL (rightL l))):=rfl
theorem group_in {l:List Fact} {x:List Val × List Per} (h:x∈groupsL (rightL l)):(∃ f∈l,f.row=x.1)∧x.2.length≤l.length:=by
  obtain ⟨_,h2,_⟩:=groups_ok _ (rightL l) (Nat.le_refl _) (sortF_up _)
  obtain ⟨e,f,hf,e2⟩:=h2 x h
  obtain ⟨g,hg,_,rfl⟩:=rightL_mem.1 hf
  refine ⟨⟨g,hg,e2⟩,?_⟩
  rw [e,List.length_map]
  exact Nat.le_trans (List.length_filter_le _ _) (rightL_len l)
theorem catG_in {G:List Val × List Per→List Fact} {gs:List (List Val × List Per)} {f:Fact} (h:f∈catG G gs):∃ x∈gs,f∈G x:=List.mem_flatMap.1 h
theorem group_nil {G:List Val × List Per→List Fact} {r:List Fact} (h:catG G (groupsL r)≠[]):r.isEmpty=false:=by
  cases r with
  | nil=>rw [groupsL_nil] at h;exact absurd rfl h
  | cons=>rfl
set_option maxRecDepth 4000 in
set_option maxHeartbeats 16000000 in
theorem normal_spec {sortP:List Per→List Per} (hs:Sorts sortP) (hi:SortsI) (hf:SortsF) (nl:Bool) (ls:List (Bool × List Fact)) (hl:ls.length≤2) (hR:(catF ls).length≤3518437208883) (hr:Rows1 (catF ls)) (hB:(catG (gN sortP) (groupsL (rightL (catF ls)))).length≤3518437208883) :
    Con Tryz.prog 55 [.c (.sl nl (ls.map listV))] [.c (.sl (normalL sortP (catF ls)).isEmpty (facts (normalL sortP (catF ls))))]:=by
  refine Con.frz (rs:=[.fr (normalL sortP (catF ls)).isEmpty (if (rightL (catF ls)).isEmpty then 0 else 3) (facts (normalL sortP (catF ls))) 0]) ?_ 0 rfl
  refine spec_of Tryz.func55 rfl (by kernel_rfl) (by simp [Tryz.f55]) (fun w0 K0=>vc_ok _ _ _ (by kernel_rfl) ?_)
  have hcon:=concat_spec nl ls hl hR
  rw [normalL_eq]
  generalize catF ls=l at *
  have hri:=right_spec hf l.isEmpty l hR hr
  have hgi:=fun x=>@group_in l x
  have hrl:=rightL_len l
  have hrN:∀ f∈rightL l,f.nl=f.row.isEmpty∧f.row.length≤4398046511104:=by
    intro f hf
    obtain ⟨g,hg,_,rfl⟩:=rightL_mem.1 hf
    exact ⟨rfl,Nat.le_trans (hr g hg) (by decide)⟩
  generalize rightL l=r at *
  have hgr:=group_spec 87 (gN sortP) 3518437208883 r.isEmpty r (by omega) hrN (fun x hx=>by
    obtain ⟨⟨f,hf,e⟩,h2⟩:=hgi x hx
    exact normal1_spec hs hi x _ (Nat.le_refl _) (by rw [← e];exact Nat.le_trans (hr f hf) (by decide)) (by omega)) hB
  have hgn:=@group_nil (gN sortP) r
  have hN:∀ f∈catG (gN sortP) (groupsL r),Normed f∧f.row.length≤140737488355328:=by
    intro f hf
    obtain ⟨x,hx,h⟩:=catG_in hf
    obtain ⟨e,h2⟩:=layers_row h
    obtain ⟨⟨g,hg,e2⟩,_⟩:=hgi x hx
    have:=hr g hg
    exact ⟨h2,by rw [e,← e2];omega⟩
  generalize catG (gN sortP) (groupsL r)=m at *
  have hsl:=sortF_len m
  simp only [Tryz.f55]
  simp -dsimp
  refine VC.mk _ hcon ?_
  simp -dsimp
  refine VC.mk _ hri ?_
  simp -dsimp
  refine VC.lend _ _ _ [] _ (oτ 192 193) [193] (lend_out (by decide) hgr ?_ ?_ ?_ ?_) ?_
  · simp [renSs,renS,oτ]
  · simp [St.rs,vlook]
  · simp [St.rs,vlook]
  · simp [keptP,keptQ]
  simp -dsimp [outB,retS,renSs,oτ]
  cases m with
  | nil =>
    have e0:sortF []=[]:=by simpa using hsl
    rw [e0]
    refine VCL.snap ?_
    simp -dsimp
    refine VC.mk _ hf.nil ?_
    simp -dsimp
  | cons x0 r0 =>
    have hrf:=hgn (by simp)
    generalize hx:x0::r0=m at *
    have hne:m≠[]:=by rw [← hx];simp
    have hre:r≠[]:=List.isEmpty_eq_false_iff.1 hrf
    have hme:m.isEmpty=false:=List.isEmpty_eq_false_iff.2 hne
    have hse:(sortF m).isEmpty=false:=by
      rw [List.isEmpty_eq_false_iff];intro e;rw [e] at hsl
      exact hne (List.length_eq_zero_iff.1 hsl.symm)
    rw [hse,hme,if_neg hre]
    have hcs:=hf.con m hne hN (by omega)
    generalize sortF m=s at *
    refine VCL.lend (rowF 1 m) (rowF 1 s) [.own 1 m.length,.c (.fn 91 [])] _ _ (fun _=>193) [] ⟨hcs,?_,?_,?_,?_,?_,?_,?_⟩ ?_
    · simp [renSs,renS]
    · simp [rowF,renR]
    · simp [rowF]
    · simp [rowF]
    · simp [rowF,Res.nam]
    · simp [S.nams]
    · simp [rowF,lk,keptP]
      exact ⟨3,_,⟨rfl,rfl⟩,_,⟨rfl,rfl⟩,by simp,by simp [hsl]⟩
    simp -dsimp [rowF,retS,renSs]
    exact ⟨hre,hsl⟩
theorem normal_one {sortP:List Per→List Per} (hs:Sorts sortP) (hi:SortsI) (hf:SortsF) (nl z:Bool) (xs:List (List C)) (l:List Fact) (h:xs=[[.sl z (facts l)]]) (hl:l.length≤3518437208883) (hr:Rows1 l) (hB:(catG (gN sortP) (groupsL (rightL l))).length≤3518437208883) :
    Con Tryz.prog 55 [.c (.sl nl xs)] [.c (.sl (normalL sortP l).isEmpty (facts (normalL sortP l)))]:=by
  have e:catF [(z,l)]=l:=by simp [catF]
  have:=normal_spec hs hi hf nl [(z,l)] (by simp) (by rw [e];exact hl) (by rw [e];exact hr) (by rw [e];exact hB)
  rw [e] at this
  rw [h]
  exact this
theorem overlap_at (cs ds:List C) (a b:Per) (h:cs=a.cells) (h':ds=b.cells):Con Tryz.prog 217 [.agg cs,.agg ds] [.ag (lap a b).cells,.c (bln (lapOk a b))]:=by rw [h,h'];exact overlap_spec a b
inductive Opt where
  | scan (nl:Bool) (l:List Fact)
  | filter (o:Opt) (nl:Bool) (ts:List Tm)
  | during (o:Opt) (p:Per)
  | nested (a b:Opt)
def Opt.tc:Opt→TypeId × List C
  | .scan nl l=>(130,[.sl nl (facts l)])
  | .filter o nl ts=>(170,[.ifc o.tc.1 o.tc.2,.sl nl (terms ts)])
  | .during o p=>(143,[.ifc o.tc.1 o.tc.2,i64 p.f,i64 p.t])
  | .nested a b=>(125,[.ifc a.tc.1 a.tc.2,.ifc b.tc.1 b.tc.2])
def Opt.c (o:Opt):C:=.ifc o.tc.1 o.tc.2
def Opt.fn:Opt→FuncId
  | .scan _ _=>281
  | .filter _ _ _=>284
  | .during _ _=>283
  | .nested _ _=>215
theorem Opt.meth (o:Opt):methOf Tryz.prog o.tc.1 "annals/exec.run" = some o.fn:=by
  cases o <;> simp [Opt.tc,Opt.fn]
@[simp] theorem b1_130:B1 Tryz.prog 130:=fun d=>by simp [pbuild]
theorem scan_spec (nl:Bool) (l:List Fact) (ho:FOk l) (hl:l.length≤3518437208883):Con Tryz.prog 16 [.c (.sl nl (facts l))] [.c (Opt.scan l.isEmpty l).c]:=by
  refine spec_of Tryz.func16 rfl (by kernel_rfl) (by simp [Tryz.f16]) (fun w0 K0=>vc_ok _ _ _ (by kernel_rfl) ?_)
  simp only [Tryz.f16]
  simp -dsimp
  refine VC.mk _ (copied_spec nl l ho hl) ?_
  simp -dsimp [Opt.c,Opt.tc]
set_option maxRecDepth 4000 in
set_option maxHeartbeats 4000000 in
theorem join_nested (a b:Opt):Con Tryz.prog 15 [.c a.c,.c b.c,.c (i64 1)] [.c (Opt.nested a b).c,.c (i64 0)]:=by
  refine spec_of Tryz.func15 rfl (by kernel_rfl) (by simp [Tryz.f15]) (fun w0 K0=>vc_ok _ _ _ (by kernel_rfl) ?_)
  simp only [Tryz.f15]
  simp -dsimp [Opt.c,Opt.tc]
theorem scanRun_spec (nl:Bool) (l:List Fact):Con Tryz.prog 281 [.agg [.sl nl (facts l)]] [.c (.sl nl (facts l))]:=by
  refine spec_of Tryz.func281 rfl (by kernel_rfl) (by simp [Tryz.f281]) (fun w0 K0=>vc_ok _ _ _ (by kernel_rfl) ?_)
  simp only [Tryz.f281]
  simp -dsimp
end Go.Proofs.YtlphpbcafplnbaaGreat
namespace Go.Proofs.YtlphpbcafplnbaaGreat
open Go.Shelf Go.RowKit Go.Lib Go.VL
def Tryz.growV_ren:Go.Shelf.Ren:=⟨fun | 4=>219 | n=>n,fun | 22=>36 | 25=>58 | 3=>3 | 4=>4 | 9=>9 | 20=>20 | 0=>0 | n=>n,fun | n=>n⟩
theorem Tryz.growV:Go.Proofs.Lays8.n4 Tryz.prog Tryz.growV_ren:={ mixed:=by kernel_rfl,f4:=⟨Tryz.f219.name,by decide,Tryz.func219.trans (congrArg some (by kernel_rfl))⟩,t0:=Tryz.underlying0,a0:=Tryz.isAgg0,z0:=Tryz.sizeOf0,v0:=Tryz.zeroValue0,t3:=Tryz.underlying3,a3:=Tryz.isAgg3,z3:=Tryz.sizeOf3,v3:=Tryz.zeroValue3,t4:=Tryz.underlying4,a4:=Tryz.isAgg4,z4:=Tryz.sizeOf4,v4:=Tryz.zeroValue4,t9:=Tryz.underlying9,a9:=Tryz.isAgg9,z9:=Tryz.sizeOf9,v9:=Tryz.zeroValue9,t20:=Tryz.underlying20,a20:=Tryz.isAgg20,z20:=Tryz.sizeOf20,v20:=Tryz.zeroValue20,t22:=Tryz.underlying36,a22:=Tryz.isAgg36,z22:=Tryz.sizeOf36,v22:=Tryz.zeroValue36 }
theorem val_info:Tryz.prog.info? 58=some Tryz.t58:=by kernel_rfl
theorem growV_spec (n:Nat) (hn:n≤4398046511104):Con Tryz.prog 219 [.c (.sl true []),.c (i64 n)] [.fr (decide (n=0)) (if n=0 then 0 else 3) [] 0]:=by
  refine Con.of (by kernel_rfl) fun w K us hK hd=>?_
  unfold DRs at hd
  rw [SRs] at hd
  obtain ⟨u,us',rfl,hu,hd⟩:=hd
  rw [SRs] at hd
  obtain ⟨u2,us'',rfl,hu2,hd⟩:=hd
  rw [SRs] at hd
  subst hd
  rw [SR] at hu hu2
  rw [CR] at hu
  replace hu2:CR K w (C.v (.int .i64 n)) u2:=hu2
  rw [CR] at hu2
  obtain ⟨rfl,_⟩:=hu2
  have hu':u = .slice none 0 0:=by
    rcases hu with ⟨_,_,h⟩ | ⟨h,_⟩
    · exact h
    · cases h
  subst hu'
  by_cases h0:n=0
  · subst h0
    have h:=Any8.slices_Grow_room Tryz.growV none 0 0 0 w (by omega) (by omega) (by omega) (by omega)
    change Calls Tryz.prog 219 _ _ _ at h
    refine h.mono ?_
    rintro e w' ⟨rfl,rfl⟩
    refine ⟨[.slice none 0 0],rfl,BelowD.refl _ _,K,fun _ _ h=>h,fun _ _ h _=>h,hK,rfl,fun k r v hr hv=>?_,fun j k r r' v v' hne hr hr' _ _ _ _=>?_⟩
    · match k with
      | 0 =>
        simp at hr hv
        subst hr hv
        rw [RtR,RR];exact .inl ⟨rfl,rfl,rfl,rfl⟩
      | k+1=>simp at hr
    · match j,k with
      | 0,0=>exact absurd rfl hne
      | j+1,_=>simp at hr
      | 0,k+1=>simp at hr'
  · have h:=Any8.slices_Grow_grow Tryz.growV Tryz.t58 _ val_info rfl (by decide) none 0 0 n [] w (by omega) (by omega) (by rw [show Tryz.t58.bytes=32 from by kernel_rfl];omega) (by omega) (by simp) (fun _=>rfl) (fun a h=>by cases h)
    change Calls Tryz.prog 219 _ _ _ at h
    refine h.mono ?_
    rintro e w' ⟨rfl,rfl⟩
    refine ⟨[_],rfl,((BelowD.refl _ _).drew.alloc (Nat.le_refl _) _),K,fun _ _ h=>h,fun _ _ h _=>h,fun b o h=>?_,rfl,fun k r v hr hv=>?_,fun j k r r' v v' hne hr hr' _ _ _ _=>?_⟩
    · have:=hK b o h
      show b<(w.drew.heap.push _).size
      rw [Array.size_push]
      show b<w.heap.size+1
      omega
    · match k with
      | 0 =>
        simp at hr hv
        subst hr hv
        rw [RtR,RR]
        refine .inr ⟨by simp [h0],w.heap.size,_,_,_,rfl,Nat.le_refl _,by show (w.heap.push _)[w.heap.size]? = _;rw [Array.getElem?_push_size],Nat.zero_le _,?_,?_,Nat.zero_le _,?_,?_⟩
        · exact grownCap_le_maxLen w n 0 _ (by unfold maxLen;omega)
        · have hge:=grownCap_ge w n 0 (Tryz.growV_ren.t 25)
          rw [if_neg h0]
          simp only [Nat.zero_add,Nat.sub_zero,Array.size_append,Builtin.zeroCells,Array.size_map,Array.size_range,Array.size_empty]
          generalize grownCap w n 0 (Tryz.growV_ren.t 25)=g at *
          show n*3+(g-n)*3=g*3
          omega
        · intro j e he;simp at he
        · intro o
          constructor
          · intro h;have:=hK _ o h;omega
          · intro h;omega
      | k+1=>simp at hr
    · match j,k with
      | 0,0=>exact absurd rfl hne
      | j+1,_=>simp at hr
      | 0,k+1=>simp at hr'
def listR (x:Bool × List Val):List C:=[.sl x.1 (vals x.2)]
@[simp] theorem catR_nil:catR []=[]:=rfl
set_option maxRecDepth 4000 in
set_option maxHeartbeats 8000000 in
theorem concatV_spec (nl:Bool) (ls:List (Bool × List Val)) (hl:ls.length≤2) (hR:(catR ls).length≤4398046511104) :
    Con Tryz.prog 218 [.c (.sl nl (ls.map listR))] [.c (.sl (catR ls).isEmpty (vals (catR ls)))]:=by
  refine Con.frz (rs:=[.fr (catR ls).isEmpty (if ls.length=0 then 0 else 3) (vals (catR ls)) 0]) ?_ 0 rfl
  refine spec_of Tryz.func218 rfl (by kernel_rfl) (by simp [Tryz.f218]) (fun w0 K0=>vc_ok _ _ _ (by kernel_rfl) ?_)
  simp only [Tryz.f218]
  simp -dsimp
  refine VL.loop (fun k:Nat=>⟨[(11,.c (i64 k)),(10,.c (i64 ls.length)),(9,.c (.sl nl (ls.map listR))),(3,.c (i64 (catR (ls.take k)).length)),(0,.c (.sl nl (ls.map listR)))],[]⟩)
    (fun k=>k≤ls.length) (fun k=>ls.length-k) 0 (by kernel_rfl) (by simp) (by simp [St.le]) ?_
  intro k hk
  have hlen:=catR_mono ls (k+1)
  have hk2:k=0∨k=1∨k=2:=by omega
  by_cases h1:k<ls.length
  · have hw:IntKind.i64.wrap ((k:Int)+1)=(k:Int)+1:=IntWalk.i64_in _ (by omega)
    have hsn:=catR_snoc ls h1
    have hsl:=congrArg List.length hsn
    rw [List.length_append] at hsl
    have hw2:IntKind.i64.wrap (((catR (ls.take k)).length:Int)+ls[k].2.length)=((catR (ls.take (k+1))).length:Int):=by rw [IntWalk.i64_in _ (by omega),hsn];simp
    have hn0:¬ ((catR (ls.take (k+1))).length:Int)<0:=by omega
    simp -dsimp [h1,hw,listR,hw2]
    refine VIf.mk (fun h=>absurd (of_decide_eq_true h) hn0) (fun h=>?_)
    simp -dsimp [hw]
    refine ⟨k+1,by omega,?_,by omega⟩
    simp [St.le]
  · obtain rfl:k=ls.length:=by omega
    rw [List.take_length] at *
    simp -dsimp
    refine VC.mk _ (growV_spec (catR ls).length hR) ?_
    simp -dsimp
    refine VL.loop (fun i:KI=>⟨[(27,.c (i64 i.k)),(26,.c (i64 ls.length)),(25,.c (.sl nl (ls.map listR))),(6,.own 1536 (catR (ls.take i.k)).length)],[(1536,some (.arr i.nl i.sz (vals (catR (ls.take i.k))) 0))]⟩)
      (fun i=>i.k≤ls.length∧i.nl=(catR ls).isEmpty∧i.sz=if i.k=0 then (if (catR ls).length=0 then 0 else 3) else 3) (fun i=>ls.length-i.k) ⟨0,(catR ls).isEmpty,if (catR ls).length=0 then 0 else 3⟩ (by kernel_rfl) ⟨by simp,rfl,rfl⟩ ?_ ?_
    · simp [St.le]
      cases catR ls <;> simp
    intro ⟨k,z,sz⟩ ⟨hk',hz,hsz⟩
    simp only at hk' hz hsz
    have hlen:=catR_mono ls (k+1)
    by_cases h1:k<ls.length
    · have hw:IntKind.i64.wrap ((k:Int)+1)=(k:Int)+1:=IntWalk.i64_in _ (by omega)
      have hsn:=catR_snoc ls h1
      have hsl:=congrArg List.length hsn
      rw [List.length_append] at hsl
      simp -dsimp [h1,hw,listR,maxLen]
      refine ⟨fun e=>?_,by omega,⟨k+1,z && ls[k].2.isEmpty,3⟩,⟨by simp only;omega,?_,by simp⟩,?_,by simp only;omega⟩
      · rw [hsz]
        split
        · rw [if_neg]
          intro e2
          rw [e,eq_comm,List.isEmpty_eq_false_iff] at hz
          exact hz (List.length_eq_zero_iff.1 e2)
        · rfl
      · simp only
        rw [hz]
        cases he:(catR ls).isEmpty with
        | false=>rfl
        | true =>
          rw [List.isEmpty_iff] at he
          unfold catR at he
          rw [List.flatMap_eq_nil_iff] at he
          rw [he _ (List.getElem_mem h1)];rfl
      · simp [St.le,hsn]
    · obtain rfl:k=ls.length:=by omega
      rw [List.take_length] at *
      simp -dsimp
      refine ⟨hz,?_⟩
      rw [hsz]
      cases ls <;> simp
end Go.Proofs.YtlphpbcafplnbaaGreat
