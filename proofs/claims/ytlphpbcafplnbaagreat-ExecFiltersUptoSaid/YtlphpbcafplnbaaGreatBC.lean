/- Contracts of functions of the seat, proved in a logic on data over the model (part BC). -/
import Derived.Test.YtlphpbcafplnbaaGreatBE
import Derived.Test.YtlphpbcafplnbaaGreatE3
import Derived.Shelf.Spec.SlicesGrow
set_option linter.unusedSimpArgs false
set_option linter.unusedVariables false
namespace Go.Proofs.YtlphpbcafplnbaaGreat
open Go.VL Go.RowKit
def stepC (s:Per × Int):List C:=[i64 s.1.f,i64 s.1.t,i64 s.2]
abbrev stepCs (l:List (Per × Int)):List (List C):=l.map stepC
theorem clone_any (nl:Bool) (l:List Per) (hn:nl=true→l=[]) (hl:l.length≤8796093022208):Con Tryz.prog 113 [.c (.sl nl (l.map Per.cells))] [.fr nl (if nl then 0 else 2) (l.map Per.cells) 0]:=by
  cases nl with
  | false=>exact clone_spec l hl
  | true=>obtain rfl:=hn rfl;exact clone_nil
theorem edges_frz (hi:SortsI) (nl:Bool) (l:List Per) (hn:nl=true→l=[]) (hl:l.length≤8796093022207) :
    Con Tryz.prog 112 [.c (.sl nl (l.map Per.cells))] [.c (.sl (edgesL l).isEmpty (ints (edgesL l)))]:=Con.frz (edges_spec hi nl l hn hl) 0 rfl
theorem cntP_snoc (ps:List Per) (t:Int) {k:Nat} (h:k<ps.length):cntP (ps.take (k+1)) t=cntP (ps.take k) t+if has ps[k] t then 1 else 0:=by
  unfold cntP
  rw [take_snoc h,List.filter_append,List.length_append]
  by_cases e:has ps[k] t=true <;> simp [e]
theorem cntP_le (ps:List Per) (t:Int) (k:Nat):cntP (ps.take k) t≤ps.length:=by
  unfold cntP
  exact Nat.le_trans (List.length_filter_le _ _) (by rw [List.length_take];omega)
theorem stepsL_len (plus minus:List Per):(stepsL plus minus).length=(edgesL (plus++minus)).length-1:=by unfold stepsL;simp
theorem stepsL_at (plus minus:List Per) {k:Nat} (h:k<(stepsL plus minus).length):(stepsL plus minus)[k]=(⟨(edgesL (plus++minus))[k]!,(edgesL (plus++minus))[k+1]!⟩,(cntP plus (edgesL (plus++minus))[k]! : Int)-cntP minus (edgesL (plus++minus))[k]!):=by
  unfold stepsL;simp
theorem rise_ge {E:List Int} (hE:Rise E) (h0:∀ t∈E,0≤t):∀ i,(h:i<E.length)→(i:Int)≤E[i]
  | 0,h=>h0 _ (List.getElem_mem h)
  | i+1,h=>by
    have:=rise_ge hE h0 i (by omega)
    have:=List.pairwise_iff_getElem.1 hE i (i+1) (by omega) h (by omega)
    omega
theorem edgesL_bound (l:List Per):(edgesL l).length≤1099511627777:=by
  obtain ⟨hE,hm⟩:=edgesL_ok l
  have hb:∀ t∈edgesL l,0≤t∧t≤1099511627776:=by
    intro t ht
    obtain ⟨p,_,hr,e⟩:=(mem_endsOf l t).1 ((hm t).1 ht)
    have:=(right_iff p).1 hr
    rcases e with rfl | rfl <;> omega
  rcases Nat.eq_zero_or_pos (edgesL l).length with h | h
  · omega
  · have h1:=rise_ge hE (fun t ht=>(hb t ht).1) ((edgesL l).length-1) (by omega)
    have h2:=(hb _ (List.getElem_mem (h:=(by omega:(edgesL l).length-1<(edgesL l).length)))).2
    omega
set_option maxRecDepth 4000 in
set_option maxHeartbeats 16000000 in
theorem steps_spec (hi:SortsI) (np nm:Bool) (plus minus:List Per) (hp:np=true→plus=[]) (hm:nm=true→minus=[]) (lp:plus.length≤3518437208883) (lm:minus.length≤3518437208883) :
    Con Tryz.prog 89 [.c (.sl np (plus.map Per.cells)),.c (.sl nm (minus.map Per.cells))] [.c (.sl (stepsL plus minus).isEmpty (stepCs (stepsL plus minus)))]:=by
  refine Con.frz (rs:=[.fr (stepsL plus minus).isEmpty (if (stepsL plus minus).isEmpty then 0 else 3) (stepCs (stepsL plus minus)) 0]) ?_ 0 rfl
  refine spec_of Tryz.func89 rfl (by kernel_rfl) (by simp [Tryz.f89]) (fun w0 K0=>vc_ok _ _ _ (by kernel_rfl) ?_)
  simp only [Tryz.f89]
  simp -dsimp
  refine VC.mk _ (clone_any np plus hp (by omega)) ?_
  simp -dsimp [maxLen]
  refine ⟨by omega,VCL.snap ?_⟩
  simp -dsimp
  have hec:=edges_frz hi (np && minus.isEmpty) (plus++minus) (by
    intro e
    rw [Bool.and_eq_true,List.isEmpty_iff] at e
    rw [hp e.1,e.2];rfl) (by rw [List.length_append];omega)
  rw [List.map_append] at hec
  refine VC.mk _ hec ?_
  have hE:=edgesL_bound (plus++minus)
  have hsl:=stepsL_len plus minus
  have hsa:=fun k=>@stepsL_at plus minus k
  generalize stepsL plus minus=st at *
  generalize edgesL (plus++minus)=E at *
  simp -dsimp
  refine VL.loop (fun i:KI=>⟨[(22,.c (i64 i.k)),(21,.c (i64 (E.length-1:Nat))),(5,.c (.sl E.isEmpty (ints E))),(6,.own 384 i.k),(0,.c (.sl np (plus.map Per.cells))),(1,.c (.sl nm (minus.map Per.cells)))],[(384,some (.arr i.nl i.sz (stepCs (st.take i.k)) 0))]⟩)
    (fun i=>i.k≤st.length∧i.nl=decide (i.k=0)∧i.sz=if i.nl then 0 else 3) (fun i=>st.length-i.k) ⟨0,true,0⟩ (by kernel_rfl) ⟨by simp,rfl,rfl⟩ ?_ ?_
  · have hw:IntKind.i64.wrap ((E.length:Int)-1)=(E.length:Int)-1:=IntWalk.i64_in _ (by omega)
    simp [St.le,hw]
    omega
  intro ⟨k,z,sz⟩ ⟨hk,hz,hsz⟩
  simp only at hk hz hsz
  have hmin:min k st.length=k:=by omega
  have hw:IntKind.i64.wrap ((k:Int)+1)=(k:Int)+1:=IntWalk.i64_in _ (by omega)
  by_cases h1:k<st.length
  · have hsk:=hsa k h1
    have htk:=take_snoc h1
    have h2:k<E.length-1:=by omega
    have h3:k<E.length:=by omega
    have h4:k+1<E.length:=by omega
    have g1:E[k]! = E[k]:=getElem!_pos E k h3
    have g2:E[k+1]! = E[k+1]:=getElem!_pos E (k+1) h4
    simp -dsimp [h2,h3,h4,hw]
    refine VL.draw (by kernel_rfl) [(0,false),(0,false),(3,false),(7,false),(0,false),(0,false),(32,false),(112,false),(240,false),(511,false),(1023,false),(0,false),(4095,true)] (by kernel_rfl) ?_
    simp -dsimp [h2,h3,h4,hw]
    refine ⟨by omega,by simp [Value.cells],?_⟩
    refine VL.loop (fun j:Nat=>⟨[(38,.c (i64 j)),(37,.c (i64 plus.length)),(36,.c (.sl np (plus.map Per.cells))),(8,.ptr 512 0),(22,.c (i64 k)),(21,.c (i64 (E.length-1:Nat))),(5,.c (.sl E.isEmpty (ints E))),(6,.own 384 k),(0,.c (.sl np (plus.map Per.cells))),(1,.c (.sl nm (minus.map Per.cells)))],[(512,some (.box false [.c (i64 E[k]),.c (i64 E[k+1]),.c (i64 (cntP (plus.take j) E[k]))])),(384,some (.arr z sz (stepCs (st.take k)) 0))]⟩)
      (fun j=>j≤plus.length) (fun j=>plus.length-j) 0 (by kernel_rfl) (by simp) (by simp [St.le,cntP,hmin]) ?_
    intro j hj
    by_cases j1:j<plus.length
    · have hwj:IntKind.i64.wrap ((j:Int)+1)=(j:Int)+1:=IntWalk.i64_in _ (by omega)
      have hcs:=cntP_snoc plus E[k] j1
      have hcl:=cntP_le plus E[k] j
      have hwc:IntKind.i64.wrap ((cntP (plus.take j) E[k]:Int)+1)=(cntP (plus.take j) E[k]:Int)+1:=IntWalk.i64_in _ (by omega)
      simp -dsimp [j1,Per.cells]
      refine VC.mk _ (has_at _ plus[j] E[k] rfl) ?_
      simp -dsimp
      refine VIf.mk (fun h=>?_) (fun h=>?_)
      · rw [h,if_pos rfl] at hcs
        simp -dsimp [hwj,hwc]
        refine ⟨j+1,by omega,?_,by omega⟩
        simp [St.le,hcs]
      · rw [h,if_neg (by simp)] at hcs
        simp -dsimp [hwj]
        refine ⟨j+1,by omega,?_,by omega⟩
        simp [St.le,hcs]
    · obtain rfl:j=plus.length:=by omega
      rw [List.take_length]
      simp -dsimp
      have hcp:cntP plus E[k]≤plus.length:=by have:=cntP_le plus E[k] plus.length;rwa [List.take_length] at this
      refine VL.loop (fun j:Nat=>⟨[(54,.c (i64 j)),(53,.c (i64 minus.length)),(52,.c (.sl nm (minus.map Per.cells))),(8,.ptr 512 0),(22,.c (i64 k)),(21,.c (i64 (E.length-1:Nat))),(5,.c (.sl E.isEmpty (ints E))),(6,.own 384 k),(0,.c (.sl np (plus.map Per.cells))),(1,.c (.sl nm (minus.map Per.cells)))],[(512,some (.box false [.c (i64 E[k]),.c (i64 E[k+1]),.c (i64 ((cntP plus E[k]:Int)-cntP (minus.take j) E[k]))])),(384,some (.arr z sz (stepCs (st.take k)) 0))]⟩)
        (fun j=>j≤minus.length) (fun j=>minus.length-j) 0 (by kernel_rfl) (by simp) (by simp [St.le,cntP,hmin]) ?_
      intro j hj
      by_cases j1:j<minus.length
      · have hwj:IntKind.i64.wrap ((j:Int)+1)=(j:Int)+1:=IntWalk.i64_in _ (by omega)
        have hcs:=cntP_snoc minus E[k] j1
        have hcl:=cntP_le minus E[k] j
        have hwc:IntKind.i64.wrap ((cntP plus E[k]:Int)-cntP (minus.take j) E[k] - 1)=(cntP plus E[k]:Int)-cntP (minus.take j) E[k] - 1:=IntWalk.i64_in _ (by omega)
        simp -dsimp [j1,Per.cells]
        refine VC.mk _ (has_at _ minus[j] E[k] rfl) ?_
        simp -dsimp
        refine VIf.mk (fun h=>?_) (fun h=>?_)
        · rw [h,if_pos rfl] at hcs
          simp -dsimp [hwj,hwc]
          refine ⟨j+1,by omega,?_,by omega⟩
          simp [St.le,hcs]
          omega
        · rw [h,if_neg (by simp)] at hcs
          simp -dsimp [hwj]
          refine ⟨j+1,by omega,?_,by omega⟩
          simp [St.le,hcs]
      · obtain rfl:j=minus.length:=by omega
        rw [List.take_length]
        simp -dsimp [hw,maxLen]
        have htk2:List.take (k+1) (List.map stepC st)=List.take k (List.map stepC st)++[[i64 E[k],i64 E[k+1],i64 ((cntP plus E[k]:Int)-cntP minus E[k])]]:=by
          have:=congrArg (List.map stepC) htk
          rw [List.map_append,List.map_take,List.map_take,List.map_singleton,hsk,g1,g2] at this
          exact this
        refine ⟨hmin,fun e=>by rw [hsz,e];rfl,by omega,⟨k+1,false,3⟩,⟨by simp only;omega,by simp,rfl⟩,?_,by simp only;omega⟩
        have hmin2:min (k+1) st.length=k+1:=by omega
        simp [St.le,htk2,hmin2]
  · obtain rfl:k=st.length:=by omega
    have h2:¬ st.length<E.length-1:=by omega
    simp -dsimp [h2]
    refine ⟨by rw [hz];cases st <;> simp,?_⟩
    rw [hsz,hz]
    cases st <;> simp
theorem union_frz {sortP:List Per→List Per} (hs:Sorts sortP) (nl:Bool) (l:List Per) (hn:nl=true→l=[]) (hl:l.length≤8796093021952) :
    Con Tryz.prog 111 [.c (.sl nl (l.map Per.cells))] [.c (.sl (unionL sortP l).isEmpty ((unionL sortP l).map Per.cells))]:=Con.frz (union_spec hs nl l hn hl) 0 rfl
def hereJ (st:List (Per × Int)) (k j:Nat):List Per:=here (st.take j) k
theorem hereJ_snoc (st:List (Per × Int)) (k:Nat) {j:Nat} (h:j<st.length):hereJ st k (j+1)=hereJ st k j++if (k:Int)≤st[j].2 then [st[j].1] else []:=by
  unfold hereJ here
  rw [take_snoc h,List.filter_append,List.map_append]
  by_cases e:(k:Int)≤st[j].2 <;> simp [e]
theorem hereJ_len (st:List (Per × Int)) (k j:Nat):(hereJ st k j).length≤st.length:=by
  unfold hereJ here
  rw [List.length_map]
  exact Nat.le_trans (List.length_filter_le _ _) (by rw [List.length_take];omega)
theorem hereJ_end (st:List (Per × Int)) (k:Nat):hereJ st k st.length=here st k:=by unfold hereJ;rw [List.take_length]
theorem layersN_le {sortP:List Per→List Per} (row:List Val) (st:List (Per × Int)):∀ {N M:Nat},N≤M→(layersN sortP row st N).length≤(layersN sortP row st M).length
  | N,0,h=>by obtain rfl:N=0:=by omega
              exact Nat.le_refl _
  | N,M+1,h=>by
    rcases Nat.lt_or_eq_of_le h with h | rfl
    · have:=layersN_le (sortP:=sortP) row st (N:=N) (M:=M) (by omega)
      rw [layersN_succ,List.length_append];omega
    · exact Nat.le_refl _
theorem here_maxN {st:List (Per × Int)} {k:Nat} (h:here st k≠[]):k≤maxN st:=by
  rcases Nat.lt_or_ge (maxN st) k with e | e
  · exact absurd (here_big e) h
  · exact e
theorem maxN_bound {st:List (Per × Int)} {B:Nat} (h:∀ s∈st,s.2≤B):maxN st≤B:=by
  have key:∀ (l:List (Per × Int)) (m:Nat),m≤B→(∀ s∈l,s.2≤B)→l.foldl (fun m s=>max m s.2.toNat) m≤B:=by
    intro l
    induction l with
    | nil=>intro m hm _;exact hm
    | cons x l ih =>
      intro m hm hl
      have:=hl x (by simp)
      exact ih (max m x.2.toNat) (by omega) (fun s hs=>hl s (by simp [hs]))
  exact key st 0 (Nat.zero_le _) h
set_option maxRecDepth 4000 in
set_option maxHeartbeats 16000000 in
theorem layers_spec {sortP:List Per→List Per} (hs:Sorts sortP) (nr ns:Bool) (row:List Val) (st:List (Per × Int)) (hr:row.length≤4398046511104) (hst:st.length≤4000000000000) (hn:∀ s∈st,s.2≤(4000000000000:Nat)) (hL:(layersL sortP row st).length≤3518437208883) :
    Con Tryz.prog 88 [.c (.sl nr (vals row)),.c (.sl ns (stepCs st))] [.c (.sl (layersL sortP row st).isEmpty (facts (layersL sortP row st)))]:=by
  refine Con.frz (rs:=[.fr (layersL sortP row st).isEmpty (if (layersL sortP row st).isEmpty then 0 else 3) (facts (layersL sortP row st)) 0]) ?_ 0 rfl
  refine spec_of Tryz.func88 rfl (by kernel_rfl) (by simp [Tryz.f88]) (fun w0 K0=>vc_ok _ _ _ (by kernel_rfl) ?_)
  have hmb:=maxN_bound hn
  have hstop:=fun N=>@layersN_stop sortP hs row st N
  have hle:=fun N h=>@layersN_le sortP row st N (maxN st) h
  have hsucc:=layersN_succ (sortP:=sortP) row st
  have hL':(layersN sortP row st (maxN st)).length≤3518437208883:=hL
  generalize layersL sortP row st=LL at *
  simp only [Tryz.f88]
  simp -dsimp
  refine VL.loop (fun i:KI=>⟨[(6,.c (i64 ((i.k:Int)+1))),(5,.own 320 (layersN sortP row st i.k).length),(0,.c (.sl nr (vals row))),(1,.c (.sl ns (stepCs st)))],[(320,some (.arr i.nl i.sz (facts (layersN sortP row st i.k)) 0))]⟩)
    (fun i=>i.k≤maxN st∧i.nl=(layersN sortP row st i.k).isEmpty∧i.sz=if i.nl then 0 else 3) (fun i=>maxN st-i.k) ⟨0,true,0⟩ (by kernel_rfl) ⟨Nat.zero_le _,rfl,rfl⟩ (by simp [St.le,layersN]) ?_
  intro ⟨k,z,sz⟩ ⟨hk,hz,hsz⟩
  simp only at hk hz hsz
  have hlk:=hle k hk
  have hw:IntKind.i64.wrap ((k:Int)+1+1)=(k:Int)+1+1:=IntWalk.i64_in _ (by omega)
  simp -dsimp
  refine VL.loop (fun j:KI=>⟨[(16,.c (i64 j.k)),(15,.c (i64 st.length)),(14,.c (.sl ns (stepCs st))),(7,.own 448 (hereJ st (k+1) j.k).length),(6,.c (i64 ((k:Int)+1))),(5,.own 320 (layersN sortP row st k).length),(0,.c (.sl nr (vals row))),(1,.c (.sl ns (stepCs st)))],
      [(448,some (.arr j.nl j.sz ((hereJ st (k+1) j.k).map Per.cells) 0)),(320,some (.arr z sz (facts (layersN sortP row st k)) 0))]⟩)
    (fun j=>j.k≤st.length∧j.nl=(hereJ st (k+1) j.k).isEmpty∧j.sz=if j.nl then 0 else 2) (fun j=>st.length-j.k) ⟨0,true,0⟩ (by kernel_rfl) ⟨Nat.zero_le _,rfl,rfl⟩ (by simp [St.le,hereJ,here]) ?_
  intro ⟨j,y,sy⟩ ⟨hj,hy,hsy⟩
  simp only at hj hy hsy
  have hhl:=hereJ_len st (k+1) j
  by_cases j1:j<st.length
  · have hwj:IntKind.i64.wrap ((j:Int)+1)=(j:Int)+1:=IntWalk.i64_in _ (by omega)
    have hsn:=hereJ_snoc st (k+1) j1
    simp -dsimp [j1,stepC]
    refine VIf.mk (fun h=>?_) (fun h=>?_)
    · have h':((k+1:Nat):Int)≤st[j].2:=by simp at h;omega
      rw [if_pos h'] at hsn
      simp -dsimp [hwj,maxLen]
      refine ⟨fun e=>by rw [hsy,e];rfl,by omega,⟨j+1,false,2⟩,⟨by simp only;omega,by rw [hsn];simp,rfl⟩,?_,by simp only;omega⟩
      simp [St.le,hsn,Per.cells]
    · have h':¬ ((k+1:Nat):Int)≤st[j].2:=by simp at h;omega
      rw [if_neg h',List.append_nil] at hsn
      simp -dsimp [hwj]
      refine ⟨⟨j+1,y,sy⟩,⟨by simp only;omega,by rw [hsn];exact hy,hsy⟩,?_,by simp only;omega⟩
      simp [St.le,hsn]
  · obtain rfl:j=st.length:=by omega
    rw [hereJ_end] at *
    simp -dsimp
    refine VIf.mk (fun h=>?_) (fun h=>?_)
    · have h':here st (k+1)=[]:=by simpa using h
      have e:=hstop k h'
      rw [e] at hz ⊢
      simp -dsimp
      exact ⟨hz,by rw [hsz,hz];cases LL <;> rfl⟩
    · have h':here st (k+1)≠[]:=by simpa using h
      have hm:=here_maxN h'
      have hlk2:=hle (k+1) hm
      have hyf:y=false:=by rw [hy,List.isEmpty_eq_false_iff];exact h'
      subst hyf
      have hsuc:=hsucc k
      simp -dsimp
      refine VCL.snap ?_
      simp -dsimp
      refine VC.mk _ (union_frz hs false (here st (k+1)) (by simp) (by omega)) ?_
      generalize unionL sortP (here st (k+1))=U at *
      simp -dsimp
      refine VL.loop (fun m:KI=>⟨[(37,.c (i64 m.k)),(36,.c (i64 U.length)),(35,.c (.sl U.isEmpty (U.map Per.cells))),(6,.c (i64 ((k:Int)+1))),(5,.own 320 (layersN sortP row st k++(U.take m.k).map (mkF row)).length),(0,.c (.sl nr (vals row))),(1,.c (.sl ns (stepCs st)))],
          [(320,some (.arr m.nl m.sz (facts (layersN sortP row st k++(U.take m.k).map (mkF row))) 0))]⟩)
        (fun m=>m.k≤U.length∧m.nl=(layersN sortP row st k++(U.take m.k).map (mkF row)).isEmpty∧m.sz=if m.nl then 0 else 3) (fun m=>U.length-m.k) ⟨0,z,sz⟩ (by kernel_rfl) ⟨Nat.zero_le _,by simp [hz],hsz⟩ (by simp [St.le]) ?_
      intro ⟨m,x,sx⟩ ⟨hm1,hx,hsx⟩
      simp only at hm1 hx hsx
      by_cases m1:m<U.length
      · have hll:(layersN sortP row st (k+1)).length=(layersN sortP row st k).length+U.length:=by rw [hsuc];simp
        have hwm:IntKind.i64.wrap ((m:Int)+1)=(m:Int)+1:=IntWalk.i64_in _ (by omega)
        have htk:=take_snoc m1
        have hmin:min m U.length=m:=by omega
        simp -dsimp [m1,Per.cells]
        refine VL.draw (by kernel_rfl) [(0,false),(0,false),(2,false),(6,false),(0,false),(30,false),(62,false),(127,true),(255,true)] (by kernel_rfl) ?_
        simp -dsimp [m1,Per.cells]
        refine ⟨by decide,VCE.mk _ (bcopied_at false _ nr row rfl hr) ?_⟩
        simp -dsimp [hwm,maxLen]
        have htk2:List.take (m+1) (List.map (Fact.cells ∘ mkF row) U)=List.take m (List.map (Fact.cells ∘ mkF row) U)++[[C.sl row.isEmpty (vals row),i64 U[m].f,i64 U[m].t]]:=by
          have:=congrArg (List.map (Fact.cells ∘ mkF row)) htk
          rw [List.map_append,List.map_take,List.map_take,List.map_singleton] at this
          exact this
        refine ⟨fun e=>by rw [hsx,e];rfl,by omega,⟨m+1,false,3⟩,⟨by simp only;omega,?_,rfl⟩,?_,by simp only;omega⟩
        · simp only
          rw [← List.map_take,htk];simp
          intro _ e;rw [e] at m1;simp at m1
        · have hmin2:min (m+1) U.length=m+1:=by omega
          simp [St.le,htk2,hmin,hmin2]
          omega
      · obtain rfl:m=U.length:=by omega
        rw [List.take_length,← hsuc] at *
        simp -dsimp [hw]
        refine ⟨⟨k+1,x,sx⟩,⟨hm,hx,hsx⟩,?_,by simp only;omega⟩
        simp [St.le]
def outB (sz:Nat) (acc:List Fact):List (Nat × Res):=[(1,.box false [.own 2 acc.length]),(2,.arr acc.isEmpty sz (facts acc) 0)]
def grpA (x:List Val × List Per):List S:=[.c (.sl x.1.isEmpty (vals x.1)),.c (.sl false (x.2.map Per.cells)),.ptr 1 0]
def GrpOk (F:FuncId) (x:List Val × List Per) (G:List Fact) (B:Nat):Prop :=
  ∀ (sz:Nat) (acc:List Fact),acc.length+G.length≤B→(acc≠[]→sz=3)→ConB Tryz.prog F (grpA x) (outB sz acc) [] (grpA x) (outB 3 (acc++G))
def catG (G:List Val × List Per→List Fact) (xs:List (List Val × List Per)):List Fact:=xs.flatMap G
@[simp] theorem catG_nil (G:List Val × List Per→List Fact):catG G []=[]:=rfl
theorem catG_snoc (G:List Val × List Per→List Fact) (xs:List (List Val × List Per)) (x:List Val × List Per):catG G (xs++[x])=catG G xs++G x:=by unfold catG;simp
def oτ (p q:Nat) (n:Nat):Nat:=if n=1 then p else if n=2 then q else n
theorem lend_out {st:St} {f:FuncId} {args a0 a1:List S} {sz sz':Nat} {acc acc':List Fact} {p q:Nat} (hpq:p≠q) (con:ConB Tryz.prog f a0 (outB sz acc) [] a1 (outB sz' acc'))
    (h0:args=renSs (oτ p q) a0) (h1:st.rs p=some (.box false [.own q acc.length])) (h2:st.rs q=some (.arr acc.isEmpty sz (facts acc) 0)) (hk:keptP (.box false [.own 2 acc.length]) (.box false [.own 2 acc'.length]) 1 a0 a1) :
    LendOk Tryz.prog st f args (outB sz acc) (outB sz' acc') a0 [] a1 (oτ p q) [q]:=by
  refine ⟨con,h0,?_,?_,?_,?_,?_,?_⟩
  · intro x hx
    simp [outB] at hx
    rcases hx with rfl | rfl
    · simpa [renR,renSs,renS,oτ] using h1
    · simpa [renR,oτ] using h2
  · simpa [outB,oτ] using hpq
  · simp [outB]
  · simp [outB,Res.nam,S.nams,S.nam]
  · simp [S.nams]
  · intro x hx
    simp [outB] at hx
    rcases hx with rfl | rfl
    · exact .inr ⟨_,rfl,hk⟩
    · exact .inl (by simp [oτ])
structure GI where
  i:Nat
  sz:Nat
  done:List (List Val × List Per)
theorem dropWhile_at {α:Type} (q:α→Bool):∀ (u:List α) (k:Nat),k≤u.length→(∀ j,(h:j<u.length)→j<k→q u[j]=true)→(∀ h:k<u.length,q u[k]=false)→u.dropWhile q=u.drop k
  | [],k,_,_,_=>by simp
  | x::u,0,_,_,h=>by
    have:=h (by simp)
    simp at this
    rw [List.dropWhile_cons,if_neg (by simp [this])];rfl
  | x::u,k+1,hk,h1,h2=>by
    have h0:=h1 0 (by simp) (by omega)
    simp at h0
    rw [List.dropWhile_cons,if_pos h0,List.drop_succ_cons]
    exact dropWhile_at q u k (by simpa using hk) (fun j hj hjk=>by have:=h1 (j+1) (by simp;omega) (by omega);simpa using this) (fun h=>by have:=h2 (by simp;omega);simpa using this)
def seg (l:List Fact) (i k:Nat):List Per:=((l.drop i).take (k-i)).map Fact.p
theorem seg_snoc (l:List Fact) {i k:Nat} (h1:i≤k) (h2:k<l.length):seg l i (k+1)=seg l i k++[l[k].p]:=by
  unfold seg
  rw [show k+1-i=(k-i)+1 by omega,take_snoc (by simp;omega),List.map_append]
  simp [show i+(k-i)=k by omega]
theorem seg_len (l:List Fact) {i k:Nat} (h1:i≤k) (h2:k≤l.length):(seg l i k).length=k-i:=by
  unfold seg
  rw [List.length_map,List.length_take,List.length_drop];omega
theorem groups_at (l:List Fact) {i k:Nat} (h1:i<k) (h2:k≤l.length) (ha:∀ j,i≤j→j<k→(h:j<l.length)→l[j].row=(l[i]'(by omega)).row) (he:∀ h:k<l.length,l[k].row≠(l[i]'(by omega)).row) :
    groupsL (l.drop i)=((l[i]'(by omega)).row,seg l i k)::groupsL (l.drop k):=by
  have hi:i<l.length:=by omega
  rw [List.drop_eq_getElem_cons hi,groupsL_cons]
  have a:∀ j,(h:j<(l.drop (i+1)).length)→j<k-i-1→alikeR l[i].row (l.drop (i+1))[j]=true:=by
    intro j h hj
    simp only [alikeR,decide_eq_true_eq,List.getElem_drop]
    exact ha _ (by omega) (by omega) _
  have b:∀ h:k-i-1<(l.drop (i+1)).length,alikeR l[i].row (l.drop (i+1))[k-i-1]=false:=by
    intro h
    simp only [alikeR,decide_eq_false_iff_not,List.getElem_drop]
    have e:i+1+(k-i-1)=k:=by omega
    simp only [e]
    simp at h
    exact he (by omega)
  have hle:k-i-1≤(l.drop (i+1)).length:=by simp;omega
  rw [takeWhile_at _ _ _ hle a b,dropWhile_at _ _ _ hle a b,List.drop_drop]
  have e:i+1+(k-i-1)=k:=by omega
  rw [e]
  congr 2
  unfold seg
  rw [List.drop_eq_getElem_cons hi,show k-i=(k-i-1)+1 by omega,List.take_succ_cons,List.map_cons]
  simp
set_option maxRecDepth 4000 in
set_option maxHeartbeats 16000000 in
theorem group_spec (F:FuncId) (G:List Val × List Per→List Fact) (B:Nat) (nl:Bool) (l:List Fact) (hl:l.length≤3518437208883) (hN:∀ f∈l,f.nl=f.row.isEmpty∧f.row.length≤4398046511104) (hF:∀ x∈groupsL l,GrpOk F x (G x) B) (hB:(catG G (groupsL l)).length≤B) :
    ConB Tryz.prog 84 [.c (.sl nl (facts l)),.fnp F [.ptr 1 0]] (outB 0 []) [] [.c (.sl nl (facts l)),.fnp F [.ptr 1 0]] (outB (if l.isEmpty then 0 else 3) (catG G (groupsL l))):=by
  refine spec_ofB 3 Tryz.func84 rfl (by kernel_rfl) (by simp [Tryz.f84]) (by simp [outB]) rfl (fun w0 K0 uf=>vc_ok _ _ _ (by kernel_rfl) ?_)
  simp only [Tryz.f84]
  simp -dsimp [initB,initEnv,pinsOf,outB]
  refine VL.loop (fun g:GI=>⟨[(4,.c (i64 g.i)),(0,.c (.sl nl (facts l))),(1,.fnp F [.ptr 1 0])],
    [(1,some (.box false [.own 2 (catG G g.done).length])),(2,some (.arr (catG G g.done).isEmpty g.sz (facts (catG G g.done)) 0)),(3,some (.pin (uf 0) (.c (.sl nl (facts l))))),(4,some (.pin (uf 1) (.fnp F [.ptr 1 0])))]⟩)
    (fun g=>g.i≤l.length∧groupsL l=g.done++groupsL (l.drop g.i)∧g.sz=if g.i=0 then 0 else 3) (fun g=>l.length-g.i) ⟨0,0,[]⟩ (by kernel_rfl) (by simp) (by simp [St.le]) ?_
  intro ⟨i,sz,done⟩ ⟨hi,hg,hsz⟩
  simp only at hi hg hsz
  by_cases h1:i<l.length
  · simp -dsimp [h1]
    refine VL.loop (fun j:KI=>⟨[(6,.c (i64 j.k)),(5,.own 320 (seg l i j.k).length),(4,.c (i64 i)),(0,.c (.sl nl (facts l))),(1,.fnp F [.ptr 1 0])],
      [(320,some (.arr j.nl j.sz ((seg l i j.k).map Per.cells) 0)),(1,some (.box false [.own 2 (catG G done).length])),(2,some (.arr (catG G done).isEmpty sz (facts (catG G done)) 0)),(3,some (.pin (uf 0) (.c (.sl nl (facts l))))),(4,some (.pin (uf 1) (.fnp F [.ptr 1 0])))]⟩)
      (fun j=>i≤j.k∧j.k≤l.length∧j.nl=decide (j.k=i)∧(j.sz=if j.nl then 0 else 2)∧∀ m,i≤m→m<j.k→(h:m<l.length)→l[m].row=l[i].row) (fun j=>l.length-j.k) ⟨i,true,0⟩ (by kernel_rfl) ?_ (by simp [St.le,seg]) ?_
    · exact ⟨Nat.le_refl _,by simp only;omega,by simp,rfl,fun m h2 h3=>by simp only at h3;omega⟩
    intro ⟨k,z,s⟩ ⟨hik,hk,hz,hs,ha⟩
    simp only at hik hk hz hs ha
    have hsl:=seg_len l hik hk
    have fin:∀ (he:∀ h:k<l.length,l[k].row≠l[i].row),i<k→True:=fun _ _=>trivial
    by_cases h2:k<l.length
    · simp -dsimp [h1,h2]
      refine VL.draw (by kernel_rfl) [(0,false),(0,false),(2,false),(7,true),(15,true),(31,false),(31,false),(127,false),(255,false),(511,false),(31,false),(31,false),(3103,false),(7199,false),(15391,false),(32767,true),(65535,true),(131071,true)] (by kernel_rfl) ?_
      simp -dsimp [h1,h2,Fact.cells]
      refine VG.mk [.c (i64 (cmpR l[k].row l[i].row))] _ (fun _=>compareR_spec _ _ _ _ (by have:=hN _ (List.getElem_mem h2);omega) (by have:=hN _ (List.getElem_mem h1);omega)) rfl ?_
      simp -dsimp
      have hc0:=cmpR_0 l[k].row l[i].row
      refine VIf.mk (fun h=>?_) (fun h=>?_)
      · have h':l[k].row=l[i].row:=hc0.1 (by simpa using h)
        have hw:IntKind.i64.wrap ((k:Int)+1)=(k:Int)+1:=IntWalk.i64_in _ (by omega)
        have hsn:=seg_snoc l hik h2
        simp -dsimp [h2,Fact.cells,hw,maxLen]
        refine ⟨fun e=>by rw [hs,e];rfl,by omega,⟨k+1,false,2⟩,⟨by simp only;omega,by simp only;omega,by simp only;rw [eq_comm,decide_eq_false_iff_not];omega,rfl,fun m m1 m2 m3=>?_⟩,?_,by simp only;omega⟩
        · simp only at m2
          by_cases e:m=k
          · subst e;exact h'
          · exact ha m m1 (by omega) m3
        · simp [St.le,hsn,Per.cells]
      · have h':l[k].row≠l[i].row:=fun e=>by rw [hc0.2 e] at h;simp at h
        simp -dsimp
        have hik':i<k:=by
          rcases Nat.lt_or_eq_of_le hik with e | e
          · exact e
          · subst e;exact absurd rfl h'
        simp -dsimp [h1,Fact.cells]
        obtain rfl:z=false:=by rw [hz,decide_eq_false_iff_not];omega
        obtain rfl:s=2:=hs
        have hgr:=groups_at l hik' hk (fun j j1 j2 j3=>ha j j1 j2 j3) (fun _=>h')
        have hnrm:=(hN _ (List.getElem_mem h1)).1
        rw [hgr] at hg
        have hgk:=hF (l[i].row,seg l i k) (by rw [hg];simp) sz (catG G done) ?_ ?_
        · refine VCP.some [false,true,false] ?_
          simp -dsimp
          rw [hnrm]
          refine VLD.lend _ _ _ [] _ (oτ 1 2) [2] (lend_out (by decide) hgk ?_ ?_ ?_ ?_) ?_
          · simp [grpA,renSs,renS,oτ]
          · simp [St.rs,vlook]
          · simp [St.rs,vlook]
          · simp [grpA,keptP]
          simp -dsimp [outB,retS,renSs,oτ]
          refine ⟨⟨k,3,done++[(l[i].row,seg l i k)]⟩,⟨hk,by simp only;rw [List.append_assoc];exact hg,by simp only;rw [if_neg (by omega)]⟩,?_,by simp only;omega⟩
          simp only
          rw [catG_snoc]
          simp [St.le]
        · have:=hB
          rw [hg,← List.singleton_append,← List.append_assoc] at this
          unfold catG at this ⊢
          rw [List.flatMap_append,List.flatMap_append,List.length_append,List.length_append] at this
          simp at this ⊢
          omega
        · intro e
          rw [hsz,if_neg]
          rintro rfl
          rw [List.drop_zero,hg] at hgr
          have:=congrArg List.length hgr
          simp at this
          exact e (by rw [this];rfl)
    · have hik':i<k:=by omega
      have h':∀ h:k<l.length,l[k].row≠l[i].row:=fun h=>absurd h h2
      obtain rfl:k=l.length:=by omega
      simp -dsimp
      refine VL.draw (by kernel_rfl) [(0,false),(0,false),(2,false),(7,true),(15,true),(31,false),(31,false),(127,false),(255,false),(511,false),(31,false),(31,false),(3103,false),(7199,false),(15391,false),(32767,true),(65535,true),(131071,true)] (by kernel_rfl) ?_
      simp -dsimp [h1,Fact.cells]
      refine VG.mk [.c (i64 0)] _ (fun h=>Bool.noConfusion h) rfl ?_
      simp -dsimp [h1,Fact.cells]
      obtain rfl:z=false:=by rw [hz,decide_eq_false_iff_not];omega
      obtain rfl:s=2:=hs
      have hgr:=groups_at l hik' hk (fun j j1 j2 j3=>ha j j1 j2 j3) h'
      have hnrm:=(hN _ (List.getElem_mem h1)).1
      rw [hgr] at hg
      have hgk:=hF (l[i].row,seg l i l.length) (by rw [hg];simp) sz (catG G done) ?_ ?_
      · refine VCP.some [false,true,false] ?_
        simp -dsimp
        rw [hnrm]
        refine VLD.lend _ _ _ [] _ (oτ 1 2) [2] (lend_out (by decide) hgk ?_ ?_ ?_ ?_) ?_
        · simp [grpA,renSs,renS,oτ]
        · simp [St.rs,vlook]
        · simp [St.rs,vlook]
        · simp [grpA,keptP]
        simp -dsimp [outB,retS,renSs,oτ]
        refine ⟨⟨l.length,3,done++[(l[i].row,seg l i l.length)]⟩,⟨hk,by simp only;rw [List.append_assoc];exact hg,by simp only;rw [if_neg (by omega)]⟩,?_,by simp only;rw [Nat.sub_self];exact Nat.sub_pos_of_lt h1⟩
        simp only
        rw [catG_snoc]
        simp [St.le]
      · have:=hB
        rw [hg,← List.singleton_append,← List.append_assoc] at this
        unfold catG at this ⊢
        rw [List.flatMap_append,List.flatMap_append,List.length_append,List.length_append] at this
        simp at this ⊢
        omega
      · intro e
        rw [hsz,if_neg]
        rintro rfl
        rw [List.drop_zero,hg] at hgr
        have:=congrArg List.length hgr
        simp at this
        exact e (by rw [this];rfl)
  · obtain rfl:i=l.length:=by omega
    rw [List.drop_length,groupsL_nil,List.append_nil] at hg
    simp -dsimp
    rw [hg]
    simp [resEnd,outB,pinsEnd,hsz]
theorem stepsL_le {plus minus:List Per} {s:Per × Int} {B:Nat} (h:s∈stepsL plus minus) (hp:plus.length≤B):s.2≤B:=by
  unfold stepsL at h
  obtain ⟨i,_,rfl⟩:=List.mem_map.1 h
  have:cntP plus (edgesL (plus++minus))[i]! ≤ plus.length:=List.length_filter_le _ _
  simp only
  omega
set_option maxRecDepth 4000 in
set_option maxHeartbeats 16000000 in
theorem normal1_spec {sortP:List Per→List Per} (hs:Sorts sortP) (hi:SortsI) (x:List Val × List Per) (B:Nat) (hB:B≤3518437208883) (hr:x.1.length≤4398046511104) (hp:x.2.length≤3518437208883) :
    GrpOk 87 x (layersL sortP x.1 (stepsL x.2 [])) B:=by
  intro sz acc hacc hsz
  refine spec_ofB 3 Tryz.func87 rfl (by kernel_rfl) (by simp [Tryz.f87,grpA]) (by simp [outB]) rfl (fun w0 K0 uf=>vc_ok _ _ _ (by kernel_rfl) ?_)
  simp only [Tryz.f87]
  simp -dsimp [initB,initEnv,pinsOf,outB,grpA]
  refine VL.draw (by kernel_rfl) [(0,false),(0,false),(0,false),(4,false),(14,false),(31,true),(63,true)] (by kernel_rfl) ?_
  simp -dsimp
  have hst:=stepsL_len x.2 []
  have hel:=edgesL_bound (x.2++[])
  have hsn:∀ s∈stepsL x.2 [],s.2≤(4000000000000:Nat):=fun s hs=>stepsL_le hs (by omega)
  have hsp:=steps_spec hi false true x.2 [] (by simp) (by simp) hp (by simp)
  generalize stepsL x.2 []=st at *
  refine VCE.mk _ hsp ?_
  simp -dsimp
  have hls:=layers_spec hs x.1.isEmpty st.isEmpty x.1 st hr (by omega) hsn (by omega)
  refine VCE.mk _ hls ?_
  generalize layersL sortP x.1 st=L at *
  simp -dsimp
  refine ⟨hsz,by omega,?_⟩
  have e:(acc++L).isEmpty=(acc.isEmpty && L.isEmpty):=by cases acc <;> simp
  simp [resEnd,outB,pinsEnd,grpA,e]
end Go.Proofs.YtlphpbcafplnbaaGreat
namespace Go.Proofs.YtlphpbcafplnbaaGreat
open Go.Shelf Go.RowKit Go.Lib Go.VL
def Tryz.growF_ren:Go.Shelf.Ren:=⟨fun | 4=>110 | n=>n,fun | 22=>22 | 25=>40 | 3=>3 | 4=>4 | 9=>9 | 20=>20 | 0=>0 | n=>n,fun | n=>n⟩
theorem Tryz.growF:Go.Proofs.Lays8.n4 Tryz.prog Tryz.growF_ren:={ mixed:=by kernel_rfl,f4:=⟨Tryz.f110.name,by decide,Tryz.func110.trans (congrArg some (by kernel_rfl))⟩,t0:=Tryz.underlying0,a0:=Tryz.isAgg0,z0:=Tryz.sizeOf0,v0:=Tryz.zeroValue0,t3:=Tryz.underlying3,a3:=Tryz.isAgg3,z3:=Tryz.sizeOf3,v3:=Tryz.zeroValue3,t4:=Tryz.underlying4,a4:=Tryz.isAgg4,z4:=Tryz.sizeOf4,v4:=Tryz.zeroValue4,t9:=Tryz.underlying9,a9:=Tryz.isAgg9,z9:=Tryz.sizeOf9,v9:=Tryz.zeroValue9,t20:=Tryz.underlying20,a20:=Tryz.isAgg20,z20:=Tryz.sizeOf20,v20:=Tryz.zeroValue20,t22:=Tryz.underlying22,a22:=Tryz.isAgg22,z22:=Tryz.sizeOf22,v22:=Tryz.zeroValue22 }
theorem fact_info:Tryz.prog.info? 40=some Tryz.t40:=by kernel_rfl
theorem growF_spec (n:Nat) (hn:n≤3518437208883):Con Tryz.prog 110 [.c (.sl true []),.c (i64 n)] [.fr (decide (n=0)) (if n=0 then 0 else 3) [] 0]:=by
  refine Con.of (by kernel_rfl) fun w K us hK hd=>?_
  unfold DRs at hd
  rw [SRs] at hd
  obtain ⟨u,us',rfl,hu,hd⟩:=hd
  rw [SRs] at hd
  obtain ⟨u2,us'',rfl,hu2,hd⟩:=hd
  rw [SRs] at hd
  subst hd
  rw [SR] at hu hu2
  rw [CR] at hu
  replace hu2:CR K w (C.v (.int .i64 n)) u2:=hu2
  rw [CR] at hu2
  obtain ⟨rfl,_⟩:=hu2
  have hu':u = .slice none 0 0:=by
    rcases hu with ⟨_,_,h⟩ | ⟨h,_⟩
    · exact h
    · cases h
  subst hu'
  by_cases h0:n=0
  · subst h0
    have h:=Any8.slices_Grow_room Tryz.growF none 0 0 0 w (by omega) (by omega) (by omega) (by omega)
    change Calls Tryz.prog 110 _ _ _ at h
    refine h.mono ?_
    rintro e w' ⟨rfl,rfl⟩
    refine ⟨[.slice none 0 0],rfl,BelowD.refl _ _,K,fun _ _ h=>h,fun _ _ h _=>h,hK,rfl,fun k r v hr hv=>?_,fun j k r r' v v' hne hr hr' _ _ _ _=>?_⟩
    · match k with
      | 0 =>
        simp at hr hv
        subst hr hv
        rw [RtR,RR];exact .inl ⟨rfl,rfl,rfl,rfl⟩
      | k+1=>simp at hr
    · match j,k with
      | 0,0=>exact absurd rfl hne
      | j+1,_=>simp at hr
      | 0,k+1=>simp at hr'
  · have h:=Any8.slices_Grow_grow Tryz.growF Tryz.t40 _ fact_info rfl (by decide) none 0 0 n [] w (by omega) (by omega) (by rw [show Tryz.t40.bytes=40 from by kernel_rfl];omega) (by omega) (by simp) (fun _=>rfl) (fun a h=>by cases h)
    change Calls Tryz.prog 110 _ _ _ at h
    refine h.mono ?_
    rintro e w' ⟨rfl,rfl⟩
    refine ⟨[_],rfl,((BelowD.refl _ _).drew.alloc (Nat.le_refl _) _),K,fun _ _ h=>h,fun _ _ h _=>h,fun b o h=>?_,rfl,fun k r v hr hv=>?_,fun j k r r' v v' hne hr hr' _ _ _ _=>?_⟩
    · have:=hK b o h
      show b<(w.drew.heap.push _).size
      rw [Array.size_push]
      show b<w.heap.size+1
      omega
    · match k with
      | 0 =>
        simp at hr hv
        subst hr hv
        rw [RtR,RR]
        refine .inr ⟨by simp [h0],w.heap.size,_,_,_,rfl,Nat.le_refl _,by show (w.heap.push _)[w.heap.size]? = _;rw [Array.getElem?_push_size],Nat.zero_le _,?_,?_,Nat.zero_le _,?_,?_⟩
        · exact grownCap_le_maxLen w n 0 _ (by unfold maxLen;omega)
        · have hge:=grownCap_ge w n 0 (Tryz.growF_ren.t 25)
          rw [if_neg h0]
          simp only [Nat.zero_add,Nat.sub_zero,Array.size_append,Builtin.zeroCells,Array.size_map,Array.size_range,Array.size_empty]
          generalize grownCap w n 0 (Tryz.growF_ren.t 25)=g at *
          show n*3+(g-n)*3=g*3
          omega
        · intro j e he;simp at he
        · intro o
          constructor
          · intro h;have:=hK _ o h;omega
          · intro h;omega
      | k+1=>simp at hr
    · match j,k with
      | 0,0=>exact absurd rfl hne
      | j+1,_=>simp at hr
      | 0,k+1=>simp at hr'
def listV (x:Bool × List Fact):List C:=[.sl x.1 (facts x.2)]
def catF (ls:List (Bool × List Fact)):List Fact:=ls.flatMap Prod.snd
@[simp] theorem catF_nil:catF []=[]:=rfl
theorem catF_snoc (ls:List (Bool × List Fact)) {k:Nat} (h:k<ls.length):catF (ls.take (k+1))=catF (ls.take k)++ls[k].2:=by
  unfold catF;rw [take_snoc h,List.flatMap_append];simp
theorem catF_mono (ls:List (Bool × List Fact)) (k:Nat):(catF (ls.take k)).length≤(catF ls).length:=by
  conv=>rhs;rw [← List.take_append_drop k ls]
  unfold catF
  rw [List.flatMap_append,List.length_append]
  omega
set_option maxRecDepth 4000 in
set_option maxHeartbeats 8000000 in
theorem concat_spec (nl:Bool) (ls:List (Bool × List Fact)) (hl:ls.length≤2) (hR:(catF ls).length≤3518437208883) :
    Con Tryz.prog 86 [.c (.sl nl (ls.map listV))] [.c (.sl (catF ls).isEmpty (facts (catF ls)))]:=by
  refine Con.frz (rs:=[.fr (catF ls).isEmpty (if ls.length=0 then 0 else 3) (facts (catF ls)) 0]) ?_ 0 rfl
  refine spec_of Tryz.func86 rfl (by kernel_rfl) (by simp [Tryz.f86]) (fun w0 K0=>vc_ok _ _ _ (by kernel_rfl) ?_)
  simp only [Tryz.f86]
  simp -dsimp
  refine VL.loop (fun k:Nat=>⟨[(11,.c (i64 k)),(10,.c (i64 ls.length)),(9,.c (.sl nl (ls.map listV))),(3,.c (i64 (catF (ls.take k)).length)),(0,.c (.sl nl (ls.map listV)))],[]⟩)
    (fun k=>k≤ls.length) (fun k=>ls.length-k) 0 (by kernel_rfl) (by simp) (by simp [St.le]) ?_
  intro k hk
  have hlen:=catF_mono ls (k+1)
  have hk2:k=0∨k=1∨k=2:=by omega
  by_cases h1:k<ls.length
  · have hw:IntKind.i64.wrap ((k:Int)+1)=(k:Int)+1:=IntWalk.i64_in _ (by omega)
    have hsn:=catF_snoc ls h1
    have hsl:=congrArg List.length hsn
    rw [List.length_append] at hsl
    have hw2:IntKind.i64.wrap (((catF (ls.take k)).length:Int)+ls[k].2.length)=((catF (ls.take (k+1))).length:Int):=by rw [IntWalk.i64_in _ (by omega),hsn];simp
    have hn0:¬ ((catF (ls.take (k+1))).length:Int)<0:=by omega
    simp -dsimp [h1,hw,listV,hw2]
    refine VIf.mk (fun h=>absurd (of_decide_eq_true h) hn0) (fun h=>?_)
    simp -dsimp [hw]
    refine ⟨k+1,by omega,?_,by omega⟩
    simp [St.le]
  · obtain rfl:k=ls.length:=by omega
    rw [List.take_length] at *
    simp -dsimp
    refine VC.mk _ (growF_spec (catF ls).length hR) ?_
    simp -dsimp
    refine VL.loop (fun i:KI=>⟨[(27,.c (i64 i.k)),(26,.c (i64 ls.length)),(25,.c (.sl nl (ls.map listV))),(6,.own 1536 (catF (ls.take i.k)).length)],[(1536,some (.arr i.nl i.sz (facts (catF (ls.take i.k))) 0))]⟩)
      (fun i=>i.k≤ls.length∧i.nl=(catF ls).isEmpty∧i.sz=if i.k=0 then (if (catF ls).length=0 then 0 else 3) else 3) (fun i=>ls.length-i.k) ⟨0,(catF ls).isEmpty,if (catF ls).length=0 then 0 else 3⟩ (by kernel_rfl) ⟨by simp,rfl,rfl⟩ ?_ ?_
    · simp [St.le]
      cases catF ls <;> simp
    intro ⟨k,z,sz⟩ ⟨hk',hz,hsz⟩
    simp only at hk' hz hsz
    have hlen:=catF_mono ls (k+1)
    by_cases h1:k<ls.length
    · have hw:IntKind.i64.wrap ((k:Int)+1)=(k:Int)+1:=IntWalk.i64_in _ (by omega)
      have hsn:=catF_snoc ls h1
      have hsl:=congrArg List.length hsn
      rw [List.length_append] at hsl
      simp -dsimp [h1,hw,listV,maxLen]
      refine ⟨fun e=>?_,by omega,⟨k+1,z && ls[k].2.isEmpty,3⟩,⟨by simp only;omega,?_,by simp⟩,?_,by simp only;omega⟩
      · rw [hsz]
        split
        · rw [if_neg]
          intro e2
          rw [e,eq_comm,List.isEmpty_eq_false_iff] at hz
          exact hz (List.length_eq_zero_iff.1 e2)
        · rfl
      · simp only
        rw [hz]
        cases he:(catF ls).isEmpty with
        | false=>rfl
        | true =>
          rw [List.isEmpty_iff] at he
          unfold catF at he
          rw [List.flatMap_eq_nil_iff] at he
          rw [he _ (List.getElem_mem h1)];rfl
      · simp [St.le,hsn]
    · obtain rfl:k=ls.length:=by omega
      rw [List.take_length] at *
      simp -dsimp
      refine ⟨hz,?_⟩
      rw [hsz]
      cases ls <;> simp
end Go.Proofs.YtlphpbcafplnbaaGreat
