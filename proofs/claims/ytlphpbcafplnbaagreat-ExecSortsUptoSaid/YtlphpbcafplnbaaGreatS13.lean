/- Contracts of functions of the seat, proved in a logic on data over the model (part S13). -/
import Derived.Test.YtlphpbcafplnbaaGreatQS
import Derived.Test.YtlphpbcafplnbaaGreatE3
import Derived.Test.YtlphpbcafplnbaaGreatQ7
import Derived.Test.YtlphpbcafplnbaaGreatD2
import Derived.Test.YtlphpbcafplnbaaGreatVN17
set_option linter.unusedSimpArgs false
set_option linter.unusedVariables false
namespace Go.Proofs.YtlphpbcafplnbaaGreat
open Go.VL Go.RowKit
set_option maxRecDepth 4000 in
set_option maxHeartbeats 4000000 in
theorem refHas_spec (p:Per) (t:Int):Con Tryz.prog 64 [.agg p.cells,.c (i64 t)] [.c (bln (has p t))]:=by
  refine spec_of Tryz.func64 rfl (by kernel_rfl) (by simp [Tryz.f64]) (fun w0 K0=>vc_ok _ _ _ (by kernel_rfl) ?_)
  simp only [Tryz.f64]
  simp -dsimp [Per.cells]
  rfl
set_option maxRecDepth 4000 in
set_option maxHeartbeats 16000000 in
theorem refEdges_spec (nl:Bool) (l:List Per) (hl:l.length≤8796093022207) :
    Con Tryz.prog 106 [.c (.sl nl (l.map Per.cells))] [.fr (edgesL l).isEmpty (ez (edgesL l)) (ints (edgesL l)) 0]:=by
  refine spec_of Tryz.func106 rfl (by kernel_rfl) (by simp [Tryz.f106]) (fun w0 K0=>vc_ok _ _ _ (by kernel_rfl) ?_)
  simp only [Tryz.f106]
  simp -dsimp
  have hnext:=fun k hk=>nextL_edge l (k:=k) hk
  have hel:=edgesL_len l
  have hpos0:∀ t∈edgesL l,0≤t:=fun t ht=>endsOf_pos l (((edgesL_ok l).2 t).1 ht)
  generalize edgesL l=E at *
  refine VL.loop (fun i:LI=>⟨[(3,.own 192 (E.take i.k).length),(0,.c (.sl nl (l.map Per.cells)))],[(192,some (.arr i.nl i.sz (ints (E.take i.k)) 0))]⟩)
    (fun i=>i.k≤E.length∧i.nl=(E.take i.k).isEmpty∧i.sz=ez (E.take i.k)) (fun i=>E.length-i.k) ⟨0,true,0⟩ (by kernel_rfl) (by simp [ez]) (by simp [St.le]) ?_
  intro ⟨k,nl',sz⟩ ⟨hk,hnl,hsz⟩
  simp only at hk hnl hsz
  have hnx:=hnext k hk
  have hsn:=fun h:k<E.length=>take_snoc (l:=E) (k:=k) h
  have hol:(E.take k).length=k:=by rw [List.length_take];omega
  generalize ho:E.take k=out at *
  simp -dsimp
  refine VL.loop (fun i:Nat=>⟨[(5,.c (i64 i)),(4,.c (i64 (nextL out (endsOf (l.take i))))),(3,.own 192 out.length),(0,.c (.sl nl (l.map Per.cells)))],[(192,some (.arr nl' sz (ints out) 0))]⟩)
    (fun i=>i≤l.length) (fun i=>l.length-i) 0 (by kernel_rfl) (by simp) (by simp [St.le,nextL,endsOf]) ?_
  intro i hi
  by_cases hlt:i<l.length
  · have hw:IntKind.i64.wrap ((i:Int)+1)=(i:Int)+1:=IntWalk.i64_in _ (by omega)
    have hes:=endsOf_snoc l hlt
    simp -dsimp [hlt,Per.cells]
    refine VC.mk _ (refRight_at _ l[i] rfl) ?_
    simp -dsimp
    refine VIf.mk (fun h2=>?_) (fun h2=>?_)
    · have hr:right l[i]=false:=by simpa using h2
      rw [hr,if_neg (by simp),List.append_nil] at hes
      simp -dsimp [hw]
      refine ⟨i+1,by omega,?_,by omega⟩
      simp [St.le,hes]
    · have hr:right l[i]=true:=by simpa using h2
      rw [hr,if_pos rfl] at hes
      simp -dsimp [hlt,Per.cells]
      refine VL.draw (by kernel_rfl) [(0,false),(0,false),(3,false),(7,false),(15,false),(0,false),(0,false),(96,false),(224,false),(480,false),(1023,false),(0,false)] (by kernel_rfl) ?_
      simp -dsimp [hlt,Per.cells]
      refine VL.loop (fun j:Nat=>⟨[(32,.c (i64 j)),(31,.agg [i64 l[i].f,i64 l[i].t]),(5,.c (i64 i)),(4,.c (i64 (nextL out (endsOf (l.take i)++two l[i] j)))),(3,.own 192 out.length),(0,.c (.sl nl (l.map Per.cells)))],[(192,some (.arr nl' sz (ints out) 0))]⟩)
        (fun j=>j≤2) (fun j=>2-j) 0 (by kernel_rfl) (by simp) (by simp [St.le,two]) ?_
      intro j hj
      have hws:IntKind.i64.wrap ((out.length:Int)-1)=(out.length:Int)-1:=IntWalk.i64_in _ (by omega)
      have h012:j=0∨j=1∨j=2:=by omega
      rcases h012 with rfl | rfl | rfl
      · have hn2:nextL out (endsOf (l.take i)++two l[i] 1)=nextS out (nextL out (endsOf (l.take i)++two l[i] 0)) l[i].f:=by
          rw [← nextL_snoc];simp [two]
        generalize nextL out (endsOf (l.take i)++two l[i] 0)=n at *
        simp -dsimp
        match out,hnl,hn2,hol,hsz,hnext,ho,hnx,hws with
        | [],hnl,hn2,hol,_,_,_,_,_ =>
          simp -dsimp [defC]
          refine VIf.mk (fun h=>?_) (fun h=>?_)
          · refine ⟨1,by omega,?_,by omega⟩
            have e:nextS [] n l[i].f=l[i].f:=by
              unfold nextS
              rw [if_pos]
              simp [laterB] at h ⊢;omega
            simp [St.le,hn2,e]
          · refine ⟨1,by omega,?_,by omega⟩
            have e:nextS [] n l[i].f=n:=by
              unfold nextS
              rw [if_neg]
              simp [laterB] at h ⊢;omega
            simp [St.le,hn2,e]
        | x::r,hnl,hn2,hol,hsz,_,_,_,hws =>
          generalize hout:x::r=out at *
          have hne:0<out.length:=by rw [← hout];simp
          have hT:IntKind.i64.wrap ((out.length:Int)-1)=((out.length-1:Nat):Int):=by rw [hws];omega
          have hl1:out.length-1<out.length:=by omega
          have hg:(ints out)[out.length-1]?.getD []=[i64 out[out.length-1]]:=ints_get _ _ hl1
          have hlast:out[out.length-1]! = out[out.length-1]:=getElem!_pos out _ hl1
          have hn0:((out.length:Int) == 0)=false:=by simp;intro e;rw [e] at hne;simp at hne
          have hnl2:nl'=false:=by rw [hnl,← hout];rfl
          have hsz2:sz=1:=by rw [hsz,← hout];rfl
          subst hnl2 hsz2
          have hd:nextS out n l[i].f=if laterB out l[i].f=true∧(n<0∨l[i].f<n) then l[i].f else n:=by
            unfold nextS;simp
          have hlb:laterB out l[i].f=decide (out[out.length-1] < l[i].f):=by
            unfold laterB;rw [hlast];simp;intro e;rw [e] at hne;simp at hne
          simp -dsimp [hn0,hT,hl1]
          refine ⟨fun a=>⟨a,fun b=>⟨a,b⟩⟩,VIf.mk (fun h=>?_) (fun h=>?_)⟩
          · refine ⟨1,by omega,?_,by omega⟩
            have e:nextS out n l[i].f=l[i].f:=by
              rw [hd,if_pos]
              rw [hlb]
              simp at h ⊢;omega
            simp [St.le,hn2,e]
          · refine ⟨1,by omega,?_,by omega⟩
            have e:nextS out n l[i].f=n:=by
              rw [hd,if_neg]
              rw [hlb]
              simp at h ⊢;omega
            simp [St.le,hn2,e]
      · have hn2:nextL out (endsOf (l.take i)++two l[i] 2)=nextS out (nextL out (endsOf (l.take i)++two l[i] 1)) l[i].t:=by
          rw [← nextL_snoc];simp [two]
        generalize nextL out (endsOf (l.take i)++two l[i] 1)=n at *
        simp -dsimp
        match out,hnl,hn2,hol,hsz,hnext,ho,hnx,hws with
        | [],hnl,hn2,hol,_,_,_,_,_ =>
          simp -dsimp [defC]
          refine VIf.mk (fun h=>?_) (fun h=>?_)
          · refine ⟨2,by omega,?_,by omega⟩
            have e:nextS [] n l[i].t=l[i].t:=by
              unfold nextS
              rw [if_pos]
              simp [laterB] at h ⊢;omega
            simp [St.le,hn2,e]
          · refine ⟨2,by omega,?_,by omega⟩
            have e:nextS [] n l[i].t=n:=by
              unfold nextS
              rw [if_neg]
              simp [laterB] at h ⊢;omega
            simp [St.le,hn2,e]
        | x::r,hnl,hn2,hol,hsz,_,_,_,hws =>
          generalize hout:x::r=out at *
          have hne:0<out.length:=by rw [← hout];simp
          have hT:IntKind.i64.wrap ((out.length:Int)-1)=((out.length-1:Nat):Int):=by rw [hws];omega
          have hl1:out.length-1<out.length:=by omega
          have hg:(ints out)[out.length-1]?.getD []=[i64 out[out.length-1]]:=ints_get _ _ hl1
          have hlast:out[out.length-1]! = out[out.length-1]:=getElem!_pos out _ hl1
          have hn0:((out.length:Int) == 0)=false:=by simp;intro e;rw [e] at hne;simp at hne
          have hnl2:nl'=false:=by rw [hnl,← hout];rfl
          have hsz2:sz=1:=by rw [hsz,← hout];rfl
          subst hnl2 hsz2
          have hd:nextS out n l[i].t=if laterB out l[i].t=true∧(n<0∨l[i].t<n) then l[i].t else n:=by
            unfold nextS;simp
          have hlb:laterB out l[i].t=decide (out[out.length-1] < l[i].t):=by
            unfold laterB;rw [hlast];simp;intro e;rw [e] at hne;simp at hne
          simp -dsimp [hn0,hT,hl1]
          refine ⟨fun a=>⟨a,fun b=>⟨a,b⟩⟩,VIf.mk (fun h=>?_) (fun h=>?_)⟩
          · refine ⟨2,by omega,?_,by omega⟩
            have e:nextS out n l[i].t=l[i].t:=by
              rw [hd,if_pos]
              rw [hlb]
              simp at h ⊢;omega
            simp [St.le,hn2,e]
          · refine ⟨2,by omega,?_,by omega⟩
            have e:nextS out n l[i].t=n:=by
              rw [hd,if_neg]
              rw [hlb]
              simp at h ⊢;omega
            simp [St.le,hn2,e]
      · have hn2:nextL out (endsOf (l.take i)++two l[i] 2)=nextL out (endsOf (l.take (i+1))):=by rw [hes];rfl
        simp -dsimp [hw]
        refine ⟨i+1,by omega,?_,by omega⟩
        simp [St.le,hn2]
  · obtain rfl:i=l.length:=by omega
    rw [List.take_length,hnx]
    simp -dsimp
    by_cases hkl:k<E.length
    · have hpos:0≤E[k]:=hpos0 _ (List.getElem_mem hkl)
      rw [dif_pos hkl]
      have hsn:=hsn hkl
      have hd:decide (E[k] < 0)=false:=by simp;omega
      simp -dsimp [hd,maxLen]
      refine ⟨fun e=>by rw [hsz];rw [hnl] at e;simp [ez,e],by omega,⟨k+1,false,1⟩,⟨hkl,?_,?_⟩,?_,by simp;omega⟩
      · rw [hsn];simp
      · rw [hsn];simp [ez]
      · simp [St.le,hsn,ints]
        omega
    · rw [dif_neg hkl]
      obtain rfl:k=E.length:=by omega
      rw [List.take_length] at ho
      subst ho
      simp -dsimp
      exact ⟨hnl,hsz⟩
set_option maxRecDepth 4000 in
set_option maxHeartbeats 8000000 in
theorem copy_spec (nl:Bool) (l:List Val) (hl:l.length≤4398046511104):Con Tryz.prog 49 [.c (.sl nl (vals l))] [.fr false 3 (vals l) 0]:=by
  refine spec_of Tryz.func49 rfl (by kernel_rfl) (by simp [Tryz.f49]) (fun w0 K0=>vc_ok _ _ _ (by kernel_rfl) ?_)
  simp only [Tryz.f49]
  simp -dsimp [maxLen]
  omega
theorem copy_frz (nl:Bool) (l:List Val) (hl:l.length≤4398046511104):Con Tryz.prog 49 [.c (.sl nl (vals l))] [.c (.sl false (vals l))]:=Con.frz (copy_spec nl l hl) 0 rfl
set_option maxRecDepth 4000 in
set_option maxHeartbeats 16000000 in
theorem with_spec (nl nr:Bool) (rs:List (List Val)) (r:List Val) (hl:rs.length≤1000000000) (hr:r.length≤4398046511104) :
    Con Tryz.prog 100 [.c (.sl nl (rowsC rs)),.c (.sl nr (vals r))] [.fr false 1 (rowsC (insR r rs)) 0]:=by
  refine spec_of Tryz.func100 rfl (by kernel_rfl) (by simp [Tryz.f100]) (fun w0 K0=>vc_ok _ _ _ (by kernel_rfl) ?_)
  simp only [Tryz.f100]
  simp -dsimp
  refine VL.loop (fun i:KI=>⟨[(7,.c (i64 i.k)),(6,.c (bln ((rs.take i.k).any (before r)))),(5,.own 320 (insK r rs i.k).length),(0,.c (.sl nl (rowsC rs))),(1,.c (.sl nr (vals r)))],[(320,some (.arr i.nl i.sz (rowsC (insK r rs i.k)) 0))]⟩)
    (fun i=>i.k≤rs.length∧RI i (insK r rs i.k)) (fun i=>rs.length-i.k) ⟨0,true,0⟩ (by kernel_rfl) ⟨by simp,rfl,rfl⟩ (by simp [St.le,insK,rowsC]) ?_
  intro ⟨k,z,sz⟩ ⟨hk,hz,hsz⟩
  simp only at hk hz hsz
  have hkl:=insK_len r rs k
  by_cases h1:k<rs.length
  · have hw:IntKind.i64.wrap ((k:Int)+1)=(k:Int)+1:=IntWalk.i64_in _ (by omega)
    simp -dsimp [h1]
    by_cases hd:(rs.take k).any (before r)=true
    · obtain ⟨e1,e2⟩:=insK_done h1 hd
      rw [hd]
      simp -dsimp [h1]
      refine VG.mk [.c (i64 0)] _ (fun h=>Bool.noConfusion h) rfl ?_
      simp -dsimp [h1,hw,maxLen]
      refine ⟨fun e=>by rw [hsz,e];rfl,by omega,⟨k+1,false,1⟩,⟨by simp only;omega,?_⟩,?_,by simp only;omega⟩
      · rw [e2];exact RI.next
      · simp only [e1,e2,rowsC_snoc,List.length_append]
        simp [St.le]
    · have hd':(rs.take k).any (before r)=false:=by simpa using hd
      rw [hd']
      simp -dsimp [h1]
      refine VG.mk [.c (i64 (cmpR r rs[k]))] _ (fun _=>refCompare_spec _ _ r rs[k] (by omega)) rfl ?_
      simp -dsimp
      refine VIf.mk (fun h=>?_) (fun h=>?_)
      · obtain ⟨e1,e2⟩:=insK_now h1 hd' h
        simp -dsimp
        refine VC.mk _ (copy_frz nr r hr) ?_
        simp -dsimp [h1,hw,maxLen]
        refine ⟨fun e=>by rw [hsz,e];rfl,by omega,by omega,⟨k+1,false,1⟩,⟨by simp only;omega,?_⟩,?_,by simp only;omega⟩
        · rw [e2];exact RI.next
        · simp only [e1,e2,rowsC_snoc,List.length_append]
          simp [St.le]
      · obtain ⟨e1,e2⟩:=insK_not h1 hd' h
        simp -dsimp [h1,hw,maxLen]
        refine ⟨fun e=>by rw [hsz,e];rfl,by omega,⟨k+1,false,1⟩,⟨by simp only;omega,?_⟩,?_,by simp only;omega⟩
        · rw [e2];exact RI.next
        · simp only [e1,e2,rowsC_snoc,List.length_append]
          simp [St.le]
  · obtain rfl:k=rs.length:=by omega
    simp -dsimp
    have e3:insK r rs rs.length=if rs.any (before r) then insR r rs else rs:=by unfold insK;rw [List.take_length]
    refine VIf.mk (fun h=>?_) (fun h=>?_)
    · have h':rs.any (before r)=false:=by simpa using h
      have e4:insR r rs=rs++[r]:=by have:=insR_no r rs [] h';rw [List.append_nil] at this;rw [this];rfl
      rw [h',if_neg (by simp)] at e3
      rw [e3] at hz ⊢
      simp -dsimp
      refine VC.mk _ (copy_frz nr r hr) ?_
      simp -dsimp [maxLen]
      rw [e4,rowsC_snoc]
      exact ⟨fun e=>by rw [hsz,e];rfl,by omega,rfl,by simp⟩
    · have h':rs.any (before r)=true:=by simpa using h
      rw [h',if_pos rfl] at e3
      rw [e3] at hz ⊢
      simp -dsimp
      have hne:(insR r rs).isEmpty=false:=by
        have:=insR_len r rs
        cases hx:insR r rs with
        | nil=>rw [hx] at this;simp at this
        | cons=>rfl
      rw [hne] at hz
      exact ⟨hz,by rw [hsz,hz];rfl⟩
theorem with_frz (nl nr:Bool) (rs:List (List Val)) (r:List Val) (hl:rs.length≤1000000000) (hr:r.length≤4398046511104) :
    Con Tryz.prog 100 [.c (.sl nl (rowsC rs)),.c (.sl nr (vals r))] [.c (.sl false (rowsC (insR r rs)))]:=Con.frz (with_spec nl nr rs r hl hr) 0 rfl
theorem refHas_at (cs:List C) (p:Per) (t:Int) (h:cs=p.cells):Con Tryz.prog 64 [.agg cs,.c (i64 t)] [.c (bln (has p t))]:=by rw [h];exact refHas_spec p t
set_option maxRecDepth 4000 in
set_option maxHeartbeats 16000000 in
theorem rows_spec (nl:Bool) (l:List Fact) (t:Int) (hl:l.length≤1000000000) (hr:Rows1 l) :
    Con Tryz.prog 65 [.c (.sl nl (facts l)),.c (i64 t)] [.c (.sl (rowsAt l t).isEmpty (rowsC (rowsAt l t)))]:=by
  refine spec_of Tryz.func65 rfl (by kernel_rfl) (by simp [Tryz.f65]) (fun w0 K0=>vc_ok _ _ _ (by kernel_rfl) ?_)
  simp only [Tryz.f65]
  simp -dsimp
  refine VL.snap 5 ?_
  simp -dsimp
  refine VL.loop (fun k:Nat=>⟨[(6,.c (i64 k)),(5,.c (.sl (rowsAt (l.take k) t).isEmpty (rowsC (rowsAt (l.take k) t)))),(0,.c (.sl nl (facts l))),(1,.c (i64 t))],[]⟩)
    (fun k=>k≤l.length) (fun k=>l.length-k) 0 (by kernel_rfl) (by simp) (by simp [St.le,rowsAt,rowsC]) ?_
  intro k hk
  have hkl:=rowsAt_len (l.take k) t
  rw [List.length_take] at hkl
  by_cases h1:k<l.length
  · have hw:IntKind.i64.wrap ((k:Int)+1)=(k:Int)+1:=IntWalk.i64_in _ (by omega)
    have hsn:=rowsAt_snoc l t h1
    simp -dsimp [h1,Fact.cells]
    refine VC.mk _ (refRight_at _ l[k].p rfl) ?_
    simp -dsimp [h1,Fact.cells]
    refine VG.mk [.c (bln (has l[k].p t))] _ (fun _=>refHas_at _ l[k].p t rfl) rfl ?_
    simp -dsimp
    refine VIf.mk (fun h=>?_) (fun h=>?_)
    · rw [show validAt l[k] t=true from h,if_pos rfl] at hsn
      simp -dsimp [h1,Fact.cells]
      refine VC.mk _ (with_frz (rowsAt (l.take k) t).isEmpty l[k].nl (rowsAt (l.take k) t) l[k].row (by omega) (Nat.le_trans (hr _ (List.getElem_mem h1)) (by decide))) ?_
      have hne:(insR l[k].row (rowsAt (l.take k) t)).isEmpty=false:=insR_ne _ _
      simp -dsimp [hw]
      refine ⟨k+1,by omega,?_,by omega⟩
      simp [St.le,hsn,hne]
    · rw [show validAt l[k] t=false from h,if_neg (by simp)] at hsn
      simp -dsimp [hw]
      refine ⟨k+1,by omega,?_,by omega⟩
      simp [St.le,hsn]
  · obtain rfl:k=l.length:=by omega
    rw [List.take_length]
    simp -dsimp
def atT (l:List Fact) (t:Int):List (List Val):=(l.filter fun f=>validAt f t).map Fact.row
theorem cnt_at (l:List Fact) (r:List Val) (t:Int):cnt l r t=(atT l t).count r:=by
  unfold cnt atT
  rw [List.count_eq_countP,List.countP_map,List.countP_eq_length_filter,List.filter_filter]
  congr 1
  refine List.filter_congr fun f _=>?_
  rw [Bool.eq_iff_iff]
  simp
theorem fm_congr {α β:Type} {f g:α→List β} : ∀ {l:List α},(∀ x∈l,f x=g x)→l.flatMap f=l.flatMap g
  | [],_=>rfl
  | x::l,h=>by rw [List.flatMap_cons,List.flatMap_cons,h x (by simp),fm_congr fun y hy=>h y (by simp [hy])]
def rowW (fl:List Val→Bool) (r:List Val):List C:=[.sl (fl r) (vals r)]
def rowsW (fl:List Val→Bool) (rs:List (List Val)):List (List C):=rs.map (rowW fl)
@[simp] theorem rowsW_len (fl:List Val→Bool) (rs:List (List Val)):(rowsW fl rs).length=rs.length:=by simp [rowsW]
@[simp] theorem rowsW_get (fl:List Val→Bool) (rs:List (List Val)) (k:Nat) (h:k<(rowsW fl rs).length):(rowsW fl rs)[k]=[.sl (fl (rs[k]'(by simpa using h))) (vals (rs[k]'(by simpa using h)))]:=by simp [rowsW,rowW]
theorem rowsW_snoc (fl:List Val→Bool) (rs:List (List Val)) (r:List Val):rowsW fl (rs++[r])=rowsW fl rs++[[.sl (fl r) (vals r)]]:=by simp [rowsW,rowW]
theorem refEdges_frz (nl:Bool) (l:List Per) (hl:l.length≤8796093022207) :
    Con Tryz.prog 106 [.c (.sl nl (l.map Per.cells))] [.c (.sl (edgesL l).isEmpty (ints (edgesL l)))]:=Con.frz (refEdges_spec nl l hl) 0 rfl
set_option maxRecDepth 4000 in
set_option maxHeartbeats 16000000 in
theorem edges13_spec (nl:Bool) (l:List Fact) (hl:l.length≤1000000000) :
    Con Tryz.prog 82 [.c (.sl nl (facts l))] [.c (.sl (edgesL (pers l)).isEmpty (ints (edgesL (pers l))))]:=by
  refine spec_of Tryz.func82 rfl (by kernel_rfl) (by simp [Tryz.f82]) (fun w0 K0=>vc_ok _ _ _ (by kernel_rfl) ?_)
  simp only [Tryz.f82]
  simp -dsimp
  refine VL.loop (fun i:KI=>⟨[(4,.c (i64 i.k)),(3,.own 192 i.k),(0,.c (.sl nl (facts l)))],[(192,some (.arr i.nl i.sz ((l.take i.k).map fun f=>f.p.cells) 0))]⟩)
    (fun i=>i.k≤l.length∧i.nl=(l.take i.k).isEmpty∧i.sz=if i.nl then 0 else 2) (fun i=>l.length-i.k) ⟨0,true,0⟩ (by kernel_rfl) ⟨by simp,rfl,rfl⟩ (by simp [St.le]) ?_
  intro ⟨k,z,sz⟩ ⟨hk,hz,hsz⟩
  simp only at hk hz hsz
  have hmin:min k l.length=k:=by omega
  by_cases h1:k<l.length
  · have hw:IntKind.i64.wrap ((k:Int)+1)=(k:Int)+1:=IntWalk.i64_in _ (by omega)
    simp -dsimp [h1,Fact.cells,hw,hmin,maxLen]
    have htk:List.take (k+1) (List.map (fun f:Fact=>f.p.cells) l)=List.take k (List.map (fun f:Fact=>f.p.cells) l)++[l[k].p.cells]:=by
      have:=congrArg (List.map fun f:Fact=>f.p.cells) (take_snoc h1);rw [List.map_append,List.map_take,List.map_take] at this;exact this
    have hne:(l.take (k+1)).isEmpty=false:=by rw [take_snoc h1];cases l.take k <;> rfl
    refine ⟨fun e=>by rw [hsz,e];rfl,by omega,⟨k+1,false,2⟩,⟨by simp only;omega,hne.symm,rfl⟩,?_,by simp only;omega⟩
    simp only [Per.cells] at htk
    simp [St.le,htk,Per.cells]
  · obtain rfl:k=l.length:=by omega
    simp -dsimp
    refine VCL.snap ?_
    simp -dsimp
    have he:=refEdges_frz z (pers l) (by simp;omega)
    rw [show (pers l).map Per.cells=l.map (fun f:Fact=>f.p.cells) from List.map_map ..] at he
    refine VC.mk _ he ?_
    simp -dsimp
set_option maxRecDepth 4000 in
set_option maxHeartbeats 16000000 in
theorem cells_spec0 (nl:Bool) (l:List Fact) (hl:l.length≤1000000000) (hr:Rows1 l) :
    Con Tryz.prog 52 [.c (.sl nl (facts l))] [.fr (decide ((edgesL (pers l)).length≤1)) (if (edgesL (pers l)).length≤1 then 0 else 3) (cellsC l (edgesL (pers l)) ((edgesL (pers l)).length-1)) 0]:=by
  refine spec_of Tryz.func52 rfl (by kernel_rfl) (by simp [Tryz.f52]) (fun w0 K0=>vc_ok _ _ _ (by kernel_rfl) ?_)
  simp only [Tryz.f52]
  simp -dsimp
  refine VC.mk _ (edges13_spec nl l hl) ?_
  have hE:=edgesL_len (pers l)
  rw [List.length_map] at hE
  generalize edgesL (pers l)=E at hE ⊢
  simp -dsimp
  refine VL.loop (fun i:KI=>⟨[(5,.c (i64 i.k)),(4,.own 256 i.k),(3,.c (.sl E.isEmpty (ints E))),(0,.c (.sl nl (facts l)))],[(256,some (.arr i.nl i.sz (cellsC l E i.k) 0))]⟩)
    (fun i=>i.k≤E.length-1∧i.nl=decide (i.k=0)∧i.sz=if i.nl then 0 else 3) (fun i=>E.length-i.k) ⟨0,true,0⟩ (by kernel_rfl) ⟨by simp,rfl,rfl⟩ (by simp [St.le,cellsC]) ?_
  intro ⟨k,z,sz⟩ ⟨hk,hz,hsz⟩
  simp only at hk hz hsz
  have hw:IntKind.i64.wrap ((k:Int)+1)=(k:Int)+1:=IntWalk.i64_in _ (by omega)
  by_cases h1:k+1<E.length
  · have h0:k<E.length:=by omega
    have hlt:((k:Int)+1<(E.length:Int))=True:=by simp;omega
    simp -dsimp [hw,hlt,h0,h1]
    refine VL.draw (by kernel_rfl) [(0,false),(0,false),(0,false),(6,false),(14,false),(0,false),(0,false),(64,false),(224,false),(480,false),(0,false),(0,false),(0,false),(6144,false),(14336,false),(31744,false),(65534,false),(131070,false),(262143,true),(524287,true)] (by kernel_rfl) ?_
    simp -dsimp [hw,hlt,h0,h1]
    refine ⟨by omega,VCE.mk _ (rows_spec nl l E[k] hl hr) ?_⟩
    simp -dsimp [hw,maxLen]
    refine ⟨fun e=>by rw [hsz,e];rfl,by omega,⟨k+1,false,3⟩,⟨by simp only;omega,by simp,rfl⟩,?_,by simp only;omega⟩
    have g1:=ge_pos E k h0
    have g2:=ge_pos E (k+1) h1
    simp [St.le,cellsC_snoc,cellC,g1,g2]
  · have hlt:((k:Int)+1<(E.length:Int))=False:=by simp;omega
    simp -dsimp [hw,hlt]
    obtain e:k=E.length-1:=by omega
    refine ⟨⟨?_,?_,by rw [e]⟩,e.symm⟩
    · rw [hz];exact decide_eq_decide.2 (by omega)
    · rw [hsz,hz]
      by_cases h:E.length≤1
      · rw [if_pos h,if_pos (by simp;omega)]
      · rw [if_neg h,if_neg (by simp;omega)]
theorem cells_spec (nl:Bool) (l:List Fact) (hl:l.length≤1000000000) (hr:Rows1 l) :
    Con Tryz.prog 52 [.c (.sl nl (facts l))] [.c (.sl (decide ((edgesL (pers l)).length≤1)) (cellsC l (edgesL (pers l)) ((edgesL (pers l)).length-1)))] :=
  (cells_spec0 nl l hl hr).frz 0 rfl
theorem cmpR_one (a b:Val):cmpR [a] [b]=cmpV a b:=by
  show (if cmpV a b=0 then cmpR [] [] else cmpV a b)=cmpV a b
  split
  · rename_i h;rw [h];rfl
  · rfl
set_option maxRecDepth 4000 in
set_option maxHeartbeats 8000000 in
theorem column18_spec (f g:Fact) (c:Int) (hl:f.row.length≤140737488355328) (hm:g.row.length≤140737488355328):Con Tryz.prog 96 [.agg f.cells,.agg g.cells,.c (i64 c)] [.c (i64 (colC c f g))]:=by
  refine spec_of Tryz.func96 rfl (by kernel_rfl) (by simp [Tryz.f96]) (fun w0 K0=>vc_ok _ _ _ (by kernel_rfl) ?_)
  simp only [Tryz.f96]
  by_cases hc:c<0
  · rw [colC_neg hc]
    have hc':decide (c<0)=true:=decide_eq_true hc
    simp -dsimp [Fact.cells,hc']
    refine VIf.mk (fun h=>?_) (fun h=>?_)
    · have h':f.p.f<g.p.f:=by simpa using h
      simp -dsimp
      unfold cmpI;rw [if_pos h']
    · have h':¬ f.p.f<g.p.f:=by simpa using h
      simp -dsimp
      refine VIf.mk (fun h2=>?_) (fun h2=>?_)
      · have h2':g.p.f<f.p.f:=by simpa using h2
        simp -dsimp
        unfold cmpI;rw [if_neg h',if_pos h2']
      · have h2':¬ g.p.f<f.p.f:=by simpa using h2
        simp -dsimp
        unfold cmpI;rw [if_neg h',if_neg h2']
  · obtain ⟨n,rfl⟩:=Int.eq_ofNat_of_zero_le (by omega:0≤c)
    rw [colC_nat]
    have hc':decide ((n:Int)<0)=false:=by simp
    by_cases hf:n<f.row.length
    · have hf':decide (f.row.length≤n)=false:=decide_eq_false (by omega)
      by_cases hg:n<g.row.length
      · have hg':decide (g.row.length≤n)=false:=decide_eq_false (by omega)
        rw [cut_one hf,cut_one hg,cmpR_one]
        simp -dsimp [Fact.cells,hc',hf',hg',hf,hg]
        refine VL.draw (by kernel_rfl) [(0,false),(1,false),(0,false),(7,false),(15,false),(0,false),(32,false),(0,false),(224,false),(480,false),(1023,true),(2047,true)] (by kernel_rfl) ?_
        simp -dsimp [hf,hg]
        refine VC.mk _ (refOne_at _ _ f.row[n] g.row[n] rfl rfl) ?_
        simp -dsimp
      · have hg':decide (g.row.length≤n)=true:=decide_eq_true (by omega)
        rw [cut_one hf,cut_nil hg]
        simp -dsimp [Fact.cells,hc',hf',hg',hf,hg]
        rfl
    · have hf':decide (f.row.length≤n)=true:=decide_eq_true (by omega)
      by_cases hg:n<g.row.length
      · have hg':decide (g.row.length≤n)=false:=decide_eq_false (by omega)
        rw [cut_nil hf,cut_one hg]
        simp -dsimp [Fact.cells,hc',hf',hg',hf,hg]
        rfl
      · have hg':decide (g.row.length≤n)=true:=decide_eq_true (by omega)
        rw [cut_nil hf,cut_nil hg]
        simp -dsimp [Fact.cells,hc',hf',hg',hf,hg]
        rfl
set_option maxRecDepth 4000 in
set_option maxHeartbeats 8000000 in
theorem before18_spec (nc:Bool) (cs:List Int) (hcs:cs.length≤1000000000000) (f g:Fact) (hl:f.row.length≤140737488355328) (hm:g.row.length≤140737488355328) :
    Con Tryz.prog 61 [.agg f.cells,.agg g.cells,.c (.sl nc (ints cs))] [.c (bln (decide (cmpC cs f g<0)))]:=by
  refine spec_of Tryz.func61 rfl (by kernel_rfl) (by simp [Tryz.f61]) (fun w0 K0=>vc_ok _ _ _ (by kernel_rfl) ?_)
  simp only [Tryz.f61]
  simp -dsimp [Fact.cells]
  refine VL.loop (fun i:Nat=>⟨[(7,.c (i64 i)),(2,.c (.sl nc (ints cs))),(3,.ptr 192 0),(4,.ptr 256 0)],[(192,some (.box false [.c (.sl f.nl (vals f.row)),.c (i64 f.p.f),.c (i64 f.p.t)])),(256,some (.box false [.c (.sl g.nl (vals g.row)),.c (i64 g.p.f),.c (i64 g.p.t)]))]⟩)
    (fun i=>i≤cs.length∧cmpC cs f g=cmpC (cs.drop i) f g) (fun i=>cs.length-i) 0 (by kernel_rfl) ⟨by omega,by simp⟩ (by simp [St.le]) ?_
  intro k ⟨hk,he⟩
  have hlen:(ints cs).length=cs.length:=by simp [ints]
  by_cases h1:k<cs.length
  · have hw:IntKind.i64.wrap ((k:Int)+1)=(k:Int)+1:=IntWalk.i64_in _ (by omega)
    have hdr:cs.drop k=cs[k]::cs.drop (k+1):=List.drop_eq_getElem_cons h1
    rw [hdr,cmpC_cons] at he
    have hcell:(ints cs)[k]'(by simpa [ints] using h1)=[i64 cs[k]]:=by simp [ints]
    have hcol:=column18_spec f g cs[k] hl hm
    generalize cs[k]=c at *
    simp -dsimp [h1,hlen]
    refine VL.draw (by kernel_rfl) [(0,false),(0,false),(0,false),(0,false),(12,false),(28,false),(63,true),(127,true)] (by kernel_rfl) ?_
    simp -dsimp [h1,hlen,hcell]
    refine VC.mk _ hcol ?_
    simp -dsimp
    refine VIf.mk (fun h=>?_) (fun h=>?_)
    · have h':¬ colC c f g=0:=by simpa using h
      rw [if_neg h'] at he
      simp -dsimp [he]
    · have h':colC c f g=0:=by simpa using h
      rw [if_pos h'] at he
      simp -dsimp [hw]
      exact ⟨k+1,⟨by omega,he⟩,by simp [St.le],by omega⟩
  · obtain rfl:k=cs.length:=by omega
    rw [List.drop_length] at he
    have he:cmpC cs f g=ordF f g:=he
    rw [he]
    simp -dsimp [hlen]
    refine VC.mk _ (refCompare_spec _ _ f.row g.row hl) ?_
    simp -dsimp
    refine VIf.mk (fun h=>?_) (fun h=>?_)
    · have h':¬ cmpR f.row g.row=0:=by simpa using h
      have e:ordF f g=cmpR f.row g.row:=by unfold ordF lexC;rw [if_neg h']
      simp -dsimp
      rw [e]
    · have h':cmpR f.row g.row=0:=by simpa using h
      have e:ordF f g=lexC (fun f g:Fact=>cmpI f.p.f g.p.f) (fun f g=>cmpI f.p.t g.p.t) f g:=by unfold ordF;rw [lexC,if_pos h']
      simp -dsimp
      refine ⟨fun h=>⟨h,fun h2=>⟨h,h2⟩⟩,?_⟩
      rw [e]
      unfold lexC cmpI
      rw [Bool.eq_iff_iff]
      simp only [Bool.or_eq_true,Bool.and_eq_true,decide_eq_true_eq,beq_iff_eq]
      repeat' split
      all_goals omega
def cpF (f:Fact):Fact:=⟨false,f.row,f.p⟩
def cpL (l:List Fact):List Fact:=l.map cpF
set_option maxRecDepth 4000 in
set_option maxHeartbeats 8000000 in
theorem copy13_spec (nl:Bool) (l:List Fact) (hl:l.length≤3518437208883) (hr:∀ f∈l,f.row.length≤4398046511104) :
    Con Tryz.prog 14 [.c (.sl nl (facts l))] [.c (.sl false (facts (cpL l)))]:=by
  refine Con.frz (rs:=[.fr false 3 (facts (cpL l)) 0]) ?_ 0 rfl
  refine spec_of Tryz.func14 rfl (by kernel_rfl) (by simp [Tryz.f14]) (fun w0 K0=>vc_ok _ _ _ (by kernel_rfl) ?_)
  simp only [Tryz.f14]
  simp -dsimp
  refine ⟨by omega,?_⟩
  refine VL.loop (fun i:Nat=>⟨[(4,.c (i64 i)),(0,.c (.sl nl (facts l))),(3,.own 448 (cpL (l.take i)).length)],[(448,some (.arr false 3 (facts (cpL (l.take i))) 0))]⟩)
    (fun i=>i≤l.length) (fun i=>l.length-i) 0 (by kernel_rfl) (by simp) (by simp [St.le,cpL]) ?_
  intro k hk
  by_cases h1:k<l.length
  · have hw:IntKind.i64.wrap ((k:Int)+1)=(k:Int)+1:=IntWalk.i64_in _ (by omega)
    have hsn:cpL (l.take (k+1))=cpL (l.take k)++[cpF l[k]]:=by unfold cpL;rw [take_snoc h1,List.map_append];rfl
    have hlen:(cpL (l.take k)).length=k:=by unfold cpL;rw [List.length_map,List.length_take];omega
    have hcp:=copy_frz l[k].nl l[k].row (hr _ (List.getElem_mem h1))
    generalize cpL (l.take k)=T at *
    simp -dsimp [h1,Fact.cells]
    refine VL.draw (by kernel_rfl) [(0,false),(0,false),(0,false),(6,false),(14,false),(30,false),(62,false),(0,false),(0,false),(384,false),(896,false),(1920,false),(4094,false),(8190,false),(16383,true),(32767,true)] (by kernel_rfl) ?_
    simp -dsimp [h1,Fact.cells]
    refine VCE.mk _ hcp ?_
    simp -dsimp [h1,Fact.cells,maxLen,hw]
    refine ⟨by omega,k+1,by omega,?_,by omega⟩
    simp only [hsn]
    simp [St.le,cpF,Fact.cells]
  · obtain rfl:k=l.length:=by omega
    rw [List.take_length]
    simp -dsimp
structure KJ where
  k:Nat
  nl:Bool
  sz:Nat
  nm:Nat
set_option maxRecDepth 4000 in
set_option maxHeartbeats 16000000 in
theorem refSort_spec (nl nc:Bool) (cs:List Int) (hcs:cs.length≤1000000000000) (l:List Fact) (hl:l.length≤3518437208883) (hr:∀ f∈l,f.row.length≤140737488355328) :
    Con Tryz.prog 27 [.c (.sl nl (facts l)),.c (.sl nc (ints cs))] [.c (.sl l.isEmpty (facts (dSort (cmpC cs) l)))]:=by
  refine Con.frz (rs:=[.fr l.isEmpty (if l.isEmpty then 0 else 3) (facts (dSort (cmpC cs) l)) 0]) ?_ 0 rfl
  refine spec_of Tryz.func27 rfl (by kernel_rfl) (by simp [Tryz.f27]) (fun w0 K0=>vc_ok _ _ _ (by kernel_rfl) ?_)
  simp only [Tryz.f27]
  simp -dsimp
  refine VL.loop (fun i:KJ=>⟨[(6,.c (i64 i.k)),(0,.c (.sl nl (facts l))),(1,.c (.sl nc (ints cs))),(5,.own i.nm i.k)],[(i.nm,some (.arr i.nl i.sz (facts (dSort (cmpC cs) (l.take i.k))) 0))]⟩)
    (fun i=>i.k≤l.length∧i.nl=(l.take i.k).isEmpty∧i.sz=if i.nl then 0 else 3) (fun i=>l.length-i.k) ⟨0,true,0,320⟩ (by kernel_rfl) ⟨by simp,rfl,rfl⟩ (by simp [St.le,dSort]) ?_
  intro ⟨k,z,sz,nm⟩ ⟨hk,hz,hsz⟩
  simp only at hk hz hsz
  by_cases h1:k<l.length
  · have hw:IntKind.i64.wrap ((k:Int)+1)=(k:Int)+1:=IntWalk.i64_in _ (by omega)
    have hsn:=dSort_snoc (cf:=cmpC cs) l h1
    have hDl:(dSort (cmpC cs) (l.take k)).length=k:=by rw [dSort_len,List.length_take];omega
    have hDr:∀ f∈dSort (cmpC cs) (l.take k),f.row.length≤140737488355328:=fun f hf=>hr f (List.mem_of_mem_take ((dSort_perm _).mem_iff.1 hf))
    have hxr:=hr l[k] (List.getElem_mem h1)
    generalize dSort (cmpC cs) (l.take k)=D at *
    simp -dsimp [h1]
    refine VL.ren 5 nm 320 k z sz (facts D) 0 [(7,.c (i64 0)),(6,.c (i64 k)),(0,.c (.sl nl (facts l))),(1,.c (.sl nc (ints cs)))] [] (by simp [St.le]) (by simpa using hDl) (by simp [S.clr,S.men]) (by simp) ?_
    refine VL.loop (fun i:Nat=>⟨[(7,.c (i64 i)),(6,.c (i64 k)),(0,.c (.sl nl (facts l))),(1,.c (.sl nc (ints cs))),(5,.own 320 k)],[(320,some (.arr z sz (facts D) 0))]⟩)
      (fun i=>i≤k∧∀ j,j<i→(h:j<D.length)→¬ cmpC cs l[k] D[j] < 0) (fun i=>k-i) 0 (by kernel_rfl) ⟨Nat.zero_le _,fun j h=>absurd h (Nat.not_lt_zero _)⟩ (by simp [St.le]) ?_
    intro i ⟨hi,hall⟩
    have hdr:∀ e∈List.drop i (List.take k (facts D)),e.length=3:=fun e he=>by
      have h5:=List.mem_of_mem_take (List.mem_of_mem_drop he)
      obtain ⟨f,_,rfl⟩:=List.mem_map.1 h5
      rfl
    have hne:l≠[]:=fun e=>by rw [e] at h1;exact absurd h1 (Nat.not_lt_zero _)
    have hzz:z=false→sz=3:=fun e=>by rw [hsz,e];rfl
    by_cases h2:i<k
    · have hlt:decide (i<k)=true:=decide_eq_true h2
      have hiD:i<D.length:=by omega
      have hb:=before18_spec nc cs hcs l[k] D[i] hxr (hDr _ (List.getElem_mem hiD))
      have hwi:IntKind.i64.wrap ((i:Int)+1)=(i:Int)+1:=IntWalk.i64_in _ (by omega)
      simp -dsimp [hDl]
      refine VL.draw (by kernel_rfl) [(0,false),(0,false),(2,false),(7,true),(15,true),(31,false),(31,false),(127,false),(255,false),(31,false),(31,false),(1567,false),(3615,false),(31,false),(16383,true),(32767,true),(65535,true)] (by kernel_rfl) ?_
      simp -dsimp [hDl,hlt,h1,hiD,h2,Fact.cells]
      have hz3:sz=3:=by
        have h4:(l.take k).length=k:=by rw [List.length_take];omega
        rw [hsz,hz]
        cases hh:l.take k with
        | nil=>rw [hh] at h4;simp at h4;omega
        | cons _ _=>rfl
      refine ⟨hz3.symm,by omega,VG.mk _ _ (fun _=>hb) rfl ?_⟩
      simp -dsimp
      refine VIf.mk (fun g=>?_) (fun g=>?_)
      · simp -dsimp [hwi]
        have hi1:i+1≤k:=h2
        refine ⟨i+1,⟨hi1,fun j hj h=>?_⟩,by simp [St.le,hwi],by omega⟩
        by_cases e:j=i
        · subst e;simpa using g
        · exact Int.not_lt.1 (hall j (by omega) h)
      · have g':cmpC cs l[k] D[i] < 0:=by simpa using g
        have hat:=dIns_at (cf:=cmpC cs) l[k] D i (by omega) hall (fun _=>g')
        simp -dsimp
        refine VSL.data ?_
        simp -dsimp [hDl]
        refine ⟨by omega,?_,by omega,?_⟩
        · exact hdr
        refine VL.draw (by kernel_rfl) [(0,false),(0,false),(0,false),(7,false),(0,false),(0,false),(48,false),(112,false),(240,false),(511,false),(0,false),(2047,true),(4095,true)] (by kernel_rfl) ?_
        simp -dsimp [hDl,h1,Fact.cells,maxLen]
        refine ⟨hi,hzz,by omega,by omega,hdr,by omega,⟨k+1,false,3,3072⟩,⟨h1,by simp [hne],rfl⟩,?_,by show l.length-(k+1)<l.length-k;omega⟩
        have e1:i+1+(k-i)=k+1:=by omega
        have e2:(facts D).take k=facts D:=List.take_of_length_le (by simp [facts,hDl])
        have e3:List.take i (facts D)++[C.sl l[k].nl (vals l[k].row),i64 l[k].p.f,i64 l[k].p.t]::List.drop i (facts D)=facts (dSort (cmpC cs) (l.take (k+1))):=by
          rw [hsn,hat];simp [facts,Fact.cells]
        simp [St.le,hw,e1,e2,e3]
    · obtain rfl:i=k:=by omega
      have hat:=dIns_at (cf:=cmpC cs) l[i] D i (by omega) hall (fun h=>absurd h (by omega))
      simp -dsimp [hDl]
      refine VL.draw (by kernel_rfl) [(0,false),(0,false),(2,false),(7,true),(15,true),(31,false),(31,false),(127,false),(255,false),(31,false),(31,false),(1567,false),(3615,false),(31,false),(16383,true),(32767,true),(65535,true)] (by kernel_rfl) ?_
      simp -dsimp [hDl,h1,Fact.cells]
      refine VG.mk [.c (bln false)] _ (fun h=>Bool.noConfusion h) rfl ?_
      simp -dsimp
      refine VSL.data ?_
      simp -dsimp [hDl]
      refine VL.draw (by kernel_rfl) [(0,false),(0,false),(0,false),(7,false),(0,false),(0,false),(48,false),(112,false),(240,false),(511,false),(0,false),(2047,true),(4095,true)] (by kernel_rfl) ?_
      simp -dsimp [hDl,h1,Fact.cells,maxLen]
      refine ⟨hzz,by omega,⟨i+1,false,3,3072⟩,⟨h1,by simp [hne],rfl⟩,?_,by show l.length-(i+1)<l.length-i;omega⟩
      have e2:List.take i D=D:=List.take_of_length_le (by omega)
      have e4:List.drop i D=[]:=List.drop_of_length_le (by omega)
      have e3:List.take i (facts D)++[[C.sl l[i].nl (vals l[i].row),i64 l[i].p.f,i64 l[i].p.t]]=facts (dSort (cmpC cs) (l.take (i+1))):=by
        rw [hsn,hat,e2,e4];simp [facts,Fact.cells,e2,← List.map_take]
      simp [St.le,hw,e3]
  · obtain rfl:k=l.length:=by omega
    rw [List.take_length] at *
    simp -dsimp
    refine ⟨⟨hz,?_⟩,dSort_len l⟩
    rw [hsz,hz]
    cases l <;> simp
end Go.Proofs.YtlphpbcafplnbaaGreat
