/- Contracts of functions of the seat, proved in a logic on data over the model (part N30). -/
import Derived.Shelf.SlSortCmp.NoneTotal
import Derived.Shelf.SlicesG.Cmp
import Derived.Test.YtlphpbcafplnbaaGreatD2
import Derived.Test.YtlphpbcafplnbaaGreatV34
import Derived.Test.YtlphpbcafplnbaaGreatR4
import Derived.Test.YtlphpbcafplnbaaGreatBP4
import Derived.Test.YtlphpbcafplnbaaGreatE3
set_option linter.unusedSimpArgs false
set_option linter.unusedVariables false
namespace Go.Proofs.YtlphpbcafplnbaaGreat
open Go.Shelf Go.RowKit Go.Lib Go.Sort
def Tryz.sortPer_ren:Go.Shelf.Ren:=⟨fun | 6=>131 | 15=>116 | 14=>149 | 28=>142 | 29=>75 | 20=>158 | 21=>159 | 22=>160 | 23=>161 | 24=>162 | 25=>163 | 26=>164 | 27=>165 | 46=>185 | 47=>152 | 48=>153 | 49=>186 | 50=>187 | 57=>194 | n=>n,fun | 22=>83 | 24=>38 | 25=>231 | 3=>3 | 39=>205 | 0=>0 | 53=>241 | 55=>179 | 4=>4 | 46=>235 | 45=>234 | 50=>156 | 5=>5 | 9=>9 | 66=>249 | 70=>253 | 76=>267 | 77=>221 | n=>n,fun | n=>n⟩
theorem Tryz.sortPer:Go.Proofs.SlLaysF0.n6 Tryz.prog Tryz.sortPer_ren:={ mixed:=by kernel_rfl,f6:=⟨Tryz.f131.name,by decide,Tryz.func131.trans (congrArg some (by kernel_rfl))⟩,f14:=⟨Tryz.f149.name,by decide,Tryz.func149.trans (congrArg some (by kernel_rfl))⟩,f15:=Tryz.func116.trans (congrArg some (by kernel_rfl)),f20:=⟨Tryz.f158.name,by decide,Tryz.func158.trans (congrArg some (by kernel_rfl))⟩,f21:=⟨Tryz.f159.name,by decide,Tryz.func159.trans (congrArg some (by kernel_rfl))⟩,f22:=⟨Tryz.f160.name,by decide,Tryz.func160.trans (congrArg some (by kernel_rfl))⟩,f23:=⟨Tryz.f161.name,by decide,Tryz.func161.trans (congrArg some (by kernel_rfl))⟩,f24:=⟨Tryz.f162.name,by decide,Tryz.func162.trans (congrArg some (by kernel_rfl))⟩,f25:=⟨Tryz.f163.name,by decide,Tryz.func163.trans (congrArg some (by kernel_rfl))⟩,f26:=⟨Tryz.f164.name,by decide,Tryz.func164.trans (congrArg some (by kernel_rfl))⟩,f27:=⟨Tryz.f165.name,by decide,Tryz.func165.trans (congrArg some (by kernel_rfl))⟩,f28:=Tryz.func142.trans (congrArg some (by kernel_rfl)),f29:=Tryz.func75.trans (congrArg some (by kernel_rfl)),f46:=⟨Tryz.f185.name,by decide,Tryz.func185.trans (congrArg some (by kernel_rfl))⟩,f47:=Tryz.func152.trans (congrArg some (by kernel_rfl)),f48:=Tryz.func153.trans (congrArg some (by kernel_rfl)),f49:=⟨Tryz.f186.name,by decide,Tryz.func186.trans (congrArg some (by kernel_rfl))⟩,f50:=⟨Tryz.f187.name,by decide,Tryz.func187.trans (congrArg some (by kernel_rfl))⟩,f57:=⟨Tryz.f194.name,by decide,Tryz.func194.trans (congrArg some (by kernel_rfl))⟩,t0:=Tryz.underlying0,a0:=Tryz.isAgg0,z0:=Tryz.sizeOf0,v0:=Tryz.zeroValue0,t3:=Tryz.underlying3,a3:=Tryz.isAgg3,z3:=Tryz.sizeOf3,v3:=Tryz.zeroValue3,t4:=Tryz.underlying4,a4:=Tryz.isAgg4,z4:=Tryz.sizeOf4,v4:=Tryz.zeroValue4,t5:=Tryz.underlying5,a5:=Tryz.isAgg5,z5:=Tryz.sizeOf5,v5:=Tryz.zeroValue5,t9:=Tryz.underlying9,a9:=Tryz.isAgg9,z9:=Tryz.sizeOf9,v9:=Tryz.zeroValue9,t22:=Tryz.underlying83,a22:=Tryz.isAgg83,z22:=Tryz.sizeOf83,v22:=Tryz.zeroValue83,t25:=Tryz.underlying231,a25:=Tryz.isAgg231,z25:=Tryz.sizeOf231,v25:=Tryz.zeroValue231,t39:=Tryz.underlying205,a39:=Tryz.isAgg205,z39:=Tryz.sizeOf205,v39:=Tryz.zeroValue205,t45:=Tryz.underlying234,a45:=Tryz.isAgg234,z45:=Tryz.sizeOf234,v45:=Tryz.zeroValue234,t46:=Tryz.underlying235,a46:=Tryz.isAgg235,z46:=Tryz.sizeOf235,v46:=Tryz.zeroValue235,t50:=Tryz.underlying156,a50:=Tryz.isAgg156,z50:=Tryz.sizeOf156,v50:=Tryz.zeroValue156,t53:=Tryz.underlying241,a53:=Tryz.isAgg241,z53:=Tryz.sizeOf241,v53:=Tryz.zeroValue241,t55:=Tryz.underlying179,a55:=Tryz.isAgg179,z55:=Tryz.sizeOf179,v55:=Tryz.zeroValue179,t66:=Tryz.underlying249,a66:=Tryz.isAgg249,z66:=Tryz.sizeOf249,v66:=Tryz.zeroValue249,t70:=Tryz.underlying253,a70:=Tryz.isAgg253,z70:=Tryz.sizeOf253,v70:=Tryz.zeroValue253,t76:=Tryz.underlying267,a76:=Tryz.isAgg267,z76:=Tryz.sizeOf267,v76:=Tryz.zeroValue267,t77:=Tryz.underlying221,a77:=Tryz.isAgg221,z77:=Tryz.sizeOf221,v77:=Tryz.zeroValue221 }
def Tryz.cmpInt_ren:Go.Shelf.Ren:=⟨fun | 5=>58 | 7=>93 | n=>n,fun | 22=>2 | 3=>3 | 4=>4 | n=>n,fun | n=>n⟩
theorem Tryz.cmpInt:Go.Proofs.SlLaysC2.n5 Tryz.prog Tryz.cmpInt_ren:={ mixed:=by kernel_rfl,f5:=⟨Tryz.f58.name,by decide,Tryz.func58.trans (congrArg some (by kernel_rfl))⟩,f7:=⟨Tryz.f93.name,by decide,Tryz.func93.trans (congrArg some (by kernel_rfl))⟩,t3:=Tryz.underlying3,a3:=Tryz.isAgg3,z3:=Tryz.sizeOf3,v3:=Tryz.zeroValue3,t4:=Tryz.underlying4,a4:=Tryz.isAgg4,z4:=Tryz.sizeOf4,v4:=Tryz.zeroValue4,t22:=Tryz.underlying2,a22:=Tryz.isAgg2,z22:=Tryz.sizeOf2,v22:=Tryz.zeroValue2 }
def encP (p:Per):List Value:=[.int .i64 p.f,.int .i64 p.t]
set_option maxHeartbeats 1000000 in
theorem closure31 (x y:Per) (W:World):Calls Tryz.prog 132 #[.agg #[.int .i64 x.f,.int .i64 x.t],.agg #[.int .i64 y.f,.int .i64 y.t]] W fun e w'=>e = .returned (.int .i64 (Lib.compareInt x.f y.f))∧∃ q os',w'=grow (W.drewN q) os':=by
  have hcon:=fun W'=>AnyG.cmp_Compare_int Tryz.cmpInt x.f y.f W'
  change ∀ W',Calls Tryz.prog 58 _ _ _ at hcon
  generalize Lib.compareInt x.f y.f=r at hcon ⊢
  go_enter Tryz.func132,Tryz.ntmps132
  go_wp2_with (go_at_call 58;refine (hcon _).mono ?_;rintro e w' ⟨rfl,rfl⟩)
  go_ret
  exact ⟨rfl,0,_,by rw [alloc_eq_grow,alloc_eq_grow,grow_grow];rfl⟩
theorem cmpLays31 (blk off size:Nat) (w:World):CmpLays Tryz.prog 132 #[] encP 2 (fun x y=>Lib.compareInt x.f y.f) blk off size w :=
  fun _ _ _ _ x y=>closure31 x y _
theorem ltF (x y:Per):ltOf (fun x y:Per=>Lib.compareInt x.f y.f) x y=decide (x.f<y.f):=by
  unfold ltOf Lib.compareInt
  by_cases h1:x.f<y.f
  · simp [h1]
  · by_cases h2:y.f<x.f <;> simp [h1,h2]
theorem swoF:SWO (ltOf fun x y:Per=>Lib.compareInt x.f y.f) where
  irrefl x:=by rw [ltF];simp
  trans x y z h1 h2:=by rw [ltF] at *;simp at *;omega
  ntrans x y z h1 h2:=by rw [ltF] at *;simp at *;omega
def sortP (l:List Per):List Per:=(pdq (ltOf fun x y:Per=>Lib.compareInt x.f y.f) l.toArray 0 l.toArray.size (Lib.bitLen l.toArray.size) true true).toList
theorem sortP_pdq (l:List Per):PermIn 0 l.toArray.size l.toArray (pdq (ltOf fun x y:Per=>Lib.compareInt x.f y.f) l.toArray 0 l.toArray.size (Lib.bitLen l.toArray.size) true true)∧SortedIn (ltOf fun x y:Per=>Lib.compareInt x.f y.f) 0 l.toArray.size (pdq (ltOf fun x y:Per=>Lib.compareInt x.f y.f) l.toArray 0 l.toArray.size (Lib.bitLen l.toArray.size) true true) :=
  pdq_sorts (ltOf fun x y:Per=>Lib.compareInt x.f y.f) swoF l.toArray 0 l.toArray.size (Lib.bitLen l.toArray.size) true true (Nat.zero_le _) (Nat.le_refl _) (Or.inl rfl)
theorem sortP_len (l:List Per):(sortP l).length=l.length:=by
  have:=(sortP_pdq l).1.1
  unfold sortP
  simpa using this
theorem sortP_perm (l:List Per):(sortP l).Perm l:=by
  have h:=(sortP_pdq l).1
  have h1:=h.1
  have h2:=h.2.2
  unfold sortP
  generalize pdq (ltOf fun x y:Per=>Lib.compareInt x.f y.f) l.toArray 0 l.toArray.size (Lib.bitLen l.toArray.size) true true=d at *
  have e1:d.extract 0 l.toArray.size=d:=by rw [← h1];simp
  have e2:l.toArray.extract 0 l.toArray.size=l.toArray:=by simp
  rw [e1,e2] at h2
  simpa using h2
theorem sortP_sorted (l:List Per):(sortP l).Pairwise fun x y=>x.f≤y.f:=by
  have h:=(sortP_pdq l).2
  have h1:=(sortP_pdq l).1.1
  unfold sortP
  generalize pdq (ltOf fun x y:Per=>Lib.compareInt x.f y.f) l.toArray 0 l.toArray.size (Lib.bitLen l.toArray.size) true true=d at *
  rw [List.pairwise_iff_getElem]
  intro i j hi hj hij
  simp only [Array.length_toList] at hi hj
  have:=h i j (Nat.zero_le _) hij (by omega)
  rw [ltF,getElem!_pos d i hi,getElem!_pos d j hj] at this
  simpa using this
theorem sorts_ok:Go.Proofs.YtlphpbcafplnbaaGreat.Sorts sortP:=by
  refine ⟨sortP_len,sortP_perm,sortP_sorted,fun l hl=>?_,?_⟩
  · refine Go.VL.ConB.sort (enc:=encP) (k:=2) (cells:=Per.cells) (fun x=>rfl) (fun x=>rfl) ?_ (by kernel_rfl) l (sortP l) (sortP_len l) ?_
    · intro x v hv
      simp [encP] at hv
      rcases hv with rfl | rfl <;> rfl
    · intro w b cap hH hb
      have eg:∀ args w,(callFunc 132 args).run Tryz.prog w = .ok (.enter 132 args) w:=enters_of Tryz.func132 (by kernel_rfl) rfl
      have hcon:=AnyQ.slices_SortFunc_eq Tryz.sortPer 2 Tryz.isAgg38 Tryz.sizeOf38 encP (fun _=>rfl) (fun x v hv=>by simp [encP] at hv;rcases hv with rfl | rfl <;> rfl) (fun x y=>Lib.compareInt x.f y.f) swoF 132 #[] b 0 cap l.toArray w eg (cmpLays31 b 0 _ w) hH hb (by simp;omega)
      change Calls Tryz.prog 131 _ _ _ at hcon
      refine hcon.mono ?_
      rintro e w' ⟨he,n,os,hw⟩
      exact ⟨he,n,os,by rw [hw];rfl⟩
  · refine Go.VL.Con.same (by kernel_rfl) fun w K us hd=>?_
    unfold Go.VL.DRs at hd
    rw [Go.VL.SRs] at hd
    obtain ⟨u,us',rfl,hu,hd⟩:=hd
    rw [Go.VL.SRs] at hd
    obtain ⟨u2,us'',rfl,hu2,hd⟩:=hd
    rw [Go.VL.SRs] at hd
    subst hd
    rw [Go.VL.SR,Go.VL.CR] at hu
    have hu':u = .slice none 0 0:=by
      rcases hu with ⟨_,_,h⟩ | ⟨h,_⟩
      · exact h
      · cases h
    subst hu'
    have h:=AnyF.slices_SortFunc_none Tryz.sortPer none 0 u2 w
    exact h
end Go.Proofs.YtlphpbcafplnbaaGreat
namespace Go.Proofs.YtlphpbcafplnbaaGreat
open Go.VL Go.RowKit
set_option maxRecDepth 4000 in
set_option maxHeartbeats 4000000 in
theorem refHas_spec (p:Per) (t:Int):Con Tryz.prog 64 [.agg p.cells,.c (i64 t)] [.c (bln (has p t))]:=by
  refine spec_of Tryz.func64 rfl (by kernel_rfl) (by simp [Tryz.f64]) (fun w0 K0=>vc_ok _ _ _ (by kernel_rfl) ?_)
  simp only [Tryz.f64]
  simp -dsimp [Per.cells]
  rfl
set_option maxRecDepth 4000 in
set_option maxHeartbeats 16000000 in
theorem refEdges_spec (nl:Bool) (l:List Per) (hl:l.length≤8796093022207) :
    Con Tryz.prog 106 [.c (.sl nl (l.map Per.cells))] [.fr (edgesL l).isEmpty (ez (edgesL l)) (ints (edgesL l)) 0]:=by
  refine spec_of Tryz.func106 rfl (by kernel_rfl) (by simp [Tryz.f106]) (fun w0 K0=>vc_ok _ _ _ (by kernel_rfl) ?_)
  simp only [Tryz.f106]
  simp -dsimp
  have hnext:=fun k hk=>nextL_edge l (k:=k) hk
  have hel:=edgesL_len l
  have hpos0:∀ t∈edgesL l,0≤t:=fun t ht=>endsOf_pos l (((edgesL_ok l).2 t).1 ht)
  generalize edgesL l=E at *
  refine VL.loop (fun i:LI=>⟨[(3,.own 192 (E.take i.k).length),(0,.c (.sl nl (l.map Per.cells)))],[(192,some (.arr i.nl i.sz (ints (E.take i.k)) 0))]⟩)
    (fun i=>i.k≤E.length∧i.nl=(E.take i.k).isEmpty∧i.sz=ez (E.take i.k)) (fun i=>E.length-i.k) ⟨0,true,0⟩ (by kernel_rfl) (by simp [ez]) (by simp [St.le]) ?_
  intro ⟨k,nl',sz⟩ ⟨hk,hnl,hsz⟩
  simp only at hk hnl hsz
  have hnx:=hnext k hk
  have hsn:=fun h:k<E.length=>take_snoc (l:=E) (k:=k) h
  have hol:(E.take k).length=k:=by rw [List.length_take];omega
  generalize ho:E.take k=out at *
  simp -dsimp
  refine VL.loop (fun i:Nat=>⟨[(5,.c (i64 i)),(4,.c (i64 (nextL out (endsOf (l.take i))))),(3,.own 192 out.length),(0,.c (.sl nl (l.map Per.cells)))],[(192,some (.arr nl' sz (ints out) 0))]⟩)
    (fun i=>i≤l.length) (fun i=>l.length-i) 0 (by kernel_rfl) (by simp) (by simp [St.le,nextL,endsOf]) ?_
  intro i hi
  by_cases hlt:i<l.length
  · have hw:IntKind.i64.wrap ((i:Int)+1)=(i:Int)+1:=IntWalk.i64_in _ (by omega)
    have hes:=endsOf_snoc l hlt
    simp -dsimp [hlt,Per.cells]
    refine VC.mk _ (refRight_at _ l[i] rfl) ?_
    simp -dsimp
    refine VIf.mk (fun h2=>?_) (fun h2=>?_)
    · have hr:right l[i]=false:=by simpa using h2
      rw [hr,if_neg (by simp),List.append_nil] at hes
      simp -dsimp [hw]
      refine ⟨i+1,by omega,?_,by omega⟩
      simp [St.le,hes]
    · have hr:right l[i]=true:=by simpa using h2
      rw [hr,if_pos rfl] at hes
      simp -dsimp [hlt,Per.cells]
      refine VL.draw (by kernel_rfl) [(0,false),(0,false),(3,false),(7,false),(15,false),(0,false),(0,false),(96,false),(224,false),(480,false),(1023,false),(0,false)] (by kernel_rfl) ?_
      simp -dsimp [hlt,Per.cells]
      refine VL.loop (fun j:Nat=>⟨[(32,.c (i64 j)),(31,.agg [i64 l[i].f,i64 l[i].t]),(5,.c (i64 i)),(4,.c (i64 (nextL out (endsOf (l.take i)++two l[i] j)))),(3,.own 192 out.length),(0,.c (.sl nl (l.map Per.cells)))],[(192,some (.arr nl' sz (ints out) 0))]⟩)
        (fun j=>j≤2) (fun j=>2-j) 0 (by kernel_rfl) (by simp) (by simp [St.le,two]) ?_
      intro j hj
      have hws:IntKind.i64.wrap ((out.length:Int)-1)=(out.length:Int)-1:=IntWalk.i64_in _ (by omega)
      have h012:j=0∨j=1∨j=2:=by omega
      rcases h012 with rfl | rfl | rfl
      · have hn2:nextL out (endsOf (l.take i)++two l[i] 1)=nextS out (nextL out (endsOf (l.take i)++two l[i] 0)) l[i].f:=by
          rw [← nextL_snoc];simp [two]
        generalize nextL out (endsOf (l.take i)++two l[i] 0)=n at *
        simp -dsimp
        match out,hnl,hn2,hol,hsz,hnext,ho,hnx,hws with
        | [],hnl,hn2,hol,_,_,_,_,_ =>
          simp -dsimp [defC]
          refine VIf.mk (fun h=>?_) (fun h=>?_)
          · refine ⟨1,by omega,?_,by omega⟩
            have e:nextS [] n l[i].f=l[i].f:=by
              unfold nextS
              rw [if_pos]
              simp [laterB] at h ⊢;omega
            simp [St.le,hn2,e]
          · refine ⟨1,by omega,?_,by omega⟩
            have e:nextS [] n l[i].f=n:=by
              unfold nextS
              rw [if_neg]
              simp [laterB] at h ⊢;omega
            simp [St.le,hn2,e]
        | x::r,hnl,hn2,hol,hsz,_,_,_,hws =>
          generalize hout:x::r=out at *
          have hne:0<out.length:=by rw [← hout];simp
          have hT:IntKind.i64.wrap ((out.length:Int)-1)=((out.length-1:Nat):Int):=by rw [hws];omega
          have hl1:out.length-1<out.length:=by omega
          have hg:(ints out)[out.length-1]?.getD []=[i64 out[out.length-1]]:=ints_get _ _ hl1
          have hlast:out[out.length-1]! = out[out.length-1]:=getElem!_pos out _ hl1
          have hn0:((out.length:Int) == 0)=false:=by simp;intro e;rw [e] at hne;simp at hne
          have hnl2:nl'=false:=by rw [hnl,← hout];rfl
          have hsz2:sz=1:=by rw [hsz,← hout];rfl
          subst hnl2 hsz2
          have hd:nextS out n l[i].f=if laterB out l[i].f=true∧(n<0∨l[i].f<n) then l[i].f else n:=by
            unfold nextS;simp
          have hlb:laterB out l[i].f=decide (out[out.length-1] < l[i].f):=by
            unfold laterB;rw [hlast];simp;intro e;rw [e] at hne;simp at hne
          simp -dsimp [hn0,hT,hl1]
          refine ⟨fun a=>⟨a,fun b=>⟨a,b⟩⟩,VIf.mk (fun h=>?_) (fun h=>?_)⟩
          · refine ⟨1,by omega,?_,by omega⟩
            have e:nextS out n l[i].f=l[i].f:=by
              rw [hd,if_pos]
              rw [hlb]
              simp at h ⊢;omega
            simp [St.le,hn2,e]
          · refine ⟨1,by omega,?_,by omega⟩
            have e:nextS out n l[i].f=n:=by
              rw [hd,if_neg]
              rw [hlb]
              simp at h ⊢;omega
            simp [St.le,hn2,e]
      · have hn2:nextL out (endsOf (l.take i)++two l[i] 2)=nextS out (nextL out (endsOf (l.take i)++two l[i] 1)) l[i].t:=by
          rw [← nextL_snoc];simp [two]
        generalize nextL out (endsOf (l.take i)++two l[i] 1)=n at *
        simp -dsimp
        match out,hnl,hn2,hol,hsz,hnext,ho,hnx,hws with
        | [],hnl,hn2,hol,_,_,_,_,_ =>
          simp -dsimp [defC]
          refine VIf.mk (fun h=>?_) (fun h=>?_)
          · refine ⟨2,by omega,?_,by omega⟩
            have e:nextS [] n l[i].t=l[i].t:=by
              unfold nextS
              rw [if_pos]
              simp [laterB] at h ⊢;omega
            simp [St.le,hn2,e]
          · refine ⟨2,by omega,?_,by omega⟩
            have e:nextS [] n l[i].t=n:=by
              unfold nextS
              rw [if_neg]
              simp [laterB] at h ⊢;omega
            simp [St.le,hn2,e]
        | x::r,hnl,hn2,hol,hsz,_,_,_,hws =>
          generalize hout:x::r=out at *
          have hne:0<out.length:=by rw [← hout];simp
          have hT:IntKind.i64.wrap ((out.length:Int)-1)=((out.length-1:Nat):Int):=by rw [hws];omega
          have hl1:out.length-1<out.length:=by omega
          have hg:(ints out)[out.length-1]?.getD []=[i64 out[out.length-1]]:=ints_get _ _ hl1
          have hlast:out[out.length-1]! = out[out.length-1]:=getElem!_pos out _ hl1
          have hn0:((out.length:Int) == 0)=false:=by simp;intro e;rw [e] at hne;simp at hne
          have hnl2:nl'=false:=by rw [hnl,← hout];rfl
          have hsz2:sz=1:=by rw [hsz,← hout];rfl
          subst hnl2 hsz2
          have hd:nextS out n l[i].t=if laterB out l[i].t=true∧(n<0∨l[i].t<n) then l[i].t else n:=by
            unfold nextS;simp
          have hlb:laterB out l[i].t=decide (out[out.length-1] < l[i].t):=by
            unfold laterB;rw [hlast];simp;intro e;rw [e] at hne;simp at hne
          simp -dsimp [hn0,hT,hl1]
          refine ⟨fun a=>⟨a,fun b=>⟨a,b⟩⟩,VIf.mk (fun h=>?_) (fun h=>?_)⟩
          · refine ⟨2,by omega,?_,by omega⟩
            have e:nextS out n l[i].t=l[i].t:=by
              rw [hd,if_pos]
              rw [hlb]
              simp at h ⊢;omega
            simp [St.le,hn2,e]
          · refine ⟨2,by omega,?_,by omega⟩
            have e:nextS out n l[i].t=n:=by
              rw [hd,if_neg]
              rw [hlb]
              simp at h ⊢;omega
            simp [St.le,hn2,e]
      · have hn2:nextL out (endsOf (l.take i)++two l[i] 2)=nextL out (endsOf (l.take (i+1))):=by rw [hes];rfl
        simp -dsimp [hw]
        refine ⟨i+1,by omega,?_,by omega⟩
        simp [St.le,hn2]
  · obtain rfl:i=l.length:=by omega
    rw [List.take_length,hnx]
    simp -dsimp
    by_cases hkl:k<E.length
    · have hpos:0≤E[k]:=hpos0 _ (List.getElem_mem hkl)
      rw [dif_pos hkl]
      have hsn:=hsn hkl
      have hd:decide (E[k] < 0)=false:=by simp;omega
      simp -dsimp [hd,maxLen]
      refine ⟨fun e=>by rw [hsz];rw [hnl] at e;simp [ez,e],by omega,⟨k+1,false,1⟩,⟨hkl,?_,?_⟩,?_,by simp;omega⟩
      · rw [hsn];simp
      · rw [hsn];simp [ez]
      · simp [St.le,hsn,ints]
        omega
    · rw [dif_neg hkl]
      obtain rfl:k=E.length:=by omega
      rw [List.take_length] at ho
      subst ho
      simp -dsimp
      exact ⟨hnl,hsz⟩
set_option maxRecDepth 4000 in
set_option maxHeartbeats 8000000 in
theorem copy_spec (nl:Bool) (l:List Val) (hl:l.length≤4398046511104):Con Tryz.prog 49 [.c (.sl nl (vals l))] [.fr false 3 (vals l) 0]:=by
  refine spec_of Tryz.func49 rfl (by kernel_rfl) (by simp [Tryz.f49]) (fun w0 K0=>vc_ok _ _ _ (by kernel_rfl) ?_)
  simp only [Tryz.f49]
  simp -dsimp [maxLen]
  omega
theorem copy_frz (nl:Bool) (l:List Val) (hl:l.length≤4398046511104):Con Tryz.prog 49 [.c (.sl nl (vals l))] [.c (.sl false (vals l))]:=Con.frz (copy_spec nl l hl) 0 rfl
set_option maxRecDepth 4000 in
set_option maxHeartbeats 16000000 in
theorem with_spec (nl nr:Bool) (rs:List (List Val)) (r:List Val) (hl:rs.length≤1000000000) (hr:r.length≤4398046511104) :
    Con Tryz.prog 100 [.c (.sl nl (rowsC rs)),.c (.sl nr (vals r))] [.fr false 1 (rowsC (insR r rs)) 0]:=by
  refine spec_of Tryz.func100 rfl (by kernel_rfl) (by simp [Tryz.f100]) (fun w0 K0=>vc_ok _ _ _ (by kernel_rfl) ?_)
  simp only [Tryz.f100]
  simp -dsimp
  refine VL.loop (fun i:KI=>⟨[(7,.c (i64 i.k)),(6,.c (bln ((rs.take i.k).any (before r)))),(5,.own 320 (insK r rs i.k).length),(0,.c (.sl nl (rowsC rs))),(1,.c (.sl nr (vals r)))],[(320,some (.arr i.nl i.sz (rowsC (insK r rs i.k)) 0))]⟩)
    (fun i=>i.k≤rs.length∧RI i (insK r rs i.k)) (fun i=>rs.length-i.k) ⟨0,true,0⟩ (by kernel_rfl) ⟨by simp,rfl,rfl⟩ (by simp [St.le,insK,rowsC]) ?_
  intro ⟨k,z,sz⟩ ⟨hk,hz,hsz⟩
  simp only at hk hz hsz
  have hkl:=insK_len r rs k
  by_cases h1:k<rs.length
  · have hw:IntKind.i64.wrap ((k:Int)+1)=(k:Int)+1:=IntWalk.i64_in _ (by omega)
    simp -dsimp [h1]
    by_cases hd:(rs.take k).any (before r)=true
    · obtain ⟨e1,e2⟩:=insK_done h1 hd
      rw [hd]
      simp -dsimp [h1]
      refine VG.mk [.c (i64 0)] _ (fun h=>Bool.noConfusion h) rfl ?_
      simp -dsimp [h1,hw,maxLen]
      refine ⟨fun e=>by rw [hsz,e];rfl,by omega,⟨k+1,false,1⟩,⟨by simp only;omega,?_⟩,?_,by simp only;omega⟩
      · rw [e2];exact RI.next
      · simp only [e1,e2,rowsC_snoc,List.length_append]
        simp [St.le]
    · have hd':(rs.take k).any (before r)=false:=by simpa using hd
      rw [hd']
      simp -dsimp [h1]
      refine VG.mk [.c (i64 (cmpR r rs[k]))] _ (fun _=>refCompare_spec _ _ r rs[k] (by omega)) rfl ?_
      simp -dsimp
      refine VIf.mk (fun h=>?_) (fun h=>?_)
      · obtain ⟨e1,e2⟩:=insK_now h1 hd' h
        simp -dsimp
        refine VC.mk _ (copy_frz nr r hr) ?_
        simp -dsimp [h1,hw,maxLen]
        refine ⟨fun e=>by rw [hsz,e];rfl,by omega,by omega,⟨k+1,false,1⟩,⟨by simp only;omega,?_⟩,?_,by simp only;omega⟩
        · rw [e2];exact RI.next
        · simp only [e1,e2,rowsC_snoc,List.length_append]
          simp [St.le]
      · obtain ⟨e1,e2⟩:=insK_not h1 hd' h
        simp -dsimp [h1,hw,maxLen]
        refine ⟨fun e=>by rw [hsz,e];rfl,by omega,⟨k+1,false,1⟩,⟨by simp only;omega,?_⟩,?_,by simp only;omega⟩
        · rw [e2];exact RI.next
        · simp only [e1,e2,rowsC_snoc,List.length_append]
          simp [St.le]
  · obtain rfl:k=rs.length:=by omega
    simp -dsimp
    have e3:insK r rs rs.length=if rs.any (before r) then insR r rs else rs:=by unfold insK;rw [List.take_length]
    refine VIf.mk (fun h=>?_) (fun h=>?_)
    · have h':rs.any (before r)=false:=by simpa using h
      have e4:insR r rs=rs++[r]:=by have:=insR_no r rs [] h';rw [List.append_nil] at this;rw [this];rfl
      rw [h',if_neg (by simp)] at e3
      rw [e3] at hz ⊢
      simp -dsimp
      refine VC.mk _ (copy_frz nr r hr) ?_
      simp -dsimp [maxLen]
      rw [e4,rowsC_snoc]
      exact ⟨fun e=>by rw [hsz,e];rfl,by omega,rfl,by simp⟩
    · have h':rs.any (before r)=true:=by simpa using h
      rw [h',if_pos rfl] at e3
      rw [e3] at hz ⊢
      simp -dsimp
      have hne:(insR r rs).isEmpty=false:=by
        have:=insR_len r rs
        cases hx:insR r rs with
        | nil=>rw [hx] at this;simp at this
        | cons=>rfl
      rw [hne] at hz
      exact ⟨hz,by rw [hsz,hz];rfl⟩
theorem with_frz (nl nr:Bool) (rs:List (List Val)) (r:List Val) (hl:rs.length≤1000000000) (hr:r.length≤4398046511104) :
    Con Tryz.prog 100 [.c (.sl nl (rowsC rs)),.c (.sl nr (vals r))] [.c (.sl false (rowsC (insR r rs)))]:=Con.frz (with_spec nl nr rs r hl hr) 0 rfl
theorem refHas_at (cs:List C) (p:Per) (t:Int) (h:cs=p.cells):Con Tryz.prog 64 [.agg cs,.c (i64 t)] [.c (bln (has p t))]:=by rw [h];exact refHas_spec p t
set_option maxRecDepth 4000 in
set_option maxHeartbeats 16000000 in
theorem rows_spec (nl:Bool) (l:List Fact) (t:Int) (hl:l.length≤1000000000) (hr:Rows1 l) :
    Con Tryz.prog 65 [.c (.sl nl (facts l)),.c (i64 t)] [.c (.sl (rowsAt l t).isEmpty (rowsC (rowsAt l t)))]:=by
  refine spec_of Tryz.func65 rfl (by kernel_rfl) (by simp [Tryz.f65]) (fun w0 K0=>vc_ok _ _ _ (by kernel_rfl) ?_)
  simp only [Tryz.f65]
  simp -dsimp
  refine VL.snap 5 ?_
  simp -dsimp
  refine VL.loop (fun k:Nat=>⟨[(6,.c (i64 k)),(5,.c (.sl (rowsAt (l.take k) t).isEmpty (rowsC (rowsAt (l.take k) t)))),(0,.c (.sl nl (facts l))),(1,.c (i64 t))],[]⟩)
    (fun k=>k≤l.length) (fun k=>l.length-k) 0 (by kernel_rfl) (by simp) (by simp [St.le,rowsAt,rowsC]) ?_
  intro k hk
  have hkl:=rowsAt_len (l.take k) t
  rw [List.length_take] at hkl
  by_cases h1:k<l.length
  · have hw:IntKind.i64.wrap ((k:Int)+1)=(k:Int)+1:=IntWalk.i64_in _ (by omega)
    have hsn:=rowsAt_snoc l t h1
    simp -dsimp [h1,Fact.cells]
    refine VC.mk _ (refRight_at _ l[k].p rfl) ?_
    simp -dsimp [h1,Fact.cells]
    refine VG.mk [.c (bln (has l[k].p t))] _ (fun _=>refHas_at _ l[k].p t rfl) rfl ?_
    simp -dsimp
    refine VIf.mk (fun h=>?_) (fun h=>?_)
    · rw [show validAt l[k] t=true from h,if_pos rfl] at hsn
      simp -dsimp [h1,Fact.cells]
      refine VC.mk _ (with_frz (rowsAt (l.take k) t).isEmpty l[k].nl (rowsAt (l.take k) t) l[k].row (by omega) (Nat.le_trans (hr _ (List.getElem_mem h1)) (by decide))) ?_
      have hne:(insR l[k].row (rowsAt (l.take k) t)).isEmpty=false:=insR_ne _ _
      simp -dsimp [hw]
      refine ⟨k+1,by omega,?_,by omega⟩
      simp [St.le,hsn,hne]
    · rw [show validAt l[k] t=false from h,if_neg (by simp)] at hsn
      simp -dsimp [hw]
      refine ⟨k+1,by omega,?_,by omega⟩
      simp [St.le,hsn]
  · obtain rfl:k=l.length:=by omega
    rw [List.take_length]
    simp -dsimp
def atT (l:List Fact) (t:Int):List (List Val):=(l.filter fun f=>validAt f t).map Fact.row
theorem cnt_at (l:List Fact) (r:List Val) (t:Int):cnt l r t=(atT l t).count r:=by
  unfold cnt atT
  rw [List.count_eq_countP,List.countP_map,List.countP_eq_length_filter,List.filter_filter]
  congr 1
  refine List.filter_congr fun f _=>?_
  rw [Bool.eq_iff_iff]
  simp
theorem fm_congr {α β:Type} {f g:α→List β} : ∀ {l:List α},(∀ x∈l,f x=g x)→l.flatMap f=l.flatMap g
  | [],_=>rfl
  | x::l,h=>by rw [List.flatMap_cons,List.flatMap_cons,h x (by simp),fm_congr fun y hy=>h y (by simp [hy])]
def rowW (fl:List Val→Bool) (r:List Val):List C:=[.sl (fl r) (vals r)]
def rowsW (fl:List Val→Bool) (rs:List (List Val)):List (List C):=rs.map (rowW fl)
@[simp] theorem rowsW_len (fl:List Val→Bool) (rs:List (List Val)):(rowsW fl rs).length=rs.length:=by simp [rowsW]
@[simp] theorem rowsW_get (fl:List Val→Bool) (rs:List (List Val)) (k:Nat) (h:k<(rowsW fl rs).length):(rowsW fl rs)[k]=[.sl (fl (rs[k]'(by simpa using h))) (vals (rs[k]'(by simpa using h)))]:=by simp [rowsW,rowW]
theorem rowsW_snoc (fl:List Val→Bool) (rs:List (List Val)) (r:List Val):rowsW fl (rs++[r])=rowsW fl rs++[[.sl (fl r) (vals r)]]:=by simp [rowsW,rowW]
theorem refEdges_frz (nl:Bool) (l:List Per) (hl:l.length≤8796093022207) :
    Con Tryz.prog 106 [.c (.sl nl (l.map Per.cells))] [.c (.sl (edgesL l).isEmpty (ints (edgesL l)))]:=Con.frz (refEdges_spec nl l hl) 0 rfl
set_option maxRecDepth 4000 in
set_option maxHeartbeats 16000000 in
theorem edges13_spec (nl:Bool) (l:List Fact) (hl:l.length≤1000000000) :
    Con Tryz.prog 82 [.c (.sl nl (facts l))] [.c (.sl (edgesL (pers l)).isEmpty (ints (edgesL (pers l))))]:=by
  refine spec_of Tryz.func82 rfl (by kernel_rfl) (by simp [Tryz.f82]) (fun w0 K0=>vc_ok _ _ _ (by kernel_rfl) ?_)
  simp only [Tryz.f82]
  simp -dsimp
  refine VL.loop (fun i:KI=>⟨[(4,.c (i64 i.k)),(3,.own 192 i.k),(0,.c (.sl nl (facts l)))],[(192,some (.arr i.nl i.sz ((l.take i.k).map fun f=>f.p.cells) 0))]⟩)
    (fun i=>i.k≤l.length∧i.nl=(l.take i.k).isEmpty∧i.sz=if i.nl then 0 else 2) (fun i=>l.length-i.k) ⟨0,true,0⟩ (by kernel_rfl) ⟨by simp,rfl,rfl⟩ (by simp [St.le]) ?_
  intro ⟨k,z,sz⟩ ⟨hk,hz,hsz⟩
  simp only at hk hz hsz
  have hmin:min k l.length=k:=by omega
  by_cases h1:k<l.length
  · have hw:IntKind.i64.wrap ((k:Int)+1)=(k:Int)+1:=IntWalk.i64_in _ (by omega)
    simp -dsimp [h1,Fact.cells,hw,hmin,maxLen]
    have htk:List.take (k+1) (List.map (fun f:Fact=>f.p.cells) l)=List.take k (List.map (fun f:Fact=>f.p.cells) l)++[l[k].p.cells]:=by
      have:=congrArg (List.map fun f:Fact=>f.p.cells) (take_snoc h1);rw [List.map_append,List.map_take,List.map_take] at this;exact this
    have hne:(l.take (k+1)).isEmpty=false:=by rw [take_snoc h1];cases l.take k <;> rfl
    refine ⟨fun e=>by rw [hsz,e];rfl,by omega,⟨k+1,false,2⟩,⟨by simp only;omega,hne.symm,rfl⟩,?_,by simp only;omega⟩
    simp only [Per.cells] at htk
    simp [St.le,htk,Per.cells]
  · obtain rfl:k=l.length:=by omega
    simp -dsimp
    refine VCL.snap ?_
    simp -dsimp
    have he:=refEdges_frz z (pers l) (by simp;omega)
    rw [show (pers l).map Per.cells=l.map (fun f:Fact=>f.p.cells) from List.map_map ..] at he
    refine VC.mk _ he ?_
    simp -dsimp
set_option maxRecDepth 4000 in
set_option maxHeartbeats 16000000 in
theorem cells_spec0 (nl:Bool) (l:List Fact) (hl:l.length≤1000000000) (hr:Rows1 l) :
    Con Tryz.prog 52 [.c (.sl nl (facts l))] [.fr (decide ((edgesL (pers l)).length≤1)) (if (edgesL (pers l)).length≤1 then 0 else 3) (cellsC l (edgesL (pers l)) ((edgesL (pers l)).length-1)) 0]:=by
  refine spec_of Tryz.func52 rfl (by kernel_rfl) (by simp [Tryz.f52]) (fun w0 K0=>vc_ok _ _ _ (by kernel_rfl) ?_)
  simp only [Tryz.f52]
  simp -dsimp
  refine VC.mk _ (edges13_spec nl l hl) ?_
  have hE:=edgesL_len (pers l)
  rw [List.length_map] at hE
  generalize edgesL (pers l)=E at hE ⊢
  simp -dsimp
  refine VL.loop (fun i:KI=>⟨[(5,.c (i64 i.k)),(4,.own 256 i.k),(3,.c (.sl E.isEmpty (ints E))),(0,.c (.sl nl (facts l)))],[(256,some (.arr i.nl i.sz (cellsC l E i.k) 0))]⟩)
    (fun i=>i.k≤E.length-1∧i.nl=decide (i.k=0)∧i.sz=if i.nl then 0 else 3) (fun i=>E.length-i.k) ⟨0,true,0⟩ (by kernel_rfl) ⟨by simp,rfl,rfl⟩ (by simp [St.le,cellsC]) ?_
  intro ⟨k,z,sz⟩ ⟨hk,hz,hsz⟩
  simp only at hk hz hsz
  have hw:IntKind.i64.wrap ((k:Int)+1)=(k:Int)+1:=IntWalk.i64_in _ (by omega)
  by_cases h1:k+1<E.length
  · have h0:k<E.length:=by omega
    have hlt:((k:Int)+1<(E.length:Int))=True:=by simp;omega
    simp -dsimp [hw,hlt,h0,h1]
    refine VL.draw (by kernel_rfl) [(0,false),(0,false),(0,false),(6,false),(14,false),(0,false),(0,false),(64,false),(224,false),(480,false),(0,false),(0,false),(0,false),(6144,false),(14336,false),(31744,false),(65534,false),(131070,false),(262143,true),(524287,true)] (by kernel_rfl) ?_
    simp -dsimp [hw,hlt,h0,h1]
    refine ⟨by omega,VCE.mk _ (rows_spec nl l E[k] hl hr) ?_⟩
    simp -dsimp [hw,maxLen]
    refine ⟨fun e=>by rw [hsz,e];rfl,by omega,⟨k+1,false,3⟩,⟨by simp only;omega,by simp,rfl⟩,?_,by simp only;omega⟩
    have g1:=ge_pos E k h0
    have g2:=ge_pos E (k+1) h1
    simp [St.le,cellsC_snoc,cellC,g1,g2]
  · have hlt:((k:Int)+1<(E.length:Int))=False:=by simp;omega
    simp -dsimp [hw,hlt]
    obtain e:k=E.length-1:=by omega
    refine ⟨⟨?_,?_,by rw [e]⟩,e.symm⟩
    · rw [hz];exact decide_eq_decide.2 (by omega)
    · rw [hsz,hz]
      by_cases h:E.length≤1
      · rw [if_pos h,if_pos (by simp;omega)]
      · rw [if_neg h,if_neg (by simp;omega)]
theorem cells_spec (nl:Bool) (l:List Fact) (hl:l.length≤1000000000) (hr:Rows1 l) :
    Con Tryz.prog 52 [.c (.sl nl (facts l))] [.c (.sl (decide ((edgesL (pers l)).length≤1)) (cellsC l (edgesL (pers l)) ((edgesL (pers l)).length-1)))] :=
  (cells_spec0 nl l hl hr).frz 0 rfl
end Go.Proofs.YtlphpbcafplnbaaGreat
