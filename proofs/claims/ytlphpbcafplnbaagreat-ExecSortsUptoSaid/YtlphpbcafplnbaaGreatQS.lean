/- Contracts of functions of the seat, proved in a logic on data over the model (part QS). -/
import Derived.Test.YtlphpbcafplnbaaGreatO3
import Derived.Test.YtlphpbcafplnbaaGreatBY
import Derived.Test.YtlphpbcafplnbaaGreatS4
import Derived.Test.YtlphpbcafplnbaaGreatE3
import Derived.Shelf.SlSortCmp.NoneTotal
import Derived.Shelf.SlicesG.Cmp
import Derived.Test.YtlphpbcafplnbaaGreatQ7
import Derived.Test.YtlphpbcafplnbaaGreatB1
set_option linter.unusedSimpArgs false
set_option linter.unusedVariables false
namespace Go.Proofs.YtlphpbcafplnbaaGreat
open Go.VL Go.RowKit
def bothF (x y:Fact):Fact:=mkF (x.row++y.row) (lap x.p y.p)
theorem concatV_at (b:Bool) (xs:List (List C)) (n1 n2:Bool) (r1 r2:List Val) (h:xs=[[.sl n1 (vals r1)],[.sl n2 (vals r2)]]) (hR:r1.length+r2.length≤4398046511104):Con Tryz.prog 218 [.c (.sl b xs)] [.c (.sl (r1++r2).isEmpty (vals (r1++r2)))]:=by
  have:=concatV_spec b [(n1,r1),(n2,r2)] (by simp) (by simpa [catR] using hR)
  rw [h]
  simpa [catR,listR] using this
set_option maxRecDepth 4000 in
set_option maxHeartbeats 8000000 in
theorem both_spec (x y:Fact) (h:x.row.length+y.row.length≤4398046511104):Con Tryz.prog 216 [.agg x.cells,.agg y.cells] [.ag (bothF x y).cells,.c (bln (lapOk x.p y.p))]:=by
  refine spec_of Tryz.func216 rfl (by kernel_rfl) (by simp [Tryz.f216]) (fun w0 K0=>vc_ok _ _ _ (by kernel_rfl) ?_)
  simp only [Tryz.f216]
  simp -dsimp [Fact.cells]
  refine VC.mk _ (overlap_at _ _ x.p y.p rfl rfl) ?_
  simp -dsimp [Per.cells]
  refine VL.draw (by kernel_rfl) [(0,false),(1,false),(0,false),(4,false),(15,false),(31,false),(0,false),(127,false),(0,false),(255,false),(1023,true)] (by kernel_rfl) ?_
  simp -dsimp
  refine ⟨by decide,VCE.mk _ (concatV_at false _ x.nl y.nl x.row y.row rfl h) ?_⟩
  simp -dsimp
  simp [bothF,mkF,Fact.cells]
def joinK (a:List Fact) (b:List Fact):List Fact:=a.flatMap fun x=>(b.filter fun y=>lapOk x.p y.p).map (bothF x)
def Opt.out:Opt→List Fact
  | .scan _ l=>l
  | .filter o _ ts=>o.out.filter fun x=>holdsT x.row ts
  | .during o p=>(o.out.filter fun x=>lapOk x.p p).map fun x=>⟨x.nl,x.row,lap x.p p⟩
  | .nested a b=>joinK a.out b.out
def Opt.nl:Opt→Bool
  | .scan nl _=>nl
  | .filter o _ ts=>(Opt.filter o true ts).out.isEmpty
  | .during o p=>(Opt.during o p).out.isEmpty
  | .nested a b=>(Opt.nested a b).out.isEmpty
def MaxF:Nat:=3518437208883
def Opt.Ok:Opt→Prop
  | .scan _ l=>l.length≤MaxF
  | .filter o _ ts=>o.Ok∧TOk ts∧ts.length≤1000000000000∧o.out.length≤MaxF∧∀ x∈o.out,VFit x.row
  | .during o p=>o.Ok∧o.out.length≤MaxF
  | .nested a b=>a.Ok∧b.Ok∧a.out.length≤MaxF∧b.out.length≤MaxF∧(joinK a.out b.out).length≤MaxF∧∀ x∈a.out,∀ y∈b.out,x.row.length+y.row.length≤4398046511104
def RunCon (o:Opt):Prop:=Con Tryz.prog o.fn [.agg o.tc.2] [.c (.sl o.nl (facts o.out))]
theorem filter_snoc {α:Type} {p:α→Bool} {l:List α} {k:Nat} (h:k<l.length):(l.take (k+1)).filter p=(l.take k).filter p++if p l[k] then [l[k]] else []:=by
  rw [take_snoc h,List.filter_append]
  by_cases e:p l[k]=true <;> simp [e]
theorem joinK_snoc (a b:List Fact) {k:Nat} (h:k<a.length):joinK (a.take (k+1)) b=joinK (a.take k) b++(b.filter fun y=>lapOk a[k].p y.p).map (bothF a[k]):=by
  unfold joinK
  rw [take_snoc h,List.flatMap_append];simp
theorem joinK_mono (a b:List Fact) (k:Nat):(joinK (a.take k) b).length≤(joinK a b).length:=by
  conv=>rhs;rw [← List.take_append_drop k a]
  unfold joinK
  rw [List.flatMap_append,List.length_append]
  omega
def innK (x:Fact) (b:List Fact) (k:Nat):List Fact:=((b.take k).filter fun y=>lapOk x.p y.p).map (bothF x)
theorem innK_snoc (x:Fact) (b:List Fact) {k:Nat} (h:k<b.length):innK x b (k+1)=innK x b k++if lapOk x.p b[k].p then [bothF x b[k]] else []:=by
  unfold innK
  rw [filter_snoc h,List.map_append]
  by_cases e:lapOk x.p b[k].p=true <;> simp [e]
theorem innK_mono (x:Fact) (b:List Fact) (k:Nat):(innK x b k).length≤(innK x b b.length).length:=by
  unfold innK
  rw [List.take_length,List.length_map,List.length_map]
  exact (List.Sublist.filter _ (List.take_sublist k b)).length_le
set_option maxRecDepth 4000 in
set_option maxHeartbeats 16000000 in
theorem nestedRun_spec (oa ob:Opt) (hra:RunCon oa) (hrb:RunCon ob) (ho:(Opt.nested oa ob).Ok):RunCon (.nested oa ob):=by
  obtain ⟨_,_,ha,hb,hj,hrow⟩:=ho
  unfold MaxF at ha hb hj
  have e:(Opt.nested oa ob).out=joinK oa.out ob.out:=rfl
  unfold RunCon
  rw [show (Opt.nested oa ob).nl=(joinK oa.out ob.out).isEmpty from rfl,e]
  refine Con.frz (rs:=[.fr (joinK oa.out ob.out).isEmpty (if (joinK oa.out ob.out).isEmpty then 0 else 3) (facts (joinK oa.out ob.out)) 0]) ?_ 0 rfl
  show Con Tryz.prog 215 _ _
  refine spec_of Tryz.func215 rfl (by kernel_rfl) (by simp [Tryz.f215]) (fun w0 K0=>vc_ok _ _ _ (by kernel_rfl) ?_)
  simp only [Tryz.f215]
  simp -dsimp [Opt.tc]
  refine VI.mk0 (.agg ob.tc.2) ob.tc.1 ob.fn _ rfl ob.meth hrb ?_
  simp -dsimp
  refine VI.mk0 (.agg oa.tc.2) oa.tc.1 oa.fn _ rfl oa.meth hra ?_
  simp -dsimp
  generalize oa.out=l at *
  generalize ob.out=m at *
  refine VL.loop (fun i:KI=>⟨[(20,.c (i64 i.k)),(19,.c (i64 l.length)),(18,.c (.sl oa.nl (facts l))),(4,.c (.sl ob.nl (facts m))),(3,.own 192 (joinK (l.take i.k) m).length)],[(192,some (.arr i.nl i.sz (facts (joinK (l.take i.k) m)) 0))]⟩)
    (fun i=>i.k≤l.length∧i.nl=(joinK (l.take i.k) m).isEmpty∧i.sz=if i.nl then 0 else 3) (fun i=>l.length-i.k) ⟨0,true,0⟩ (by kernel_rfl) ⟨by simp,rfl,rfl⟩ (by simp [St.le,joinK]) ?_
  intro ⟨k,z,sz⟩ ⟨hk,hz,hsz⟩
  simp only at hk hz hsz
  by_cases h1:k<l.length
  · have hw:IntKind.i64.wrap ((k:Int)+1)=(k:Int)+1:=IntWalk.i64_in _ (by omega)
    have hjn:=joinK_snoc l m h1
    have hjl:=congrArg List.length hjn
    rw [List.length_append] at hjl
    have hjm:=joinK_mono l m (k+1)
    have hin:(List.map (bothF l[k]) (List.filter (fun y=>lapOk l[k].p y.p) m))=innK l[k] m m.length:=by unfold innK;rw [List.take_length]
    rw [hin] at hjn hjl
    have hrk:=fun y hy=>hrow l[k] (List.getElem_mem h1) y hy
    have hcl:l[k].cells=[.sl l[k].nl (vals l[k].row),i64 l[k].p.f,i64 l[k].p.t]:=rfl
    simp -dsimp [h1,hcl]
    generalize l[k]=x at *
    generalize joinK (l.take k) m=out at *
    refine VL.loop (fun i:KI=>⟨[(26,.c (i64 i.k)),(25,.c (i64 m.length)),(24,.c (.sl ob.nl (facts m))),(6,.ptr 384 0),(20,.c (i64 k)),(19,.c (i64 l.length)),(18,.c (.sl oa.nl (facts l))),(4,.c (.sl ob.nl (facts m))),(3,.own 192 (out++innK x m i.k).length)],[(384,some (.box false [.c (.sl x.nl (vals x.row)),.c (i64 x.p.f),.c (i64 x.p.t)])),(192,some (.arr i.nl i.sz (facts (out++innK x m i.k)) 0))]⟩)
      (fun i=>i.k≤m.length∧i.nl=(out++innK x m i.k).isEmpty∧i.sz=if i.nl then 0 else 3) (fun i=>m.length-i.k) ⟨0,z,sz⟩ (by kernel_rfl) ⟨by simp,by simp [innK,hz],hsz⟩ (by simp [St.le,innK]) ?_
    intro ⟨k2,z2,sz2⟩ ⟨hk2,hz2,hsz2⟩
    simp only at hk2 hz2 hsz2
    have him:=innK_mono x m k2
    by_cases h2:k2<m.length
    · have hw2:IntKind.i64.wrap ((k2:Int)+1)=(k2:Int)+1:=IntWalk.i64_in _ (by omega)
      have hsn:=innK_snoc x m h2
      have him2:=innK_mono x m (k2+1)
      have hcl2:m[k2].cells=[.sl m[k2].nl (vals m[k2].row),i64 m[k2].p.f,i64 m[k2].p.t]:=rfl
      have hB:=both_spec x m[k2] (hrk _ (List.getElem_mem h2))
      have hcb:(bothF x m[k2]).cells=[.sl (bothF x m[k2]).nl (vals (bothF x m[k2]).row),i64 (bothF x m[k2]).p.f,i64 (bothF x m[k2]).p.t]:=rfl
      have hcx:x.cells=[.sl x.nl (vals x.row),i64 x.p.f,i64 x.p.t]:=rfl
      simp -dsimp [h2,hcl2]
      rw [hcl2,hcb,hcx] at hB
      refine VC.mk _ hB ?_
      simp -dsimp
      refine VIf.mk (fun h=>?_) (fun h=>?_)
      · rw [h,if_pos rfl] at hsn
        have hlen:=congrArg List.length hsn
        rw [List.length_append] at hlen
        simp only [List.length_cons,List.length_nil] at hlen
        simp -dsimp [hw2,maxLen]
        refine ⟨fun e=>by rw [hsz2,e];rfl,by omega,⟨k2+1,false,3⟩,⟨by simp only;omega,by rw [hsn];simp,rfl⟩,?_,by simp only;omega⟩
        simp [St.le,hsn,hcb] <;> omega
      · rw [h,if_neg (by simp),List.append_nil] at hsn
        simp -dsimp [hw2]
        refine ⟨⟨k2+1,z2,sz2⟩,⟨by simp only;omega,by rw [hsn];exact hz2,hsz2⟩,?_,by simp only;omega⟩
        simp [St.le,hsn]
    · obtain rfl:k2=m.length:=by omega
      simp -dsimp [hw]
      refine ⟨⟨k+1,z2,sz2⟩,⟨by simp only;omega,by rw [hjn];exact hz2,hsz2⟩,?_,by simp only;omega⟩
      simp [St.le,hjn]
  · obtain rfl:k=l.length:=by omega
    rw [List.take_length] at *
    simp -dsimp
    refine ⟨hz,?_⟩
    rw [hsz,hz]
    cases joinK l m <;> simp
structure Src where
  nl:Bool
  fs:List Fact
  cols:Int
  ix:Bool
instance:Inhabited Src:=⟨⟨true,[],0,false⟩⟩
def Src.cells (s:Src):List C:=[.sl s.nl (facts s.fs),i64 s.cols,bln s.ix]
abbrev srcs (l:List Src):List (List C):=l.map Src.cells
structure Qry where
  sn:Bool
  src:List Src
  tn:Bool
  ts:List Tm
  dn:Bool
  du:List Per
def Qry.cells (q:Qry):List C:=[.sl q.sn (srcs q.src),.sl q.tn (terms q.ts),.sl q.dn (q.du.map Per.cells)]
structure Pln where
  swap:Bool
  way:Int
  push:Bool
  early:Bool
  deriving DecidableEq
instance:Inhabited Pln:=⟨⟨false,0,false,false⟩⟩
def Pln.cells (p:Pln):List C:=[bln p.swap,i64 p.way,bln p.push,bln p.early]
def innerB (q:Qry) (p:Pln):Bool:=p.swap || decide ((q.src.length:Int)=1)
def inner (q:Qry) (p:Pln):Src:=if innerB q p then q.src[0]! else q.src[1]!
mutual
def colsT:Tm→List Int
  | .mk op _ _ place _ args=>Go.Lib.compact (sortI ((if op=wColumn then [place] else [])++colsTs args))
def colsTs:List Tm→List Int
  | []=>[]
  | t::r=>colsT t++colsTs r
end
mutual
def moveT (d:Int):Tm→Tm
  | .mk op kd v place _ args=>.mk op kd v (if op=wColumn then IntKind.i64.wrap (place+d) else place) args.isEmpty (moveTs d args)
def moveTs (d:Int):List Tm→List Tm
  | []=>[]
  | t::r=>moveT d t::moveTs d r
end
def fromK (l:List Src) (k:Nat):Int:=((l.take k).map Src.cols).sum
def ownB (cs:List Int) (fr n:Int):Bool:=match cs with
  | []=>false
  | x::r=>decide (fr≤x) && decide ((x::r)[(x::r).length-1]! < fr+n)
def ownT (q:Qry) (i:Nat) (t:Tm):Bool:=ownB (colsT t) (fromK q.src i) (q.src[i]!).cols
def ownL (q:Qry) (i:Nat):List Tm:=(q.ts.filter (ownT q i)).map (moveT (-(fromK q.src i)))
def dig (n:Nat):Nat:=if n=0 then 0 else n.log2+1
theorem dig_half (n:Nat) (h:1≤n):dig n=1+dig (n / 2):=by
  unfold dig
  rw [if_neg (by omega),Nat.log2_def]
  by_cases h2:2≤n
  · rw [if_pos h2,if_neg (by omega)];omega
  · rw [if_neg h2,if_pos (by omega)]
theorem dig_shift:∀ (k n:Nat),2 ^ k≤n→dig n=k+dig (n / 2 ^ k)
  | 0,n,_=>by simp
  | k+1,n,h=>by
    have h1:2 ^ k≤n / 2:=by
      rw [Nat.le_div_iff_mul_le (by omega)];rw [Nat.pow_succ] at h;exact h
    have h0:1≤n:=Nat.le_trans (Nat.one_le_two_pow) h
    rw [dig_half n h0,dig_shift k (n / 2) h1,Nat.div_div_eq_div_mul,show 2*2 ^ k=2 ^ (k+1) from by rw [Nat.pow_succ];omega]
    omega
theorem fd16 (a:Nat):(a:Int).fdiv (2 ^ min 16 IntKind.u64.bits)=((a / 65536:Nat):Int):=by
  have e:(2:Int) ^ min 16 IntKind.u64.bits=65536:=by decide
  rw [e,Int.fdiv_eq_ediv_of_nonneg _ (by decide)]
  rfl
theorem fd8 (a:Nat):(a:Int).fdiv (2 ^ min 8 IntKind.u64.bits)=((a / 256:Nat):Int):=by
  have e:(2:Int) ^ min 8 IntKind.u64.bits=256:=by decide
  rw [e,Int.fdiv_eq_ediv_of_nonneg _ (by decide)]
  rfl
def tab8:List UInt8:=[0,1,2,2,3,3,3,3,4,4,4,4,4,4,4,4,5,5,5,5,5,5,5,5,5,5,5,5,5,5,5,5,6,6,6,6,6,6,6,6,6,6,6,6,6,6,6,6,6,6,6,6,6,6,6,6,6,6,6,6,6,6,6,6,7,7,7,7,7,7,7,7,7,7,7,7,7,7,7,7,7,7,7,7,7,7,7,7,7,7,7,7,7,7,7,7,7,7,7,7,7,7,7,7,7,7,7,7,7,7,7,7,7,7,7,7,7,7,7,7,7,7,7,7,7,7,7,7,8,8,8,8,8,8,8,8,8,8,8,8,8,8,8,8,8,8,8,8,8,8,8,8,8,8,8,8,8,8,8,8,8,8,8,8,8,8,8,8,8,8,8,8,8,8,8,8,8,8,8,8,8,8,8,8,8,8,8,8,8,8,8,8,8,8,8,8,8,8,8,8,8,8,8,8,8,8,8,8,8,8,8,8,8,8,8,8,8,8,8,8,8,8,8,8,8,8,8,8,8,8,8,8,8,8,8,8,8,8,8,8,8,8,8,8,8,8,8,8,8,8,8,8,8,8,8,8]
set_option maxRecDepth 10000 in
theorem tab8_dig:∀ x,x<256→(tab8[x]?.getD 0).toNat=dig x:=by decide +kernel
theorem u8_in {x:Nat} (h:x<256):IntKind.u8.wrap (x:Int)=x:=by
  have e:IntKind.u8.wrap (x:Int)=(x:Int) % 256:=by first | rfl | simp [IntKind.wrap,IntKind.signed,IntKind.bits]
  rw [e];omega
theorem dig_le (n:Nat) (h:n<4294967296):dig n≤32:=by
  unfold dig
  split
  · omega
  · have:=(Nat.log2_lt (by omega:n≠0)).2 (show n<2 ^ 32 from h)
    omega
set_option maxRecDepth 10000 in
set_option maxHeartbeats 4000000 in
theorem len64_spec (n:Nat) (hn:n<4294967296):Con Tryz.prog 75 [.c (.v (.int .u64 n))] [.c (i64 (dig n))]:=by
  refine spec_of Tryz.func75 rfl (by kernel_rfl) (by simp [Tryz.f75]) (fun w0 K0=>vc_ok _ _ _ (by kernel_rfl) ?_)
  simp only [Tryz.f75]
  have h0:¬ (4294967296≤(n:Int)):=by omega
  simp -dsimp [h0]
  have hw8:IntKind.i64.wrap 8=8:=by decide
  have hw16:IntKind.i64.wrap 16=16:=by decide
  have hw24:IntKind.i64.wrap (16+8)=24:=by decide
  refine VIf.mk (fun g=>?_) (fun g=>?_)
  · have hf:=fd16 n
    have hs:=dig_shift 16 n (by simp at g;omega)
    have hx:n / 65536<65536:=by omega
    rw [show (2:Nat) ^ 16=65536 from rfl] at hs
    generalize n / 65536=x at *
    simp -dsimp [hf,hw16]
    refine VIf.mk (fun g2=>?_) (fun g2=>?_)
    · have hf2:=fd8 x
      have hs2:=dig_shift 8 x (by simp at g2;omega)
      have hx8:x / 256<256:=by omega
      rw [show (2:Nat) ^ 8=256 from rfl] at hs2
      generalize x / 256=y at *
      simp -dsimp [hf2,hw16,hw24]
      have hu:=u8_in hx8
      have ht:=tab8_dig _ hx8
      unfold tab8 at ht
      have hdl:=dig_le y (by omega)
      have hw24b:IntKind.i64.wrap 24=24:=by decide
      rw [hw24b,hu,Int.toNat_natCast,ht,IntWalk.i64_in (dig y:Int) (by omega),IntWalk.i64_in _ (by omega)]
      exact ⟨⟨by omega,by omega⟩,by omega⟩
    · have hx8:x<256:=by simp at g2;omega
      simp -dsimp [hw16]
      have hu:=u8_in hx8
      have ht:=tab8_dig _ hx8
      unfold tab8 at ht
      have hdl:=dig_le x (by omega)
      rw [hu,Int.toNat_natCast,ht,IntWalk.i64_in (dig x:Int) (by omega),IntWalk.i64_in _ (by omega)]
      exact ⟨⟨by omega,by omega⟩,by omega⟩
  · simp -dsimp
    refine VIf.mk (fun g2=>?_) (fun g2=>?_)
    · have hf2:=fd8 n
      have hs2:=dig_shift 8 n (by simp at g2;omega)
      have hx8:n / 256<256:=by simp at g;omega
      rw [show (2:Nat) ^ 8=256 from rfl] at hs2
      generalize n / 256=y at *
      simp -dsimp [hf2,hw8]
      have hu:=u8_in hx8
      have ht:=tab8_dig _ hx8
      unfold tab8 at ht
      have hdl:=dig_le y (by omega)
      rw [hu,Int.toNat_natCast,ht,IntWalk.i64_in (dig y:Int) (by omega),IntWalk.i64_in _ (by omega)]
      exact ⟨⟨by omega,by omega⟩,by omega⟩
    · have hx8:n<256:=by simp at g2;omega
      simp -dsimp
      have hu:=u8_in hx8
      have ht:=tab8_dig _ hx8
      unfold tab8 at ht
      have hdl:=dig_le n (by omega)
      rw [hu,Int.toNat_natCast,ht,IntWalk.i64_in (dig n:Int) (by omega),IntWalk.i64_in _ (by omega)]
      exact ⟨⟨by omega,by omega⟩,by omega⟩
def dgI (n:Int):Int:=(dig n.toNat:Int)
theorem len64_at {n:Int} (h0:0≤n) (h1:n≤268435456):Con Tryz.prog 75 [.c (.v (.int .u64 n))] [.c (i64 (dgI n))]:=by
  have:=len64_spec n.toNat (by omega)
  rw [Int.toNat_of_nonneg h0] at this
  exact this
theorem len_of_count:∀ (S J:List Int),(∀ e,S.count e≤J.count e)→S.length≤J.length
  | [],_,_=>by simp
  | x::S,J,h=>by
    have hx:=h x
    rw [List.count_cons_self] at hx
    have hm:x∈J:=List.count_pos_iff.1 (by omega)
    have:=len_of_count S (J.erase x) fun e=>by
      have:=h e
      by_cases he:e=x
      · subst he
        rw [List.count_erase_self]
        rw [List.count_cons_self] at this
        omega
      · rw [List.count_erase_of_ne he]
        rwa [List.count_cons_of_ne (fun h=>he h.symm)] at this
    rw [List.length_erase_of_mem hm] at this
    have:=List.length_pos_of_mem hm
    simp only [List.length_cons]
    omega
theorem cntP_cons (p:Per) (ps:List Per) (t:Int):cntP (p::ps) t=(if has p t then 1 else 0)+cntP ps t:=by
  unfold cntP
  rw [List.filter_cons]
  by_cases h:has p t=true
  · rw [if_pos h,if_pos h,List.length_cons];omega
  · rw [if_neg h,if_neg h];omega
theorem cntP_up (e:Int):∀ (ps:List Per),cntP ps e≤cntP ps (e-1)+(ps.map Per.f).count e
  | []=>by simp [cntP]
  | p::ps=>by
    have ih:=cntP_up e ps
    rw [cntP_cons,cntP_cons,List.map_cons,List.count_cons]
    by_cases h:has p e=true
    · rw [if_pos h]
      by_cases h':has p (e-1)=true
      · rw [if_pos h'];omega
      · rw [if_neg h']
        have:p.f=e:=by
          rw [has_iff] at h h';omega
        rw [if_pos (by simp [this])];omega
    · rw [if_neg h];omega
theorem cntP_down (e:Int):∀ (ps:List Per),cntP ps (e-1)≤cntP ps e+(ps.map Per.t).count e
  | []=>by simp [cntP]
  | p::ps=>by
    have ih:=cntP_down e ps
    rw [cntP_cons,cntP_cons,List.map_cons,List.count_cons]
    by_cases h:has p (e-1)=true
    · rw [if_pos h]
      by_cases h':has p e=true
      · rw [if_pos h'];omega
      · rw [if_neg h']
        have:p.t=e:=by
          rw [has_iff] at h h';omega
        rw [if_pos (by simp [this])];omega
    · rw [if_neg h];omega
theorem canon_starts {u:List Per} (hu:Canon u) {e:Int} : (u.map Per.f).count e≤1∧(0<(u.map Per.f).count e→inL u e=true∧inL u (e-1)=false):=by
  have hn:(u.map Per.f).Nodup:=by
    rw [List.nodup_iff_pairwise_ne,List.pairwise_map]
    refine List.Pairwise.imp_of_mem (fun {p q} hp hq h=>?_) hu.apart
    have:=(right_iff p).1 (hu.ok p hp)
    omega
  refine ⟨List.nodup_iff_count.1 hn e,fun h=>?_⟩
  obtain ⟨p,hp,rfl⟩:=List.mem_map.1 (List.count_pos_iff.1 h)
  have hr:=(right_iff p).1 (hu.ok p hp)
  refine ⟨(inL_iff u _).2 ⟨p,hp,by omega,by omega⟩,?_⟩
  rw [Bool.eq_false_iff]
  intro hin
  obtain ⟨q,hq,h1,h2⟩:=(inL_iff u _).1 hin
  obtain ⟨i,hi,rfl⟩:=List.getElem_of_mem hp
  obtain ⟨j,hj,rfl⟩:=List.getElem_of_mem hq
  have hap:=List.pairwise_iff_getElem.1 hu.apart
  rcases Nat.lt_trichotomy i j with h | h | h
  · have:=hap i j hi hj h;omega
  · subst h;omega
  · have:=hap j i hj hi h;omega
section
variable {sortP:List Per→List Per}
theorem layers_count (hs:Sorts sortP) (row:List Val) {st:List (Per × Int)} {c:Int→Int} (h:StepsOf st c) (e:Int):∀ N,((layersN sortP row st N).map fun f=>f.p.f).count e≤min N (c e).toNat-(c (e-1)).toNat
  | 0=>by simp [layersN]
  | N+1=>by
    have ih:=layers_count hs row h e N
    obtain ⟨u1,u2⟩:=h.union hs N
    rw [layersN_succ,List.map_append,List.count_append,List.map_map]
    have e1:((fun f:Fact=>f.p.f) ∘ mkF row)=Per.f:=rfl
    rw [e1]
    obtain ⟨c1,c2⟩:=canon_starts u1 (e:=e)
    rcases Nat.eq_zero_or_pos (((unionL sortP (here st (N+1))).map Per.f).count e) with h0 | h0
    · rw [h0];omega
    · obtain ⟨d1,d2⟩:=c2 h0
      rw [u2] at d1 d2
      simp at d1 d2
      omega
theorem layers_len (hs:Sorts sortP) (row:List Val) {plus minus:List Per} (hp:∀ p∈plus,right p=true) (hm:∀ p∈minus,right p=true):(layersL sortP row (stepsL plus minus)).length≤plus.length+minus.length:=by
  have h:=stepsL_ok hp hm
  have:=len_of_count ((layersL sortP row (stepsL plus minus)).map fun f=>f.p.f) (plus.map Per.f++minus.map Per.t) fun e=>by
    have h1:=layers_count hs row h e (maxN (stepsL plus minus))
    have h2:=cntP_up e plus
    have h3:=cntP_down e minus
    rw [List.count_append]
    refine Nat.le_trans h1 ?_
    omega
  simpa using this
end
theorem groups_sum:∀ (n:Nat) (l:List Fact),l.length≤n→((groupsL l).map fun x=>x.2.length).sum=l.length
  | n,[],_=>by rw [groupsL_nil];rfl
  | 0,f::l,h=>by simp at h
  | n+1,f::l,h=>by
    have hsub:=List.dropWhile_sublist (alikeR f.row) (l:=l)
    have hlen:=hsub.length_le
    have ih:=groups_sum n (l.dropWhile (alikeR f.row)) (by simp at h;omega)
    rw [groupsL_cons,List.map_cons,List.sum_cons,ih]
    have:=congrArg List.length (List.takeWhile_append_dropWhile (p:=alikeR f.row) (l:=l))
    rw [List.length_append] at this
    simp
    omega
theorem catG_le (G:List Val × List Per→List Fact) (w:List Val × List Per→Nat):∀ (gs:List (List Val × List Per)),(∀ x∈gs,(G x).length≤w x)→(catG G gs).length≤(gs.map w).sum
  | [],_=>by simp
  | x::gs,h=>by
    have ih:=catG_le G w gs fun y hy=>h y (by simp [hy])
    have:=h x (by simp)
    unfold catG at *
    rw [List.flatMap_cons,List.length_append,List.map_cons,List.sum_cons]
    omega
section
variable {sortP:List Per→List Per}
theorem group_right {l:List Fact} {x:List Val × List Per} (h:x∈groupsL (rightL l)):∀ p∈x.2,right p=true:=by
  obtain ⟨_,h2,_⟩:=groups_ok _ (rightL l) (Nat.le_refl _) (sortF_up _)
  obtain ⟨e,_⟩:=h2 x h
  rw [e]
  exact perOf_right l x.1
theorem normal_pre (hs:Sorts sortP) (l:List Fact):(catG (gN sortP) (groupsL (rightL l))).length≤l.length:=by
  have h1:=catG_le (gN sortP) (fun x=>x.2.length) (groupsL (rightL l)) fun x hx=>by
    have:=layers_len hs x.1 (plus:=x.2) (minus:=[]) (group_right hx) (by simp)
    simpa [gN] using this
  rw [groups_sum _ _ (Nat.le_refl _)] at h1
  exact Nat.le_trans h1 (rightL_len l)
theorem normal_len (hs:Sorts sortP) (l:List Fact):(normalL sortP l).length≤l.length:=by
  rw [normalL_eq,sortF_len];exact normal_pre hs l
theorem normal_rows {l:List Fact} {f:Fact} (h:f∈normalL sortP l):∃ g∈l,g.row=f.row:=by
  rw [normalL_eq,(sortF_perm _).mem_iff] at h
  obtain ⟨x,hx,h⟩:=catG_in h
  obtain ⟨⟨g,hg,e⟩,_⟩:=group_in hx
  exact ⟨g,hg,by rw [e,(layers_row h).1]⟩
theorem normal_rows1 {l:List Fact} (h:Rows1 l):Rows1 (normalL sortP l):=fun f hf=>by
  obtain ⟨g,hg,e⟩:=normal_rows hf
  rw [← e];exact h g hg
end
section
variable {sortP:List Per→List Per}
end
theorem catG_leq {sortP:List Per→List Per} (hs:Sorts sortP) (l:List Fact):(catG (gN sortP) (groupsL (rightL l))).length≤l.length:=by
  have:=normal_len hs l
  rw [normalL_eq,sortF_len] at this
  exact this
theorem normal_single {sortP:List Per→List Per} (hs:Sorts sortP) (f:Fact) (h:right f.p=true):∃ g,normalL sortP [f]=[g]∧g.row=f.row:=by
  have h1:=normal_len hs [f]
  have h2:=normal_cnt hs [f] f.row f.p.f
  match hn:normalL sortP [f] with
  | [] =>
    rw [hn] at h2
    exfalso
    have hb:=(right_iff f.p).1 h
    have hv:validAt f f.p.f=true:=by
      unfold validAt
      rw [h,Bool.true_and]
      unfold has
      simp
      omega
    have h3:cnt [f] f.row f.p.f=1:=by unfold cnt;simp [hv]
    rw [h3] at h2
    cases h2
  | [g] =>
    refine ⟨g,rfl,?_⟩
    obtain ⟨g',hg,e⟩:=normal_rows (sortP:=sortP) (l:=[f]) (f:=g) (by rw [hn];simp)
    simp at hg
    rw [← e,hg]
  | g::g2::r=>rw [hn] at h1;simp at h1
abbrev pers (l:List Fact):List Per:=l.map Fact.p
def ge (E:List Int) (k:Nat):Int:=E[k]!
theorem ge_pos (E:List Int) (k:Nat) (h:k<E.length):ge E k=E[k]:=getElem!_pos E k h
def cellC (l:List Fact) (E:List Int) (i:Nat):List C:=[i64 (ge E i),i64 (ge E (i+1)),.sl (rowsAt l (ge E i)).isEmpty (rowsC (rowsAt l (ge E i)))]
def cellsC (l:List Fact) (E:List Int) (k:Nat):List (List C):=(List.range k).map (cellC l E)
@[simp] theorem cellsC_len (l:List Fact) (E:List Int) (k:Nat):(cellsC l E k).length=k:=by simp [cellsC]
theorem cellsC_snoc (l:List Fact) (E:List Int) (k:Nat):cellsC l E (k+1)=cellsC l E k++[cellC l E k]:=by simp [cellsC,List.range_succ]
abbrev RUp (rs:List (List Val)):Prop:=rs.Pairwise fun a b=>cmpR a b≤0
theorem cnt_between {ps:List Per} {l:List Fact} (h:∀ f∈l,f.p∈ps) {i:Nat} (hi:i+1<(edgesL ps).length) {t:Int} (h1:(edgesL ps)[i]! ≤ t) (h2:t<(edgesL ps)[i+1]!) (r:List Val):cnt l r (edgesL ps)[i]! = cnt l r t:=by
  unfold cnt
  congr 1
  refine List.filter_congr fun f hf=>?_
  congr 1
  unfold validAt
  by_cases hr:right f.p=true
  · rw [has_between (h f hf) hr hi h1 h2]
  · simp only [Bool.not_eq_true] at hr
    rw [hr];rfl
theorem cnt_in {ps:List Per} {l:List Fact} (h:∀ f∈l,f.p∈ps) {r:List Val} {t:Int} (hc:0<cnt l r t):∃ i,i+1<(edgesL ps).length∧(edgesL ps)[i]! ≤ t∧t<(edgesL ps)[i+1]! := by
  unfold cnt at hc
  obtain ⟨f,hf⟩:=List.exists_mem_of_length_pos hc
  obtain ⟨hf,hv⟩:=List.mem_filter.1 hf
  rw [Bool.and_eq_true] at hv
  have hv:=hv.2
  unfold validAt at hv
  rw [Bool.and_eq_true,has_iff] at hv
  obtain ⟨hE,hmE⟩:=edgesL_ok ps
  obtain ⟨jf,f1,f2⟩:=mem_get! ((hmE f.p.f).2 ((mem_endsOf _ _).2 ⟨f.p,h f hf,hv.1,.inl rfl⟩))
  obtain ⟨jt,t1,t2⟩:=mem_get! ((hmE f.p.t).2 ((mem_endsOf _ _).2 ⟨f.p,h f hf,hv.1,.inr rfl⟩))
  exact rise_between hE (t:=t) (i:=jf) jt t1 f1 (by omega) (by omega)
section
variable {sortP:List Per→List Per}
end
end Go.Proofs.YtlphpbcafplnbaaGreat
namespace Go.Proofs.YtlphpbcafplnbaaGreat
open Go.Shelf Go.RowKit Go.Lib Go.Sort
def Tryz.sortPer_ren:Go.Shelf.Ren:=⟨fun | 6=>131 | 15=>116 | 14=>149 | 28=>142 | 29=>75 | 20=>158 | 21=>159 | 22=>160 | 23=>161 | 24=>162 | 25=>163 | 26=>164 | 27=>165 | 46=>185 | 47=>152 | 48=>153 | 49=>186 | 50=>187 | 57=>194 | n=>n,fun | 22=>83 | 24=>38 | 25=>231 | 3=>3 | 39=>205 | 0=>0 | 53=>241 | 55=>179 | 4=>4 | 46=>235 | 45=>234 | 50=>156 | 5=>5 | 9=>9 | 66=>249 | 70=>253 | 76=>267 | 77=>221 | n=>n,fun | n=>n⟩
theorem Tryz.sortPer:Go.Proofs.SlLaysF0.n6 Tryz.prog Tryz.sortPer_ren:={ mixed:=by kernel_rfl,f6:=⟨Tryz.f131.name,by decide,Tryz.func131.trans (congrArg some (by kernel_rfl))⟩,f14:=⟨Tryz.f149.name,by decide,Tryz.func149.trans (congrArg some (by kernel_rfl))⟩,f15:=Tryz.func116.trans (congrArg some (by kernel_rfl)),f20:=⟨Tryz.f158.name,by decide,Tryz.func158.trans (congrArg some (by kernel_rfl))⟩,f21:=⟨Tryz.f159.name,by decide,Tryz.func159.trans (congrArg some (by kernel_rfl))⟩,f22:=⟨Tryz.f160.name,by decide,Tryz.func160.trans (congrArg some (by kernel_rfl))⟩,f23:=⟨Tryz.f161.name,by decide,Tryz.func161.trans (congrArg some (by kernel_rfl))⟩,f24:=⟨Tryz.f162.name,by decide,Tryz.func162.trans (congrArg some (by kernel_rfl))⟩,f25:=⟨Tryz.f163.name,by decide,Tryz.func163.trans (congrArg some (by kernel_rfl))⟩,f26:=⟨Tryz.f164.name,by decide,Tryz.func164.trans (congrArg some (by kernel_rfl))⟩,f27:=⟨Tryz.f165.name,by decide,Tryz.func165.trans (congrArg some (by kernel_rfl))⟩,f28:=Tryz.func142.trans (congrArg some (by kernel_rfl)),f29:=Tryz.func75.trans (congrArg some (by kernel_rfl)),f46:=⟨Tryz.f185.name,by decide,Tryz.func185.trans (congrArg some (by kernel_rfl))⟩,f47:=Tryz.func152.trans (congrArg some (by kernel_rfl)),f48:=Tryz.func153.trans (congrArg some (by kernel_rfl)),f49:=⟨Tryz.f186.name,by decide,Tryz.func186.trans (congrArg some (by kernel_rfl))⟩,f50:=⟨Tryz.f187.name,by decide,Tryz.func187.trans (congrArg some (by kernel_rfl))⟩,f57:=⟨Tryz.f194.name,by decide,Tryz.func194.trans (congrArg some (by kernel_rfl))⟩,t0:=Tryz.underlying0,a0:=Tryz.isAgg0,z0:=Tryz.sizeOf0,v0:=Tryz.zeroValue0,t3:=Tryz.underlying3,a3:=Tryz.isAgg3,z3:=Tryz.sizeOf3,v3:=Tryz.zeroValue3,t4:=Tryz.underlying4,a4:=Tryz.isAgg4,z4:=Tryz.sizeOf4,v4:=Tryz.zeroValue4,t5:=Tryz.underlying5,a5:=Tryz.isAgg5,z5:=Tryz.sizeOf5,v5:=Tryz.zeroValue5,t9:=Tryz.underlying9,a9:=Tryz.isAgg9,z9:=Tryz.sizeOf9,v9:=Tryz.zeroValue9,t22:=Tryz.underlying83,a22:=Tryz.isAgg83,z22:=Tryz.sizeOf83,v22:=Tryz.zeroValue83,t25:=Tryz.underlying231,a25:=Tryz.isAgg231,z25:=Tryz.sizeOf231,v25:=Tryz.zeroValue231,t39:=Tryz.underlying205,a39:=Tryz.isAgg205,z39:=Tryz.sizeOf205,v39:=Tryz.zeroValue205,t45:=Tryz.underlying234,a45:=Tryz.isAgg234,z45:=Tryz.sizeOf234,v45:=Tryz.zeroValue234,t46:=Tryz.underlying235,a46:=Tryz.isAgg235,z46:=Tryz.sizeOf235,v46:=Tryz.zeroValue235,t50:=Tryz.underlying156,a50:=Tryz.isAgg156,z50:=Tryz.sizeOf156,v50:=Tryz.zeroValue156,t53:=Tryz.underlying241,a53:=Tryz.isAgg241,z53:=Tryz.sizeOf241,v53:=Tryz.zeroValue241,t55:=Tryz.underlying179,a55:=Tryz.isAgg179,z55:=Tryz.sizeOf179,v55:=Tryz.zeroValue179,t66:=Tryz.underlying249,a66:=Tryz.isAgg249,z66:=Tryz.sizeOf249,v66:=Tryz.zeroValue249,t70:=Tryz.underlying253,a70:=Tryz.isAgg253,z70:=Tryz.sizeOf253,v70:=Tryz.zeroValue253,t76:=Tryz.underlying267,a76:=Tryz.isAgg267,z76:=Tryz.sizeOf267,v76:=Tryz.zeroValue267,t77:=Tryz.underlying221,a77:=Tryz.isAgg221,z77:=Tryz.sizeOf221,v77:=Tryz.zeroValue221 }
def Tryz.cmpInt_ren:Go.Shelf.Ren:=⟨fun | 5=>58 | 7=>93 | n=>n,fun | 22=>2 | 3=>3 | 4=>4 | n=>n,fun | n=>n⟩
theorem Tryz.cmpInt:Go.Proofs.SlLaysC2.n5 Tryz.prog Tryz.cmpInt_ren:={ mixed:=by kernel_rfl,f5:=⟨Tryz.f58.name,by decide,Tryz.func58.trans (congrArg some (by kernel_rfl))⟩,f7:=⟨Tryz.f93.name,by decide,Tryz.func93.trans (congrArg some (by kernel_rfl))⟩,t3:=Tryz.underlying3,a3:=Tryz.isAgg3,z3:=Tryz.sizeOf3,v3:=Tryz.zeroValue3,t4:=Tryz.underlying4,a4:=Tryz.isAgg4,z4:=Tryz.sizeOf4,v4:=Tryz.zeroValue4,t22:=Tryz.underlying2,a22:=Tryz.isAgg2,z22:=Tryz.sizeOf2,v22:=Tryz.zeroValue2 }
def encP (p:Per):List Value:=[.int .i64 p.f,.int .i64 p.t]
set_option maxHeartbeats 1000000 in
theorem closure31 (x y:Per) (W:World):Calls Tryz.prog 132 #[.agg #[.int .i64 x.f,.int .i64 x.t],.agg #[.int .i64 y.f,.int .i64 y.t]] W fun e w'=>e = .returned (.int .i64 (Lib.compareInt x.f y.f))∧∃ q os',w'=grow (W.drewN q) os':=by
  have hcon:=fun W'=>AnyG.cmp_Compare_int Tryz.cmpInt x.f y.f W'
  change ∀ W',Calls Tryz.prog 58 _ _ _ at hcon
  generalize Lib.compareInt x.f y.f=r at hcon ⊢
  go_enter Tryz.func132,Tryz.ntmps132
  go_wp2_with (go_at_call 58;refine (hcon _).mono ?_;rintro e w' ⟨rfl,rfl⟩)
  go_ret
  exact ⟨rfl,0,_,by rw [alloc_eq_grow,alloc_eq_grow,grow_grow];rfl⟩
theorem cmpLays31 (blk off size:Nat) (w:World):CmpLays Tryz.prog 132 #[] encP 2 (fun x y=>Lib.compareInt x.f y.f) blk off size w :=
  fun _ _ _ _ x y=>closure31 x y _
theorem ltF (x y:Per):ltOf (fun x y:Per=>Lib.compareInt x.f y.f) x y=decide (x.f<y.f):=by
  unfold ltOf Lib.compareInt
  by_cases h1:x.f<y.f
  · simp [h1]
  · by_cases h2:y.f<x.f <;> simp [h1,h2]
theorem swoF:SWO (ltOf fun x y:Per=>Lib.compareInt x.f y.f) where
  irrefl x:=by rw [ltF];simp
  trans x y z h1 h2:=by rw [ltF] at *;simp at *;omega
  ntrans x y z h1 h2:=by rw [ltF] at *;simp at *;omega
def sortP (l:List Per):List Per:=(pdq (ltOf fun x y:Per=>Lib.compareInt x.f y.f) l.toArray 0 l.toArray.size (Lib.bitLen l.toArray.size) true true).toList
theorem sortP_pdq (l:List Per):PermIn 0 l.toArray.size l.toArray (pdq (ltOf fun x y:Per=>Lib.compareInt x.f y.f) l.toArray 0 l.toArray.size (Lib.bitLen l.toArray.size) true true)∧SortedIn (ltOf fun x y:Per=>Lib.compareInt x.f y.f) 0 l.toArray.size (pdq (ltOf fun x y:Per=>Lib.compareInt x.f y.f) l.toArray 0 l.toArray.size (Lib.bitLen l.toArray.size) true true) :=
  pdq_sorts (ltOf fun x y:Per=>Lib.compareInt x.f y.f) swoF l.toArray 0 l.toArray.size (Lib.bitLen l.toArray.size) true true (Nat.zero_le _) (Nat.le_refl _) (Or.inl rfl)
theorem sortP_len (l:List Per):(sortP l).length=l.length:=by
  have:=(sortP_pdq l).1.1
  unfold sortP
  simpa using this
theorem sortP_perm (l:List Per):(sortP l).Perm l:=by
  have h:=(sortP_pdq l).1
  have h1:=h.1
  have h2:=h.2.2
  unfold sortP
  generalize pdq (ltOf fun x y:Per=>Lib.compareInt x.f y.f) l.toArray 0 l.toArray.size (Lib.bitLen l.toArray.size) true true=d at *
  have e1:d.extract 0 l.toArray.size=d:=by rw [← h1];simp
  have e2:l.toArray.extract 0 l.toArray.size=l.toArray:=by simp
  rw [e1,e2] at h2
  simpa using h2
theorem sortP_sorted (l:List Per):(sortP l).Pairwise fun x y=>x.f≤y.f:=by
  have h:=(sortP_pdq l).2
  have h1:=(sortP_pdq l).1.1
  unfold sortP
  generalize pdq (ltOf fun x y:Per=>Lib.compareInt x.f y.f) l.toArray 0 l.toArray.size (Lib.bitLen l.toArray.size) true true=d at *
  rw [List.pairwise_iff_getElem]
  intro i j hi hj hij
  simp only [Array.length_toList] at hi hj
  have:=h i j (Nat.zero_le _) hij (by omega)
  rw [ltF,getElem!_pos d i hi,getElem!_pos d j hj] at this
  simpa using this
theorem sorts_ok:Go.Proofs.YtlphpbcafplnbaaGreat.Sorts sortP:=by
  refine ⟨sortP_len,sortP_perm,sortP_sorted,fun l hl=>?_,?_⟩
  · refine Go.VL.ConB.sort (enc:=encP) (k:=2) (cells:=Per.cells) (fun x=>rfl) (fun x=>rfl) ?_ (by kernel_rfl) l (sortP l) (sortP_len l) ?_
    · intro x v hv
      simp [encP] at hv
      rcases hv with rfl | rfl <;> rfl
    · intro w b cap hH hb
      have eg:∀ args w,(callFunc 132 args).run Tryz.prog w = .ok (.enter 132 args) w:=enters_of Tryz.func132 (by kernel_rfl) rfl
      have hcon:=AnyQ.slices_SortFunc_eq Tryz.sortPer 2 Tryz.isAgg38 Tryz.sizeOf38 encP (fun _=>rfl) (fun x v hv=>by simp [encP] at hv;rcases hv with rfl | rfl <;> rfl) (fun x y=>Lib.compareInt x.f y.f) swoF 132 #[] b 0 cap l.toArray w eg (cmpLays31 b 0 _ w) hH hb (by simp;omega)
      change Calls Tryz.prog 131 _ _ _ at hcon
      refine hcon.mono ?_
      rintro e w' ⟨he,n,os,hw⟩
      exact ⟨he,n,os,by rw [hw];rfl⟩
  · refine Go.VL.Con.same (by kernel_rfl) fun w K us hd=>?_
    unfold Go.VL.DRs at hd
    rw [Go.VL.SRs] at hd
    obtain ⟨u,us',rfl,hu,hd⟩:=hd
    rw [Go.VL.SRs] at hd
    obtain ⟨u2,us'',rfl,hu2,hd⟩:=hd
    rw [Go.VL.SRs] at hd
    subst hd
    rw [Go.VL.SR,Go.VL.CR] at hu
    have hu':u = .slice none 0 0:=by
      rcases hu with ⟨_,_,h⟩ | ⟨h,_⟩
      · exact h
      · cases h
    subst hu'
    have h:=AnyF.slices_SortFunc_none Tryz.sortPer none 0 u2 w
    exact h
end Go.Proofs.YtlphpbcafplnbaaGreat
