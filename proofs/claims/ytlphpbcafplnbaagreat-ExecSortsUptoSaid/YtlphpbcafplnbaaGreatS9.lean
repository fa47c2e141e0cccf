/- Contracts of functions of the seat, proved in a logic on data over the model (part S9). -/
import Derived.Test.YtlphpbcafplnbaaGreatS8
set_option linter.unusedSimpArgs false
set_option linter.unusedVariables false
namespace Go.Proofs.YtlphpbcafplnbaaGreat
open Go.VL Go.RowKit
section
variable {α:Type} {cf:α→α→Int}
theorem sym_split (hc:Cmp cf) (X Y:List α) (hX:UpS cf X) (hY:UpS cf Y) (a m b mid s e s0 r0:Nat) (hm:m=a+X.length) (hb:b=m+Y.length) (hmid:mid=(a+b) / 2) (h0:mid<m→s0=mid+m-b∧r0=mid) (h1:¬ mid<m→s0=a∧r0=m)
    (hs:s0≤s) (hsr:s≤r0) (he:e+s=mid+m)
    (hlo:∀ c,s0≤c→c<s→∀ (i:c-a<X.length) (j:mid+m-1-c-m<Y.length),0≤cf Y[mid+m-1-c-m] X[c-a]) (hhi:∀ c,s≤c→c<r0→∀ (i:c-a<X.length) (j:mid+m-1-c-m<Y.length),cf Y[mid+m-1-c-m] X[c-a] < 0) :
    stMerge cf X Y=stMerge cf (X.take (s-a)) (Y.take (e-m))++stMerge cf (X.drop (s-a)) (Y.drop (e-m)):=by
  have hsa:a≤s0:=by by_cases q:mid<m; · have:=h0 q;omega
                    · have:=h1 q;omega
  have hrm:r0≤m:=by by_cases q:mid<m; · have:=h0 q;omega
                    · have:=h1 q;omega
  have hem:m≤e:=by by_cases q:mid<m; · have:=h0 q;omega
                   · have:=h1 q;omega
  have heb:e≤b:=by by_cases q:mid<m; · have:=h0 q;omega
                   · have:=h1 q;omega
  have:=stMerge_split hc (X.length+Y.length) (X.take (s-a)) (X.drop (s-a)) (Y.take (e-m)) (Y.drop (e-m)) (by simp;omega) (fun x hx y hy=>by
    obtain ⟨i,hi,rfl⟩:=List.getElem_of_mem hx
    obtain ⟨j,hj,rfl⟩:=List.getElem_of_mem hy
    rw [List.length_take] at hi
    rw [List.length_drop] at hj
    rw [List.getElem_take,List.getElem_drop]
    have hlt:s0<s:=by
      by_cases q:mid<m
      · have:=h0 q;omega
      · have:=h1 q;omega
    have i1:s-1-a<X.length:=by omega
    have j1:mid+m-1-(s-1)-m<Y.length:=by omega
    have key:=hlo (s-1) (by omega) (by omega) i1 j1
    have anti:=hc.anti X[s-1-a] Y[mid+m-1-(s-1)-m]
    have k1:cf X[i] X[s-1-a]≤0:=by
      by_cases q:i=s-1-a
      · subst q;rw [hc.self];exact Int.le_refl _
      · exact up_at hX (by omega) i1
    have k2:cf Y[mid+m-1-(s-1)-m] (Y[e-m+j]'(by omega))≤0:=by
      by_cases q:mid+m-1-(s-1)-m=e-m+j
      · have:Y[mid+m-1-(s-1)-m]=Y[e-m+j]'(by omega):=by simp only [q]
        rw [this,hc.self];exact Int.le_refl _
      · exact up_at hY (by omega) (by omega)
    exact hc.trans _ _ _ k1 (hc.trans _ _ _ (by omega) k2)) (fun y hy x hx=>by
    obtain ⟨i,hi,rfl⟩:=List.getElem_of_mem hx
    obtain ⟨j,hj,rfl⟩:=List.getElem_of_mem hy
    rw [List.length_drop] at hi
    rw [List.length_take] at hj
    rw [List.getElem_take,List.getElem_drop]
    have hlt:s<r0:=by
      by_cases q:mid<m
      · have:=h0 q;omega
      · have:=h1 q;omega
    have i1:s-a<X.length:=by omega
    have j1:mid+m-1-s-m<Y.length:=by omega
    have key:=hhi s (by omega) hlt i1 j1
    have k1:cf (Y[j]'(by omega)) Y[mid+m-1-s-m]≤0:=by
      by_cases q:j=mid+m-1-s-m
      · subst q;rw [hc.self];exact Int.le_refl _
      · exact up_at hY (by omega) j1
    have k2:cf X[s-a] (X[s-a+i]'(by omega))≤0:=by
      by_cases q:i=0
      · subst q;simp only [Nat.add_zero];rw [hc.self];exact Int.le_refl _
      · exact up_at hX (by omega) (by omega)
    exact hc.lt (hc.lt' k1 key) k2)
  rwa [List.take_append_drop,List.take_append_drop] at this
end
theorem mrg_len {cs:List Int} (A X1 X2 Y1 Y2 B:List Fact) {n:Nat} (h:A.length+(X1.length+(X2.length+(Y1.length+(Y2.length+B.length))))=n) :
    (A++(X1++(X2++(Y1++(Y2++B))))).length=n∧(A++(X1++(Y1++(X2++(Y2++B))))).length=n∧(A++(stMerge (cmpC cs) X1 Y1++(X2++(Y2++B)))).length=n ∧
      (A++(stMerge (cmpC cs) X1 Y1++(stMerge (cmpC cs) X2 Y2++B))).length=n∧((A++stMerge (cmpC cs) X1 Y1)++(X2++(Y2++B))).length=n:=by
  simp only [List.length_append,stMerge_len]
  omega
theorem emp_swap {X Y:List Fact} (h:X=[]∨Y=[]) (R:List (List C)):List.map Fact.cells X++(List.map Fact.cells Y++R)=List.map Fact.cells Y++(List.map Fact.cells X++R):=by
  rcases h with rfl | rfl <;> rfl
theorem emp_mrg {cs:List Int} {X Y:List Fact} (h:X=[]∨Y=[]) (R:List (List C)):List.map Fact.cells X++(List.map Fact.cells Y++R)=List.map Fact.cells (stMerge (cmpC cs) X Y)++R:=by
  rcases h with rfl | rfl
  · rw [nil_stMerge];rfl
  · rw [stMerge_nil];simp
theorem with_body {B G:Prop} (h1:B→G) (h2:B):G:=h1 h2
set_option maxRecDepth 20000 in
set_option maxHeartbeats 32000000 in
theorem sym_all (nc:Bool) (cs:List Int) (hcs:cs.length≤1000000000000):∀ (sz:Nat) (A X Y B:List Fact),X.length+Y.length≤sz→0<X.length→0<Y.length→UpS (cmpC cs) X→UpS (cmpC cs) Y→(∀ f∈X,f.row.length≤140737488355328)→(∀ f∈Y,f.row.length≤140737488355328)→SymCon nc cs A X Y B:=by
  intro sz
  induction sz with
  | zero=>intro A X Y B h1 h2;omega
  | succ sz ih =>
  intro A X Y B hsz hX0 hY0 hX hY hrX hrY
  by_cases c1:X.length=1
  · obtain ⟨x,rfl⟩:=List.length_eq_one_iff.1 c1
    exact sym_left nc cs hcs A x Y B hY (hrX x (by simp)) hrY
  by_cases c2:Y.length=1
  · obtain ⟨y,rfl⟩:=List.length_eq_one_iff.1 c2
    exact sym_right nc cs hcs A X y B c1 hX (hrY y (by simp)) hrX
  intro n a m b hn hl ha hm hb
  refine spec_ofB 2 Tryz.func118 rfl (by kernel_rfl) (by simp [Tryz.f118]) (by simp [rowF]) rfl (fun w0 K0 uf=>vc_ok _ _ _ (by kernel_rfl) ?_)
  simp only [Tryz.f118]
  have hw0:IntKind.i64.wrap ((m:Int)-(a:Int))=(X.length:Int):=by rw [IntWalk.i64_in _ (by omega)];omega
  have hX1':((X.length:Int) == 1)=false:=by simp;omega
  have hw1:IntKind.i64.wrap ((b:Int)-(m:Int))=(Y.length:Int):=by rw [IntWalk.i64_in _ (by omega)];omega
  have hY1':((Y.length:Int) == 1)=false:=by simp;omega
  obtain ⟨mid,hmid⟩:∃ mid,mid=(a+b) / 2:=⟨_,rfl⟩
  have hwmid:=half_eq a b mid hmid (by omega) (by omega)
  obtain ⟨N,hN⟩:∃ N,N=mid+m:=⟨_,rfl⟩
  have hwN:IntKind.i64.wrap ((mid:Int)+(m:Int))=(N:Int):=by rw [IntWalk.i64_in _ (by omega)];omega
  obtain ⟨p,hp⟩:∃ p,p+1=N:=⟨N-1,by omega⟩
  have hwp:IntKind.i64.wrap ((N:Int)-1)=(p:Int):=by rw [IntWalk.i64_in _ (by omega)];omega
  have hcase:∃ s0 r0:Nat,(mid<m∧s0=N-b∧r0=mid)∨(¬ mid<m∧s0=a∧r0=m):=by
    by_cases q:mid<m
    · exact ⟨_,_,.inl ⟨q,rfl,rfl⟩⟩
    · exact ⟨_,_,.inr ⟨q,rfl,rfl⟩⟩
  obtain ⟨s0,r0,hcase⟩:=hcase
  have g0:mid<m→s0=mid+m-b∧r0=mid:=fun q=>by
    rcases hcase with ⟨_,e1,e2⟩ | ⟨q2,_⟩
    · exact ⟨by omega,e2⟩
    · exact absurd q q2
  have g1:¬ mid<m→s0=a∧r0=m:=fun q=>by
    rcases hcase with ⟨q2,_⟩ | ⟨_,e1,e2⟩
    · exact absurd q2 q
    · exact ⟨e1,e2⟩
  have b1:a≤s0:=by rcases hcase with ⟨q,e1,e2⟩ | ⟨q,e1,e2⟩ <;> omega
  have b2:s0≤r0:=by rcases hcase with ⟨q,e1,e2⟩ | ⟨q,e1,e2⟩ <;> omega
  have b3:r0≤m:=by rcases hcase with ⟨q,e1,e2⟩ | ⟨q,e1,e2⟩ <;> omega
  have b4:N≤s0+b:=by rcases hcase with ⟨q,e1,e2⟩ | ⟨q,e1,e2⟩ <;> omega
  have b5:r0+m≤N:=by rcases hcase with ⟨q,e1,e2⟩ | ⟨q,e1,e2⟩ <;> omega
  obtain ⟨R,hR⟩:∃ R,R=A++(X++(Y++B)):=⟨_,rfl⟩
  have hRl:R.length=n:=by rw [hR];simp;omega
  have hRX:∀ k,(hk:k<X.length)→R[a+k]? = some X[k]:=fun k hk=>by
    rw [hR,ha]
    have hh:A.length+k<(A++(X++(Y++B))).length:=by simp;omega
    exact (List.getElem?_eq_getElem hh).trans (congrArg some (getX A X Y B k hk hh))
  have hRY:∀ k,(hk:k<Y.length)→R[m+k]? = some Y[k]:=fun k hk=>by
    rw [hR,hm]
    have hh:A.length+X.length+k<(A++(X++(Y++B))).length:=by simp;omega
    exact (List.getElem?_eq_getElem hh).trans (congrArg some (getY A X Y B k hk hh))
  have hc:=Cmp.cols cs
  simp -dsimp [initB,initEnv,pinsOf,rowF,hw0,hX1',hw1,hY1',hwmid,hwN,hwp]
  have hws:mid<m→IntKind.i64.wrap ((N:Int)-(b:Int))=(s0:Int):=fun hq=>by
    rcases hcase with ⟨_,e1,e2⟩ | ⟨q,_⟩
    · rw [IntWalk.i64_in _ (by omega)];omega
    · exact absurd hq q
  have v1:∀ c,s0≤c→c<s0→∀ (i:c-a<X.length) (j:mid+m-1-c-m<Y.length),0≤cmpC cs Y[mid+m-1-c-m] X[c-a]:=fun c h1 h2=>absurd h2 (by omega)
  have v2:∀ c,r0≤c→c<r0→∀ (i:c-a<X.length) (j:mid+m-1-c-m<Y.length),cmpC cs Y[mid+m-1-c-m] X[c-a] < 0:=fun c h1 h2=>absurd h2 (by omega)
  have w1:mid<m→s0=N-b∧r0=mid:=fun hq=>by
    rcases hcase with ⟨_,e1,e2⟩ | ⟨q,_⟩
    · exact ⟨e1,e2⟩
    · exact absurd hq q
  have w2:¬ mid<m→s0=a∧r0=m:=fun hq=>by
    rcases hcase with ⟨q,_⟩ | ⟨_,e1,e2⟩
    · exact absurd q hq
    · exact ⟨e1,e2⟩
  apply with_body
  focus
    intro hbody
    by_cases hq:mid<m
    · have hqd:decide (mid<m)=true:=decide_eq_true hq
      have e1:=(w1 hq).1
      have e2:=(w1 hq).2
      have hws:=hws hq
      simp -dsimp [hqd,hws,hwp]
      exact VL.loop (fun i:I1=>⟨[(20,.c (i64 i.j)),(21,.c (i64 i.q)),(22,.c (i64 p)),(18,.c (i64 mid)),(19,.c (i64 N)),(0,.own 1 n),(1,.c (i64 a)),(2,.c (i64 m)),(3,.c (i64 b)),(4,srtFn nc cs)],(1,some (.arr false 3 (facts R) 0))::pinS5 uf n a m b (.fn 57 [.dp [.sl nc (ints cs)]])⟩)
        (fun i=>s0≤i.j∧i.j≤i.q∧i.q≤r0∧(∀ c,s0≤c→c<i.j→∀ (i:c-a<X.length) (j:mid+m-1-c-m<Y.length),0≤cmpC cs Y[mid+m-1-c-m] X[c-a])∧(∀ c,i.q≤c→c<r0→∀ (i:c-a<X.length) (j:mid+m-1-c-m<Y.length),cmpC cs Y[mid+m-1-c-m] X[c-a] < 0)) (fun i=>i.q-i.j) ⟨s0,r0⟩ (by kernel_rfl) ⟨Nat.le_refl _,b2,Nat.le_refl _,v1,v2⟩ (by rw [hR];simp [St.le,e1,e2]) hbody
    · have hqd:decide (mid<m)=false:=decide_eq_false hq
      have e1:=(w2 hq).1
      have e2:=(w2 hq).2
      simp -dsimp [hqd,hwp]
      exact VL.loop (fun i:I1=>⟨[(20,.c (i64 i.j)),(21,.c (i64 i.q)),(22,.c (i64 p)),(18,.c (i64 mid)),(19,.c (i64 N)),(0,.own 1 n),(1,.c (i64 a)),(2,.c (i64 m)),(3,.c (i64 b)),(4,srtFn nc cs)],(1,some (.arr false 3 (facts R) 0))::pinS5 uf n a m b (.fn 57 [.dp [.sl nc (ints cs)]])⟩)
        (fun i=>s0≤i.j∧i.j≤i.q∧i.q≤r0∧(∀ c,s0≤c→c<i.j→∀ (i:c-a<X.length) (j:mid+m-1-c-m<Y.length),0≤cmpC cs Y[mid+m-1-c-m] X[c-a])∧(∀ c,i.q≤c→c<r0→∀ (i:c-a<X.length) (j:mid+m-1-c-m<Y.length),cmpC cs Y[mid+m-1-c-m] X[c-a] < 0)) (fun i=>i.q-i.j) ⟨s0,r0⟩ (by kernel_rfl) ⟨Nat.le_refl _,b2,Nat.le_refl _,v1,v2⟩ (by rw [hR];simp [St.le,e1,e2]) hbody
  intro ⟨s,r⟩ ⟨h1,h2,h3,hlo,hhi⟩
  simp only at h1 h2 h3 hlo hhi
  by_cases hsr:s<r
  · have hlt:decide (s<r)=true:=decide_eq_true hsr
    obtain ⟨c,hh⟩:∃ c,c=(s+r) / 2:=⟨_,rfl⟩
    have hwc:=half_eq s r c hh (by omega) (by omega)
    have hwc1:IntKind.i64.wrap ((c:Int)+1)=((c+1:Nat):Int):=by rw [IntWalk.i64_in _ (by omega)];rfl
    have hcl:s≤c:=by omega
    have hcr:c<r:=by omega
    obtain ⟨q,hqc⟩:∃ q,q+c=p:=⟨p-c,by omega⟩
    have hwq:IntKind.i64.wrap ((p:Int)-(c:Int))=(q:Int):=by rw [IntWalk.i64_in _ (by omega)];omega
    have ci:c-a<X.length:=by omega
    have qi:mid+m-1-c-m<Y.length:=by omega
    have hRx0:=hRX (c-a) ci
    have hRy0:=hRY (mid+m-1-c-m) qi
    rw [show a+(c-a)=c by omega] at hRx0
    rw [show m+(mid+m-1-c-m)=q by omega] at hRy0
    obtain ⟨hh1,hRx⟩:=List.getElem?_eq_some_iff.1 hRx0
    obtain ⟨hh2,hRy⟩:=List.getElem?_eq_some_iff.1 hRy0
    have hcy:=srt_spec nc cs hcs Y[mid+m-1-c-m] X[c-a] (hrY _ (List.getElem_mem qi)) (hrX _ (List.getElem_mem ci))
    have hcn:c<n:=by omega
    have hqn:q<n:=by omega
    have hno:0≤cmpC cs Y[mid+m-1-c-m] X[c-a]→∀ c',s0≤c'→c' < c+1→∀ (i:c' - a<X.length) (j:mid+m-1-c' - m<Y.length),0≤cmpC cs Y[mid+m-1-c' - m] X[c' - a]:=fun g c' q1 q2 i j=>by
      by_cases e:c'=c
      · subst e;exact g
      · refine Int.not_lt.1 fun lt=>?_
        have k1:=up_at hY (by omega:mid+m-1-c-m<mid+m-1-c' - m) j
        have k2:=up_at hX (by omega:c' - a<c-a) ci
        have:=hc.lt (hc.lt' k1 lt) k2
        omega
    have hyes:cmpC cs Y[mid+m-1-c-m] X[c-a] < 0→∀ c',c≤c'→c' < r0→∀ (i:c' - a<X.length) (j:mid+m-1-c' - m<Y.length),cmpC cs Y[mid+m-1-c' - m] X[c' - a] < 0:=fun g c' q1 q2 i j=>by
      by_cases e:c'=c
      · subst e;exact g
      · have k1:=up_at hY (by omega:mid+m-1-c' - m<mid+m-1-c-m) qi
        have k2:=up_at hX (by omega:c-a<c' - a) i
        exact hc.lt (hc.lt' k1 g) k2
    generalize Y[mid+m-1-c-m]=y at *
    generalize X[c-a]=x at *
    simp -dsimp [hlt,hwc]
    refine VL.draw (by kernel_rfl) [(0,false),(0,false),(0,false),(0,false),(12,false),(30,false),(62,false),(0,false),(0,false),(384,false),(896,false),(2047,true),(4095,true),(8191,true)] (by kernel_rfl) ?_
    simp -dsimp [hwq,hRx,hRy,hRl,hcn,hqn,Fact.cells]
    refine VC.mk _ hcy ?_
    simp -dsimp
    refine VIf.mk (fun g=>?_) (fun g=>?_)
    · have g':0≤cmpC cs y x:=by simpa using g
      simp -dsimp [hwc1]
      exact ⟨⟨c+1,r⟩,⟨by simp only;omega,by simp only;omega,by simp only;omega,hno g',hhi⟩,by simp [St.le],by simp only;omega⟩
    · have g':cmpC cs y x<0:=by simpa using g
      simp -dsimp
      exact ⟨⟨s,c⟩,⟨by simp only;omega,by simp only;omega,by simp only;omega,hlo,hyes g'⟩,by simp [St.le],by simp only;omega⟩
  · obtain rfl:s=r:=by omega
    have hlt:decide (s<s)=false:=decide_eq_false (by omega)
    obtain ⟨e,he⟩:∃ e,e+s=N:=⟨N-s,by omega⟩
    have hwe:IntKind.i64.wrap ((N:Int)-(s:Int))=(e:Int):=by rw [IntWalk.i64_in _ (by omega)];omega
    have hmg:=sym_split hc X Y hX hY a m b mid s e s0 r0 (by omega) (by omega) hmid g0 g1 h1 h3 (by omega) hlo hhi
    obtain ⟨X1,hX1⟩:∃ X1,X1=X.take (s-a):=⟨_,rfl⟩
    obtain ⟨X2,hX2⟩:∃ X2,X2=X.drop (s-a):=⟨_,rfl⟩
    obtain ⟨Y1,hY1⟩:∃ Y1,Y1=Y.take (e-m):=⟨_,rfl⟩
    obtain ⟨Y2,hY2⟩:∃ Y2,Y2=Y.drop (e-m):=⟨_,rfl⟩
    have hXX:X=X1++X2:=by rw [hX1,hX2,List.take_append_drop]
    have hYY:Y=Y1++Y2:=by rw [hY1,hY2,List.take_append_drop]
    have l1:X1.length=s-a:=by rw [hX1,List.length_take];omega
    have l2:X2.length=m-s:=by rw [hX2,List.length_drop];omega
    have l3:Y1.length=e-m:=by rw [hY1,List.length_take];omega
    have l4:Y2.length=b-e:=by rw [hY2,List.length_drop];omega
    have hes:e+s=mid+m:=by omega
    have hme:m≤e:=by omega
    have hsm:s≤m:=by omega
    have hat:a≤s:=by omega
    have u1:UpS (cmpC cs) X1:=by rw [hX1];exact hX.sublist (List.take_sublist _ _)
    have u2:UpS (cmpC cs) X2:=by rw [hX2];exact hX.sublist (List.drop_sublist _ _)
    have u3:UpS (cmpC cs) Y1:=by rw [hY1];exact hY.sublist (List.take_sublist _ _)
    have u4:UpS (cmpC cs) Y2:=by rw [hY2];exact hY.sublist (List.drop_sublist _ _)
    have f1:∀ f∈X1,f.row.length≤140737488355328:=fun f h=>hrX f (by rw [hXX];exact List.mem_append_left _ h)
    have f2:∀ f∈X2,f.row.length≤140737488355328:=fun f h=>hrX f (by rw [hXX];exact List.mem_append_right _ h)
    have f3:∀ f∈Y1,f.row.length≤140737488355328:=fun f h=>hrY f (by rw [hYY];exact List.mem_append_left _ h)
    have f4:∀ f∈Y2,f.row.length≤140737488355328:=fun f h=>hrY f (by rw [hYY];exact List.mem_append_right _ h)
    rw [← hX1,← hX2,← hY1,← hY2] at hmg
    clear hlo hhi hRX hRY
    have hR2:facts R=List.map Fact.cells A++(List.map Fact.cells X1++(List.map Fact.cells X2++(List.map Fact.cells Y1++(List.map Fact.cells Y2++List.map Fact.cells B)))):=by rw [hR,hXX,hYY];simp [facts]
    rw [hR2]
    have hz:A.length+(X1.length+(X2.length+(Y1.length+(Y2.length+B.length))))=n:=by rw [hR,hXX,hYY] at hRl;simpa using hRl
    clear hR2 hR hRl hX1 hX2 hY1 hY2 hXX hYY
    obtain ⟨z1,z2,z3,z4,z5⟩:=mrg_len (cs:=cs) A X1 X2 Y1 Y2 B hz
    have hrot:=fun (q1:s<m) (q2:m<e)=>rotate_spec (.fn 57 [.dp [.sl nc (ints cs)]]) (A++X1) X2 Y1 (Y2++B) (by omega) (by omega) n s m e (by simp;omega) hl (by simp;omega) (by simp;omega) (by simp;omega)
    rw [List.append_assoc,List.append_assoc] at hrot
    have hsy1:=fun (q1:a<s) (q2:s<mid)=>ih A X1 Y1 (X2++(Y2++B)) (by omega) (by omega) (by omega) u1 u3 f1 f3 n a s mid (by simp;omega) hl ha (by omega) (by omega)
    have hsy2:=fun (q1:mid<e) (q2:e<b)=>ih (A++stMerge (cmpC cs) X1 Y1) X2 Y2 B (by omega) (by omega) (by omega) u2 u4 f2 f4 n mid e b (by simp [stMerge_len];omega) hl (by simp [stMerge_len];omega) (by simp [stMerge_len];omega) (by simp [stMerge_len];omega)
    rw [List.append_assoc,List.append_assoc] at hsy2
    have y1:¬ (s<m∧m<e)→X2=[]∨Y1=[]:=fun g=>by
      rcases Nat.lt_or_ge s m with q | q
      · exact .inr (List.length_eq_zero_iff.1 (by omega))
      · exact .inl (List.length_eq_zero_iff.1 (by omega))
    have y2:¬ (a<s∧s<mid)→X1=[]∨Y1=[]:=fun g=>by
      rcases Nat.lt_or_ge a s with q | q
      · exact .inr (List.length_eq_zero_iff.1 (by omega))
      · exact .inl (List.length_eq_zero_iff.1 (by omega))
    have y3:¬ (mid<e∧e<b)→X2=[]∨Y2=[]:=fun g=>by
      rcases Nat.lt_or_ge e b with q | q
      · exact .inl (List.length_eq_zero_iff.1 (by omega))
      · exact .inr (List.length_eq_zero_iff.1 (by omega))
    clear hX hY hrX hrY u1 u2 u3 u4 f1 f2 f3 f4 l1 l2 l3 l4 ih
    simp -dsimp [hlt,hwe]
    refine VIf.mk (fun g=>?_) (fun g=>?_)
    focus
      obtain ⟨q1,q2⟩:s<m∧m<e:=by simpa using g
      have hro:=hrot q1 q2
      simp -dsimp
      refine VCL.lend _ _ _ _ _ _ _ (lend4 hro z1 z2 (by simp)) ?_
      simp -dsimp [rowF,retS,renSs,renR]
    rotate_left
    focus
      have hemp:=emp_swap (y1 (by simpa using g)) (List.map Fact.cells Y2++List.map Fact.cells B)
      rw [hemp]
      simp -dsimp
    rotate_left
    all_goals
      refine VIf.mk (fun g=>?_) (fun g=>?_)
      focus
        obtain ⟨q1,q2⟩:a<s∧s<mid:=by simpa using g
        have hro:=hsy1 q1 q2
        simp -dsimp
        refine VCL.lend _ _ _ _ _ _ _ (lend4 hro z2 z3 (by simp)) ?_
        simp -dsimp [rowF,retS,renSs,renR]
      rotate_left
      focus
        have hemp:=emp_mrg (cs:=cs) (y2 (by simpa using g)) (List.map Fact.cells X2++(List.map Fact.cells Y2++List.map Fact.cells B))
        rw [hemp]
        simp -dsimp
      rotate_left
      all_goals
        refine VIf.mk (fun g=>?_) (fun g=>?_)
        · obtain ⟨q1,q2⟩:mid<e∧e<b:=by simpa using g
          have hro:=hsy2 q1 q2
          simp -dsimp
          refine VCL.lend _ _ _ _ _ _ _ (lend4 hro z3 z4 (by simp)) ?_
          simp -dsimp [rowF,retS,renSs,renR]
          simp [resEnd,pinsEnd,rowF,hmg]
        · have hemp:=emp_mrg (cs:=cs) (y3 (by simpa using g)) (List.map Fact.cells B)
          rw [hemp]
          simp -dsimp
          simp [resEnd,pinsEnd,rowF,hmg]
end Go.Proofs.YtlphpbcafplnbaaGreat
