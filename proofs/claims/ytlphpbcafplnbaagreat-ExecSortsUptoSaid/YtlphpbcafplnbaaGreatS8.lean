/- Contracts of functions of the seat, proved in a logic on data over the model (part S8). -/
import Derived.Test.YtlphpbcafplnbaaGreatS4
set_option linter.unusedSimpArgs false
set_option linter.unusedVariables false
namespace Go.Proofs.YtlphpbcafplnbaaGreat
open Go.VL Go.RowKit
section
variable {P:Program} {st:St} {f:FuncId} {i n:Nat} {xs ys:List Fact}
theorem lend2 {a b:C} (con:ConB P f [.own 1 n,.c a,.c b] (rowF 1 xs) [] [.own 1 n,.c a,.c b] (rowF 1 ys)) (hx:xs.length=n) (hy:ys.length=n) (hr:st.rs i=some (.arr false 3 (facts xs) 0)) :
    LendOk P st f [.own i n,.c a,.c b] (rowF 1 xs) (rowF 1 ys) [.own 1 n,.c a,.c b] [] [.own 1 n,.c a,.c b] (fun _=>i) []:=by
  refine ⟨con,?_,?_,?_,?_,?_,?_,?_⟩
  · simp [renSs,renS]
  · simp [rowF,renR,hr]
  · simp [rowF]
  · simp [rowF]
  · simp [rowF,Res.nam,S.nams,S.nam]
  · simp [rowF,S.nams,S.nam]
  · simp [rowF,lk,keptP]
    exact ⟨3,_,⟨rfl,rfl⟩,_,⟨rfl,rfl⟩,by simp [hx],by simp [hy]⟩
theorem lend1 {a:C} (con:ConB P f [.own 1 n,.c a] (rowF 1 xs) [] [.own 1 n,.c a] (rowF 1 ys)) (hx:xs.length=n) (hy:ys.length=n) (hr:st.rs i=some (.arr false 3 (facts xs) 0)) :
    LendOk P st f [.own i n,.c a] (rowF 1 xs) (rowF 1 ys) [.own 1 n,.c a] [] [.own 1 n,.c a] (fun _=>i) []:=by
  refine ⟨con,?_,?_,?_,?_,?_,?_,?_⟩
  · simp [renSs,renS]
  · simp [rowF,renR,hr]
  · simp [rowF]
  · simp [rowF]
  · simp [rowF,Res.nam,S.nams,S.nam]
  · simp [rowF,S.nams,S.nam]
  · simp [rowF,lk,keptP]
    exact ⟨3,_,⟨rfl,rfl⟩,_,⟨rfl,rfl⟩,by simp [hx],by simp [hy]⟩
theorem lend3 {a b c:C} (con:ConB P f [.own 1 n,.c a,.c b,.c c] (rowF 1 xs) [] [.own 1 n,.c a,.c b,.c c] (rowF 1 ys)) (hx:xs.length=n) (hy:ys.length=n) (hr:st.rs i=some (.arr false 3 (facts xs) 0)) :
    LendOk P st f [.own i n,.c a,.c b,.c c] (rowF 1 xs) (rowF 1 ys) [.own 1 n,.c a,.c b,.c c] [] [.own 1 n,.c a,.c b,.c c] (fun _=>i) []:=by
  refine ⟨con,?_,?_,?_,?_,?_,?_,?_⟩
  · simp [renSs,renS]
  · simp [rowF,renR,hr]
  · simp [rowF]
  · simp [rowF]
  · simp [rowF,Res.nam,S.nams,S.nam]
  · simp [rowF,S.nams,S.nam]
  · simp [rowF,lk,keptP]
    exact ⟨3,_,⟨rfl,rfl⟩,_,⟨rfl,rfl⟩,by simp [hx],by simp [hy]⟩
theorem lend4 {a b c d:C} (con:ConB P f [.own 1 n,.c a,.c b,.c c,.c d] (rowF 1 xs) [] [.own 1 n,.c a,.c b,.c c,.c d] (rowF 1 ys)) (hx:xs.length=n) (hy:ys.length=n) (hr:st.rs i=some (.arr false 3 (facts xs) 0)) :
    LendOk P st f [.own i n,.c a,.c b,.c c,.c d] (rowF 1 xs) (rowF 1 ys) [.own 1 n,.c a,.c b,.c c,.c d] [] [.own 1 n,.c a,.c b,.c c,.c d] (fun _=>i) []:=by
  refine ⟨con,?_,?_,?_,?_,?_,?_,?_⟩
  · simp [renSs,renS]
  · simp [rowF,renR,hr]
  · simp [rowF]
  · simp [rowF]
  · simp [rowF,Res.nam,S.nams,S.nam]
  · simp [rowF,S.nams,S.nam]
  · simp [rowF,lk,keptP]
    exact ⟨3,_,⟨rfl,rfl⟩,_,⟨rfl,rfl⟩,by simp [hx],by simp [hy]⟩
end
section
variable {α:Type}
def rowS (A X M Y B:List α) (i:Nat):List α:=A++(Y.take i++(X.drop i++(M++(X.take i++(Y.drop i++B)))))
theorem rowS_len (A X M Y B:List α) (i:Nat) (h:X.length=Y.length) (hi:i≤X.length):(rowS A X M Y B i).length=A.length+X.length+M.length+Y.length+B.length:=by
  unfold rowS;simp;omega
theorem rowS_0 (A X M Y B:List α):rowS A X M Y B 0=A++(X++(M++(Y++B))):=by simp [rowS]
theorem rowS_n (A X M Y B:List α) (h:X.length=Y.length):rowS A X M Y B X.length=A++(Y++(M++(X++B))):=by
  unfold rowS
  rw [List.take_of_length_le (by omega),List.drop_length,List.take_length,List.drop_eq_nil_of_le (by omega)]
  simp
theorem rowS_step (A X M Y B:List α) (i:Nat) (h:X.length=Y.length) (hi:i<X.length) (hy:i<Y.length) :
    rowS A X M Y B i=(A++Y.take i)++X[i]::((X.drop (i+1)++(M++X.take i))++Y[i]::(Y.drop (i+1)++B)):=by
  have e1:X.drop i=X[i]::X.drop (i+1):=List.drop_eq_getElem_cons hi
  have e2:Y.drop i=Y[i]::Y.drop (i+1):=List.drop_eq_getElem_cons hy
  unfold rowS
  rw [e1,e2]
  simp only [List.append_assoc,List.cons_append]
theorem rowS_x (A X M Y B:List α) (i p:Nat) (h:X.length=Y.length) (hi:i<X.length) (hy:i<Y.length) (hp:p=A.length+i) (hl:p<(rowS A X M Y B i).length):(rowS A X M Y B i)[p]=X[i]:=by
  have:(rowS A X M Y B i)[p]? = some X[i]:=by
    rw [rowS_step A X M Y B i h hi hy,List.getElem?_append_right (by simp;omega)]
    have:p-(A++Y.take i).length=0:=by simp;omega
    rw [this];rfl
  rw [List.getElem?_eq_getElem hl] at this
  exact Option.some.inj this
theorem rowS_y (A X M Y B:List α) (i q:Nat) (h:X.length=Y.length) (hi:i<X.length) (hy:i<Y.length) (hq:q=A.length+X.length+M.length+i) (hl:q<(rowS A X M Y B i).length):(rowS A X M Y B i)[q]=Y[i]:=by
  have:(rowS A X M Y B i)[q]? = some Y[i]:=by
    rw [rowS_step A X M Y B i h hi hy,List.getElem?_append_right (by simp;omega)]
    have:q-(A++Y.take i).length=(X.drop (i+1)++(M++X.take i)).length+1:=by simp;omega
    rw [this,List.getElem?_cons_succ,List.getElem?_append_right (Nat.le_refl _),Nat.sub_self];rfl
  rw [List.getElem?_eq_getElem hl] at this
  exact Option.some.inj this
theorem rowS_swap (A X M Y B:List α) (i p q:Nat) (h:X.length=Y.length) (hi:i<X.length) (hy:i<Y.length) (hp:p=A.length+i) (hq:q=A.length+X.length+M.length+i) :
    ((rowS A X M Y B i).set p Y[i]).set q X[i]=rowS A X M Y B (i+1):=by
  have e1:p=(A++Y.take i).length:=by simp;omega
  have e2:q=(A++Y.take i).length+((X.drop (i+1)++(M++X.take i)).length+1):=by simp;omega
  rw [rowS_step A X M Y B i h hi hy,e1,e2,swap_split]
  unfold rowS
  rw [List.take_succ_eq_append_getElem hi,List.take_succ_eq_append_getElem hy]
  simp only [List.append_assoc,List.cons_append,List.nil_append]
end
abbrev pinS5 (uf:Nat→Value) (n:Nat) (a b c:Nat) (f:C):List (Nat × Option Res):=[(2,some (.pin (uf 0) (.own 1 n))),(3,some (.pin (uf 1) (.c (i64 a)))),(4,some (.pin (uf 2) (.c (i64 b)))),(5,some (.pin (uf 3) (.c (i64 c)))),(6,some (.pin (uf 4) (.c f)))]
set_option maxRecDepth 20000 in
set_option maxHeartbeats 16000000 in
theorem swapR_spec (f:C) (A X M Y B:List Fact) (h:X.length=Y.length) (n a b c:Nat) (hn:n=A.length+X.length+M.length+Y.length+B.length) (hl:n≤140737488355328) (ha:a=A.length) (hb:b=A.length+X.length+M.length) (hc:c=X.length) :
    ConB Tryz.prog 156 [.own 1 n,.c (i64 a),.c (i64 b),.c (i64 c),.c f] (rowF 1 (A++(X++(M++(Y++B))))) []
      [.own 1 n,.c (i64 a),.c (i64 b),.c (i64 c),.c f] (rowF 1 (A++(Y++(M++(X++B))))):=by
  refine spec_ofB 2 Tryz.func156 rfl (by kernel_rfl) (by simp [Tryz.f156]) (by simp [rowF]) rfl (fun w0 K0 uf=>vc_ok _ _ _ (by kernel_rfl) ?_)
  simp only [Tryz.f156]
  rw [← rowS_0,← rowS_n _ _ _ _ _ h]
  simp -dsimp [initB,initEnv,pinsOf,rowF]
  refine VL.loop (fun i:I1=>⟨[(10,.c (i64 i.j)),(0,.own 1 n),(1,.c (i64 a)),(2,.c (i64 b)),(3,.c (i64 c)),(4,.c f)],(1,some (.arr false 3 (facts (rowS A X M Y B i.j)) 0))::pinS5 uf n a b c f⟩)
    (fun i=>i.j≤X.length) (fun i=>X.length-i.j) ⟨0,0⟩ (by kernel_rfl) (by simp) (by simp [St.le]) ?_
  intro ⟨i,i0⟩ hi
  simp only at hi
  by_cases h1:i<X.length
  · have hic:decide (i<c)=true:=decide_eq_true (by omega)
    have hw:IntKind.i64.wrap ((i:Int)+1)=(i:Int)+1:=IntWalk.i64_in _ (by omega)
    obtain ⟨p,hp⟩:∃ p,p=a+i:=⟨_,rfl⟩
    obtain ⟨q,hq⟩:∃ q,q=b+i:=⟨_,rfl⟩
    have hwp:IntKind.i64.wrap ((a:Int)+(i:Int))=(p:Int):=by rw [IntWalk.i64_in _ (by omega)];omega
    have hwq:IntKind.i64.wrap ((b:Int)+(i:Int))=(q:Int):=by rw [IntWalk.i64_in _ (by omega)];omega
    have hRl:=rowS_len A X M Y B i h hi
    have hy:i<Y.length:=by omega
    have hRx:=rowS_x A X M Y B i p h h1 hy (by omega) (by omega)
    have hRy:=rowS_y A X M Y B i q h h1 hy (by omega) (by omega)
    have hsw:=rowS_swap A X M Y B i p q h h1 hy (by omega) (by omega)
    have hpq:¬ p=q:=by omega
    obtain ⟨R,hR,hRl,⟨hp1,hq1,hRx,hRy⟩,hsw⟩:∃ R:List Fact,rowS A X M Y B i=R∧R.length=n∧(∃ h1 h2,R[p]'h1=X[i]∧R[q]'h2=Y[i])∧(R.set p (Y[i])).set q X[i]=rowS A X M Y B (i+1):=⟨_,rfl,by omega,⟨_,_,hRx,hRy⟩,hsw⟩
    rw [hR]
    generalize X[i]=x at *
    generalize Y[i]=y at *
    have hswc:((facts R).set p y.cells).set q x.cells=facts (rowS A X M Y B (i+1)):=by rw [← hsw];simp [facts,List.map_set]
    rw [show y.cells=[.sl y.nl (vals y.row),i64 y.p.f,i64 y.p.t] from rfl,show x.cells=[.sl x.nl (vals x.row),i64 x.p.f,i64 x.p.t] from rfl] at hswc
    have hp2:p<n:=by omega
    have hq2:q<n:=by omega
    have hset:∀ v,((facts R).set p v)[q]? = some [.sl y.nl (vals y.row),i64 y.p.f,i64 y.p.t]:=fun v=>by
      rw [List.getElem?_set_ne hpq,facts,List.getElem?_map,List.getElem?_eq_getElem hq1,hRy];rfl
    have hset2:∀ v,((facts R).set p v).length=n:=fun v=>by rw [List.length_set,facts,List.length_map,hRl]
    clear hsw hR
    simp -dsimp [hic]
    refine VL.draw (by kernel_rfl) [(0,false),(0,false),(0,false),(6,false),(0,false),(0,false),(0,false),(96,false),(0,false),(0,false),(0,false),(1536,false),(2304,false),(4096,false),(0,false),(0,false),(0,false),(98304,false),(147456,false),(262144,false),(9,false),(1847296,false),(4194303,true),(8388607,true)] (by kernel_rfl) ?_
    simp -dsimp [hset,hset2,hwp,hwq,hRx,hRy,hRl,hp2,hq2,Fact.cells,hw]
    refine ⟨⟨i+1,0⟩,by simp only;omega,?_,by simp only;omega⟩
    have hd:∀ hh,List.drop 3 (((facts R).set p [.sl y.nl (vals y.row),i64 y.p.f,i64 y.p.t])[q]'hh)=[]:=fun hh=>by
      rw [List.getElem_set_ne hpq]
      simp [facts,Fact.cells]
    simp [St.le,hd,hswc]
  · obtain rfl:i=X.length:=by omega
    have hic:decide (X.length<c)=false:=decide_eq_false (by omega)
    simp -dsimp [hic]
    simp [resEnd,pinsEnd,rowF]
structure RotI where
  A:List Fact
  X:List Fact
  Y:List Fact
  B:List Fact
  a:Nat
  i:Nat
  j:Nat
structure RotI.Ok (F:List Fact) (m:Nat) (s:RotI):Prop where
  row:s.A++(s.Y++(s.X++s.B))=F
  a:s.a=s.A.length
  i:s.i=s.X.length
  j:s.j=s.Y.length
  m:s.a+s.i=m
  i0:0<s.i
  j0:0<s.j
set_option maxRecDepth 20000 in
set_option maxHeartbeats 16000000 in
theorem rotate_spec (f:C) (A X Y B:List Fact) (hX:0<X.length) (hY:0<Y.length) (n a m b:Nat) (hn:n=A.length+X.length+Y.length+B.length) (hl:n≤140737488355328) (ha:a=A.length) (hm:m=A.length+X.length) (hb:b=A.length+X.length+Y.length) :
    ConB Tryz.prog 143 [.own 1 n,.c (i64 a),.c (i64 m),.c (i64 b),.c f] (rowF 1 (A++(X++(Y++B)))) []
      [.own 1 n,.c (i64 a),.c (i64 m),.c (i64 b),.c f] (rowF 1 (A++(Y++(X++B)))):=by
  refine spec_ofB 2 Tryz.func143 rfl (by kernel_rfl) (by simp [Tryz.f143]) (by simp [rowF]) rfl (fun w0 K0 uf=>vc_ok _ _ _ (by kernel_rfl) ?_)
  simp only [Tryz.f143]
  have hw1:IntKind.i64.wrap ((m:Int)-(a:Int))=(X.length:Int):=by rw [IntWalk.i64_in _ (by omega)];omega
  have hw2:IntKind.i64.wrap ((b:Int)-(m:Int))=(Y.length:Int):=by rw [IntWalk.i64_in _ (by omega)];omega
  obtain ⟨F,hF⟩:∃ F,F=A++(Y++(X++B)):=⟨_,rfl⟩
  have hFl:F.length=n:=by rw [hF];simp;omega
  simp -dsimp [initB,initEnv,pinsOf,rowF,hw1,hw2]
  refine VL.loop (fun s:RotI=>⟨[(10,.c (i64 s.i)),(11,.c (i64 s.j)),(0,.own 1 n),(1,.c (i64 a)),(2,.c (i64 m)),(3,.c (i64 b)),(4,.c f)],(1,some (.arr false 3 (facts (s.A++(s.X++(s.Y++s.B)))) 0))::pinS5 uf n a m b f⟩)
    (RotI.Ok F m) (fun s=>s.i+s.j) ⟨A,X,Y,B,a,X.length,Y.length⟩ (by kernel_rfl) ⟨hF.symm,ha,rfl,rfl,by simp only;omega,hX,hY⟩ (by simp [St.le]) ?_
  intro ⟨A',X',Y',B',a',i,j⟩ ⟨h1,h2,h3,h4,h5,h6,h7⟩
  simp only at h1 h2 h3 h4 h5 h6 h7
  have hlen:=congrArg List.length h1
  rw [hFl] at hlen
  simp only [List.length_append] at hlen
  have hwa:IntKind.i64.wrap ((m:Int)-(i:Int))=(a':Int):=by rw [IntWalk.i64_in _ (by omega)];omega
  rw [← hF]
  simp -dsimp
  refine VIf.mk (fun h=>?_) (fun h=>?_)
  · have hne:i≠j:=fun e=>by subst e;simp at h
    simp -dsimp
    refine VIf.mk (fun g=>?_) (fun g=>?_)
    · have hgt:j<i:=by simpa using g
      obtain ⟨X1,X2,rfl,hx1⟩:∃ X1 X2,X'=X1++X2∧X1.length=j:=⟨X'.take j,X'.drop j,(List.take_append_drop _ _).symm,by rw [List.length_take];omega⟩
      have hx2:X2.length=i-j:=by simp at h3;omega
      have hwi:IntKind.i64.wrap ((i:Int)-(j:Int))=((i-j:Nat):Int):=by rw [IntWalk.i64_in _ (by omega)];omega
      have hsp:=swapR_spec f A' X1 X2 Y' B' (by omega) n a' m j (by omega) hl (by omega) (by omega) (by omega)
      simp -dsimp [hwa]
      refine VCL.lend _ _ _ _ _ _ _ (lend4 hsp (by simp;omega) (by simp;omega) (by simp)) ?_
      simp -dsimp [rowF,retS,renSs,renR,hwi]
      refine ⟨⟨A'++Y',X2,X1,B',a'+j,i-j,j⟩,⟨?_,by simp;omega,by simp only;omega,by simp only;omega,by simp only;omega,by simp only;omega,by simp only;omega⟩,?_,by simp only;omega⟩
      · simp only;rw [← h1];simp
      · simp [St.le]
    · have hgt:i<j:=by
        have:¬ j<i:=by simpa using g
        omega
      obtain ⟨Y1,Y2,rfl,hy1⟩:∃ Y1 Y2,Y'=Y1++Y2∧Y1.length=j-i:=⟨Y'.take (j-i),Y'.drop (j-i),(List.take_append_drop _ _).symm,by rw [List.length_take];omega⟩
      have hy2:Y2.length=i:=by simp at h4;omega
      have hwj:IntKind.i64.wrap ((j:Int)-(i:Int))=((j-i:Nat):Int):=by rw [IntWalk.i64_in _ (by omega)];omega
      have hwm:IntKind.i64.wrap ((m:Int)+(j:Int))=((m+j:Nat):Int):=by rw [IntWalk.i64_in _ (by omega)];omega
      have hwm2:IntKind.i64.wrap ((m:Int)+(j:Int)-(i:Int))=((m+j-i:Nat):Int):=by rw [IntWalk.i64_in _ (by omega)];omega
      have hsp:=swapR_spec f A' X' Y1 Y2 B' (by omega) n a' (m+j-i) i (by omega) hl (by omega) (by omega) (by omega)
      simp -dsimp [hwa,hwm,hwm2]
      refine VCL.lend _ _ _ _ _ _ _ (lend4 hsp (by simp;omega) (by simp;omega) (by simp)) ?_
      simp -dsimp [rowF,retS,renSs,renR,hwj]
      refine ⟨⟨A',Y2,Y1,X'++B',a',i,j-i⟩,⟨?_,by simp only;omega,by simp only;omega,by simp only;omega,by simp only;omega,by simp only;omega,by simp only;omega⟩,?_,by simp only;omega⟩
      · simp only;rw [← h1];simp
      · simp [St.le]
  · have heq:i=j:=by simp at h;omega
    subst heq
    have hsp:=swapR_spec f A' X' [] Y' B' (by omega) n a' m i (by simp;omega) hl (by omega) (by simp;omega) (by omega)
    simp only [List.nil_append] at hsp
    simp -dsimp [hwa]
    refine VCL.lend _ _ _ _ _ _ _ (lend4 hsp (by simp;omega) (by simp;omega) (by simp)) ?_
    simp -dsimp [rowF,retS,renSs,renR]
    simp [resEnd,pinsEnd,rowF,← h1]
section
variable {α:Type} {cf:α→α→Int}
theorem merge_one_left (hc:Cmp cf) (x:α) (Y1 Y2:List α) (h1:∀ y∈Y1,cf y x<0) (h2:∀ y∈Y2,¬ cf y x<0):stMerge cf [x] (Y1++Y2)=Y1++x::Y2:=by
  rw [stMerge_right hc Y1 [x] Y2 (fun y hy z hz=>by simp at hz;subst hz;exact h1 y hy)]
  have:=stMerge_left (cf:=cf) [x] [] Y2 (fun z hz y hy=>by
    simp at hz;subst hz
    have:=h2 y hy
    have:=hc.anti z y
    omega)
  rw [List.append_nil,nil_stMerge] at this
  rw [this];rfl
theorem merge_one_right (hc:Cmp cf) (y:α) (X1 X2:List α) (h1:∀ x∈X1,¬ cf y x<0) (h2:∀ x∈X2,cf y x<0):stMerge cf (X1++X2) [y]=X1++y::X2:=by
  rw [stMerge_left X1 X2 [y] (fun x hx z hz=>by
    simp at hz;subst hz
    have:=h1 x hx
    have:=hc.anti z x
    omega)]
  have:=stMerge_right hc [y] X2 [] (fun z hz x hx=>by simp at hz;subst hz;exact h2 x hx)
  rw [List.append_nil,stMerge_nil] at this
  rw [this];rfl
theorem getX (A X Y B:List α) (k:Nat) (h:k<X.length) (hh:A.length+k<(A++(X++(Y++B))).length):(A++(X++(Y++B)))[A.length+k]=X[k]:=by
  have:(A++(X++(Y++B)))[A.length+k]? = some X[k]:=by
    rw [List.getElem?_append_right (by omega),Nat.add_sub_cancel_left,List.getElem?_append_left h,List.getElem?_eq_getElem h]
  rw [List.getElem?_eq_getElem hh] at this
  exact Option.some.inj this
theorem getY (A X Y B:List α) (k:Nat) (h:k<Y.length) (hh:A.length+X.length+k<(A++(X++(Y++B))).length):(A++(X++(Y++B)))[A.length+X.length+k]=Y[k]:=by
  have:(A++(X++(Y++B)))[A.length+X.length+k]? = some Y[k]:=by
    rw [List.getElem?_append_right (by omega),Nat.add_assoc,Nat.add_sub_cancel_left,List.getElem?_append_right (by omega),Nat.add_sub_cancel_left,List.getElem?_append_left h,List.getElem?_eq_getElem h]
  rw [List.getElem?_eq_getElem hh] at this
  exact Option.some.inj this
theorem up_at {l:List α} (hu:UpS cf l) {i j:Nat} (hij:i<j) (hj:j<l.length):cf (l[i]'(by omega)) l[j]≤0:=List.pairwise_iff_getElem.1 hu i j (by omega) hj hij
def rowM (A Y:List α) (x:α) (B:List α) (t:Nat):List α:=A++(Y.take t++(x::(Y.drop t++B)))
theorem rowM_len (A Y:List α) (x:α) (B:List α) (t:Nat) (ht:t≤Y.length):(rowM A Y x B t).length=A.length+Y.length+1+B.length:=by
  unfold rowM;simp;omega
theorem rowM_x (A Y:List α) (x:α) (B:List α) (t:Nat) (ht:t≤Y.length):(rowM A Y x B t)[A.length+t]? = some x:=by
  unfold rowM
  rw [List.getElem?_append_right (by omega),List.getElem?_append_right (by simp;omega)]
  have:A.length+t-A.length-(Y.take t).length=0:=by simp;omega
  rw [this];rfl
theorem rowM_st (A Y:List α) (x:α) (B:List α) (t:Nat) (ht:t<Y.length):rowM A Y x B t=(A++Y.take t)++x::([]++Y[t]::(Y.drop (t+1)++B)):=by
  unfold rowM
  rw [List.drop_eq_getElem_cons ht]
  simp only [List.append_assoc,List.cons_append,List.nil_append]
theorem rowM_st1 (A Y:List α) (x:α) (B:List α) (t:Nat) (ht:t<Y.length):rowM A Y x B (t+1)=(A++Y.take t)++Y[t]::([]++x::(Y.drop (t+1)++B)):=by
  unfold rowM
  rw [List.take_succ_eq_append_getElem ht]
  simp only [List.append_assoc,List.cons_append,List.nil_append]
theorem rowM_y (A Y:List α) (x:α) (B:List α) (t:Nat) (ht:t<Y.length):(rowM A Y x B t)[A.length+t+1]? = some Y[t]:=by
  rw [rowM_st A Y x B t ht,List.getElem?_append_right (by simp;omega)]
  have:A.length+t+1-(A++Y.take t).length=1:=by simp;omega
  rw [this];rfl
theorem rowM_y1 (A Y:List α) (x:α) (B:List α) (t:Nat) (ht:t<Y.length):(rowM A Y x B (t+1))[A.length+t]? = some Y[t]:=by
  rw [rowM_st1 A Y x B t ht,List.getElem?_append_right (by simp;omega)]
  have:A.length+t-(A++Y.take t).length=0:=by simp;omega
  rw [this];rfl
theorem rowM_r (A Y:List α) (x:α) (B:List α) (t:Nat) (ht:t<Y.length):((rowM A Y x B t).set (A.length+t) Y[t]).set (A.length+t+1) x=rowM A Y x B (t+1):=by
  have e:A.length+t=(A++Y.take t).length:=by simp;omega
  have:=swap_split (A++Y.take t) [] (Y.drop (t+1)++B) x Y[t]
  simp only [List.length_nil,Nat.zero_add,List.nil_append] at this
  rw [rowM_st A Y x B t ht,rowM_st1 A Y x B t ht,e,List.nil_append,List.nil_append,this]
theorem rowM_l (A Y:List α) (x:α) (B:List α) (t:Nat) (ht:t<Y.length):((rowM A Y x B (t+1)).set (A.length+t+1) Y[t]).set (A.length+t) x=rowM A Y x B t:=by
  have e:A.length+t=(A++Y.take t).length:=by simp;omega
  have:=swap_split2 (A++Y.take t) [] (Y.drop (t+1)++B) Y[t] x
  simp only [List.length_nil,Nat.zero_add,List.nil_append] at this
  rw [rowM_st A Y x B t ht,rowM_st1 A Y x B t ht,e,List.nil_append,List.nil_append,this]
end
theorem half_eq (i j h:Nat) (hh:h=(i+j) / 2) (hi:i≤140737488355328) (hj:j≤140737488355328):IntKind.i64.wrap ((IntKind.u64.wrap (IntKind.i64.wrap ((i:Int)+(j:Int)))).fdiv (2 ^ min 1 IntKind.u64.bits))=(h:Int):=by
  have e1:IntKind.i64.wrap ((i:Int)+(j:Int))=((i+j:Nat):Int):=by rw [IntWalk.i64_in _ (by omega)];rfl
  have e2:IntKind.u64.wrap (((i+j:Nat):Int))=((i+j:Nat):Int):=by
    simp only [IntKind.wrap,IntKind.bits,IntKind.signed]
    simp
    omega
  have e3:((2:Int) ^ min 1 IntKind.u64.bits)=2:=by decide
  rw [e1,e2,e3,hh,Int.fdiv_eq_ediv_of_nonneg _ (by decide)]
  rw [IntWalk.i64_in _ (by omega)]
  omega
abbrev symA (n a m b:Nat) (nc:Bool) (cs:List Int):List S:=[.own 1 n,.c (i64 a),.c (i64 m),.c (i64 b),srtFn nc cs]
def SymCon (nc:Bool) (cs:List Int) (A X Y B:List Fact):Prop:=∀ (n a m b:Nat),n=A.length+X.length+Y.length+B.length→n≤140737488355328→a=A.length→m=A.length+X.length→b=A.length+X.length+Y.length →
  ConB Tryz.prog 118 (symA n a m b nc cs) (rowF 1 (A++(X++(Y++B)))) [] (symA n a m b nc cs) (rowF 1 (A++(stMerge (cmpC cs) X Y++B)))
set_option maxRecDepth 20000 in
set_option maxHeartbeats 16000000 in
theorem sym_left (nc:Bool) (cs:List Int) (hcs:cs.length≤1000000000000) (A:List Fact) (x:Fact) (Y B:List Fact) (hY:UpS (cmpC cs) Y) (hx:x.row.length≤140737488355328) (hr:∀ f∈Y,f.row.length≤140737488355328):SymCon nc cs A [x] Y B:=by
  intro n a m b hn hl ha hm hb
  simp only [List.length_cons,List.length_nil] at hn hm hb
  refine spec_ofB 2 Tryz.func118 rfl (by kernel_rfl) (by simp [Tryz.f118]) (by simp [rowF]) rfl (fun w0 K0 uf=>vc_ok _ _ _ (by kernel_rfl) ?_)
  simp only [Tryz.f118]
  have hw1:IntKind.i64.wrap ((m:Int)-(a:Int))=1:=by rw [IntWalk.i64_in _ (by omega)];omega
  obtain ⟨R,hR⟩:∃ R,R=A++([x]++(Y++B)):=⟨_,rfl⟩
  have hRl:R.length=n:=by rw [hR];simp;omega
  have hRa:R[a]? = some x:=by
    rw [hR,ha];simp [rowM]
  have hRY:∀ k,(hk:k<Y.length)→R[m+k]? = some Y[k]:=fun k hk=>by
    rw [hR,hm]
    have hh:A.length + [x].length+k<(A++([x]++(Y++B))).length:=by simp;omega
    exact (List.getElem?_eq_getElem hh).trans (congrArg some (getY A [x] Y B k hk hh))
  have hc:=Cmp.cols cs
  simp -dsimp [initB,initEnv,pinsOf,rowF,hw1]
  refine VL.loop (fun i:I1=>⟨[(10,.c (i64 i.j)),(11,.c (i64 i.q)),(0,.own 1 n),(1,.c (i64 a)),(2,.c (i64 m)),(3,.c (i64 b)),(4,srtFn nc cs)],(1,some (.arr false 3 (facts R) 0))::pinS5 uf n a m b (.fn 57 [.dp [.sl nc (ints cs)]])⟩)
    (fun i=>m≤i.j∧i.j≤i.q∧i.q≤b∧(∀ k,(h:k<Y.length)→m+k<i.j→cmpC cs Y[k] x<0)∧(∀ k,(h:k<Y.length)→i.q≤m+k→¬ cmpC cs Y[k] x<0)) (fun i=>i.q-i.j) ⟨m,b⟩ (by kernel_rfl) ⟨Nat.le_refl _,by simp only;omega,Nat.le_refl _,fun k _ h=>absurd h (by simp only;omega),fun k h1 h2=>absurd h2 (by simp only;omega)⟩ (by rw [hR];simp [St.le]) ?_
  intro ⟨i,j⟩ ⟨h1,h2,h3,h4,h5⟩
  simp only at h1 h2 h3 h4 h5
  by_cases hij:i<j
  · have hlt:decide (i<j)=true:=decide_eq_true hij
    obtain ⟨h,hh⟩:∃ h,h=(i+j) / 2:=⟨_,rfl⟩
    have hwh:=half_eq i j h hh (by omega) (by omega)
    have hwh1:IntKind.i64.wrap ((h:Int)+1)=((h+1:Nat):Int):=by rw [IntWalk.i64_in _ (by omega)];rfl
    have hhl:i≤h:=by omega
    have hhr:h<j:=by omega
    obtain ⟨k0,hk0⟩:∃ k0,h=m+k0:=⟨h-m,by omega⟩
    have hk1:k0<Y.length:=by omega
    obtain ⟨ha1,hRx⟩:=List.getElem?_eq_some_iff.1 hRa
    have hRy0:=hRY k0 hk1
    rw [← hk0] at hRy0
    obtain ⟨hh1,hRy⟩:=List.getElem?_eq_some_iff.1 hRy0
    have hcy:=srt_spec nc cs hcs Y[k0] x (hr _ (List.getElem_mem hk1)) hx
    have han:a<n:=by omega
    have hhn:h<n:=by omega
    have hyes:cmpC cs Y[k0] x<0→∀ k,(hk:k<Y.length)→m+k<h+1→cmpC cs Y[k] x<0:=fun g k hk hkh=>by
      by_cases e:k=k0
      · subst e;exact g
      · exact hc.lt' (up_at hY (by omega:k<k0) hk1) g
    have hno:¬ cmpC cs Y[k0] x<0→∀ k,(hk:k<Y.length)→h≤m+k→¬ cmpC cs Y[k] x<0:=fun g k hk hkh e2=>by
      by_cases e:k=k0
      · subst e;exact g e2
      · exact g (hc.lt' (up_at hY (by omega:k0<k) hk) e2)
    generalize Y[k0]=y at *
    simp -dsimp [hlt,hwh]
    refine VL.draw (by kernel_rfl) [(0,false),(0,false),(0,false),(6,false),(14,false),(0,false),(0,false),(96,false),(224,false),(511,true),(1023,true)] (by kernel_rfl) ?_
    simp -dsimp [hRx,hRy,hRl,han,hhn,Fact.cells]
    refine VC.mk _ hcy ?_
    simp -dsimp
    refine VIf.mk (fun g=>?_) (fun g=>?_)
    · have g':cmpC cs y x<0:=by simpa using g
      simp -dsimp [hwh1]
      exact ⟨⟨h+1,j⟩,⟨by simp only;omega,by simp only;omega,by simp only;omega,hyes g',fun k hk h=>Int.not_lt.1 (h5 k hk h)⟩,by simp [St.le],by simp only;omega⟩
    · have g':¬ cmpC cs y x<0:=by simpa using g
      simp -dsimp
      exact ⟨⟨i,h⟩,⟨by simp only;omega,by simp only;omega,by simp only;omega,h4,fun k hk h=>Int.not_lt.1 (hno g' k hk h)⟩,by simp [St.le],by simp only;omega⟩
  · obtain rfl:i=j:=by omega
    have hlt:decide (i<i)=false:=decide_eq_false (by omega)
    obtain ⟨u,hu⟩:∃ u,i=m+u:=⟨i-m,by omega⟩
    have huY:u≤Y.length:=by omega
    have hmg:stMerge (cmpC cs) [x] Y=Y.take u++x::Y.drop u:=by
      have:=merge_one_left hc x (Y.take u) (Y.drop u) (fun y hy=>by
        obtain ⟨k,hk,rfl⟩:=List.getElem_of_mem hy
        rw [List.length_take] at hk
        rw [List.getElem_take]
        exact h4 k (by omega) (by omega)) (fun y hy=>by
        obtain ⟨k,hk,rfl⟩:=List.getElem_of_mem hy
        rw [List.length_drop] at hk
        rw [List.getElem_drop]
        exact h5 (u+k) (by omega) (by omega))
      rwa [List.take_append_drop] at this
    have hR0:R=rowM A Y x B 0:=by rw [hR];simp [rowM]
    have hwi:IntKind.i64.wrap ((i:Int)-1)=((a+u:Nat):Int):=by rw [IntWalk.i64_in _ (by omega)];omega
    simp -dsimp [hlt]
    refine VL.loop (fun s:I1=>⟨[(13,.c (i64 s.q)),(10,.c (i64 i)),(0,.own 1 n),(1,.c (i64 a)),(2,.c (i64 m)),(3,.c (i64 b)),(4,srtFn nc cs)],(1,some (.arr false 3 (facts (rowM A Y x B s.j)) 0))::pinS5 uf n a m b (.fn 57 [.dp [.sl nc (ints cs)]])⟩)
      (fun s=>s.j≤u∧s.q=a+s.j) (fun s=>u-s.j) ⟨0,a⟩ (by kernel_rfl) ⟨Nat.zero_le _,rfl⟩ (by rw [hR0];simp [St.le]) ?_
    intro ⟨t,k⟩ ⟨ht,hkt⟩
    simp only at ht hkt
    by_cases h6:t<u
    · have hlt2:decide ((k:Int)<(a:Int)+(u:Int))=true:=decide_eq_true (by omega)
      have htY:t<Y.length:=by omega
      have q1:=rowM_x A Y x B t (by omega)
      have q2:=rowM_y A Y x B t htY
      have q3:=rowM_r A Y x B t htY
      have q4:=rowM_len A Y x B t (by omega)
      rw [← ha,← hkt] at q1 q2 q3
      generalize Y[t]=y at *
      obtain ⟨S,hS,q1,q2,q3,q4⟩:∃ S,rowM A Y x B t=S∧S[k]? = some x∧S[k+1]? = some y∧(S.set k y).set (k+1) x=rowM A Y x B (t+1)∧S.length=n:=⟨_,rfl,q1,q2,q3,by omega⟩
      obtain ⟨hk1,q1⟩:=List.getElem?_eq_some_iff.1 q1
      obtain ⟨hk2,q2⟩:=List.getElem?_eq_some_iff.1 q2
      rw [hS]
      have hwk:IntKind.i64.wrap ((k:Int)+1)=((k+1:Nat):Int):=by rw [IntWalk.i64_in _ (by omega)];rfl
      have hk1':k<n:=by omega
      have hk2':k+1<n:=by omega
      have hswc:((facts S).set k y.cells).set (k+1) x.cells=facts (rowM A Y x B (t+1)):=by rw [← q3];simp [facts,List.map_set]
      rw [show y.cells=[.sl y.nl (vals y.row),i64 y.p.f,i64 y.p.t] from rfl,show x.cells=[.sl x.nl (vals x.row),i64 x.p.f,i64 x.p.t] from rfl] at hswc
      simp -dsimp [hwi,hlt2]
      refine VL.draw (by kernel_rfl) [(0,false),(0,false),(0,false),(0,false),(8,false),(0,false),(0,false),(64,false),(224,false),(480,false),(0,false),(0,false),(3072,false),(7168,false),(16355,false),(32739,false),(65535,true),(131071,true)] (by kernel_rfl) ?_
      simp -dsimp [hwk,q1,q2,q4,hk1',hk2',Fact.cells]
      refine ⟨by omega,⟨t+1,k+1⟩,⟨by simp only;omega,by simp only;omega⟩,?_,by simp only;omega⟩
      have hd:∀ hh,List.drop 3 (((facts S).set k [.sl y.nl (vals y.row),i64 y.p.f,i64 y.p.t])[k+1]'hh)=[]:=fun hh=>by
        rw [List.getElem_set_ne (by omega)]
        simp [facts,Fact.cells]
      simp [St.le,hswc]
    · obtain rfl:t=u:=by omega
      have hlt2:decide ((k:Int)<(a:Int)+(t:Int))=false:=decide_eq_false (by omega)
      simp -dsimp [hwi,hlt2]
      simp [resEnd,pinsEnd,rowF,hmg,rowM]
set_option maxRecDepth 20000 in
set_option maxHeartbeats 16000000 in
theorem sym_right (nc:Bool) (cs:List Int) (hcs:cs.length≤1000000000000) (A X:List Fact) (y:Fact) (B:List Fact) (hX1:X.length≠1) (hX:UpS (cmpC cs) X) (hy:y.row.length≤140737488355328) (hr:∀ f∈X,f.row.length≤140737488355328):SymCon nc cs A X [y] B:=by
  intro n a m b hn hl ha hm hb
  simp only [List.length_cons,List.length_nil] at hn hm hb
  refine spec_ofB 2 Tryz.func118 rfl (by kernel_rfl) (by simp [Tryz.f118]) (by simp [rowF]) rfl (fun w0 K0 uf=>vc_ok _ _ _ (by kernel_rfl) ?_)
  simp only [Tryz.f118]
  have hw0:IntKind.i64.wrap ((m:Int)-(a:Int))=(X.length:Int):=by rw [IntWalk.i64_in _ (by omega)];omega
  have hX1':((X.length:Int) == 1)=false:=by simp;omega
  have hw1:IntKind.i64.wrap ((b:Int)-(m:Int))=1:=by rw [IntWalk.i64_in _ (by omega)];omega
  obtain ⟨R,hR⟩:∃ R,R=A++(X++([y]++B)):=⟨_,rfl⟩
  have hRl:R.length=n:=by rw [hR];simp;omega
  have hR0:R=rowM A X y B X.length:=by rw [hR];simp [rowM]
  have hRm:R[m]? = some y:=by
    rw [hR0,hm];exact rowM_x A X y B X.length (Nat.le_refl _)
  have hRX:∀ k,(hk:k<X.length)→R[a+k]? = some X[k]:=fun k hk=>by
    rw [hR,ha]
    have hh:A.length+k<(A++(X++([y]++B))).length:=by simp;omega
    exact (List.getElem?_eq_getElem hh).trans (congrArg some (getX A X [y] B k hk hh))
  have hc:=Cmp.cols cs
  simp -dsimp [initB,initEnv,pinsOf,rowF,hw0,hX1',hw1]
  refine VL.loop (fun i:I1=>⟨[(14,.c (i64 i.j)),(15,.c (i64 i.q)),(0,.own 1 n),(1,.c (i64 a)),(2,.c (i64 m)),(3,.c (i64 b)),(4,srtFn nc cs)],(1,some (.arr false 3 (facts R) 0))::pinS5 uf n a m b (.fn 57 [.dp [.sl nc (ints cs)]])⟩)
    (fun i=>a≤i.j∧i.j≤i.q∧i.q≤m∧(∀ k,(h:k<X.length)→a+k<i.j→0≤cmpC cs y X[k])∧(∀ k,(h:k<X.length)→i.q≤a+k→cmpC cs y X[k] < 0)) (fun i=>i.q-i.j) ⟨a,m⟩ (by kernel_rfl) ⟨Nat.le_refl _,by simp only;omega,Nat.le_refl _,fun k _ h=>absurd h (by simp only;omega),fun k h1 h2=>absurd h2 (by simp only;omega)⟩ (by rw [hR];simp [St.le]) ?_
  intro ⟨i,j⟩ ⟨h1,h2,h3,h4,h5⟩
  simp only at h1 h2 h3 h4 h5
  by_cases hij:i<j
  · have hlt:decide (i<j)=true:=decide_eq_true hij
    obtain ⟨h,hh⟩:∃ h,h=(i+j) / 2:=⟨_,rfl⟩
    have hwh:=half_eq i j h hh (by omega) (by omega)
    have hwh1:IntKind.i64.wrap ((h:Int)+1)=((h+1:Nat):Int):=by rw [IntWalk.i64_in _ (by omega)];rfl
    have hhl:i≤h:=by omega
    have hhr:h<j:=by omega
    obtain ⟨k0,hk0⟩:∃ k0,h=a+k0:=⟨h-a,by omega⟩
    have hk1:k0<X.length:=by omega
    obtain ⟨ha1,hRy⟩:=List.getElem?_eq_some_iff.1 hRm
    have hRx0:=hRX k0 hk1
    rw [← hk0] at hRx0
    obtain ⟨hh1,hRx⟩:=List.getElem?_eq_some_iff.1 hRx0
    have hcy:=srt_spec nc cs hcs y X[k0] hy (hr _ (List.getElem_mem hk1))
    have hmn:m<n:=by omega
    have hhn:h<n:=by omega
    have hyes:0≤cmpC cs y X[k0]→∀ k,(hk:k<X.length)→a+k<h+1→0≤cmpC cs y X[k]:=fun g k hk hkh=>by
      by_cases e:k=k0
      · subst e;exact g
      · refine Int.not_lt.1 fun e2=>?_
        have:=hc.lt e2 (up_at hX (by omega:k<k0) hk1)
        omega
    have hno:cmpC cs y X[k0] < 0→∀ k,(hk:k<X.length)→h≤a+k→cmpC cs y X[k] < 0:=fun g k hk hkh=>by
      by_cases e:k=k0
      · subst e;exact g
      · exact hc.lt g (up_at hX (by omega:k0<k) hk)
    generalize X[k0]=x at *
    simp -dsimp [hlt,hwh]
    refine VL.draw (by kernel_rfl) [(0,false),(0,false),(0,false),(6,false),(14,false),(0,false),(0,false),(96,false),(224,false),(511,true),(1023,true),(2047,true)] (by kernel_rfl) ?_
    simp -dsimp [hRx,hRy,hRl,hmn,hhn,Fact.cells]
    refine VC.mk _ hcy ?_
    simp -dsimp
    refine VIf.mk (fun g=>?_) (fun g=>?_)
    · have g':0≤cmpC cs y x:=by simpa using g
      simp -dsimp [hwh1]
      exact ⟨⟨h+1,j⟩,⟨by simp only;omega,by simp only;omega,by simp only;omega,hyes g',h5⟩,by simp [St.le],by simp only;omega⟩
    · have g':cmpC cs y x<0:=by simpa using g
      simp -dsimp
      exact ⟨⟨i,h⟩,⟨by simp only;omega,by simp only;omega,by simp only;omega,h4,hno g'⟩,by simp [St.le],by simp only;omega⟩
  · obtain rfl:i=j:=by omega
    have hlt:decide (i<i)=false:=decide_eq_false (by omega)
    obtain ⟨u,hu⟩:∃ u,i=a+u:=⟨i-a,by omega⟩
    have huX:u≤X.length:=by omega
    have hmg:stMerge (cmpC cs) X [y]=X.take u++y::X.drop u:=by
      have:=merge_one_right hc y (X.take u) (X.drop u) (fun x hx=>by
        obtain ⟨k,hk,rfl⟩:=List.getElem_of_mem hx
        rw [List.length_take] at hk
        rw [List.getElem_take]
        exact Int.not_lt.2 (h4 k (by omega) (by omega))) (fun x hx=>by
        obtain ⟨k,hk,rfl⟩:=List.getElem_of_mem hx
        rw [List.length_drop] at hk
        rw [List.getElem_drop]
        exact h5 (u+k) (by omega) (by omega))
      rwa [List.take_append_drop] at this
    simp -dsimp [hlt]
    refine VL.loop (fun s:I1=>⟨[(17,.c (i64 s.q)),(14,.c (i64 i)),(0,.own 1 n),(1,.c (i64 a)),(2,.c (i64 m)),(3,.c (i64 b)),(4,srtFn nc cs)],(1,some (.arr false 3 (facts (rowM A X y B s.j)) 0))::pinS5 uf n a m b (.fn 57 [.dp [.sl nc (ints cs)]])⟩)
      (fun s=>u≤s.j∧s.j≤X.length∧s.q=a+s.j) (fun s=>s.j-u) ⟨X.length,m⟩ (by kernel_rfl) ⟨huX,Nat.le_refl _,by simp only;omega⟩ (by rw [hR0];simp [St.le]) ?_
    intro ⟨t,k⟩ ⟨ht,htX,hkt⟩
    simp only at ht htX hkt
    by_cases h6:u<t
    · have hlt2:decide (i<k)=true:=decide_eq_true (by omega)
      obtain ⟨t,rfl⟩:∃ t',t=t'+1:=⟨t-1,by omega⟩
      obtain ⟨k,rfl⟩:∃ k',k=k'+1:=⟨k-1,by omega⟩
      have hkt:k=a+t:=by omega
      have q1:=rowM_x A X y B (t+1) htX
      have q2:=rowM_y1 A X y B t htX
      have q3:=rowM_l A X y B t htX
      have q4:=rowM_len A X y B (t+1) htX
      rw [← Nat.add_assoc,← ha,← hkt] at q1
      rw [← ha,← hkt] at q2 q3
      generalize X[t]=x at *
      obtain ⟨S,hS,q1,q2,q3,q4⟩:∃ S,rowM A X y B (t+1)=S∧S[k+1]? = some y∧S[k]? = some x∧(S.set (k+1) x).set k y=rowM A X y B t∧S.length=n:=⟨_,rfl,q1,q2,q3,by omega⟩
      obtain ⟨hk1,q1⟩:=List.getElem?_eq_some_iff.1 q1
      obtain ⟨hk2,q2⟩:=List.getElem?_eq_some_iff.1 q2
      rw [hS]
      have hwk:IntKind.i64.wrap (k:Int)=(k:Int):=IntWalk.i64_in _ (by omega)
      have hk1':k<n:=by omega
      have hk2':k+1<n:=by omega
      have hswc:((facts S).set (k+1) x.cells).set k y.cells=facts (rowM A X y B t):=by rw [← q3];simp [facts,List.map_set]
      rw [show y.cells=[.sl y.nl (vals y.row),i64 y.p.f,i64 y.p.t] from rfl,show x.cells=[.sl x.nl (vals x.row),i64 x.p.f,i64 x.p.t] from rfl] at hswc
      have hlt3:decide ((i:Int)<(k:Int)+1)=true:=decide_eq_true (by omega)
      simp -dsimp [hlt3]
      refine VL.draw (by kernel_rfl) [(0,false),(0,false),(0,false),(0,false),(8,false),(0,false),(0,false),(64,false),(224,false),(480,false),(0,false),(0,false),(3072,false),(7168,false),(16355,false),(32739,false),(65535,true),(131071,true)] (by kernel_rfl) ?_
      simp -dsimp [hwk,q1,q2,q4,hk1',hk2',Fact.cells]
      refine ⟨by omega,⟨t,k⟩,⟨by simp only;omega,by simp only;omega,by simp only;omega⟩,?_,by simp only;omega⟩
      have hd:∀ hh,List.drop 3 (((facts S).set (k+1) [.sl x.nl (vals x.row),i64 x.p.f,i64 x.p.t])[k]'hh)=[]:=fun hh=>by
        rw [List.getElem_set_ne (by omega)]
        simp [facts,Fact.cells]
      simp [St.le,hd,hswc]
    · obtain rfl:t=u:=by omega
      have hlt2:decide (i<k)=false:=decide_eq_false (by omega)
      simp -dsimp [hlt2]
      simp [resEnd,pinsEnd,rowF,hmg,rowM]
end Go.Proofs.YtlphpbcafplnbaaGreat
