/- Contracts of functions of the seat, proved in a logic on data over the model (part S4). -/
import Derived.Test.YtlphpbcafplnbaaGreatE3
import Derived.Test.YtlphpbcafplnbaaGreatVN17
set_option linter.unusedSimpArgs false
set_option linter.unusedVariables false
namespace Go.Proofs.YtlphpbcafplnbaaGreat
open Go.VL Go.RowKit
theorem rise_le {E:List Int} (hE:Rise E) {i j:Nat} (hij:i≤j) (hj:j<E.length):E[i]! ≤ E[j]! := by
  rw [getElem!_pos E i (by omega),getElem!_pos E j hj]
  rcases Nat.lt_or_eq_of_le hij with h | rfl
  · exact Int.le_of_lt (List.pairwise_iff_getElem.1 hE i j (by omega) hj h)
  · exact Int.le_refl _
theorem rise_between {E:List Int} (hE:Rise E) {t:Int} {i:Nat} : ∀ j,j<E.length→i<E.length→E[i]! ≤ t→t<E[j]! → ∃ i,i+1<E.length∧E[i]! ≤ t∧t<E[i+1]!
  | 0,hj,hi,h1,h2=>by have:=rise_le hE (Nat.zero_le i) hi;omega
  | j+1,hj,hi,h1,h2=>by
    by_cases h:E[j]! ≤ t
    · exact ⟨j,hj,h,h2⟩
    · exact rise_between hE j (by omega) hi h1 (by omega)
theorem mem_get! {E:List Int} {a:Int} (h:a∈E):∃ j,j<E.length∧E[j]! = a:=by
  obtain ⟨j,hj,rfl⟩:=List.getElem_of_mem h
  exact ⟨j,hj,getElem!_pos E j hj⟩
theorem has_between {ps:List Per} {p:Per} (hp:p∈ps) (hr:right p=true) {i:Nat} (hi:i+1<(edgesL ps).length) {t:Int} (h1:(edgesL ps)[i]! ≤ t) (h2:t<(edgesL ps)[i+1]!):has p (edgesL ps)[i]! = has p t:=by
  obtain ⟨hE,hm⟩:=edgesL_ok ps
  obtain ⟨jf,f1,f2⟩:=mem_get! ((hm p.f).2 ((mem_endsOf ps _).2 ⟨p,hp,hr,.inl rfl⟩))
  obtain ⟨jt,t1,t2⟩:=mem_get! ((hm p.t).2 ((mem_endsOf ps _).2 ⟨p,hp,hr,.inr rfl⟩))
  generalize edgesL ps=E at *
  have key:∀ j,j<E.length→(E[j]! ≤ E[i]! ↔ E[j]! ≤ t):=by
    intro j hj
    constructor
    · intro h;omega
    · intro h
      by_cases e:j≤i
      · exact rise_le hE e (by omega)
      · have:=rise_le hE (show i+1≤j by omega) hj;omega
  have kf:=key jf f1
  have kt:=key jt t1
  rw [f2] at kf;rw [t2] at kt
  rw [Bool.eq_iff_iff,has_iff,has_iff]
  omega
structure StepsOf (st:List (Per × Int)) (c:Int→Int):Prop where
  some:∀ (t:Int) (k:Nat),1≤k→someP (here st k) t=decide ((k:Int)≤c t)
theorem cntP_pos {ps:List Per} {t:Int} (h:0<cntP ps t):∃ p∈ps,has p t=true:=by
  unfold cntP at h
  obtain ⟨p,hp⟩:=List.exists_mem_of_length_pos h
  obtain ⟨h1,h2⟩:=List.mem_filter.1 hp
  exact ⟨p,h1,h2⟩
theorem cntP_between {ps qs:List Per} (hsub:∀ p∈qs,p∈ps) (hr:∀ p∈qs,right p=true) {i:Nat} (hi:i+1<(edgesL ps).length) {t:Int} (h1:(edgesL ps)[i]! ≤ t) (h2:t<(edgesL ps)[i+1]!):cntP qs (edgesL ps)[i]! = cntP qs t:=by
  unfold cntP
  congr 1
  refine List.filter_congr fun p hp=>has_between (hsub p hp) (hr p hp) hi h1 h2
theorem edge_right {ps:List Per} {i:Nat} (hi:i+1<(edgesL ps).length):right ⟨(edgesL ps)[i]!,(edgesL ps)[i+1]!⟩=true:=by
  obtain ⟨hE,hm⟩:=edgesL_ok ps
  have bound:∀ t∈edgesL ps,0≤t∧t≤1099511627776:=by
    intro t ht
    obtain ⟨p,_,hr,e⟩:=(mem_endsOf ps t).1 ((hm t).1 ht)
    have:=(right_iff p).1 hr
    rcases e with rfl | rfl <;> omega
  rw [right_iff]
  rw [getElem!_pos _ i (by omega),getElem!_pos _ (i+1) hi]
  have b1:=bound _ (List.getElem_mem (h:=(by omega:i<(edgesL ps).length)))
  have b2:=bound _ (List.getElem_mem (h:=hi))
  have:=List.pairwise_iff_getElem.1 hE i (i+1) (by omega) hi (by omega)
  simp only
  omega
theorem stepsL_ok {plus minus:List Per} (hp:∀ p∈plus,right p=true) (hm:∀ p∈minus,right p=true):StepsOf (stepsL plus minus) fun t=>(cntP plus t:Int)-cntP minus t:=by
  refine ⟨fun t k hk=>?_⟩
  have hedge:=fun i=>@edge_right (plus++minus) i
  have hb1:=fun i (hi:i+1<(edgesL (plus++minus)).length) (t:Int)=>cntP_between (ps:=plus++minus) (qs:=plus) (by intro p h;simp [h]) hp hi (t:=t)
  have hb2:=fun i (hi:i+1<(edgesL (plus++minus)).length) (t:Int)=>cntP_between (ps:=plus++minus) (qs:=minus) (by intro p h;simp [h]) hm hi (t:=t)
  rw [Bool.eq_iff_iff]
  unfold someP here stepsL
  rw [List.any_eq_true]
  simp only [List.mem_map,List.mem_filter,List.mem_range,decide_eq_true_eq,Bool.and_eq_true,has_iff]
  constructor
  · rintro ⟨_,⟨_,⟨⟨i,hi,rfl⟩,hk⟩,rfl⟩,hr,h1,h2⟩
    simp only at hk h1 h2
    rw [hb1 i (by omega) t h1 h2,hb2 i (by omega) t h1 h2] at hk
    exact hk
  · intro h
    obtain ⟨p,hp1,hp2⟩:=cntP_pos (ps:=plus) (t:=t) (by omega)
    rw [has_iff] at hp2
    obtain ⟨hE,hmE⟩:=edgesL_ok (plus++minus)
    obtain ⟨jf,f1,f2⟩:=mem_get! ((hmE p.f).2 ((mem_endsOf _ _).2 ⟨p,by simp [hp1],hp p hp1,.inl rfl⟩))
    obtain ⟨jt,t1,t2⟩:=mem_get! ((hmE p.t).2 ((mem_endsOf _ _).2 ⟨p,by simp [hp1],hp p hp1,.inr rfl⟩))
    obtain ⟨i,i1,i2,i3⟩:=rise_between hE (t:=t) (i:=jf) jt t1 f1 (by omega) (by omega)
    refine ⟨_,⟨_,⟨⟨i,by omega,rfl⟩,?_⟩,rfl⟩,hedge i i1,i2,i3⟩
    simp only
    rw [hb1 i i1 t i2 i3,hb2 i i1 t i2 i3]
    exact h
section
variable {sortP:List Per→List Per}
theorem unionL_nil (hs:Sorts sortP):unionL sortP []=[]:=by
  unfold unionL
  have:sortP ([].filter right)=[]:=by
    have:=hs.len []
    simpa using this
  rw [this];rfl
def layersN (sortP:List Per→List Per) (row:List Val) (st:List (Per × Int)) (N:Nat):List Fact:=(List.range N).flatMap fun k=>(unionL sortP (here st (k+1))).map (mkF row)
def layersL (sortP:List Per→List Per) (row:List Val) (st:List (Per × Int)):List Fact:=layersN sortP row st (maxN st)
theorem layersN_succ (row:List Val) (st:List (Per × Int)) (N:Nat):layersN sortP row st (N+1)=layersN sortP row st N++(unionL sortP (here st (N+1))).map (mkF row):=by
  unfold layersN;rw [List.range_succ,List.flatMap_append];simp
theorem maxN_le (st:List (Per × Int)):∀ (m:Nat),m≤st.foldl (fun m s=>max m s.2.toNat) m∧∀ s∈st,s.2.toNat≤st.foldl (fun m s=>max m s.2.toNat) m:=by
  induction st with
  | nil=>intro m;simp
  | cons x st ih =>
    intro m
    rw [List.foldl_cons]
    obtain ⟨h1,h2⟩:=ih (max m x.2.toNat)
    refine ⟨by omega,fun s hs=>?_⟩
    rcases List.mem_cons.1 hs with rfl | hs
    · omega
    · exact h2 s hs
theorem here_big {st:List (Per × Int)} {k:Nat} (h:maxN st<k):here st k=[]:=by
  unfold here
  rw [List.map_eq_nil_iff,List.filter_eq_nil_iff]
  intro s hs
  have:=(maxN_le st 0).2 s hs
  unfold maxN at h
  simp only [decide_eq_true_eq]
  omega
theorem here_mono {st:List (Per × Int)} {k m:Nat} (hkm:k≤m) (h:here st k=[]):here st m=[]:=by
  unfold here at *
  rw [List.map_eq_nil_iff,List.filter_eq_nil_iff] at *
  intro s hs
  have:=h s hs
  simp only [decide_eq_true_eq] at *
  omega
theorem layersN_more (hs:Sorts sortP) (row:List Val) (st:List (Per × Int)) {N:Nat} (h:here st (N+1)=[]):∀ d,layersN sortP row st (N+d)=layersN sortP row st N
  | 0=>rfl
  | d+1=>by
    rw [← Nat.add_assoc,layersN_succ,here_mono (show N+1≤N+d+1 by omega) h,unionL_nil hs,layersN_more hs row st h d]
    simp
theorem layersN_stop (hs:Sorts sortP) (row:List Val) (st:List (Per × Int)) {N:Nat} (h:here st (N+1)=[]):layersN sortP row st N=layersL sortP row st:=by
  unfold layersL
  rcases Nat.le_total N (maxN st) with e | e
  · obtain ⟨d,hd⟩:=Nat.exists_eq_add_of_le e
    rw [hd,layersN_more hs row st h]
  · obtain ⟨d,hd⟩:=Nat.exists_eq_add_of_le e
    rw [hd,layersN_more hs row st (here_big (by omega))]
theorem StepsOf.union {st:List (Per × Int)} {c:Int→Int} (h:StepsOf st c) (hs:Sorts sortP) (k:Nat):Canon (unionL sortP (here st (k+1)))∧∀ t,inL (unionL sortP (here st (k+1))) t=decide ((k:Int)+1≤c t):=by
  obtain ⟨h1,h2⟩:=unionL_ok hs (here st (k+1))
  exact ⟨h1,fun t=>(h2 t).trans (h.some t (k+1) (by omega))⟩
theorem layers_ext (hs:Sorts sortP) (row:List Val) {st st':List (Per × Int)} {c c':Int→Int} (h:StepsOf st c) (h':StepsOf st' c') (e:∀ t,(c t).toNat=(c' t).toNat):layersL sortP row st=layersL sortP row st':=by
  rw [← layersN_stop hs row st (N:=max (maxN st) (maxN st')) (here_big (by omega)),← layersN_stop hs row st' (N:=max (maxN st) (maxN st')) (here_big (by omega))]
  unfold layersN
  congr 1
  funext k
  congr 1
  obtain ⟨a1,a2⟩:=h.union hs k
  obtain ⟨b1,b2⟩:=h'.union hs k
  refine a1.ext b1 fun t=>?_
  rw [a2,b2]
  refine decide_eq_decide.2 ?_
  have:=e t
  omega
theorem layers_nil (hs:Sorts sortP) (row:List Val) {st:List (Per × Int)} {c:Int→Int} (h:StepsOf st c) (e:∀ t,c t≤0):layersL sortP row st=[]:=by
  have h0:StepsOf [] fun _=>0:=⟨fun t k hk=>by
    unfold here someP
    simp;omega⟩
  rw [layers_ext hs row h h0 (fun t=>by have:=e t;omega)]
  rfl
def cnt (l:List Fact) (r:List Val) (t:Int):Nat:=(l.filter fun f=>decide (f.row=r) && validAt f t).length
theorem cnt_perm {l m:List Fact} (h:l.Perm m) (r:List Val) (t:Int):cnt l r t=cnt m r t:=(h.filter _).length_eq
@[simp] theorem cnt_nil (r:List Val) (t:Int):cnt [] r t=0:=rfl
theorem cnt_append (l m:List Fact) (r:List Val) (t:Int):cnt (l++m) r t=cnt l r t+cnt m r t:=by unfold cnt;rw [List.filter_append,List.length_append]
theorem cnt_cons (f:Fact) (l:List Fact) (r:List Val) (t:Int):cnt (f::l) r t=(if f.row=r∧validAt f t=true then 1 else 0)+cnt l r t:=by
  unfold cnt
  rw [List.filter_cons]
  by_cases h:f.row=r∧validAt f t=true
  · rw [if_pos h,if_pos (by simp [h]),List.length_cons];omega
  · rw [if_neg h,if_neg (by simpa using h)];omega
theorem cnt_sortF (l:List Fact) (r:List Val) (t:Int):cnt (sortF l) r t=cnt l r t:=cnt_perm (sortF_perm l) r t
theorem cnt_none {l:List Fact} {r:List Val} (h:∀ f∈l,f.row≠r) (t:Int):cnt l r t=0:=by
  unfold cnt
  rw [List.length_eq_zero_iff,List.filter_eq_nil_iff]
  intro f hf
  simp [h f hf]
theorem canon_cnt {u:List Per} (hu:Canon u) (t:Int):(u.filter fun p=>has p t).length=if inL u t then 1 else 0:=by
  induction u with
  | nil=>rfl
  | cons p u ih =>
    have ih:=ih hu.tail
    rw [List.filter_cons,inL_cons]
    by_cases h:has p t=true
    · rw [if_pos h,List.length_cons,ih,h,Bool.true_or,if_pos rfl]
      have:inL u t=false:=by
        rw [Bool.eq_false_iff];intro e
        have:=hu.head e
        rw [has_iff] at h;omega
      rw [this];rfl
    · rw [if_neg h,ih]
      simp only [Bool.not_eq_true] at h
      rw [h,Bool.false_or]
theorem cnt_mkF {u:List Per} (hu:Canon u) (row r:List Val) (t:Int):cnt (u.map (mkF row)) r t=if row=r∧inL u t=true then 1 else 0:=by
  by_cases h:row=r
  · subst h
    have e:=canon_cnt hu t
    unfold cnt
    rw [List.filter_map,List.length_map]
    have e2:u.filter ((fun f=>decide (f.row=row) && validAt f t) ∘ mkF row)=u.filter fun p=>has p t:=by
      refine List.filter_congr fun p hp=>?_
      simp [mkF,validAt,hu.ok p hp]
    rw [e2,e]
    simp
  · rw [if_neg (fun e=>h e.1)]
    refine cnt_none (fun f hf=>?_) t
    obtain ⟨p,_,rfl⟩:=List.mem_map.1 hf
    exact h
theorem cnt_layersN (hs:Sorts sortP) (row:List Val) {st:List (Per × Int)} {c:Int→Int} (h:StepsOf st c) (r:List Val) (t:Int):∀ N,cnt (layersN sortP row st N) r t=if row=r then min N (c t).toNat else 0
  | 0=>by simp [layersN]
  | N+1=>by
    obtain ⟨u1,u2⟩:=h.union hs N
    rw [layersN_succ,cnt_append,cnt_layersN hs row h r t N,cnt_mkF u1,u2]
    by_cases e:row=r
    · rw [if_pos e,if_pos e]
      by_cases e2:(N:Int)+1≤c t
      · rw [if_pos ⟨e,by simpa using e2⟩];omega
      · rw [if_neg (by simp [e2])];omega
    · rw [if_neg e,if_neg e,if_neg (fun x=>e x.1)]
theorem cnt_layers (hs:Sorts sortP) (row:List Val) {st:List (Per × Int)} {c:Int→Int} (h:StepsOf st c) (r:List Val) (t:Int):cnt (layersL sortP row st) r t=if row=r then (c t).toNat else 0:=by
  rw [← layersN_stop hs row st (N:=max (maxN st) (c t).toNat) (here_big (by omega)),cnt_layersN hs row h r t]
  have:min (max (maxN st) (c t).toNat) (c t).toNat=(c t).toNat:=by omega
  rw [this]
theorem layers_row {row:List Val} {st:List (Per × Int)} {f:Fact} (h:f∈layersL sortP row st):f.row=row∧Normed f:=by
  unfold layersL layersN at h
  obtain ⟨k,_,h⟩:=List.mem_flatMap.1 h
  obtain ⟨p,_,rfl⟩:=List.mem_map.1 h
  exact ⟨rfl,rfl⟩
def RSort (rows:List (List Val)):Prop:=rows.Pairwise fun a b=>cmpR a b<0
theorem RSort.ext:∀ {l m:List (List Val)},RSort l→RSort m→(∀ r,r∈l↔r∈m)→l=m
  | [],[],_,_,_=>rfl
  | [],y::m,_,_,h=>by have:=(h y).2 (by simp);simp at this
  | x::l,[],_,_,h=>by have:=(h x).1 (by simp);simp at this
  | x::l,y::m,hl,hm,h=>by
    obtain ⟨l1,l2⟩:=List.pairwise_cons.1 hl
    obtain ⟨m1,m2⟩:=List.pairwise_cons.1 hm
    have hx:=(h x).1 (by simp)
    have hy:=(h y).2 (by simp)
    have hanti:=Cmp.row.anti x y
    have e:x=y:=by
      rcases List.mem_cons.1 hx with e | e
      · exact e
      · rcases List.mem_cons.1 hy with e2 | e2
        · exact e2.symm
        · have:=l1 y e2;have:=m1 x e;omega
    subst e
    have hself:=Cmp.row.self x
    congr 1
    refine RSort.ext l2 m2 fun t=>⟨fun ht=>?_,fun ht=>?_⟩
    · rcases List.mem_cons.1 ((h t).1 (by simp [ht])) with e | e
      · have:=l1 t ht;subst e;omega
      · exact e
    · rcases List.mem_cons.1 ((h t).2 (by simp [ht])) with e | e
      · have:=m1 t ht;subst e;omega
      · exact e
theorem RSort.nodup {rows:List (List Val)} (h:RSort rows):rows.Nodup:=h.imp fun {a b} hab e=>by subst e;rw [Cmp.row.self] at hab;omega
theorem cnt_flatMap (G:List Val→List Fact) (hG:∀ r,∀ f∈G r,f.row=r) (r:List Val) (t:Int):∀ (rows:List (List Val)),rows.Nodup→cnt (rows.flatMap G) r t=if r∈rows then cnt (G r) r t else 0
  | [],_=>by simp
  | x::rows,hn=>by
    obtain ⟨n1,n2⟩:=List.nodup_cons.1 hn
    rw [List.flatMap_cons,cnt_append,cnt_flatMap G hG r t rows n2]
    by_cases e:r=x
    · subst e;rw [if_neg n1,if_pos (by simp)];omega
    · rw [cnt_none (l:=G x) (fun f hf=>by rw [hG x f hf];exact fun h=>e h.symm)]
      by_cases h:r∈rows
      · rw [if_pos h,if_pos (by simp [h])];omega
      · rw [if_neg h,if_neg (by simp [h,e])]
def formL (sortP:List Per→List Per) (rows:List (List Val)) (S:List Val→List (Per × Int)):List Fact:=sortF (rows.flatMap fun r=>layersL sortP r (S r))
structure IsForm (sortP:List Per→List Per) (m:List Fact) (rows:List (List Val)) (S:List Val→List (Per × Int)) (c:List Val→Int→Int):Prop where
  rws:RSort rows
  stp:∀ r∈rows,StepsOf (S r) (c r)
  eqn:m=formL sortP rows S
theorem IsForm.cnt {m:List Fact} {rows:List (List Val)} {S:List Val→List (Per × Int)} {c:List Val→Int→Int} (h:IsForm sortP m rows S c) (hs:Sorts sortP) (r:List Val) (t:Int):Go.Proofs.YtlphpbcafplnbaaGreat.cnt m r t=if r∈rows then (c r t).toNat else 0:=by
  rw [h.eqn]
  unfold formL
  rw [cnt_sortF,cnt_flatMap _ (fun r f hf=>(layers_row hf).1) r t rows h.rws.nodup]
  by_cases e:r∈rows
  · rw [if_pos e,if_pos e,cnt_layers hs r (h.stp r e),if_pos rfl]
  · rw [if_neg e,if_neg e]
theorem flatMap_congr' {α β:Type} {G H:α→List β} : ∀ {l:List α},(∀ x∈l,G x=H x)→l.flatMap G=l.flatMap H
  | [],_=>rfl
  | x::l,h=>by rw [List.flatMap_cons,List.flatMap_cons,h x (by simp),flatMap_congr' fun y hy=>h y (by simp [hy])]
theorem flatMap_filter {α β:Type} (G:α→List β) (q:α→Bool):∀ (l:List α),(∀ x∈l,q x=false→G x=[])→l.flatMap G=(l.filter q).flatMap G
  | [],_=>rfl
  | x::l,h=>by
    rw [List.flatMap_cons,flatMap_filter G q l (fun y hy=>h y (by simp [hy])),List.filter_cons]
    by_cases e:q x=true
    · rw [if_pos e,List.flatMap_cons]
    · rw [if_neg e,h x (by simp) (by simpa using e),List.nil_append]
open Classical in
theorem IsForm.ext {m m':List Fact} {rows rows':List (List Val)} {S S':List Val→List (Per × Int)} {c c':List Val→Int→Int} (h:IsForm sortP m rows S c) (h':IsForm sortP m' rows' S' c') (hs:Sorts sortP)
    (e:∀ r t,Go.Proofs.YtlphpbcafplnbaaGreat.cnt m r t=Go.Proofs.YtlphpbcafplnbaaGreat.cnt m' r t):m=m':=by
  have e1:=h.cnt hs
  have e2:=h'.cnt hs
  have e3:∀ r t,(if r∈rows then (c r t).toNat else 0)=if r∈rows' then (c' r t).toNat else 0:=fun r t=>by rw [← e1,← e2,e]
  rw [h.eqn,h'.eqn]
  unfold formL
  congr 1
  rw [flatMap_filter _ (fun r=>decide (∃ t,0<c r t)) rows (fun r hr hq=>layers_nil hs r (h.stp r hr) fun t=>by
    simp only [decide_eq_false_iff_not,not_exists] at hq
    have:=hq t;omega)]
  rw [flatMap_filter _ (fun r=>decide (∃ t,0<c' r t)) rows' (fun r hr hq=>layers_nil hs r (h'.stp r hr) fun t=>by
    simp only [decide_eq_false_iff_not,not_exists] at hq
    have:=hq t;omega)]
  have er:rows.filter (fun r=>decide (∃ t,0<c r t))=rows'.filter (fun r=>decide (∃ t,0<c' r t)):=by
    refine RSort.ext (h.rws.sublist List.filter_sublist) (h'.rws.sublist List.filter_sublist) fun r=>?_
    simp only [List.mem_filter,decide_eq_true_eq]
    constructor
    · rintro ⟨hr,t,ht⟩
      have:=e3 r t
      rw [if_pos hr] at this
      by_cases hr':r∈rows'
      · rw [if_pos hr'] at this
        exact ⟨hr',t,by omega⟩
      · rw [if_neg hr'] at this;omega
    · rintro ⟨hr,t,ht⟩
      have:=e3 r t
      rw [if_pos hr] at this
      by_cases hr':r∈rows
      · rw [if_pos hr'] at this
        exact ⟨hr',t,by omega⟩
      · rw [if_neg hr'] at this;omega
  rw [← er]
  refine flatMap_congr' fun r hr=>?_
  have hr1:=(List.mem_filter.1 hr).1
  have hr2:=(List.mem_filter.1 (er ▸ hr)).1
  refine layers_ext hs r (h.stp r hr1) (h'.stp r hr2) fun t=>?_
  have:=e3 r t
  rwa [if_pos hr1,if_pos hr2] at this
def rightL (l:List Fact):List Fact:=sortF ((l.filter fun f=>Go.Proofs.YtlphpbcafplnbaaGreat.right f.p).map norm)
theorem rightL_mem {l:List Fact} {f:Fact} : f∈rightL l↔∃ g∈l,Go.Proofs.YtlphpbcafplnbaaGreat.right g.p=true∧norm g=f:=by
  unfold rightL
  rw [(sortF_perm _).mem_iff]
  simp [and_assoc]
theorem rightL_cnt (l:List Fact) (r:List Val) (t:Int):cnt (rightL l) r t=cnt l r t:=by
  unfold rightL
  rw [cnt_sortF]
  unfold cnt
  rw [List.filter_map,List.length_map,List.filter_filter]
  congr 1
  refine List.filter_congr fun f _=>?_
  simp only [Function.comp,norm,validAt]
  cases Go.Proofs.YtlphpbcafplnbaaGreat.right f.p <;> simp <;> rfl
theorem rightL_len (l:List Fact):(rightL l).length≤l.length:=by
  unfold rightL
  rw [sortF_len,List.length_map];exact List.length_filter_le _ _
def rowsOf (l:List Fact):List (List Val):=(groupsL (rightL l)).map Prod.fst
def perOf (l:List Fact) (r:List Val):List Per:=((rightL l).filter (alikeR r)).map Fact.p
theorem perOf_right (l:List Fact) (r:List Val):∀ p∈perOf l r,Go.Proofs.YtlphpbcafplnbaaGreat.right p=true:=by
  intro p hp
  obtain ⟨f,hf,rfl⟩:=List.mem_map.1 hp
  obtain ⟨g,_,h1,rfl⟩:=rightL_mem.1 (List.mem_filter.1 hf).1
  exact h1
theorem perOf_cnt (l:List Fact) (r:List Val) (t:Int):cntP (perOf l r) t=cnt l r t:=by
  rw [← rightL_cnt]
  unfold cntP perOf cnt
  rw [List.filter_map,List.length_map,List.filter_filter]
  congr 1
  refine List.filter_congr fun f hf=>?_
  obtain ⟨g,_,h1,rfl⟩:=rightL_mem.1 hf
  have h2:Go.Proofs.YtlphpbcafplnbaaGreat.right (norm g).p=true:=h1
  simp [alikeR,validAt,h2,Bool.and_comm]
theorem rowsOf_ok (l:List Fact):RSort (rowsOf l)∧∀ r t,0<cnt l r t→r∈rowsOf l:=by
  obtain ⟨h1,h2,h3⟩:=groups_ok _ (rightL l) (Nat.le_refl _) (sortF_up _)
  refine ⟨List.pairwise_map.2 h1,fun r t h=>?_⟩
  rw [← rightL_cnt] at h
  unfold cnt at h
  obtain ⟨f,hf⟩:=List.exists_mem_of_length_pos h
  obtain ⟨hf,hv⟩:=List.mem_filter.1 hf
  simp at hv
  obtain ⟨x,hx,e⟩:=h3 f hf
  exact List.mem_map.2 ⟨x,hx,by rw [e,hv.1]⟩
theorem groups_flatMap {β:Type} (l:List Fact) (G:List Val→List Per→List β):((groupsL (rightL l)).flatMap fun x=>G x.1 x.2)=(rowsOf l).flatMap fun r=>G r (perOf l r):=by
  obtain ⟨_,h2,_⟩:=groups_ok _ (rightL l) (Nat.le_refl _) (sortF_up _)
  unfold rowsOf
  rw [List.flatMap_map]
  refine flatMap_congr' fun x hx=>?_
  rw [(h2 x hx).1];rfl
def normalL (sortP:List Per→List Per) (l:List Fact):List Fact:=sortF ((groupsL (rightL l)).flatMap fun x=>layersL sortP x.1 (stepsL x.2 []))
theorem normal_form (l:List Fact):IsForm sortP (normalL sortP l) (rowsOf l) (fun r=>stepsL (perOf l r) []) fun r t=>cnt l r t:=by
  refine ⟨(rowsOf_ok l).1,fun r _=>?_,?_⟩
  · have:=stepsL_ok (plus:=perOf l r) (minus:=[]) (perOf_right l r) (by simp)
    have e:(fun t=>(cntP (perOf l r) t:Int)-cntP [] t)=fun t=>(cnt l r t:Int):=by funext t;rw [perOf_cnt];simp [cntP]
    rwa [e] at this
  · unfold normalL formL
    rw [groups_flatMap l fun r ps=>layersL sortP r (stepsL ps [])]
theorem normal_cnt (hs:Sorts sortP) (l:List Fact) (r:List Val) (t:Int):cnt (normalL sortP l) r t=cnt l r t:=by
  rw [(normal_form l).cnt hs r t]
  by_cases h:r∈rowsOf l
  · rw [if_pos h];simp
  · rw [if_neg h]
    rcases Nat.eq_zero_or_pos (cnt l r t) with e | e
    · exact e.symm
    · exact absurd ((rowsOf_ok l).2 r t e) h
end
def rowF (i:Nat) (l:List Fact):List (Nat × Res):=[(i,.arr false 3 (facts l) 0)]
structure SortsF:Prop where
  con:∀ l,l≠[]→(∀ f∈l,Normed f∧f.row.length≤140737488355328)→l.length≤140737488355328→ConB Tryz.prog 90 [.own 1 l.length,.c (.fn 91 [])] (rowF 1 l) [] [.own 1 l.length,.c (.fn 91 [])] (rowF 1 (sortF l))
  nil:Con Tryz.prog 90 [.c (.sl true []),.c (.fn 91 [])] []
theorem bcopied_at (b:Bool) (xs:List (List C)) (nl:Bool) (row:List Val) (h:xs=[[.sl nl (vals row)]]) (hR:row.length≤4398046511104):Con Tryz.prog 109 [.c (.sl b xs)] [.c (.sl row.isEmpty (vals row))]:=by
  have:=bcopied_spec b [(nl,row)] (by simp) (by simpa [catR] using hR)
  rw [h]
  simpa [catR] using this
def rightK (l:List Fact) (k:Nat):List Fact:=((l.take k).filter fun f=>right f.p).map norm
theorem rightK_snoc (l:List Fact) {k:Nat} (h:k<l.length):rightK l (k+1)=rightK l k++if right l[k].p then [norm l[k]] else []:=by
  unfold rightK
  rw [take_snoc h,List.filter_append,List.map_append]
  by_cases e:right l[k].p=true <;> simp [e]
theorem rightK_len (l:List Fact) (k:Nat):(rightK l k).length≤min k l.length:=by
  unfold rightK
  rw [List.length_map]
  exact Nat.le_trans (List.length_filter_le _ _) (by rw [List.length_take];omega)
theorem rightK_end (l:List Fact):sortF (rightK l l.length)=rightL l:=by unfold rightK rightL;rw [List.take_length]
theorem rightK_mem {l:List Fact} {k:Nat} {f:Fact} (h:f∈rightK l k):Normed f∧∃ g∈l,g.row=f.row:=by
  unfold rightK at h
  obtain ⟨g,hg,rfl⟩:=List.mem_map.1 h
  exact ⟨rfl,g,List.mem_of_mem_take (List.mem_filter.1 hg).1,rfl⟩
set_option maxRecDepth 4000 in
set_option maxHeartbeats 8000000 in
theorem right_spec (hf:SortsF) (nl:Bool) (l:List Fact) (hl:l.length≤3518437208883) (hr:Rows1 l) :
    Con Tryz.prog 85 [.c (.sl nl (facts l))] [.c (.sl (rightL l).isEmpty (facts (rightL l)))]:=by
  refine Con.frz (rs:=[.fr (rightL l).isEmpty (if (rightL l).isEmpty then 0 else 3) (facts (rightL l)) 0]) ?_ 0 rfl
  refine spec_of Tryz.func85 rfl (by kernel_rfl) (by simp [Tryz.f85]) (fun w0 K0=>vc_ok _ _ _ (by kernel_rfl) ?_)
  simp only [Tryz.f85]
  simp -dsimp
  refine VL.loop (fun i:KI=>⟨[(8,.c (i64 i.k)),(7,.c (i64 l.length)),(6,.c (.sl nl (facts l))),(3,.own 192 (rightK l i.k).length)],[(192,some (.arr i.nl i.sz (facts (rightK l i.k)) 0))]⟩)
    (fun i=>i.k≤l.length∧i.nl=(rightK l i.k).isEmpty∧i.sz=if i.nl then 0 else 3) (fun i=>l.length-i.k) ⟨0,true,0⟩ (by kernel_rfl) ⟨by simp,rfl,rfl⟩ (by simp [St.le,rightK]) ?_
  intro ⟨k,z,sz⟩ ⟨hk,hz,hsz⟩
  simp only at hk hz hsz
  have hkl:=rightK_len l k
  by_cases h1:k<l.length
  · have hw:IntKind.i64.wrap ((k:Int)+1)=(k:Int)+1:=IntWalk.i64_in _ (by omega)
    have hsn:=rightK_snoc l h1
    have hrk:=hr l[k] (List.getElem_mem h1)
    simp -dsimp [h1,hw,Fact.cells]
    refine VC.mk _ (check_at _ l[k].p rfl) ?_
    simp -dsimp
    refine VIf.mk (fun h=>?_) (fun h=>?_)
    · have h':right l[k].p=true:=by simpa using h
      rw [h',if_pos rfl] at hsn
      simp -dsimp
      refine VL.draw (by kernel_rfl) [(0,false),(0,false),(2,false),(6,false),(14,false),(0,false),(32,false),(126,false),(254,false),(511,true),(1023,true)] (by kernel_rfl) ?_
      simp -dsimp
      refine ⟨by decide,VCE.mk _ (bcopied_at false _ l[k].nl l[k].row rfl (by omega)) ?_⟩
      simp -dsimp [hw,maxLen]
      refine ⟨fun e=>by rw [hsz,e];rfl,by omega,⟨k+1,false,3⟩,⟨by simp only;omega,by rw [hsn];simp,rfl⟩,?_,by simp only;omega⟩
      simp [St.le,hsn,norm,Fact.cells]
    · have h':right l[k].p=false:=by simpa using h
      rw [h',if_neg (by simp),List.append_nil] at hsn
      simp -dsimp [hw]
      refine ⟨⟨k+1,z,sz⟩,⟨by simp only;omega,by rw [hsn];exact hz,hsz⟩,?_,by simp only;omega⟩
      simp [St.le,hsn]
  · obtain rfl:k=l.length:=by omega
    have he:=rightK_end l
    have hm:=fun f=>@rightK_mem l l.length f
    generalize rightK l l.length=m at *
    rw [← he]
    simp -dsimp
    have hN:∀ f∈m,Normed f∧f.row.length≤140737488355328:=by
      intro f hf
      obtain ⟨h1,g,hg,e⟩:=hm f hf
      have:=hr g hg
      exact ⟨h1,by rw [← e];omega⟩
    have hsl:=sortF_len m
    cases m with
    | nil =>
      have e0:sortF []=[]:=by simpa using hsl
      obtain rfl:z=true:=hz
      obtain rfl:sz=0:=by rw [hsz];rfl
      rw [e0]
      refine VCL.snap ?_
      simp -dsimp
      refine VC.mk _ hf.nil ?_
      simp -dsimp
    | cons x r =>
      obtain rfl:z=false:=hz
      obtain rfl:sz=3:=by rw [hsz];rfl
      generalize hx:x::r=m at *
      have hne:m≠[]:=by rw [← hx];simp
      have hse:(sortF m).isEmpty=false:=by
        rw [List.isEmpty_eq_false_iff];intro e;rw [e] at hsl
        exact hne (List.length_eq_zero_iff.1 hsl.symm)
      rw [hse]
      have hcs:=hf.con m hne hN (by omega)
      generalize sortF m=s at *
      refine VCL.lend (rowF 1 m) (rowF 1 s) [.own 1 m.length,.c (.fn 91 [])] _ _ (fun _=>192) [] ⟨hcs,?_,?_,?_,?_,?_,?_,?_⟩ ?_
      · simp [renSs,renS]
      · simp [rowF,renR]
      · simp [rowF]
      · simp [rowF]
      · simp [rowF,Res.nam]
      · simp [S.nams]
      · simp [rowF,lk,keptP]
        exact ⟨3,_,⟨rfl,rfl⟩,_,⟨rfl,rfl⟩,by simp,by simp [hsl]⟩
      simp -dsimp [rowF,retS,renSs]
      exact hsl
theorem swap_split2 {α:Type} (P Q T:List α) (x y:α):(((P++x::(Q++y::T)).set (P.length+(Q.length+1)) x).set P.length y)=P++y::(Q++x::T):=by
  rw [List.set_comm _ _ (by omega),swap_split]
section
variable {α:Type} {cf:α→α→Int}
def rowIn (A r:List α) (x:α) (T:List α) (m:Nat):List α:=A++((r.drop m).reverse++(x::((r.take m).reverse++T)))
theorem rowIn_len (A r:List α) (x:α) (T:List α) (m:Nat):(rowIn A r x T m).length=A.length+r.length+1+T.length:=by
  unfold rowIn
  simp only [List.length_append,List.length_reverse,List.length_cons,List.length_drop,List.length_take];omega
theorem rowIn_0 (A r:List α) (x:α) (T:List α):rowIn A r x T 0=A++(r.reverse++x::T):=by simp [rowIn]
theorem stIns_at (x:α):∀ (r:List α) (m:Nat),m≤r.length→(∀ j,j<m→(h:j<r.length)→cf x r[j] < 0)→(∀ h:m<r.length,¬ cf x r[m] < 0)→stIns cf x r=r.take m++x::r.drop m
  | [],m,hm,_,_=>by simp at hm;subst hm;rfl
  | y::r,0,_,_,h2=>by
    have h3:¬ cf x y<0:=h2 (by simp)
    rw [stIns,if_neg h3];rfl
  | y::r,m+1,hm,h1,h2=>by
    have h3:cf x y<0:=h1 0 (by omega) (by simp)
    rw [stIns,if_pos h3,stIns_at x r m (by simpa using hm) (fun j hj h=>h1 (j+1) (by omega) (by simpa using h)) (fun h=>h2 (by simpa using h))]
    rfl
theorem rowIn_end (A r:List α) (x:α) (T:List α) (m:Nat) (hm:m≤r.length) (h1:∀ j,j<m→(h:j<r.length)→cf x r[j] < 0) (h2:∀ h:m<r.length,¬ cf x r[m] < 0) :
    rowIn A r x T m=A++((stIns cf x r).reverse++T):=by
  rw [stIns_at x r m hm h1 h2]
  simp [rowIn]
theorem rowIn_x (A r:List α) (x:α) (T:List α) (m p:Nat) (hm:m≤r.length) (hp:p+m=A.length+r.length) (h:p<(rowIn A r x T m).length):(rowIn A r x T m)[p]=x:=by
  have:(rowIn A r x T m)[p]? = some x:=by
    unfold rowIn
    rw [List.getElem?_append_right (by omega),List.getElem?_append_right (by simp;omega)]
    have:p-A.length-(r.drop m).reverse.length=0:=by simp;omega
    rw [this];rfl
  rw [List.getElem?_eq_getElem h] at this
  exact Option.some.inj this
theorem rowIn_step (A r:List α) (x:α) (T:List α) (m:Nat) (hm:m<r.length) :
    rowIn A r x T m=(A++(r.drop (m+1)).reverse)++r[m]::([]++x::((r.take m).reverse++T)):=by
  have e:(r.drop m).reverse=(r.drop (m+1)).reverse++[r[m]]:=by rw [List.drop_eq_getElem_cons hm,List.reverse_cons]
  unfold rowIn
  rw [e]
  simp only [List.append_assoc,List.cons_append,List.nil_append]
theorem rowIn_y (A r:List α) (x:α) (T:List α) (m p:Nat) (hm:m<r.length) (hp:p+1+m=A.length+r.length) (h:p<(rowIn A r x T m).length):(rowIn A r x T m)[p]=r[m]:=by
  have:(rowIn A r x T m)[p]? = some r[m]:=by
    rw [rowIn_step A r x T m hm,List.getElem?_append_right (by simp;omega)]
    have:p-(A++(r.drop (m+1)).reverse).length=0:=by simp;omega
    rw [this];rfl
  rw [List.getElem?_eq_getElem h] at this
  exact Option.some.inj this
theorem rowIn_swap (A r:List α) (x:α) (T:List α) (m p:Nat) (hm:m<r.length) (hp:p+1+m=A.length+r.length):((rowIn A r x T m).set (p+1) r[m]).set p x=rowIn A r x T (m+1):=by
  have e:p=(A++(r.drop (m+1)).reverse).length:=by simp;omega
  have:=swap_split2 (A++(r.drop (m+1)).reverse) [] ((r.take m).reverse++T) r[m] x
  simp only [List.length_nil,Nat.zero_add] at this
  have e2:(r.take (m+1)).reverse=r[m]::(r.take m).reverse:=by rw [List.take_succ_eq_append_getElem hm,List.reverse_append];rfl
  rw [List.nil_append] at this
  rw [rowIn_step A r x T m hm,e,List.nil_append,this]
  unfold rowIn
  rw [e2]
  simp only [List.append_assoc,List.cons_append,List.nil_append]
theorem stSort_snoc (l:List α) {k:Nat} (h:k<l.length):stSort cf (l.take (k+1))=(stIns cf l[k] (stSort cf (l.take k)).reverse).reverse:=by
  unfold stSort
  rw [take_snoc h,List.foldl_append,List.reverse_reverse];rfl
end
structure I1 where
  j:Nat
  q:Nat
abbrev pinS (uf:Nat→Value) (n:Nat) (a b:Nat) (f:S):List (Nat × Option Res):=[(2,some (.pin (uf 0) (.own 1 n))),(3,some (.pin (uf 1) (.c (i64 a)))),(4,some (.pin (uf 2) (.c (i64 b)))),(5,some (.pin (uf 3) f))]
theorem td1 (A X B:List Fact):A++(X.take 1++(X.drop 1++B))=A++(X++B):=by rw [← List.append_assoc (X.take 1),List.take_append_drop]
set_option maxRecDepth 20000 in
set_option maxHeartbeats 16000000 in
theorem insSort_spec (nc:Bool) (cs:List Int) (hcs:cs.length≤1000000000000) (A X B:List Fact) (hr:∀ f∈X,f.row.length≤140737488355328) (hl:(A++(X++B)).length≤140737488355328) :
    ConB Tryz.prog 117 [.own 1 (A++(X++B)).length,.c (i64 A.length),.c (i64 ((A.length+X.length:Nat):Int)),srtFn nc cs] (rowF 1 (A++(X++B))) []
      [.own 1 (A++(X++B)).length,.c (i64 A.length),.c (i64 ((A.length+X.length:Nat):Int)),srtFn nc cs] (rowF 1 (A++(stSort (cmpC cs) X++B))):=by
  refine spec_ofB 2 Tryz.func117 rfl (by kernel_rfl) (by simp [Tryz.f117]) (by simp [rowF]) rfl (fun w0 K0 uf=>vc_ok _ _ _ (by kernel_rfl) ?_)
  simp only [Tryz.f117]
  have hlen:(A++(X++B)).length=A.length+X.length+B.length:=by simp;omega
  generalize hn:(A++(X++B)).length=n at *
  generalize ha:A.length=a at *
  generalize hb:a+X.length=b at *
  have hwa:IntKind.i64.wrap ((a:Int)+1)=((a+1:Nat):Int):=by rw [IntWalk.i64_in _ (by omega)];rfl
  simp -dsimp [initB,initEnv,pinsOf,rowF,hwa]
  cases X with
  | nil =>
    simp only [List.length_nil,Nat.add_zero] at hb
    subst hb
    have hlt:decide ((a:Int)+1<(a:Int))=false:=decide_eq_false (by omega)
    refine VL.rounds 1 (by kernel_rfl) ?_
    simp -dsimp [hlt]
    simp [resEnd,pinsEnd,rowF,stSort]
  | cons x0 X' =>
    generalize hX:x0::X'=X at *
    have hX1:1≤X.length:=by rw [← hX];simp
    have h1:stSort (cmpC cs) (X.take 1)=X.take 1:=by rw [← hX];simp [stSort,stIns]
    refine VL.loop (fun i:I1=>⟨[(8,.c (i64 i.q)),(0,.own 1 n),(1,.c (i64 a)),(2,.c (i64 b)),(3,srtFn nc cs)],(1,some (.arr false 3 (facts (A++(stSort (cmpC cs) (X.take i.j)++(X.drop i.j++B)))) 0))::pinS uf n a b (srtFn nc cs)⟩)
      (fun i=>1≤i.j∧i.j≤X.length∧i.q=a+i.j) (fun i=>X.length-i.j) ⟨1,a+1⟩ (by kernel_rfl) ⟨Nat.le_refl _,hX1,rfl⟩ (by simp only [h1,td1];simp [St.le]) ?_
    intro ⟨j,q⟩ ⟨hj1,hj2,hq⟩
    simp only at hj1 hj2 hq
    by_cases h2:j<X.length
    · have hwq:IntKind.i64.wrap ((q:Int)+1)=((q+1:Nat):Int):=by rw [IntWalk.i64_in _ (by omega)];rfl
      have hlt:(q:Int)<b:=by omega
      have hdr:X.drop j=X[j]::X.drop (j+1):=List.drop_eq_getElem_cons h2
      obtain ⟨Xr,hXr⟩:∃ Xr,Xr=X.drop (j+1):=⟨_,rfl⟩
      rw [← hXr] at hdr
      have hXrl:Xr.length=X.length-(j+1):=by rw [hXr,List.length_drop]
      have hss:=stSort_snoc (cf:=cmpC cs) X h2
      have hsl:(stSort (cmpC cs) (X.take j)).length=j:=by rw [stSort_len,List.length_take];omega
      have hmem:∀ y∈stSort (cmpC cs) (X.take j),y∈X:=fun y hy=>List.mem_of_mem_take ((stSort_perm _).mem_iff.1 hy)
      obtain ⟨r,hrr⟩:∃ r,r=(stSort (cmpC cs) (X.take j)).reverse:=⟨_,rfl⟩
      have hr2:stSort (cmpC cs) (X.take j)=r.reverse:=by rw [hrr,List.reverse_reverse]
      have hrl:r.length=j:=by rw [hrr,List.length_reverse,hsl]
      rw [← hrr] at hss
      rw [hr2] at hmem
      have hx:=hr X[j] (List.getElem_mem h2)
      simp -dsimp [hlt,hdr,hr2]
      generalize X[j]=x at *
      generalize hT:Xr++B=T at *
      refine VL.loop (fun i:I1=>⟨[(9,.c (i64 i.q)),(8,.c (i64 q)),(0,.own 1 n),(1,.c (i64 a)),(2,.c (i64 b)),(3,srtFn nc cs)],(1,some (.arr false 3 (facts (rowIn A r x T i.j)) 0))::pinS uf n a b (srtFn nc cs)⟩)
        (fun i=>i.j≤r.length∧i.q+i.j=a+r.length∧∀ k,k<i.j→(h:k<r.length)→cmpC cs x r[k] < 0) (fun i=>r.length-i.j) ⟨0,q⟩ (by kernel_rfl) ⟨Nat.zero_le _,by simp only;omega,fun k hk=>absurd hk (Nat.not_lt_zero _)⟩ (by rw [← hT];simp [St.le,rowIn_0]) ?_
      intro ⟨m,p⟩ ⟨hm,hp,hall⟩
      simp only at hm hp hall
      have hRl:(rowIn A r x T m).length=n:=by
        rw [rowIn_len,hrl]
        have:=congrArg List.length hT
        simp at this
        omega
      have hend:=rowIn_end (cf:=cmpC cs) A r x T m hm hall
      by_cases h3:m<r.length
      · obtain ⟨p',rfl⟩:∃ p',p=p'+1:=⟨p-1,by omega⟩
        have hRx:=rowIn_x A r x T m (p'+1) hm (by omega) (by omega)
        have hRy:=rowIn_y A r x T m p' h3 (by omega) (by omega)
        have hsw:=rowIn_swap A r x T m p' h3 (by omega)
        have hy:=hr r[m] (hmem _ (by simp))
        have hc:=srt_spec nc cs hcs x r[m] hx hy
        obtain ⟨R,hR,hRl,⟨hp1,hp2,hRx,hRy⟩,hsw⟩:∃ R:List Fact,rowIn A r x T m=R∧R.length=n∧(∃ h1 h2,R[p'+1]'h1=x∧R[p']'h2=r[m])∧(R.set (p'+1) r[m]).set p' x=rowIn A r x T (m+1):=⟨_,rfl,hRl,⟨_,_,hRx,hRy⟩,hsw⟩
        have hend':¬ cmpC cs x r[m] < 0→rowIn A r x T m=A++((stIns (cmpC cs) x r).reverse++T):=fun hh=>hend fun _=>hh
        have hall':∀ k,k<m+1→(h:k<r.length)→cmpC cs x r[m] < 0→cmpC cs x r[k] < 0:=fun k hk h hh=>by
          by_cases e:k=m
          · subst e;exact hh
          · exact hall k (by omega) h
        clear hend
        rw [hR] at hend' ⊢
        generalize r[m]=y at *
        have hswc:((facts R).set (p'+1) y.cells).set p' x.cells=facts (rowIn A r x T (m+1)):=by rw [← hsw];simp [facts,List.map_set]
        rw [show y.cells=[.sl y.nl (vals y.row),i64 y.p.f,i64 y.p.t] from rfl,show x.cells=[.sl x.nl (vals x.row),i64 x.p.f,i64 x.p.t] from rfl] at hswc
        have hpa:decide ((a:Int)<(p':Int)+1)=true:=decide_eq_true (by omega)
        have hwp:IntKind.i64.wrap (p':Int)=p':=IntWalk.i64_in _ (by omega)
        have hgx:R[p'+1]? = some x:=by rw [List.getElem?_eq_getElem hp1,hRx]
        have hgy:R[p']? = some y:=by rw [List.getElem?_eq_getElem hp2,hRy]
        have hp1':p'+1<n:=by omega
        have hp2':p' < n:=by omega
        simp -dsimp [hpa]
        refine VL.draw (by kernel_rfl) [(0,false),(0,false),(3,true),(7,true),(15,false),(15,false),(15,false),(111,false),(239,false),(15,false),(15,false),(1039,false),(3599,false),(7695,false),(16383,true),(32767,true),(65535,true)] (by kernel_rfl) ?_
        simp -dsimp [hpa,hwp,hRx,hRy,hRl,hp1',hp2',Fact.cells]
        refine ⟨by omega,VG.mk _ _ (fun _=>hc) rfl ?_⟩
        simp -dsimp [hpa]
        refine VIf.mk (fun h=>?_) (fun h=>?_)
        · have h':cmpC cs x y<0:=by simpa using h
          refine VL.draw (by kernel_rfl) [(0,false),(0,false),(0,false),(0,false),(8,false),(0,false),(0,false),(64,false),(224,false),(480,false),(0,false),(0,false),(3072,false),(7168,false),(16355,false),(32739,false),(65535,true),(131071,true)] (by kernel_rfl) ?_
          simp -dsimp [hwp,hRx,hRy,hRl,hp1',hp2',Fact.cells]
          refine ⟨by omega,⟨m+1,p'⟩,⟨by simp only;omega,by simp only;omega,fun k hk h=>hall' k hk h h'⟩,?_,by simp only;omega⟩
          simp [St.le,hswc]
        · have h':¬ cmpC cs x y<0:=by simpa using h
          have hR2:=hend' h'
          simp -dsimp [hwq]
          refine ⟨⟨j+1,q+1⟩,⟨by simp only;omega,by simp only;omega,by simp only;omega⟩,?_,by simp only;omega⟩
          simp only [hss,← hXr]
          rw [hR2,← hT]
          simp [St.le,hXr]
      · obtain rfl:m=r.length:=by omega
        obtain rfl:p=a:=by omega
        have hR2:=hend fun h=>absurd h (Nat.lt_irrefl _)
        clear hend hall
        have hpa:decide ((p:Int)<(p:Int))=false:=decide_eq_false (by omega)
        simp -dsimp [hpa]
        refine VL.draw (by kernel_rfl) [(0,false),(0,false),(3,true),(7,true),(15,false),(15,false),(15,false),(111,false),(239,false),(15,false),(15,false),(1039,false),(3599,false),(7695,false),(16383,true),(32767,true),(65535,true)] (by kernel_rfl) ?_
        simp -dsimp [hpa]
        refine VG.mk [.c (i64 0)] _ (fun h=>Bool.noConfusion h) rfl ?_
        simp -dsimp [hwq]
        refine ⟨⟨j+1,q+1⟩,⟨by simp only;omega,by simp only;omega,by simp only;omega⟩,?_,by simp only;omega⟩
        simp only [hss,← hXr]
        rw [hR2,← hT]
        simp [St.le,hXr]
    · obtain rfl:j=X.length:=by omega
      have hlt:decide (q<b)=false:=decide_eq_false (by omega)
      simp -dsimp [hlt]
      simp [resEnd,pinsEnd,rowF]
end Go.Proofs.YtlphpbcafplnbaaGreat
