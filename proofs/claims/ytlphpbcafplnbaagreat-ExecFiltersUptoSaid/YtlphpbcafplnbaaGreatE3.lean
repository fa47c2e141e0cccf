/- Contracts of functions of the seat, proved in a logic on data over the model (part E3). -/
import Derived.Lib.SlicesCompact
import Derived.Test.YtlphpbcafplnbaaGreatD2
import Derived.Test.YtlphpbcafplnbaaGreatV24
import Derived.Shelf.Small.Strs
import Derived.Test.YtlphpbcafplnbaaGreatV34
set_option linter.unusedSimpArgs false
set_option linter.unusedVariables false
namespace Go.Proofs.YtlphpbcafplnbaaGreat
open Go.VL Go.RowKit
def Rise (l:List Int):Prop:=l.Pairwise (· < ·)
open Go.Lib in
theorem compactUpTo_ok (d:Array Int) (hs:∀ i j,i<j→j<d.size→d[i]! ≤ d[j]!):∀ m,m≤d.size→Rise (compactUpTo d m)∧(∀ t,t∈compactUpTo d m↔∃ j,j<m∧d[j]! = t)
  | 0,_=>by simp [compactUpTo,Rise]
  | m+1,h=>by
    obtain ⟨h1,h2⟩:=compactUpTo_ok d hs m (by omega)
    rw [compactUpTo_succ]
    by_cases hk:keeps d m=true
    · rw [if_pos hk]
      refine ⟨?_,fun t=>?_⟩
      · unfold Rise at h1 ⊢
        rw [List.pairwise_append]
        refine ⟨h1,by simp,fun x hx y hy=>?_⟩
        simp at hy
        subst hy
        obtain ⟨j,hj,rfl⟩:=(h2 x).1 hx
        simp [keeps] at hk
        rcases hk with hk | hk
        · omega
        · have a:=hs (m-1) m (by omega) (by omega)
          have b:d[j]! ≤ d[m-1]! := by
            by_cases e:j=m-1
            · subst e;exact Int.le_refl _
            · exact hs j (m-1) (by omega) (by omega)
          omega
      · rw [List.mem_append,h2,List.mem_singleton]
        constructor
        · rintro (⟨j,hj,rfl⟩ | rfl)
          · exact ⟨j,by omega,rfl⟩
          · exact ⟨m,by omega,rfl⟩
        · rintro ⟨j,hj,rfl⟩
          by_cases e:j=m
          · subst e;exact .inr rfl
          · exact .inl ⟨j,by omega,rfl⟩
    · rw [if_neg hk,List.append_nil]
      refine ⟨h1,fun t=>?_⟩
      rw [h2]
      constructor
      · rintro ⟨j,hj,rfl⟩;exact ⟨j,by omega,rfl⟩
      · rintro ⟨j,hj,rfl⟩
        by_cases e:j=m
        · subst e
          simp [keeps] at hk
          exact ⟨j-1,by omega,hk.2.symm⟩
        · exact ⟨j,by omega,rfl⟩
theorem compact_ok (zs:List Int) (hs:zs.Pairwise (· ≤ ·)):Rise (Go.Lib.compact zs)∧∀ t,t∈Go.Lib.compact zs↔t∈zs:=by
  have h:=compactUpTo_ok zs.toArray (fun i j hij hj=>by
    have hj':j<zs.length:=by simpa using hj
    have:=(List.pairwise_iff_getElem.1 hs) i j (by omega) hj' hij
    simpa [hj',(show i<zs.length by omega)] using this) zs.length (by simp)
  refine ⟨h.1,fun t=>(h.2 t).trans ?_⟩
  rw [List.mem_iff_getElem]
  constructor
  · rintro ⟨j,hj,rfl⟩;exact ⟨j,hj,by simp [hj]⟩
  · rintro ⟨j,hj,rfl⟩;exact ⟨j,hj,by simp [hj]⟩
def endsOf (l:List Per):List Int:=(l.filter right).flatMap fun p=>[p.f,p.t]
theorem endsOf_snoc (l:List Per) {k:Nat} (h:k<l.length):endsOf (l.take (k+1))=endsOf (l.take k)++(if right l[k] then [l[k].f,l[k].t] else []):=by
  unfold endsOf
  rw [take_snoc h,List.filter_append,List.flatMap_append]
  by_cases hr:right l[k]=true <;> simp [hr]
theorem endsOf_len (l:List Per):(endsOf l).length≤2*l.length:=by
  induction l with
  | nil=>simp [endsOf]
  | cons p l ih =>
    unfold endsOf at *
    by_cases hr:right p=true <;> simp [hr] at ih ⊢ <;> omega
theorem mem_endsOf (l:List Per) (t:Int):t∈endsOf l↔∃ p∈l,right p=true∧(t=p.f∨t=p.t):=by
  simp [endsOf,and_assoc]
theorem endsOf_pos (l:List Per) {t:Int} (h:t∈endsOf l):0≤t:=by
  obtain ⟨p,_,hr,e⟩:=(mem_endsOf l t).1 h
  have:=(right_iff p).1 hr
  rcases e with rfl | rfl <;> omega
def sortI (l:List Int):List Int:=l.mergeSort fun x y=>decide (x≤y)
theorem sortI_perm (l:List Int):(sortI l).Perm l:=List.mergeSort_perm _ _
theorem sortI_len (l:List Int):(sortI l).length=l.length:=(sortI_perm l).length_eq
theorem sortI_sorted (l:List Int):(sortI l).Pairwise (· ≤ ·):=by
  have:=List.pairwise_mergeSort (le:=fun x y:Int=>decide (x≤y)) (fun a b c h1 h2=>by simp at *;omega) (fun a b=>by simp;omega) l
  exact this.imp (by simp)
def edgesL (l:List Per):List Int:=Go.Lib.compact (sortI (endsOf l))
theorem edgesL_ok (l:List Per):Rise (edgesL l)∧∀ t,t∈edgesL l↔t∈endsOf l:=by
  obtain ⟨h1,h2⟩:=compact_ok (sortI (endsOf l)) (sortI_sorted _)
  exact ⟨h1,fun t=>(h2 t).trans (sortI_perm _).mem_iff⟩
theorem compact_len (zs:List Int):(Go.Lib.compact zs).length≤zs.length:=by
  unfold Go.Lib.compact Go.Lib.compactUpTo
  rw [List.length_map]
  exact Nat.le_trans (List.length_filter_le _ _) (by simp)
theorem edgesL_len (l:List Per):(edgesL l).length≤2*l.length :=
  Nat.le_trans (compact_len _) (by rw [sortI_len];exact endsOf_len l)
def laterB (out:List Int) (t:Int):Bool:=decide (out.length=0) || decide (out[out.length-1]! < t)
def nextS (out:List Int) (n t:Int):Int:=if laterB out t && (decide (n<0) || decide (t<n)) then t else n
def nextL (out:List Int) (l:List Int):Int:=l.foldl (nextS out) (-1)
theorem nextL_snoc (out l:List Int) (t:Int):nextL out (l++[t])=nextS out (nextL out l) t:=by
  unfold nextL;rw [List.foldl_append];rfl
theorem rev_ind {α:Type} {p:List α→Prop} (h0:p []) (h1:∀ l a,p l→p (l++[a])) (l:List α):p l:=by
  have:∀ m:List α,p m.reverse:=fun m=>by
    induction m with
    | nil=>exact h0
    | cons a m ih=>rw [List.reverse_cons];exact h1 _ _ ih
  have h:=this l.reverse
  rwa [List.reverse_reverse] at h
theorem nextL_ok (out:List Int):∀ (l:List Int),(∀ t∈l,0≤t) →
    (nextL out l = -1∧∀ t∈l,laterB out t=false)∨(0≤nextL out l∧nextL out l∈l∧laterB out (nextL out l)=true∧∀ t∈l,laterB out t=true→nextL out l≤t):=by
  intro l
  refine rev_ind (p:=fun l=>(∀ t∈l,0≤t)→(nextL out l = -1∧∀ t∈l,laterB out t=false)∨(0≤nextL out l∧nextL out l∈l∧laterB out (nextL out l)=true∧∀ t∈l,laterB out t=true→nextL out l≤t)) ?_ ?_ l
  · intro _;exact .inl ⟨rfl,by simp⟩
  · intro l t ih hp
    have ht:=hp t (by simp)
    have ih:=ih (fun x hx=>hp x (by simp [hx]))
    rw [nextL_snoc]
    generalize nextL out l=n at *
    unfold nextS
    by_cases hlt:laterB out t=true
    · rcases ih with ⟨rfl,h⟩ | ⟨h0,h1,h2,h3⟩
      · rw [if_pos (by simp [hlt])]
        refine .inr ⟨ht,by simp,hlt,fun x hx hlx=>?_⟩
        rcases List.mem_append.1 hx with hx | hx
        · rw [h x hx] at hlx;cases hlx
        · simp at hx;omega
      · by_cases htn:t<n
        · rw [if_pos (by simp [hlt,htn])]
          refine .inr ⟨ht,by simp,hlt,fun x hx hlx=>?_⟩
          rcases List.mem_append.1 hx with hx | hx
          · have:=h3 x hx hlx;omega
          · simp at hx;omega
        · rw [if_neg (by simp [hlt,htn];omega)]
          refine .inr ⟨h0,by simp [h1],h2,fun x hx hlx=>?_⟩
          rcases List.mem_append.1 hx with hx | hx
          · exact h3 x hx hlx
          · simp at hx;omega
    · have hlt':laterB out t=false:=by simpa using hlt
      rw [if_neg (by simp [hlt'])]
      rcases ih with ⟨rfl,h⟩ | ⟨h0,h1,h2,h3⟩
      · refine .inl ⟨rfl,fun x hx=>?_⟩
        rcases List.mem_append.1 hx with hx | hx
        · exact h x hx
        · simp at hx;subst hx;exact hlt'
      · refine .inr ⟨h0,by simp [h1],h2,fun x hx hlx=>?_⟩
        rcases List.mem_append.1 hx with hx | hx
        · exact h3 x hx hlx
        · simp at hx;subst hx;rw [hlt'] at hlx;cases hlx
theorem laterB_take {E:List Int} (hE:Rise E) {k j:Nat} (hk:k≤E.length) (hj:j<E.length):laterB (E.take k) E[j]=decide (k≤j):=by
  unfold laterB
  have hlen:(E.take k).length=k:=by rw [List.length_take];omega
  rw [hlen]
  rcases Nat.eq_zero_or_pos k with rfl | hk0
  · simp
  · have h1:(E.take k)[k-1]! = E[k-1]:=by
      rw [getElem!_pos _ _ (by omega)];simp
    rw [h1]
    have hlt:=List.pairwise_iff_getElem.1 hE
    by_cases h:k≤j
    · have:=hlt (k-1) j (by omega) hj (by omega)
      simp [h,this]
    · have:¬ E[k-1] < E[j]:=by
        by_cases e:j=k-1
        · subst e;exact Int.lt_irrefl _
        · have:=hlt j (k-1) hj (by omega) (by omega);omega
      have hk2:¬ k=0:=by omega
      simp [h,this,hk2]
theorem nextL_edge (l:List Per) {k:Nat} (hk:k≤(edgesL l).length):nextL ((edgesL l).take k) (endsOf l)=if h:k<(edgesL l).length then (edgesL l)[k] else -1:=by
  obtain ⟨hE,hm⟩:=edgesL_ok l
  generalize edgesL l=E at *
  rcases nextL_ok (E.take k) (endsOf l) (fun t ht=>endsOf_pos l ht) with ⟨h1,h2⟩ | ⟨h0,h1,h2,h3⟩
  · rw [h1]
    by_cases h:k<E.length
    · have:=h2 E[k] ((hm _).1 (List.getElem_mem h))
      rw [laterB_take hE hk h] at this
      simp at this
    · rw [dif_neg h]
  · generalize nextL (E.take k) (endsOf l)=n at *
    obtain ⟨j,hj,rfl⟩:=List.getElem_of_mem ((hm n).2 h1)
    rw [laterB_take hE hk hj] at h2
    have hkj:k≤j:=by simpa using h2
    have hlt:k<E.length:=by omega
    rw [dif_pos hlt]
    have a:=h3 E[k] ((hm _).1 (List.getElem_mem hlt)) (by rw [laterB_take hE hk hlt];simp)
    by_cases e:k=j
    · subst e;rfl
    · have:=List.pairwise_iff_getElem.1 hE k j hlt hj (by omega)
      omega
end Go.Proofs.YtlphpbcafplnbaaGreat
namespace Go.Proofs.YtlphpbcafplnbaaGreat
open Go.VL Go.RowKit
def ints (l:List Int):List (List C):=l.map fun x=>[C.v (.int .i64 x)]
@[simp] theorem ints_len (l:List Int):(ints l).length=l.length:=by simp [ints]
@[simp] theorem ints_app (l m:List Int):ints (l++m)=ints l++ints m:=by simp [ints]
@[simp] theorem ints_nil:ints []=[]:=rfl
theorem ints_get (l:List Int) (k:Nat) (h:k<l.length):(ints l)[k]?.getD []=[i64 l[k]]:=by
  simp [ints,List.getElem?_eq_getElem h]
@[simp] theorem ints_at (l:List Int) (k:Nat) (h:k<(ints l).length):(ints l)[k]=[i64 (l[k]'(by simpa using h))]:=by simp [ints]
def ez (m:List Int):Nat:=if m.isEmpty then 0 else 1
def two (p:Per) (j:Nat):List Int:=[p.f,p.t].take j
def Tryz.strCmp_ren:Go.Shelf.Ren:=⟨fun | 106=>95 | 213=>120 | 265=>144 | n=>n,fun | 9=>9 | 3=>3 | n=>n,fun | n=>n⟩
theorem Tryz.strCmp:Go.Proofs.Lays.n106 Tryz.prog Tryz.strCmp_ren:={ mixed:=by kernel_rfl,f106:=Tryz.func95.trans (congrArg some (by kernel_rfl)),f213:=Tryz.func120.trans (congrArg some (by kernel_rfl)),f265:=Tryz.func144.trans (congrArg some (by kernel_rfl)),t3:=Tryz.underlying3,a3:=Tryz.isAgg3,z3:=Tryz.sizeOf3,v3:=Tryz.zeroValue3,t9:=Tryz.underlying9,a9:=Tryz.isAgg9,z9:=Tryz.sizeOf9,v9:=Tryz.zeroValue9 }
theorem con_plain {P:Program} {f:FuncId} {args:List S} {x:Value} (hf:callable P f=true) (hx:x.oneCell'=true) (h:∀ (w:World) (K:Nat→Nat→Prop) (us:List Value),DRs K w args us→Calls P f us.toArray w fun e w'=>e = .returned x∧w'=w):Con P f args [.c (.v x)]:=by
  refine Con.of hf fun w K us hK hd=>(h w K us hd).mono ?_
  rintro e w' ⟨rfl,rfl⟩
  refine ⟨[x],rfl,BelowD.refl _ _,K,fun _ _ h=>h,fun _ _ h _=>h,hK,rfl,fun k r v hr hv=>?_,fun j k r r' v v' hne hr hr' _ _ _ _=>?_⟩
  · match k with
    | 0 =>
      simp at hr hv
      subst hr hv
      rw [RtR,CR];exact ⟨rfl,hx⟩
    | k+1=>simp at hr
  · match j,k with
    | 0,0=>exact absurd rfl hne
    | j+1,_=>simp at hr
    | 0,k+1=>simp at hr'
theorem compareBytes_eq:∀ a b:List UInt8,Lib.compareBytes a b=cmpB a b
  | [],[]=>by simp [Lib.compareBytes,cmpB,Op.bytesLess]
  | [],_::_=>by simp [Lib.compareBytes,cmpB,Op.bytesLess]
  | _::_,[]=>by simp [Lib.compareBytes,cmpB,Op.bytesLess]
  | a::l,b::m=>by
    rw [cmpB_list,listC,← cmpB_list,Lib.compareBytes,compareBytes_eq l m]
    by_cases h1:a<b
    · have:cmp8 a b = -1:=by unfold cmp8;rw [cmpI_neg];have:=UInt8.lt_iff_toNat_lt.1 h1;omega
      rw [if_pos h1,if_neg (by omega),this]
    · by_cases h2:b<a
      · have h3:cmp8 b a = -1:=by unfold cmp8;rw [cmpI_neg];have:=UInt8.lt_iff_toNat_lt.1 h2;omega
        have h4:=Cmp.u8.anti a b
        rw [if_neg h1,if_pos h2,if_neg (by omega)];omega
      · have e:a=b:=UInt8.toNat.inj (by
          have a1:=mt UInt8.lt_iff_toNat_lt.2 h1
          have a2:=mt UInt8.lt_iff_toNat_lt.2 h2
          omega)
        rw [if_neg h1,if_neg h2,if_pos (by subst e;exact Cmp.u8.self a)]
theorem strCmp_spec (a b:List UInt8):Con Tryz.prog 95 [.c (str a),.c (str b)] [.c (i64 (cmpB a b))]:=by
  refine con_plain (by kernel_rfl) rfl fun w K us hd=>?_
  unfold DRs at hd
  rw [SRs] at hd
  obtain ⟨u,us',rfl,hu,hd⟩:=hd
  rw [SRs] at hd
  obtain ⟨u2,us'',rfl,hu2,hd⟩:=hd
  rw [SRs] at hd
  subst hd
  rw [SR,CR] at hu hu2
  obtain ⟨rfl,_⟩:=hu
  obtain ⟨rfl,_⟩:=hu2
  have h:=Any.strings_Compare Tryz.strCmp ⟨a.toArray⟩ ⟨b.toArray⟩ w
  rw [compareBytes_eq] at h
  exact h
set_option maxRecDepth 4000 in
set_option maxHeartbeats 4000000 in
theorem isNaN2_spec (x:Int):Con Tryz.prog 119 [.c (i64 x)] [.c (bln false)]:=by
  refine spec_of Tryz.func119 rfl (by kernel_rfl) (by simp [Tryz.f119]) (fun w0 K0=>vc_ok _ _ _ (by kernel_rfl) ?_)
  simp only [Tryz.f119]
  simp -dsimp
set_option maxRecDepth 4000 in
set_option maxHeartbeats 4000000 in
theorem compare2_spec (x y:Int):Con Tryz.prog 94 [.c (i64 x),.c (i64 y)] [.c (i64 (cmpI x y))]:=by
  refine spec_of Tryz.func94 rfl (by kernel_rfl) (by simp [Tryz.f94]) (fun w0 K0=>vc_ok _ _ _ (by kernel_rfl) ?_)
  simp only [Tryz.f94]
  simp -dsimp
  refine VC.mk _ (isNaN2_spec x) ?_
  simp -dsimp
  refine VC.mk _ (isNaN2_spec y) ?_
  simp -dsimp
  refine VIf.mk (fun h=>?_) (fun h=>?_)
  · simp -dsimp
    simp at h
    simp [cmpI,h]
  · simp -dsimp
    simp at h
    refine VIf.mk (fun h2=>?_) (fun h2=>?_)
    · simp -dsimp
      simp at h2
      simp [cmpI,h2];omega
    · simp -dsimp
      simp at h2
      simp [cmpI];omega
def orL:List Int→Int
  | []=>0
  | x::l=>if x=0 then orL l else x
theorem orL_at:∀ (l:List Int) (k:Nat),(∀ j,j<k→(h:j<l.length)→l[j]=0)→orL l=orL (l.drop k)
  | l,0,_=>by simp
  | [],k+1,_=>by simp
  | x::l,k+1,h=>by
    have h0:=h 0 (by omega) (by simp)
    simp at h0
    rw [orL,if_pos h0,List.drop_succ_cons]
    exact orL_at l k fun j hj hl=>by have:=h (j+1) (by omega) (by simp;omega);simpa using this
set_option maxRecDepth 4000 in
set_option maxHeartbeats 4000000 in
theorem orB_spec (nl:Bool) (l:List Int) (hl:l.length≤1000):Con Tryz.prog 60 [.c (.sl nl (ints l))] [.c (i64 (orL l))]:=by
  refine spec_of Tryz.func60 rfl (by kernel_rfl) (by simp [Tryz.f60]) (fun w0 K0=>vc_ok _ _ _ (by kernel_rfl) ?_)
  simp only [Tryz.f60]
  simp -dsimp
  refine VL.loop (fun k:Nat=>⟨[(8,.c (i64 k)),(7,.c (i64 l.length)),(6,.c (.sl nl (ints l))),(3,.c (i64 0))],[]⟩)
    (fun k=>k≤l.length∧∀ j,j<k→(h:j<l.length)→l[j]=0) (fun k=>l.length-k) 0 (by kernel_rfl) ⟨by simp,fun j h=>by omega⟩ (by simp [St.le]) ?_
  intro k ⟨hk,hb⟩
  have e:=orL_at l k hb
  by_cases h1:k<l.length
  · have hw:IntKind.i64.wrap ((k:Int)+1)=(k:Int)+1:=IntWalk.i64_in _ (by omega)
    rw [List.drop_eq_getElem_cons h1,orL] at e
    simp -dsimp [h1]
    refine VIf.mk (fun h=>?_) (fun h=>?_)
    · simp at h
      rw [if_neg h] at e
      simp -dsimp [e]
    · simp at h
      simp -dsimp [hw]
      refine ⟨k+1,⟨by omega,fun j hj hl=>?_⟩,?_,by omega⟩
      · by_cases e2:j=k
        · subst e2;exact h
        · exact hb j (by omega) hl
      · simp [St.le]
  · obtain rfl:k=l.length:=by omega
    rw [List.drop_length,orL] at e
    simp -dsimp [e]
theorem or_at (nl:Bool) (xs:List (List C)) (a b c:Int) (h:xs=[[i64 a],[i64 b],[i64 c]]):Con Tryz.prog 60 [.c (.sl nl xs)] [.c (i64 (if a=0 then if b=0 then c else b else a))]:=by
  have:=orB_spec nl [a,b,c] (by simp)
  rw [h]
  have e:orL [a,b,c]=if a=0 then if b=0 then c else b else a:=by
    simp only [orL]
    split
    · split
      · split
        · rename_i h;exact h.symm
        · rfl
      · rfl
    · rfl
  rwa [e] at this
set_option maxRecDepth 4000 in
set_option maxHeartbeats 16000000 in
theorem compareR_spec (na nb:Bool) (l m:List Val) (hl:l.length≤140737488355328) (hm:m.length≤140737488355328):Con Tryz.prog 59 [.c (.sl na (vals l)),.c (.sl nb (vals m))] [.c (i64 (cmpR l m))]:=by
  refine spec_of Tryz.func59 rfl (by kernel_rfl) (by simp [Tryz.f59]) (fun w0 K0=>vc_ok _ _ _ (by kernel_rfl) ?_)
  simp only [Tryz.f59]
  simp -dsimp
  refine VL.loop (fun k:Nat=>⟨[(12,.c (i64 k)),(11,.c (i64 (min l.length m.length:Nat))),(0,.c (.sl na (vals l))),(1,.c (.sl nb (vals m)))],[]⟩)
    (fun k=>k≤l.length∧k≤m.length∧l.take k=m.take k) (fun k=>l.length-k) 0 (by kernel_rfl) (by simp) (by simp [St.le];omega) ?_
  intro k ⟨hk,hk',heq⟩
  by_cases hlt:k<l.length∧k<m.length
  · obtain ⟨h1,h2⟩:=hlt
    have hw:IntKind.i64.wrap ((k:Int)+1)=(k:Int)+1:=IntWalk.i64_in _ (by omega)
    have hmn:((k:Int)<((min l.length m.length:Nat):Int))=True:=by simp;omega
    simp -dsimp [hmn,h1,h2]
    refine VL.draw (by kernel_rfl) [(0,false),(0,false),(3,false),(7,false),(15,false),(0,false),(0,false),(96,false),(224,false),(480,false),(1023,false),(0,false),(0,false),(6144,false),(14336,false),(30720,false),(0,false),(0,false),(196608,false),(458752,false),(983040,false),(2097151,false),(0,false),(0,false),(12582912,false),(29360128,false),(62914560,false),(0,false),(0,false),(402653184,false),(939524096,false),(2013265920,false),(4294967295,true),(8589934591,true),(17179869183,true),(34359738367,true)] (by kernel_rfl) ?_
    simp -dsimp [h1,h2,Val.cells]
    refine VCE.mk _ (compare2_spec l[k].kind m[k].kind) ?_
    simp -dsimp [h1,h2,Val.cells]
    refine VCE.mk _ (compare_spec l[k].int m[k].int) ?_
    simp -dsimp [h1,h2,Val.cells]
    refine VC.mk _ (strCmp_spec l[k].text m[k].text) ?_
    simp -dsimp
    refine ⟨by decide,VCL.snap ?_⟩
    simp -dsimp
    refine VC.mk _ (or_at false _ (cmpI l[k].kind m[k].kind) (cmpI l[k].int m[k].int) (cmpB l[k].text m[k].text) rfl) ?_
    have hv:(if cmpI l[k].kind m[k].kind=0 then if cmpI l[k].int m[k].int=0 then cmpB l[k].text m[k].text else cmpI l[k].int m[k].int else cmpI l[k].kind m[k].kind)=cmpV l[k] m[k]:=by
      rw [cmpV_eq];rfl
    rw [hv]
    simp -dsimp
    refine VIf.mk (fun h=>?_) (fun h=>?_)
    · simp at h
      simp -dsimp
      exact (cmpR_at heq h1 h2 h).symm
    · simp at h
      simp -dsimp [hw]
      refine ⟨k+1,⟨by omega,by omega,take_step h1 h2 heq ((cmpV_0 _ _).1 h)⟩,?_,by omega⟩
      simp [St.le]
  · have hend:=cmpR_end heq hk hk' (by omega)
    have hmn:((k:Int)<((min l.length m.length:Nat):Int))=False:=by simp;omega
    simp -dsimp [hmn]
    refine VC.mk _ (compare2_spec l.length m.length) ?_
    simp -dsimp
    rw [hend]
    unfold cmpI
    simp only [Int.ofNat_lt]
set_option maxRecDepth 4000 in
set_option maxHeartbeats 16000000 in
theorem order_spec (f g:Fact) (hl:f.row.length≤140737488355328) (hm:g.row.length≤140737488355328):Con Tryz.prog 91 [.agg f.cells,.agg g.cells] [.c (i64 (ordF f g))]:=by
  refine spec_of Tryz.func91 rfl (by kernel_rfl) (by simp [Tryz.f91]) (fun w0 K0=>vc_ok _ _ _ (by kernel_rfl) ?_)
  simp only [Tryz.f91]
  simp -dsimp [Fact.cells]
  refine VL.draw (by kernel_rfl) [(0,false),(1,false),(0,false),(4,false),(15,false),(0,false),(32,false),(96,false),(0,false),(256,false),(768,false),(2047,false),(0,false),(4096,false),(12288,false),(0,false),(32768,false),(98304,false),(262143,true),(524287,true),(1048575,true),(2097151,true)] (by kernel_rfl) ?_
  simp -dsimp
  refine VCE.mk _ (compareR_spec _ _ f.row g.row hl hm) ?_
  simp -dsimp
  refine VCE.mk _ (compare_spec f.p.f g.p.f) ?_
  simp -dsimp
  refine VC.mk _ (compare_spec f.p.t g.p.t) ?_
  simp -dsimp
  refine ⟨by decide,VCL.snap ?_⟩
  simp -dsimp
  refine VC.mk _ (or_at false _ (cmpR f.row g.row) (cmpI f.p.f g.p.f) (cmpI f.p.t g.p.t) rfl) ?_
  simp -dsimp
  rfl
def keep (g:Nat→Bool) (l:List Fact):Nat→List Fact
  | 0=>[]
  | k+1=>keep g l k++(if g k then [] else match l[k]? with | some f=>[f] | none=>[])
def goneE (ended:List Int) (i:Nat):Bool:=ended.any fun e=>e == (i:Int)
structure Col where
  name:List UInt8
  kind:Int
def Col.cells (c:Col):List C:=[str c.name,i64 c.kind]
def keyc (k:List UInt8):List C:=[str k]
structure Tab where
  id:Int
  name:List UInt8
  nc:Bool
  cols:List Col
  nk:Bool
  keys:List (List UInt8)
  ix:Bool
def Tab.cells (t:Tab):List C:=[i64 t.id,str t.name,.sl t.nc (t.cols.map Col.cells),.sl t.nk (t.keys.map keyc),bln t.ix]
def kindsK (r:List Val) (c:List Col) (k:Nat):Prop:=∀ j,(h:j<r.length)→(h':j<c.length)→j<k→r[j].kind=c[j].kind
noncomputable instance (r:List Val) (c:List Col) (k:Nat):Decidable (kindsK r c k):=Classical.propDecidable _
theorem lapOk_eq (a b:Per):lapOk a b=(right a && (right b && (decide (a.f<b.t) && decide (b.f<a.t)))):=by
  rw [Bool.eq_iff_iff]
  unfold lapOk right lapP
  simp
  omega
def goneRow (n:Nat) (e:List Int):List (List C):=(List.range n).map fun i=>[bln (goneE e i)]
@[simp] theorem goneRow_len (n:Nat) (e:List Int):(goneRow n e).length=n:=by simp [goneRow]
@[simp] theorem goneRow_get (n:Nat) (e:List Int) (i:Nat) (h:i<(goneRow n e).length):(goneRow n e)[i]=[bln (goneE e i)]:=by simp [goneRow]
structure KI where
  k:Nat
  nl:Bool
  sz:Nat
def KI.Ok (i:KI) (row:List Fact):Prop:=i.nl=row.isEmpty∧i.sz=if i.nl then 0 else 3
abbrev rowV (x:Bool × List Val):List C:=[.sl x.1 (vals x.2)]
def catR (rows:List (Bool × List Val)):List Val:=rows.flatMap Prod.snd
theorem catR_snoc (rows:List (Bool × List Val)) {k:Nat} (h:k<rows.length):catR (rows.take (k+1))=catR (rows.take k)++rows[k].2:=by
  unfold catR;rw [take_snoc h,List.flatMap_append];simp
theorem catR_mono (rows:List (Bool × List Val)) (k:Nat):(catR (rows.take k)).length≤(catR rows).length:=by
  conv=>rhs;rw [← List.take_append_drop k rows]
  unfold catR
  rw [List.flatMap_append,List.length_append]
  omega
set_option maxRecDepth 4000 in
set_option maxHeartbeats 8000000 in
theorem bcopied_spec (nl:Bool) (rows:List (Bool × List Val)) (hl:rows.length≤2) (hR:(catR rows).length≤4398046511104) :
    Con Tryz.prog 109 [.c (.sl nl (rows.map rowV))] [.c (.sl (catR rows).isEmpty (vals (catR rows)))]:=by
  refine Con.frz (rs:=[.fr (catR rows).isEmpty (if rows.length=0 then 0 else 3) (vals (catR rows)) 0]) ?_ 0 rfl
  refine spec_of Tryz.func109 rfl (by kernel_rfl) (by simp [Tryz.f109]) (fun w0 K0=>vc_ok _ _ _ (by kernel_rfl) ?_)
  simp only [Tryz.f109]
  simp -dsimp
  refine VL.loop (fun i:KI=>⟨[(8,.c (i64 i.k)),(7,.c (i64 rows.length)),(6,.c (.sl nl (rows.map rowV))),(3,.own 192 (catR (rows.take i.k)).length)],[(192,some (.arr i.nl i.sz (vals (catR (rows.take i.k))) 0))]⟩)
    (fun i=>i.k≤rows.length∧i.nl=(catR (rows.take i.k)).isEmpty∧i.sz=if i.k=0 then 0 else 3) (fun i=>rows.length-i.k) ⟨0,true,0⟩ (by kernel_rfl) ⟨by simp,rfl,rfl⟩ (by simp [St.le,catR]) ?_
  intro ⟨k,z,sz⟩ ⟨hk,hz,hsz⟩
  simp only at hk hz hsz
  have hlen:=catR_mono rows (k+1)
  by_cases h1:k<rows.length
  · have hw:IntKind.i64.wrap ((k:Int)+1)=(k:Int)+1:=IntWalk.i64_in _ (by omega)
    have hsn:=catR_snoc rows h1
    have hsl:=congrArg List.length hsn
    rw [List.length_append] at hsl
    simp -dsimp [h1,hw,maxLen]
    refine ⟨fun e=>?_,by omega,⟨k+1,z && rows[k].2.isEmpty,3⟩,⟨by simp only;omega,?_,by simp⟩,?_,by simp only;omega⟩
    · rw [hsz,if_neg]
      rintro rfl
      rw [e] at hz
      simp [catR] at hz
    · simp only
      rw [hsn,hz]
      cases catR (rows.take k) <;> simp
    · simp [St.le,hsn]
  · obtain rfl:k=rows.length:=by omega
    rw [List.take_length] at hz ⊢
    simp -dsimp
    refine ⟨hz,?_⟩
    rw [hsz]
    cases rows <;> simp
def alikeR (r:List Val) (f:Fact):Bool:=decide (f.row=r)
def groupsL:List Fact→List (List Val × List Per)
  | []=>[]
  | f::l=>(f.row,f.p::(l.takeWhile (alikeR f.row)).map Fact.p)::groupsL (l.dropWhile (alikeR f.row))
termination_by l=>l.length
decreasing_by
  have:=(List.dropWhile_sublist (alikeR f.row) (l:=l)).length_le
  simp;omega
theorem groupsL_nil:groupsL []=[]:=by rw [groupsL]
theorem groupsL_cons (f:Fact) (l:List Fact):groupsL (f::l)=(f.row,f.p::(l.takeWhile (alikeR f.row)).map Fact.p)::groupsL (l.dropWhile (alikeR f.row)):=by rw [groupsL]
theorem mem_tw {α:Type} {p:α→Bool} {x:α} : ∀ {l:List α},x∈l.takeWhile p→p x=true
  | [],h=>by simp at h
  | y::l,h=>by
    rw [List.takeWhile_cons] at h
    split at h
    · rename_i hp
      rcases List.mem_cons.1 h with rfl | h
      · exact hp
      · exact mem_tw h
    · simp at h
def RowsUp (l:List Fact):Prop:=l.Pairwise fun f g=>cmpR f.row g.row≤0
theorem sortF_up (l:List Fact):RowsUp (sortF l):=by
  refine (sortF_sorted l).imp fun {f g} h=>?_
  simp only [ordF,lexC] at h
  split at h <;> omega
theorem groups_ok:∀ (n:Nat) (l:List Fact),l.length≤n→RowsUp l →
    (groupsL l).Pairwise (fun x y=>cmpR x.1 y.1<0)∧(∀ x∈groupsL l,x.2=(l.filter (alikeR x.1)).map Fact.p∧∃ f∈l,f.row=x.1)∧∀ f∈l,∃ x∈groupsL l,x.1=f.row
  | n,[],_,_=>by rw [groupsL_nil];simp
  | 0,f::l,h,_=>by simp at h
  | n+1,f::l,h,hu=>by
    obtain ⟨u1,u2⟩:=List.pairwise_cons.1 hu
    have hsub:=List.dropWhile_sublist (alikeR f.row) (l:=l)
    have hlen:=hsub.length_le
    obtain ⟨i1,i2,i3⟩:=groups_ok n (l.dropWhile (alikeR f.row)) (by simp at h;omega) (u2.sublist hsub)
    rw [groupsL_cons]
    have hlater:∀ g∈l.dropWhile (alikeR f.row),cmpR f.row g.row<0:=by
      intro g hg
      have key:∀ m:List Fact,(∀ g∈m,cmpR f.row g.row≤0)→RowsUp m→∀ g∈m.dropWhile (alikeR f.row),cmpR f.row g.row<0:=by
        intro m
        induction m with
        | nil=>intro _ _ g hg;simp at hg
        | cons x m ih =>
          intro hm hup g hg
          obtain ⟨p1,p2⟩:=List.pairwise_cons.1 hup
          rw [List.dropWhile_cons] at hg
          split at hg
          · exact ih (fun y hy=>hm y (by simp [hy])) p2 g hg
          · rename_i hx
            have hx':¬ cmpR f.row x.row=0:=by
              intro e;rw [cmpR_0] at e
              exact hx (by simp [alikeR,e])
            have h1:=hm x (by simp)
            rcases List.mem_cons.1 hg with rfl | hg
            · omega
            · exact Cmp.row.lt (b:=x.row) (by omega) (p1 g hg)
      exact key l u1 u2 g hg
    have hsplit:∀ r,cmpR f.row r<0→(f::l).filter (alikeR r)=(l.dropWhile (alikeR f.row)).filter (alikeR r):=by
      intro r hr
      have hne:f.row≠r:=by rintro rfl;rw [Cmp.row.self] at hr;omega
      conv=>lhs;rw [← List.takeWhile_append_dropWhile (p:=alikeR f.row) (l:=l)]
      rw [List.filter_cons,if_neg (by simp [alikeR,hne]),List.filter_append]
      have:(l.takeWhile (alikeR f.row)).filter (alikeR r)=[]:=by
        rw [List.filter_eq_nil_iff]
        intro x hx
        have:=mem_tw hx
        simp only [alikeR,decide_eq_true_eq] at this ⊢
        rw [this];exact hne
      rw [this,List.nil_append]
    have hself:(f::l).filter (alikeR f.row)=f::l.takeWhile (alikeR f.row):=by
      rw [List.filter_cons,if_pos (by simp [alikeR])]
      congr 1
      conv=>lhs;rw [← List.takeWhile_append_dropWhile (p:=alikeR f.row) (l:=l)]
      rw [List.filter_append]
      have e1:(l.takeWhile (alikeR f.row)).filter (alikeR f.row)=l.takeWhile (alikeR f.row):=by
        rw [List.filter_eq_self]
        intro x hx;exact mem_tw hx
      have e2:(l.dropWhile (alikeR f.row)).filter (alikeR f.row)=[]:=by
        rw [List.filter_eq_nil_iff]
        intro x hx
        have:=hlater x hx
        simp only [alikeR,decide_eq_true_eq]
        intro e;rw [e,Cmp.row.self] at this;omega
      rw [e1,e2,List.append_nil]
    refine ⟨?_,?_,?_⟩
    · rw [List.pairwise_cons]
      refine ⟨fun x hx=>?_,i1⟩
      obtain ⟨_,g,hg,e⟩:=i2 x hx
      rw [← e];exact hlater g hg
    · intro x hx
      rcases List.mem_cons.1 hx with rfl | hx
      · exact ⟨by rw [hself];rfl,f,by simp,rfl⟩
      · obtain ⟨j1,g,hg,e⟩:=i2 x hx
        refine ⟨?_,g,?_,e⟩
        · rw [hsplit x.1 (by rw [← e];exact hlater g hg)];exact j1
        · exact List.mem_cons_of_mem _ (hsub.subset hg)
    · intro g hg
      rcases List.mem_cons.1 hg with rfl | hg
      · exact ⟨_,List.mem_cons_self,rfl⟩
      · rw [← List.takeWhile_append_dropWhile (p:=alikeR f.row) (l:=l)] at hg
        rcases List.mem_append.1 hg with hg | hg
        · have:=mem_tw hg
          simp only [alikeR,decide_eq_true_eq] at this
          exact ⟨_,List.mem_cons_self,this.symm⟩
        · obtain ⟨x,hx,e⟩:=i3 g hg
          exact ⟨x,by simp [hx],e⟩
def cntP (ps:List Per) (t:Int):Nat:=(ps.filter fun p=>has p t).length
def stepsL (plus minus:List Per):List (Per × Int) :=
  (List.range ((edgesL (plus++minus)).length-1)).map fun i=>(⟨(edgesL (plus++minus))[i]!,(edgesL (plus++minus))[i+1]!⟩,(cntP plus (edgesL (plus++minus))[i]! : Int)-cntP minus (edgesL (plus++minus))[i]!)
def here (st:List (Per × Int)) (k:Nat):List Per:=(st.filter fun s=>decide ((k:Int)≤s.2)).map Prod.fst
def maxN (st:List (Per × Int)):Nat:=st.foldl (fun m s=>max m s.2.toNat) 0
def mkF (row:List Val) (p:Per):Fact:=⟨row.isEmpty,row,p⟩
structure Part where
  at_:Nat
  p:Per
  rests:List Fact
def Part.cells (x:Part):List C:=[i64 x.at_,i64 x.p.f,i64 x.p.t,.sl x.rests.isEmpty (facts x.rests)]
def partCs (l:List Part):List (List C):=l.map Part.cells
@[simp] theorem partCs_len (l:List Part):(partCs l).length=l.length:=by simp [partCs]
def rowC (r:List Val):List C:=[.sl false (vals r)]
def rowsC (rs:List (List Val)):List (List C):=rs.map rowC
@[simp] theorem rowsC_len (rs:List (List Val)):(rowsC rs).length=rs.length:=by simp [rowsC]
@[simp] theorem rowsC_get (rs:List (List Val)) (k:Nat) (h:k<(rowsC rs).length):(rowsC rs)[k]=[.sl false (vals (rs[k]'(by simpa using h)))]:=by simp [rowsC,rowC]
theorem rowsC_snoc (rs:List (List Val)) (r:List Val):rowsC (rs++[r])=rowsC rs++[[.sl false (vals r)]]:=by simp [rowsC,rowC]
def before (r x:List Val):Bool:=decide (cmpR r x<0)
def insR (r:List Val):List (List Val)→List (List Val)
  | []=>[r]
  | x::l=>if before r x then r::x::l else x::insR r l
theorem insR_perm (r:List Val):∀ l,(insR r l).Perm (r::l)
  | []=>List.Perm.refl _
  | x::l=>by
    rw [insR]
    split
    · exact List.Perm.refl _
    · exact ((insR_perm r l).cons x).trans (List.Perm.swap r x l)
theorem insR_len (r:List Val) (l:List (List Val)):(insR r l).length=l.length+1:=by rw [(insR_perm r l).length_eq];rfl
theorem insR_no (r:List Val):∀ (l m:List (List Val)),l.any (before r)=false→insR r (l++m)=l++insR r m
  | [],m,_=>rfl
  | x::l,m,h=>by
    simp only [List.any_cons,Bool.or_eq_false_iff] at h
    rw [List.cons_append,insR,h.1,insR_no r l m h.2];rfl
theorem insR_yes (r:List Val):∀ (l m:List (List Val)),l.any (before r)=true→insR r (l++m)=insR r l++m
  | [],m,h=>by simp at h
  | x::l,m,h=>by
    rw [List.cons_append,insR,insR]
    by_cases h1:before r x=true
    · rw [if_pos h1,if_pos h1];rfl
    · rw [if_neg h1,if_neg h1]
      have h2:l.any (before r)=true:=by simpa [h1] using h
      rw [insR_yes r l m h2];rfl
def insK (r:List Val) (rs:List (List Val)) (k:Nat):List (List Val):=if (rs.take k).any (before r) then insR r (rs.take k) else rs.take k
theorem insK_done {r:List Val} {rs:List (List Val)} {k:Nat} (h:k<rs.length) (hd:(rs.take k).any (before r)=true):(rs.take (k+1)).any (before r)=true∧insK r rs (k+1)=insK r rs k++[rs[k]]:=by
  have e:(rs.take (k+1)).any (before r)=true:=by rw [take_snoc h,List.any_append,hd];rfl
  refine ⟨e,?_⟩
  unfold insK
  rw [if_pos e,if_pos hd,take_snoc h,insR_yes r _ _ hd]
theorem insK_now {r:List Val} {rs:List (List Val)} {k:Nat} (h:k<rs.length) (hd:(rs.take k).any (before r)=false) (hb:before r rs[k]=true):(rs.take (k+1)).any (before r)=true∧insK r rs (k+1)=insK r rs k++[r]++[rs[k]]:=by
  have e:(rs.take (k+1)).any (before r)=true:=by rw [take_snoc h,List.any_append];simp [hb]
  refine ⟨e,?_⟩
  unfold insK
  rw [if_pos e,if_neg (by simp [hd]),take_snoc h,insR_no r _ _ hd,insR,if_pos hb]
  simp
theorem insK_not {r:List Val} {rs:List (List Val)} {k:Nat} (h:k<rs.length) (hd:(rs.take k).any (before r)=false) (hb:before r rs[k]=false):(rs.take (k+1)).any (before r)=false∧insK r rs (k+1)=insK r rs k++[rs[k]]:=by
  have e:(rs.take (k+1)).any (before r)=false:=by rw [take_snoc h,List.any_append,hd];simp [hb]
  refine ⟨e,?_⟩
  unfold insK
  rw [if_neg (by simp [e]),if_neg (by simp [hd]),take_snoc h]
theorem insK_len (r:List Val) (rs:List (List Val)) (k:Nat):(insK r rs k).length≤rs.length+1:=by
  unfold insK;split
  · rw [insR_len,List.length_take];omega
  · rw [List.length_take];omega
def RI (i:KI) (row:List (List Val)):Prop:=i.nl=row.isEmpty∧i.sz=if i.nl then 0 else 1
theorem RI.next {k:Nat} {row:List (List Val)} {f:List Val} : RI ⟨k,false,1⟩ (row++[f]):=⟨by cases row <;> rfl,rfl⟩
theorem insR_ne (r:List Val) (rs:List (List Val)):(insR r rs).isEmpty=false:=by
  have:=insR_len r rs
  cases hx:insR r rs with
  | nil=>rw [hx] at this;simp at this
  | cons=>rfl
def validAt (f:Fact) (t:Int):Bool:=right f.p && has f.p t
def rowsAt (l:List Fact) (t:Int):List (List Val):=l.foldl (fun acc f=>if validAt f t then insR f.row acc else acc) []
theorem rowsAt_snoc (l:List Fact) (t:Int) {k:Nat} (h:k<l.length):rowsAt (l.take (k+1)) t=if validAt l[k] t then insR l[k].row (rowsAt (l.take k) t) else rowsAt (l.take k) t:=by
  unfold rowsAt;rw [take_snoc h,List.foldl_append];rfl
theorem rowsAt_perm (l:List Fact) (t:Int):(rowsAt l t).Perm ((l.filter fun f=>validAt f t).map Fact.row):=by
  refine rev_ind (p:=fun l=>(rowsAt l t).Perm ((l.filter fun f=>validAt f t).map Fact.row)) ?_ ?_ l
  · exact List.Perm.refl _
  · intro l f ih
    unfold rowsAt at ih ⊢
    rw [List.foldl_append,List.filter_append,List.map_append]
    by_cases hv:validAt f t=true
    · simp only [List.foldl_cons,List.foldl_nil,hv,if_true,List.filter_cons,List.filter_nil,List.map_cons,List.map_nil]
      exact (insR_perm _ _).trans ((ih.cons _).trans (List.perm_append_singleton _ _).symm)
    · simp only [Bool.not_eq_true] at hv
      simp only [List.foldl_cons,List.foldl_nil,hv,List.filter_cons,List.filter_nil,List.map_nil,List.append_nil]
      simpa using ih
theorem rowsAt_len (l:List Fact) (t:Int):(rowsAt l t).length≤l.length:=by
  rw [(rowsAt_perm l t).length_eq,List.length_map];exact List.length_filter_le _ _
theorem rowsAt_mem {l:List Fact} {t:Int} {r:List Val} (h:r∈rowsAt l t):∃ f∈l,validAt f t=true∧f.row=r:=by
  have:=(rowsAt_perm l t).mem_iff.1 h
  obtain ⟨f,hf,e⟩:=List.mem_map.1 this
  obtain ⟨h1,h2⟩:=List.mem_filter.1 hf
  exact ⟨f,h1,h2,e⟩
end Go.Proofs.YtlphpbcafplnbaaGreat
