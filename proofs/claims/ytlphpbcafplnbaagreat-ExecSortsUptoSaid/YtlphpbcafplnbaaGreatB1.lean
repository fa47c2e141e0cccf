/- Contracts of functions of the seat, proved in a logic on data over the model (part B1). -/
import Derived.Test.YtlphpbcafplnbaaGreatD2
import Derived.Lib.SlicesCompact
import Derived.Test.YtlphpbcafplnbaaGreatQ7
import Derived.Test.YtlphpbcafplnbaaGreatVN17
import Derived.Shelf.GgSortFunc.InsertionK
import Derived.Sort.Grow
import Derived.Shelf.Small.Strs
set_option linter.unusedSimpArgs false
set_option linter.unusedVariables false
namespace Go.Proofs.YtlphpbcafplnbaaGreat
open Go.VL Go.RowKit
def colC (c:Int):Fact→Fact→Int :=
  if c<0 then fun f g=>cmpI f.p.f g.p.f else fun f g=>cmpR ((f.row.drop c.toNat).take 1) ((g.row.drop c.toNat).take 1)
def cmpC:List Int→Fact→Fact→Int
  | []=>ordF
  | c::cs=>lexC (colC c) (cmpC cs)
theorem Cmp.col (c:Int):Cmp (colC c):=by
  unfold colC
  split
  · exact Cmp.int.on fun f:Fact=>f.p.f
  · exact Cmp.row.on fun f:Fact=>(f.row.drop c.toNat).take 1
theorem Cmp.cols:∀ cs:List Int,Cmp (cmpC cs)
  | []=>Cmp.fact
  | c::cs=>(Cmp.col c).lex (Cmp.cols cs)
theorem colC_norm (c:Int) (f g:Fact):colC c (norm f) (norm g)=colC c f g:=by unfold colC;split <;> rfl
theorem cmpC_norm:∀ (cs:List Int) (f g:Fact),cmpC cs (norm f) (norm g)=cmpC cs f g
  | [],f,g=>rfl
  | c::cs,f,g=>by
    show lexC _ _ _ _=lexC _ _ _ _
    unfold lexC
    rw [colC_norm,cmpC_norm cs]
theorem cmpC_0:∀ (cs:List Int) (f g:Fact),cmpC cs f g=0→ordF f g=0
  | [],_,_,h=>h
  | c::cs,f,g,h=>by
    change lexC (colC c) (cmpC cs) f g=0 at h
    unfold lexC at h
    split at h
    · exact cmpC_0 cs f g h
    · exact absurd h ‹_›
theorem UpS.norm {cs:List Int} {l:List Fact} (h:UpS (cmpC cs) l):UpS (cmpC cs) (l.map norm):=by
  refine List.pairwise_map.2 (h.imp fun {x y} hxy=>?_)
  rw [cmpC_norm];exact hxy
theorem up_uniq {cs:List Int} {a b:List Fact} (hp:a.Perm b) (ha:UpS (cmpC cs) a) (hb:UpS (cmpC cs) b):a.map Go.Proofs.YtlphpbcafplnbaaGreat.norm=b.map Go.Proofs.YtlphpbcafplnbaaGreat.norm:=by
  refine uniq_sorted (hp.map _) ha.norm hb.norm fun x hx y hy h1 h2=>?_
  obtain ⟨f,_,rfl⟩:=List.mem_map.1 hx
  obtain ⟨g,_,rfl⟩:=List.mem_map.1 hy
  have:=(Cmp.cols cs).anti (Go.Proofs.YtlphpbcafplnbaaGreat.norm f) (Go.Proofs.YtlphpbcafplnbaaGreat.norm g)
  exact Normed.ext rfl rfl (cmpC_0 cs _ _ (by omega))
section
variable {α:Type} (cf:α→α→Int)
def dIns (x:α):List α→List α
  | []=>[x]
  | y::r=>if cf x y<0 then x::y::r else y::dIns x r
def dSort (l:List α):List α:=l.foldl (fun out x=>dIns cf x out) []
end
section
variable {α:Type} {cf:α→α→Int}
theorem dIns_at (x:α):∀ (l:List α) (k:Nat),k≤l.length→(∀ j,j<k→(h:j<l.length)→¬ cf x l[j] < 0)→(∀ h:k<l.length,cf x l[k] < 0)→dIns cf x l=l.take k++x::l.drop k
  | [],k,hk,_,_=>by simp at hk;subst hk;rfl
  | y::r,0,_,_,h2=>by
    have h3:cf x y<0:=h2 (by simp)
    rw [dIns,if_pos h3];rfl
  | y::r,k+1,hk,h1,h2=>by
    have h3:¬ cf x y<0:=h1 0 (by omega) (by simp)
    rw [dIns,if_neg h3,dIns_at x r k (by simpa using hk) (fun j hj h=>h1 (j+1) (by omega) (by simpa using h)) (fun h=>h2 (by simpa using h))]
    rfl
theorem dIns_perm (x:α):∀ (l:List α),(dIns cf x l).Perm (x::l)
  | []=>.refl _
  | y::r=>by
    rw [dIns]
    split
    · exact .refl _
    · exact ((dIns_perm x r).cons y).trans (.swap x y r)
theorem dIns_up (hc:Cmp cf) (x:α):∀ (l:List α),UpS cf l→UpS cf (dIns cf x l)
  | [],_=>by simp [dIns]
  | y::r,h=>by
    obtain ⟨h1,h2⟩:=List.pairwise_cons.1 h
    rw [dIns]
    split
    · rename_i hlt
      refine List.pairwise_cons.2 ⟨fun z hz=>?_,h⟩
      rcases List.mem_cons.1 hz with rfl | hz
      · omega
      · exact hc.trans x y z (by omega) (h1 z hz)
    · rename_i hge
      have:=hc.anti x y
      refine List.pairwise_cons.2 ⟨fun z hz=>?_,dIns_up hc x r h2⟩
      rcases List.mem_cons.1 ((dIns_perm x r).mem_iff.1 hz) with rfl | hz
      · omega
      · exact h1 z hz
theorem dFold_perm:∀ (l o:List α),(l.foldl (fun out x=>dIns cf x out) o).Perm (l++o)
  | [],o=>.refl _
  | x::l,o=>by
    rw [List.foldl_cons]
    exact (dFold_perm l _).trans (((dIns_perm x o).append_left l).trans List.perm_middle)
theorem dFold_up (hc:Cmp cf):∀ (l o:List α),UpS cf o→UpS cf (l.foldl (fun out x=>dIns cf x out) o)
  | [],_,h=>h
  | x::l,o,h=>by rw [List.foldl_cons];exact dFold_up hc l _ (dIns_up hc x o h)
theorem dSort_perm (l:List α):(dSort cf l).Perm l:=by
  have:=dFold_perm (cf:=cf) l []
  rwa [List.append_nil] at this
theorem dSort_len (l:List α):(dSort cf l).length=l.length:=(dSort_perm l).length_eq
theorem dSort_up (hc:Cmp cf) (l:List α):UpS cf (dSort cf l):=dFold_up hc l [] List.Pairwise.nil
theorem dSort_snoc (l:List α) {k:Nat} (h:k<l.length):dSort cf (l.take (k+1))=dIns cf l[k] (dSort cf (l.take k)):=by
  unfold dSort
  rw [take_snoc h,List.foldl_append];rfl
end
theorem strips_of_norm {a b:List Fact} (h:a.map norm=b.map norm):strips a=strips b:=by
  have e:∀ l:List Fact,strips l=strips (l.map norm):=fun l=>by unfold strips;rw [List.map_map];rfl
  rw [e a,e b,h]
def Rise (l:List Int):Prop:=l.Pairwise (· < ·)
open Go.Lib in
theorem compactUpTo_ok (d:Array Int) (hs:∀ i j,i<j→j<d.size→d[i]! ≤ d[j]!):∀ m,m≤d.size→Rise (compactUpTo d m)∧(∀ t,t∈compactUpTo d m↔∃ j,j<m∧d[j]! = t)
  | 0,_=>by simp [compactUpTo,Rise]
  | m+1,h=>by
    obtain ⟨h1,h2⟩:=compactUpTo_ok d hs m (by omega)
    rw [compactUpTo_succ]
    by_cases hk:keeps d m=true
    · rw [if_pos hk]
      refine ⟨?_,fun t=>?_⟩
      · unfold Rise at h1 ⊢
        rw [List.pairwise_append]
        refine ⟨h1,by simp,fun x hx y hy=>?_⟩
        simp at hy
        subst hy
        obtain ⟨j,hj,rfl⟩:=(h2 x).1 hx
        simp [keeps] at hk
        rcases hk with hk | hk
        · omega
        · have a:=hs (m-1) m (by omega) (by omega)
          have b:d[j]! ≤ d[m-1]! := by
            by_cases e:j=m-1
            · subst e;exact Int.le_refl _
            · exact hs j (m-1) (by omega) (by omega)
          omega
      · rw [List.mem_append,h2,List.mem_singleton]
        constructor
        · rintro (⟨j,hj,rfl⟩ | rfl)
          · exact ⟨j,by omega,rfl⟩
          · exact ⟨m,by omega,rfl⟩
        · rintro ⟨j,hj,rfl⟩
          by_cases e:j=m
          · subst e;exact .inr rfl
          · exact .inl ⟨j,by omega,rfl⟩
    · rw [if_neg hk,List.append_nil]
      refine ⟨h1,fun t=>?_⟩
      rw [h2]
      constructor
      · rintro ⟨j,hj,rfl⟩;exact ⟨j,by omega,rfl⟩
      · rintro ⟨j,hj,rfl⟩
        by_cases e:j=m
        · subst e
          simp [keeps] at hk
          exact ⟨j-1,by omega,hk.2.symm⟩
        · exact ⟨j,by omega,rfl⟩
theorem compact_ok (zs:List Int) (hs:zs.Pairwise (· ≤ ·)):Rise (Go.Lib.compact zs)∧∀ t,t∈Go.Lib.compact zs↔t∈zs:=by
  have h:=compactUpTo_ok zs.toArray (fun i j hij hj=>by
    have hj':j<zs.length:=by simpa using hj
    have:=(List.pairwise_iff_getElem.1 hs) i j (by omega) hj' hij
    simpa [hj',(show i<zs.length by omega)] using this) zs.length (by simp)
  refine ⟨h.1,fun t=>(h.2 t).trans ?_⟩
  rw [List.mem_iff_getElem]
  constructor
  · rintro ⟨j,hj,rfl⟩;exact ⟨j,hj,by simp [hj]⟩
  · rintro ⟨j,hj,rfl⟩;exact ⟨j,hj,by simp [hj]⟩
def endsOf (l:List Per):List Int:=(l.filter right).flatMap fun p=>[p.f,p.t]
theorem endsOf_snoc (l:List Per) {k:Nat} (h:k<l.length):endsOf (l.take (k+1))=endsOf (l.take k)++(if right l[k] then [l[k].f,l[k].t] else []):=by
  unfold endsOf
  rw [take_snoc h,List.filter_append,List.flatMap_append]
  by_cases hr:right l[k]=true <;> simp [hr]
theorem endsOf_len (l:List Per):(endsOf l).length≤2*l.length:=by
  induction l with
  | nil=>simp [endsOf]
  | cons p l ih =>
    unfold endsOf at *
    by_cases hr:right p=true <;> simp [hr] at ih ⊢ <;> omega
theorem mem_endsOf (l:List Per) (t:Int):t∈endsOf l↔∃ p∈l,right p=true∧(t=p.f∨t=p.t):=by
  simp [endsOf,and_assoc]
theorem endsOf_pos (l:List Per) {t:Int} (h:t∈endsOf l):0≤t:=by
  obtain ⟨p,_,hr,e⟩:=(mem_endsOf l t).1 h
  have:=(right_iff p).1 hr
  rcases e with rfl | rfl <;> omega
def sortI (l:List Int):List Int:=l.mergeSort fun x y=>decide (x≤y)
theorem sortI_perm (l:List Int):(sortI l).Perm l:=List.mergeSort_perm _ _
theorem sortI_len (l:List Int):(sortI l).length=l.length:=(sortI_perm l).length_eq
theorem sortI_sorted (l:List Int):(sortI l).Pairwise (· ≤ ·):=by
  have:=List.pairwise_mergeSort (le:=fun x y:Int=>decide (x≤y)) (fun a b c h1 h2=>by simp at *;omega) (fun a b=>by simp;omega) l
  exact this.imp (by simp)
def edgesL (l:List Per):List Int:=Go.Lib.compact (sortI (endsOf l))
theorem edgesL_ok (l:List Per):Rise (edgesL l)∧∀ t,t∈edgesL l↔t∈endsOf l:=by
  obtain ⟨h1,h2⟩:=compact_ok (sortI (endsOf l)) (sortI_sorted _)
  exact ⟨h1,fun t=>(h2 t).trans (sortI_perm _).mem_iff⟩
theorem compact_len (zs:List Int):(Go.Lib.compact zs).length≤zs.length:=by
  unfold Go.Lib.compact Go.Lib.compactUpTo
  rw [List.length_map]
  exact Nat.le_trans (List.length_filter_le _ _) (by simp)
theorem edgesL_len (l:List Per):(edgesL l).length≤2*l.length :=
  Nat.le_trans (compact_len _) (by rw [sortI_len];exact endsOf_len l)
def laterB (out:List Int) (t:Int):Bool:=decide (out.length=0) || decide (out[out.length-1]! < t)
def nextS (out:List Int) (n t:Int):Int:=if laterB out t && (decide (n<0) || decide (t<n)) then t else n
def nextL (out:List Int) (l:List Int):Int:=l.foldl (nextS out) (-1)
theorem nextL_snoc (out l:List Int) (t:Int):nextL out (l++[t])=nextS out (nextL out l) t:=by
  unfold nextL;rw [List.foldl_append];rfl
theorem rev_ind {α:Type} {p:List α→Prop} (h0:p []) (h1:∀ l a,p l→p (l++[a])) (l:List α):p l:=by
  have:∀ m:List α,p m.reverse:=fun m=>by
    induction m with
    | nil=>exact h0
    | cons a m ih=>rw [List.reverse_cons];exact h1 _ _ ih
  have h:=this l.reverse
  rwa [List.reverse_reverse] at h
theorem nextL_ok (out:List Int):∀ (l:List Int),(∀ t∈l,0≤t) →
    (nextL out l = -1∧∀ t∈l,laterB out t=false)∨(0≤nextL out l∧nextL out l∈l∧laterB out (nextL out l)=true∧∀ t∈l,laterB out t=true→nextL out l≤t):=by
  intro l
  refine rev_ind (p:=fun l=>(∀ t∈l,0≤t)→(nextL out l = -1∧∀ t∈l,laterB out t=false)∨(0≤nextL out l∧nextL out l∈l∧laterB out (nextL out l)=true∧∀ t∈l,laterB out t=true→nextL out l≤t)) ?_ ?_ l
  · intro _;exact .inl ⟨rfl,by simp⟩
  · intro l t ih hp
    have ht:=hp t (by simp)
    have ih:=ih (fun x hx=>hp x (by simp [hx]))
    rw [nextL_snoc]
    generalize nextL out l=n at *
    unfold nextS
    by_cases hlt:laterB out t=true
    · rcases ih with ⟨rfl,h⟩ | ⟨h0,h1,h2,h3⟩
      · rw [if_pos (by simp [hlt])]
        refine .inr ⟨ht,by simp,hlt,fun x hx hlx=>?_⟩
        rcases List.mem_append.1 hx with hx | hx
        · rw [h x hx] at hlx;cases hlx
        · simp at hx;omega
      · by_cases htn:t<n
        · rw [if_pos (by simp [hlt,htn])]
          refine .inr ⟨ht,by simp,hlt,fun x hx hlx=>?_⟩
          rcases List.mem_append.1 hx with hx | hx
          · have:=h3 x hx hlx;omega
          · simp at hx;omega
        · rw [if_neg (by simp [hlt,htn];omega)]
          refine .inr ⟨h0,by simp [h1],h2,fun x hx hlx=>?_⟩
          rcases List.mem_append.1 hx with hx | hx
          · exact h3 x hx hlx
          · simp at hx;omega
    · have hlt':laterB out t=false:=by simpa using hlt
      rw [if_neg (by simp [hlt'])]
      rcases ih with ⟨rfl,h⟩ | ⟨h0,h1,h2,h3⟩
      · refine .inl ⟨rfl,fun x hx=>?_⟩
        rcases List.mem_append.1 hx with hx | hx
        · exact h x hx
        · simp at hx;subst hx;exact hlt'
      · refine .inr ⟨h0,by simp [h1],h2,fun x hx hlx=>?_⟩
        rcases List.mem_append.1 hx with hx | hx
        · exact h3 x hx hlx
        · simp at hx;subst hx;rw [hlt'] at hlx;cases hlx
theorem laterB_take {E:List Int} (hE:Rise E) {k j:Nat} (hk:k≤E.length) (hj:j<E.length):laterB (E.take k) E[j]=decide (k≤j):=by
  unfold laterB
  have hlen:(E.take k).length=k:=by rw [List.length_take];omega
  rw [hlen]
  rcases Nat.eq_zero_or_pos k with rfl | hk0
  · simp
  · have h1:(E.take k)[k-1]! = E[k-1]:=by
      rw [getElem!_pos _ _ (by omega)];simp
    rw [h1]
    have hlt:=List.pairwise_iff_getElem.1 hE
    by_cases h:k≤j
    · have:=hlt (k-1) j (by omega) hj (by omega)
      simp [h,this]
    · have:¬ E[k-1] < E[j]:=by
        by_cases e:j=k-1
        · subst e;exact Int.lt_irrefl _
        · have:=hlt j (k-1) hj (by omega) (by omega);omega
      have hk2:¬ k=0:=by omega
      simp [h,this,hk2]
theorem nextL_edge (l:List Per) {k:Nat} (hk:k≤(edgesL l).length):nextL ((edgesL l).take k) (endsOf l)=if h:k<(edgesL l).length then (edgesL l)[k] else -1:=by
  obtain ⟨hE,hm⟩:=edgesL_ok l
  generalize edgesL l=E at *
  rcases nextL_ok (E.take k) (endsOf l) (fun t ht=>endsOf_pos l ht) with ⟨h1,h2⟩ | ⟨h0,h1,h2,h3⟩
  · rw [h1]
    by_cases h:k<E.length
    · have:=h2 E[k] ((hm _).1 (List.getElem_mem h))
      rw [laterB_take hE hk h] at this
      simp at this
    · rw [dif_neg h]
  · generalize nextL (E.take k) (endsOf l)=n at *
    obtain ⟨j,hj,rfl⟩:=List.getElem_of_mem ((hm n).2 h1)
    rw [laterB_take hE hk hj] at h2
    have hkj:k≤j:=by simpa using h2
    have hlt:k<E.length:=by omega
    rw [dif_pos hlt]
    have a:=h3 E[k] ((hm _).1 (List.getElem_mem hlt)) (by rw [laterB_take hE hk hlt];simp)
    by_cases e:k=j
    · subst e;rfl
    · have:=List.pairwise_iff_getElem.1 hE k j hlt hj (by omega)
      omega
end Go.Proofs.YtlphpbcafplnbaaGreat
namespace Go.Proofs.YtlphpbcafplnbaaGreat
open Go.VL Go.RowKit
def ints (l:List Int):List (List C):=l.map fun x=>[C.v (.int .i64 x)]
@[simp] theorem ints_len (l:List Int):(ints l).length=l.length:=by simp [ints]
@[simp] theorem ints_app (l m:List Int):ints (l++m)=ints l++ints m:=by simp [ints]
@[simp] theorem ints_nil:ints []=[]:=rfl
theorem ints_get (l:List Int) (k:Nat) (h:k<l.length):(ints l)[k]?.getD []=[i64 l[k]]:=by
  simp [ints,List.getElem?_eq_getElem h]
@[simp] theorem ints_at (l:List Int) (k:Nat) (h:k<(ints l).length):(ints l)[k]=[i64 (l[k]'(by simpa using h))]:=by simp [ints]
def ez (m:List Int):Nat:=if m.isEmpty then 0 else 1
def two (p:Per) (j:Nat):List Int:=[p.f,p.t].take j
end Go.Proofs.YtlphpbcafplnbaaGreat
namespace Go.VL
open Go.RowKit
section
variable {P:Program} {α:Type} [Inhabited α]
theorem holdsK_of {enc:α→List Value} {k:Nat} {cells:α→List C} (hc:∀ x,cells x=(enc x).map C.v) (hk:∀ x,(enc x).length=k) {K:Nat→Nat→Prop} {w:World} {b:Nat} {cur:Array Value} {E:TypeId} {l:List α}
    (hh:w.heap[b]? = some (.cells cur E (0,0))) (h:Holds K w k (l.map cells) cur):Sort.HoldsK enc k w b 0 l.toArray:=by
  intro j hj
  rw [Sort.size_flatK] at hj
  have hj':j<l.length*k:=by simpa using hj
  have k0:0<k:=by rcases Nat.eq_zero_or_pos k with h | h; · subst h;simp at hj'
                  · exact h
  have hq:j / k<l.length:=(Nat.div_lt_iff_lt_mul k0).2 hj'
  have hm:j % k<k:=Nat.mod_lt _ k0
  rw [Sort.get_flatK _ _ _ _ hj]
  obtain ⟨_,h2⟩:=h (j / k) (cells l[j / k]) (by rw [List.getElem?_map,List.getElem?_eq_getElem hq];rfl)
  have hl:(enc l[j / k]).length=k:=hk _
  obtain ⟨u,hu,hcr⟩:=h2 (j % k) (.v ((enc l[j / k])[j % k]'(by omega))) (by rw [hc,List.getElem?_map,List.getElem?_eq_getElem (by omega)];rfl)
  rw [CR] at hcr
  rw [Nat.div_add_mod'] at hu
  have e1:l.toArray[j / k]! = l[j / k]:=by simp [hq]
  refine ⟨?_,?_⟩
  · unfold World.cell?
    simp only [hh,Nat.zero_add]
    rw [e1,getElem!_pos _ _ (by omega)]
    simp [hu,hcr.1]
  · unfold World.frozen?
    simp [hh]
theorem holds_sorted {enc:α→List Value} {k:Nat} {cells:α→List C} (hc:∀ x,cells x=(enc x).map C.v) (hk:∀ x,(enc x).length=k) (h1:∀ x,∀ v∈enc x,v.oneCell'=true) (K:Nat→Nat→Prop) (w:World) {cur:Array Value} {cap:Nat} {l:List α}
    (hs:cur.size=cap*k) (hcap:l.length≤cap):Holds K w k (l.map cells) (Sort.putCells id 0 (Sort.flatK enc k l.toArray) cur):=by
  intro j e he
  rw [List.getElem?_map] at he
  cases hj:l[j]? with
  | none=>rw [hj] at he;simp at he
  | some x =>
    rw [hj] at he
    simp only [Option.map_some,Option.some.injEq] at he
    subst he
    have hjl:j<l.length:=(List.getElem?_eq_some_iff.1 hj).1
    have hx:l[j]=x:=(List.getElem?_eq_some_iff.1 hj).2
    refine ⟨by rw [hc,List.length_map,hk],fun c y hy=>?_⟩
    rw [hc,List.getElem?_map] at hy
    cases hv:(enc x)[c]? with
    | none=>rw [hv] at hy;simp at hy
    | some v =>
      rw [hv] at hy
      simp only [Option.map_some,Option.some.injEq] at hy
      subst hy
      have hck:c<k:=by have:=(List.getElem?_eq_some_iff.1 hv).1;rwa [hk] at this
      have hb:j*k+c<l.length*k:=by
        have:=Nat.mul_le_mul_right k (show j+1≤l.length from hjl)
        rw [Nat.add_mul,Nat.one_mul] at this;omega
      have hb2:j*k+c<cur.size:=by
        have:=Nat.mul_le_mul_right k hcap
        omega
      have e1:(j*k+c) / k=j:=(Sort.blk_iff k j _ (by omega)).1 ⟨by omega,by omega⟩
      have e2:(j*k+c) % k=c:=by rw [Nat.mod_eq_sub_div_mul,e1];omega
      refine ⟨v,?_,by rw [CR];exact ⟨rfl,h1 x v (List.mem_of_getElem? hv)⟩⟩
      unfold Sort.putCells
      rw [Array.getElem?_mapIdx,Array.getElem?_eq_getElem hb2]
      simp only [Option.map_some,Nat.zero_le,true_and,Nat.zero_add,Sort.size_flatK,Nat.sub_zero,id]
      rw [if_pos (by simpa using hb),Sort.get_flatK _ _ _ _ (by simpa using hb),e1,e2]
      simp [hjl,hx,hv]
theorem ConB.sort {f:FuncId} {fv:FuncId} {enc:α→List Value} {k:Nat} {cells:α→List C} (hc:∀ x,cells x=(enc x).map C.v) (hk:∀ x,(enc x).length=k) (h1:∀ x,∀ v∈enc x,v.oneCell'=true) (hf:callable P f=true) (l l':List α) (hl:l'.length=l.length)
    (h:∀ (w:World) (b cap:Nat),Sort.HoldsK enc k w b 0 l.toArray→b<w.heap.size→Calls P f #[.slice (some ⟨b,0,none⟩) l.toArray.size cap,.func (.func fv) #[] #[]] w fun e w'=>e = .returned (.tuple #[])∧∃ n os,w'=Go.Proofs.sortWorldK enc k w b 0 n l'.toArray os) :
    ConB P f [.own 1 l.length,.c (.fn fv [])] [(1,.arr false k (l.map cells) 0)] [] [.own 1 l.length,.c (.fn fv [])] [(1,.arr false k (l'.map cells) 0)]:=by
  refine ⟨hf,fun w g us hM hargs=>?_⟩
  have hb1:lk [(1,Res.arr false k (l.map cells) 0)] 1=some (.arr false k (l.map cells) 0):=rfl
  rw [SRs] at hargs
  obtain ⟨u1,us1,rfl,hu1,hargs⟩:=hargs
  rw [SRs] at hargs
  obtain ⟨u2,us2,rfl,hu2,hargs⟩:=hargs
  rw [SRs] at hargs
  subst hargs
  have hu2':=hu2
  rw [SR] at hu1
  have e1:=hu1 false k (l.map cells) 0 hb1 (by simp)
  rw [SR,CR] at hu2
  obtain ⟨us3,e2,hu2⟩:=hu2
  rw [VR] at hu2
  subst hu2
  have hres:=hM.res 1 _ hb1
  rw [RR] at hres
  rcases hres with ⟨hn,_⟩ | ⟨_,b,cap,cur,E,hloc,hB,hheap,hcap,hmax,hsz,hfx,hH,hK⟩
  · cases hn
  have hbs:b<w.heap.size:=(Array.getElem?_eq_some_iff.1 hheap).1
  rw [List.length_map] at hloc hcap
  have hcall:=h w b cap (holdsK_of hc hk hheap hH) hbs
  rw [e1,hloc,e2]
  refine hcall.mono ?_
  rintro e w' ⟨rfl,n,os,rfl⟩
  have hheap':(Go.Proofs.sortWorldK enc k w b 0 n l'.toArray os).heap[b]? = some (.cells (Sort.putCells id 0 (Sort.flatK enc k l'.toArray) cur) E (0,0)):=by
    unfold Go.Proofs.sortWorldK
    rw [Sort.heap_grow_old _ _ (by show b<(Sort.putRow id (Sort.ahead w n) b 0 _).heap.size;rw [Sort.size_putRow];exact hbs)]
    show ((Sort.ahead w n).heap.modify b _)[b]? = _
    rw [Array.getElem?_modify,if_pos rfl]
    show Option.map _ w.heap[b]? = _
    rw [hheap]
    rfl
  have hother:∀ q,q<w.heap.size→q≠b→(Go.Proofs.sortWorldK enc k w b 0 n l'.toArray os).heap[q]? = w.heap[q]? := by
    intro q hq hne
    unfold Go.Proofs.sortWorldK
    rw [Sort.heap_grow_old _ _ (by show q<(Sort.putRow id (Sort.ahead w n) b 0 _).heap.size;rw [Sort.size_putRow];exact hq)]
    show ((Sort.ahead w n).heap.modify b _)[q]? = _
    rw [Array.getElem?_modify,if_neg (Ne.symm hne)]
    rfl
  have hsize:w.heap.size≤(Go.Proofs.sortWorldK enc k w b 0 n l'.toArray os).heap.size:=by
    show w.heap.size≤(((Sort.ahead w n).heap.modify b _)++os).size
    rw [Array.size_append,Array.size_modify]
    exact Nat.le_add_right _ _
  have hlent:∀ q,lent g [(1,Res.arr false k (l.map cells) 0)] q↔q=b:=by
    intro q
    constructor
    · rintro ⟨i,r,hi,hq⟩
      have:=(Prod.mk.inj (List.mem_singleton.1 (lk_mem hi))).1
      subst this
      rw [hloc] at hq
      simpa [blk] using hq.symm
    · rintro rfl
      exact ⟨1,_,hb1,by rw [hloc];rfl⟩
  have hKb:∀ o,¬ g.K b o:=fun o h=>by have:=(hK o).1 h;omega
  have hcell:∀ q o,g.K q o→(Go.Proofs.sortWorldK enc k w b 0 n l'.toArray os).cell? ⟨q,o,none⟩=w.cell? ⟨q,o,none⟩:=by
    intro q o h
    have hne:q≠b:=fun e=>hKb o (e ▸ h)
    unfold World.cell?
    simp only [hother q (hM.klt q o h) hne]
  have hk':Keeps g.K w g.K (Go.Proofs.sortWorldK enc k w b 0 n l'.toArray os):=⟨fun _ _ h=>h,hcell⟩
  refine ⟨[],g,rfl,⟨⟨rfl,rfl,rfl,hsize,fun q hq=>?_,Nat.le_add_right _ _⟩,fun _ _ h=>h,fun _ _ h _=>h,fun q o h=>Nat.lt_of_lt_of_le (hM.klt q o h) hsize,fun i r hi=>?_,fun i j r r' hi hj hne=>?_,fun q o h=>hcell q o h⟩,rfl,?_⟩
  · exact hother q hq.1 (fun e=>hq.2 ((hlent q).2 e))
  · obtain ⟨rfl,rfl⟩:=Prod.mk.inj (List.mem_singleton.1 (lk_mem hi))
    rw [RR]
    refine .inr ⟨rfl,b,cap,_,E,?_,hB,hheap',?_,hmax,?_,Nat.zero_le _,?_,hK⟩
    · rw [List.length_map,hl];exact hloc
    · rw [List.length_map,hl];exact hcap
    · unfold Sort.putCells
      rw [Array.size_mapIdx];exact hsz
    · exact holds_sorted hc hk h1 _ _ hsz (by rw [hl];exact hcap)
  · obtain ⟨rfl,rfl⟩:=Prod.mk.inj (List.mem_singleton.1 (lk_mem hi))
    obtain ⟨rfl,rfl⟩:=Prod.mk.inj (List.mem_singleton.1 (lk_mem hj))
    exact absurd rfl hne
  · rw [SRs]
    refine ⟨_,_,rfl,?_,?_⟩
    · rw [SR]
      intro _ _ _ _ _ _
      exact hloc.symm
    rw [SRs]
    refine ⟨_,_,rfl,?_,by rw [SRs]⟩
    rw [e2] at hu2'
    rw [SR] at hu2' ⊢
    exact CR.mono hk' _ _ hu2'
theorem Con.same {f:FuncId} {args:List S} (hf:callable P f=true) (h:∀ (w:World) (K:Nat→Nat→Prop) (us:List Value),DRs K w args us→Calls P f us.toArray w fun e w'=>e = .returned (.tuple #[])∧w'=w):Con P f args []:=by
  refine Con.of hf fun w K us hK hd=>(h w K us hd).mono ?_
  rintro e w' ⟨rfl,rfl⟩
  refine ⟨[],rfl,BelowD.refl _ _,K,fun _ _ h=>h,fun _ _ h _=>h,hK,rfl,fun k r v hr=>?_,fun j k r r' v v' _ hr=>?_⟩
  · simp at hr
  · simp at hr
end
section
variable {P:Program}
theorem holds1_of {K:Nat→Nat→Prop} {w:World} {b:Nat} {cur:Array Value} {E:TypeId} {l:List Int}
    (hh:w.heap[b]? = some (.cells cur E (0,0))) (h:Holds K w 1 (l.map fun x=>[C.v (.int .i64 x)]) cur):Sort.Holds (Value.int .i64) w b 0 l.toArray:=by
  intro j hj
  have hj':j<l.length:=by simpa using hj
  obtain ⟨_,h2⟩:=h j [C.v (.int .i64 l[j])] (by rw [List.getElem?_map,List.getElem?_eq_getElem hj'];rfl)
  obtain ⟨u,hu,hcr⟩:=h2 0 _ rfl
  rw [CR] at hcr
  rw [Nat.mul_one,Nat.add_zero] at hu
  have e1:l.toArray[j]! = l[j]:=by simp [hj']
  refine ⟨?_,?_⟩
  · unfold World.cell?
    simp only [hh,Nat.zero_add]
    rw [e1]
    simp [hu,hcr.1]
  · unfold World.frozen?
    simp [hh]
theorem holds1_put (K:Nat→Nat→Prop) (w:World) {cur:Array Value} {cap m:Nat} {d:List Int}
    (hs:cur.size=cap*1) (hcap:d.length≤cap):Holds K w 1 ((d.take m).map fun x=>[C.v (.int .i64 x)]) (Sort.putCells (Value.int .i64) 0 d.toArray cur):=by
  intro j e he
  rw [List.getElem?_map] at he
  cases hj:(d.take m)[j]? with
  | none=>rw [hj] at he;simp at he
  | some x =>
    rw [hj] at he
    simp only [Option.map_some,Option.some.injEq] at he
    subst he
    rw [List.getElem?_take] at hj
    split at hj
    · have hjl:j<d.length:=(List.getElem?_eq_some_iff.1 hj).1
      have hx:d[j]=x:=(List.getElem?_eq_some_iff.1 hj).2
      refine ⟨rfl,fun c y hy=>?_⟩
      cases c with
      | succ c=>simp at hy
      | zero =>
        simp at hy
        subst hy
        refine ⟨.int .i64 x,?_,by rw [CR];exact ⟨rfl,rfl⟩⟩
        have hb2:j*1+0<cur.size:=by omega
        unfold Sort.putCells
        rw [Array.getElem?_mapIdx,Array.getElem?_eq_getElem hb2]
        simp only [Option.map_some,Nat.zero_le,true_and,Nat.zero_add,Nat.mul_one,Nat.add_zero,Nat.sub_zero,List.size_toArray]
        rw [if_pos hjl]
        simp [hjl,hx]
    · cases hj
theorem ConB.ints {f:FuncId} (hf:callable P f=true) (l d:List Int) (m:Nat) (hd:d.length=l.length) (hm:m≤l.length) (ret:Bool)
    (h:∀ (w:World) (b cap:Nat),Sort.Holds (Value.int .i64) w b 0 l.toArray→b<w.heap.size→l.length≤cap→Calls P f #[.slice (some ⟨b,0,none⟩) l.length cap] w fun e w' =>
      e = .returned (if ret then .slice (some ⟨b,0,none⟩) m cap else .tuple #[])∧∃ n os,w'=Sort.grow (Sort.putRow (Value.int .i64) (Sort.ahead w n) b 0 d.toArray) os) :
    ConB P f [.own 1 l.length] [(1,.arr false 1 (l.map fun x=>[C.v (.int .i64 x)]) 0)] (if ret then [.own 1 m] else []) [if m=l.length then .own 1 l.length else .un] [(1,.arr false 1 ((d.take m).map fun x=>[C.v (.int .i64 x)]) 0)]:=by
  refine ⟨hf,fun w g us hM hargs=>?_⟩
  have hb1:lk [(1,Res.arr false 1 (l.map fun x=>[C.v (.int .i64 x)]) 0)] 1=some (.arr false 1 (l.map fun x=>[C.v (.int .i64 x)]) 0):=rfl
  rw [SRs] at hargs
  obtain ⟨u1,us1,rfl,hu1,hargs⟩:=hargs
  rw [SRs] at hargs
  subst hargs
  rw [SR] at hu1
  have e1:=hu1 false 1 _ 0 hb1 (by simp)
  have hres:=hM.res 1 _ hb1
  rw [RR] at hres
  rcases hres with ⟨hn,_⟩ | ⟨_,b,cap,cur,E,hloc,hB,hheap,hcap,hmax,hsz,hfx,hH,hK⟩
  · cases hn
  have hbs:b<w.heap.size:=(Array.getElem?_eq_some_iff.1 hheap).1
  rw [List.length_map] at hloc hcap
  have hcall:=h w b cap (holds1_of hheap hH) hbs hcap
  rw [e1,hloc]
  refine hcall.mono ?_
  rintro e w' ⟨rfl,n,os,rfl⟩
  generalize hw':Sort.grow (Sort.putRow (Value.int .i64) (Sort.ahead w n) b 0 d.toArray) os=w'
  have hheap':w'.heap[b]? = some (.cells (Sort.putCells (Value.int .i64) 0 d.toArray cur) E (0,0)):=by
    rw [← hw',Sort.heap_grow_old _ _ (by rw [Sort.size_putRow];exact hbs)]
    show ((Sort.ahead w n).heap.modify b _)[b]? = _
    rw [Array.getElem?_modify,if_pos rfl]
    show Option.map _ w.heap[b]? = _
    rw [hheap]
    rfl
  have hother:∀ q,q<w.heap.size→q≠b→w'.heap[q]? = w.heap[q]? := by
    intro q hq hne
    rw [← hw',Sort.heap_grow_old _ _ (by rw [Sort.size_putRow];exact hq)]
    show ((Sort.ahead w n).heap.modify b _)[q]? = _
    rw [Array.getElem?_modify,if_neg (Ne.symm hne)]
    rfl
  have hsize:w.heap.size≤w'.heap.size:=by
    rw [← hw']
    show w.heap.size≤(((Sort.ahead w n).heap.modify b _)++os).size
    rw [Array.size_append,Array.size_modify]
    exact Nat.le_add_right _ _
  have hdr:w.drawn≤w'.drawn:=by rw [← hw'];exact Nat.le_add_right _ _
  have hos:w'.os=w.os:=by rw [← hw'];rfl
  have htp:w'.tape=w.tape:=by rw [← hw'];rfl
  have hout:w'.output=w.output:=by rw [← hw'];rfl
  clear hw' hcall h
  have hlent:∀ q,lent g [(1,Res.arr false 1 (l.map fun x=>[C.v (.int .i64 x)]) 0)] q↔q=b:=by
    intro q
    constructor
    · rintro ⟨i,r,hi,hq⟩
      have:=(Prod.mk.inj (List.mem_singleton.1 (lk_mem hi))).1
      subst this
      rw [hloc] at hq
      simpa [blk] using hq.symm
    · rintro rfl
      exact ⟨1,_,hb1,by rw [hloc];rfl⟩
  have hKb:∀ o,¬ g.K b o:=fun o h=>by have:=(hK o).1 h;omega
  have hcell:∀ q o,g.K q o→w'.cell? ⟨q,o,none⟩=w.cell? ⟨q,o,none⟩:=by
    intro q o h
    have hne:q≠b:=fun e=>hKb o (e ▸ h)
    unfold World.cell?
    simp only [hother q (hM.klt q o h) hne]
  have hlen2:((d.take m).map fun x=>[C.v (.int .i64 x)]).length=m:=by rw [List.length_map,List.length_take];omega
  have hlk':∀ i r,lk [(1,Res.arr false 1 ((d.take m).map fun x=>[C.v (.int .i64 x)]) 0)] i=some r→i=1∧r = .arr false 1 ((d.take m).map fun x=>[C.v (.int .i64 x)]) 0:=fun i r hi=>Prod.mk.inj (List.mem_singleton.1 (lk_mem hi))
  refine ⟨if ret then [.slice (some ⟨b,0,none⟩) m cap] else [],⟨g.K,fun _=>.slice (some ⟨b,0,none⟩) m cap⟩,?_,⟨⟨hos,htp,hout,hsize,fun q hq=>?_,hdr⟩,fun _ _ h=>h,fun _ _ h _=>h,fun q o h=>Nat.lt_of_lt_of_le (hM.klt q o h) hsize,fun i r hi=>?_,fun i j r r' hi hj hne=>?_,fun q o h=>hcell q o h⟩,?_,?_⟩
  · cases ret <;> rfl
  · exact hother q hq.1 (fun e=>hq.2 ((hlent q).2 e))
  · obtain ⟨rfl,rfl⟩:=hlk' i r hi
    rw [RR]
    refine .inr ⟨rfl,b,cap,_,E,?_,hB,hheap',?_,hmax,?_,Nat.zero_le _,?_,hK⟩
    · rw [hlen2]
    · rw [hlen2];omega
    · unfold Sort.putCells
      rw [Array.size_mapIdx];exact hsz
    · exact holds1_put _ _ hsz (by omega)
  · obtain ⟨rfl,_⟩:=hlk' i r hi
    obtain ⟨rfl,_⟩:=hlk' j r' hj
    exact absurd rfl hne
  · cases ret with
    | false=>rw [if_neg (by simp),if_neg (by simp),SRs]
    | true =>
      rw [if_pos rfl,if_pos rfl,SRs]
      refine ⟨_,_,rfl,?_,by rw [SRs]⟩
      rw [SR]
      intro _ _ _ _ _ _
      rfl
  · rw [SRs]
    refine ⟨_,_,rfl,?_,by rw [SRs]⟩
    split
    · rename_i hml
      rw [SR]
      intro _ _ _ _ _ _
      rw [hml]
    · rw [SR];trivial
end
end Go.VL
namespace Go.Proofs.YtlphpbcafplnbaaGreat
open Go.VL Go.RowKit
def Tryz.strCmp_ren:Go.Shelf.Ren:=⟨fun | 106=>95 | 213=>120 | 265=>144 | n=>n,fun | 9=>9 | 3=>3 | n=>n,fun | n=>n⟩
theorem Tryz.strCmp:Go.Proofs.Lays.n106 Tryz.prog Tryz.strCmp_ren:={ mixed:=by kernel_rfl,f106:=Tryz.func95.trans (congrArg some (by kernel_rfl)),f213:=Tryz.func120.trans (congrArg some (by kernel_rfl)),f265:=Tryz.func144.trans (congrArg some (by kernel_rfl)),t3:=Tryz.underlying3,a3:=Tryz.isAgg3,z3:=Tryz.sizeOf3,v3:=Tryz.zeroValue3,t9:=Tryz.underlying9,a9:=Tryz.isAgg9,z9:=Tryz.sizeOf9,v9:=Tryz.zeroValue9 }
theorem con_plain {P:Program} {f:FuncId} {args:List S} {x:Value} (hf:callable P f=true) (hx:x.oneCell'=true) (h:∀ (w:World) (K:Nat→Nat→Prop) (us:List Value),DRs K w args us→Calls P f us.toArray w fun e w'=>e = .returned x∧w'=w):Con P f args [.c (.v x)]:=by
  refine Con.of hf fun w K us hK hd=>(h w K us hd).mono ?_
  rintro e w' ⟨rfl,rfl⟩
  refine ⟨[x],rfl,BelowD.refl _ _,K,fun _ _ h=>h,fun _ _ h _=>h,hK,rfl,fun k r v hr hv=>?_,fun j k r r' v v' hne hr hr' _ _ _ _=>?_⟩
  · match k with
    | 0 =>
      simp at hr hv
      subst hr hv
      rw [RtR,CR];exact ⟨rfl,hx⟩
    | k+1=>simp at hr
  · match j,k with
    | 0,0=>exact absurd rfl hne
    | j+1,_=>simp at hr
    | 0,k+1=>simp at hr'
theorem compareBytes_eq:∀ a b:List UInt8,Lib.compareBytes a b=cmpB a b
  | [],[]=>by simp [Lib.compareBytes,cmpB,Op.bytesLess]
  | [],_::_=>by simp [Lib.compareBytes,cmpB,Op.bytesLess]
  | _::_,[]=>by simp [Lib.compareBytes,cmpB,Op.bytesLess]
  | a::l,b::m=>by
    rw [cmpB_list,listC,← cmpB_list,Lib.compareBytes,compareBytes_eq l m]
    by_cases h1:a<b
    · have:cmp8 a b = -1:=by unfold cmp8;rw [cmpI_neg];have:=UInt8.lt_iff_toNat_lt.1 h1;omega
      rw [if_pos h1,if_neg (by omega),this]
    · by_cases h2:b<a
      · have h3:cmp8 b a = -1:=by unfold cmp8;rw [cmpI_neg];have:=UInt8.lt_iff_toNat_lt.1 h2;omega
        have h4:=Cmp.u8.anti a b
        rw [if_neg h1,if_pos h2,if_neg (by omega)];omega
      · have e:a=b:=UInt8.toNat.inj (by
          have a1:=mt UInt8.lt_iff_toNat_lt.2 h1
          have a2:=mt UInt8.lt_iff_toNat_lt.2 h2
          omega)
        rw [if_neg h1,if_neg h2,if_pos (by subst e;exact Cmp.u8.self a)]
theorem strCmp_spec (a b:List UInt8):Con Tryz.prog 95 [.c (str a),.c (str b)] [.c (i64 (cmpB a b))]:=by
  refine con_plain (by kernel_rfl) rfl fun w K us hd=>?_
  unfold DRs at hd
  rw [SRs] at hd
  obtain ⟨u,us',rfl,hu,hd⟩:=hd
  rw [SRs] at hd
  obtain ⟨u2,us'',rfl,hu2,hd⟩:=hd
  rw [SRs] at hd
  subst hd
  rw [SR,CR] at hu hu2
  obtain ⟨rfl,_⟩:=hu
  obtain ⟨rfl,_⟩:=hu2
  have h:=Any.strings_Compare Tryz.strCmp ⟨a.toArray⟩ ⟨b.toArray⟩ w
  rw [compareBytes_eq] at h
  exact h
set_option maxRecDepth 4000 in
set_option maxHeartbeats 4000000 in
theorem isNaN2_spec (x:Int):Con Tryz.prog 119 [.c (i64 x)] [.c (bln false)]:=by
  refine spec_of Tryz.func119 rfl (by kernel_rfl) (by simp [Tryz.f119]) (fun w0 K0=>vc_ok _ _ _ (by kernel_rfl) ?_)
  simp only [Tryz.f119]
  simp -dsimp
set_option maxRecDepth 4000 in
set_option maxHeartbeats 4000000 in
theorem compare2_spec (x y:Int):Con Tryz.prog 94 [.c (i64 x),.c (i64 y)] [.c (i64 (cmpI x y))]:=by
  refine spec_of Tryz.func94 rfl (by kernel_rfl) (by simp [Tryz.f94]) (fun w0 K0=>vc_ok _ _ _ (by kernel_rfl) ?_)
  simp only [Tryz.f94]
  simp -dsimp
  refine VC.mk _ (isNaN2_spec x) ?_
  simp -dsimp
  refine VC.mk _ (isNaN2_spec y) ?_
  simp -dsimp
  refine VIf.mk (fun h=>?_) (fun h=>?_)
  · simp -dsimp
    simp at h
    simp [cmpI,h]
  · simp -dsimp
    simp at h
    refine VIf.mk (fun h2=>?_) (fun h2=>?_)
    · simp -dsimp
      simp at h2
      simp [cmpI,h2];omega
    · simp -dsimp
      simp at h2
      simp [cmpI];omega
def orL:List Int→Int
  | []=>0
  | x::l=>if x=0 then orL l else x
theorem orL_at:∀ (l:List Int) (k:Nat),(∀ j,j<k→(h:j<l.length)→l[j]=0)→orL l=orL (l.drop k)
  | l,0,_=>by simp
  | [],k+1,_=>by simp
  | x::l,k+1,h=>by
    have h0:=h 0 (by omega) (by simp)
    simp at h0
    rw [orL,if_pos h0,List.drop_succ_cons]
    exact orL_at l k fun j hj hl=>by have:=h (j+1) (by omega) (by simp;omega);simpa using this
set_option maxRecDepth 4000 in
set_option maxHeartbeats 4000000 in
theorem orB_spec (nl:Bool) (l:List Int) (hl:l.length≤1000):Con Tryz.prog 60 [.c (.sl nl (ints l))] [.c (i64 (orL l))]:=by
  refine spec_of Tryz.func60 rfl (by kernel_rfl) (by simp [Tryz.f60]) (fun w0 K0=>vc_ok _ _ _ (by kernel_rfl) ?_)
  simp only [Tryz.f60]
  simp -dsimp
  refine VL.loop (fun k:Nat=>⟨[(8,.c (i64 k)),(7,.c (i64 l.length)),(6,.c (.sl nl (ints l))),(3,.c (i64 0))],[]⟩)
    (fun k=>k≤l.length∧∀ j,j<k→(h:j<l.length)→l[j]=0) (fun k=>l.length-k) 0 (by kernel_rfl) ⟨by simp,fun j h=>by omega⟩ (by simp [St.le]) ?_
  intro k ⟨hk,hb⟩
  have e:=orL_at l k hb
  by_cases h1:k<l.length
  · have hw:IntKind.i64.wrap ((k:Int)+1)=(k:Int)+1:=IntWalk.i64_in _ (by omega)
    rw [List.drop_eq_getElem_cons h1,orL] at e
    simp -dsimp [h1]
    refine VIf.mk (fun h=>?_) (fun h=>?_)
    · simp at h
      rw [if_neg h] at e
      simp -dsimp [e]
    · simp at h
      simp -dsimp [hw]
      refine ⟨k+1,⟨by omega,fun j hj hl=>?_⟩,?_,by omega⟩
      · by_cases e2:j=k
        · subst e2;exact h
        · exact hb j (by omega) hl
      · simp [St.le]
  · obtain rfl:k=l.length:=by omega
    rw [List.drop_length,orL] at e
    simp -dsimp [e]
theorem or_at (nl:Bool) (xs:List (List C)) (a b c:Int) (h:xs=[[i64 a],[i64 b],[i64 c]]):Con Tryz.prog 60 [.c (.sl nl xs)] [.c (i64 (if a=0 then if b=0 then c else b else a))]:=by
  have:=orB_spec nl [a,b,c] (by simp)
  rw [h]
  have e:orL [a,b,c]=if a=0 then if b=0 then c else b else a:=by
    simp only [orL]
    split
    · split
      · split
        · rename_i h;exact h.symm
        · rfl
      · rfl
    · rfl
  rwa [e] at this
set_option maxRecDepth 4000 in
set_option maxHeartbeats 16000000 in
theorem compareR_spec (na nb:Bool) (l m:List Val) (hl:l.length≤140737488355328) (hm:m.length≤140737488355328):Con Tryz.prog 59 [.c (.sl na (vals l)),.c (.sl nb (vals m))] [.c (i64 (cmpR l m))]:=by
  refine spec_of Tryz.func59 rfl (by kernel_rfl) (by simp [Tryz.f59]) (fun w0 K0=>vc_ok _ _ _ (by kernel_rfl) ?_)
  simp only [Tryz.f59]
  simp -dsimp
  refine VL.loop (fun k:Nat=>⟨[(12,.c (i64 k)),(11,.c (i64 (min l.length m.length:Nat))),(0,.c (.sl na (vals l))),(1,.c (.sl nb (vals m)))],[]⟩)
    (fun k=>k≤l.length∧k≤m.length∧l.take k=m.take k) (fun k=>l.length-k) 0 (by kernel_rfl) (by simp) (by simp [St.le];omega) ?_
  intro k ⟨hk,hk',heq⟩
  by_cases hlt:k<l.length∧k<m.length
  · obtain ⟨h1,h2⟩:=hlt
    have hw:IntKind.i64.wrap ((k:Int)+1)=(k:Int)+1:=IntWalk.i64_in _ (by omega)
    have hmn:((k:Int)<((min l.length m.length:Nat):Int))=True:=by simp;omega
    simp -dsimp [hmn,h1,h2]
    refine VL.draw (by kernel_rfl) [(0,false),(0,false),(3,false),(7,false),(15,false),(0,false),(0,false),(96,false),(224,false),(480,false),(1023,false),(0,false),(0,false),(6144,false),(14336,false),(30720,false),(0,false),(0,false),(196608,false),(458752,false),(983040,false),(2097151,false),(0,false),(0,false),(12582912,false),(29360128,false),(62914560,false),(0,false),(0,false),(402653184,false),(939524096,false),(2013265920,false),(4294967295,true),(8589934591,true),(17179869183,true),(34359738367,true)] (by kernel_rfl) ?_
    simp -dsimp [h1,h2,Val.cells]
    refine VCE.mk _ (compare2_spec l[k].kind m[k].kind) ?_
    simp -dsimp [h1,h2,Val.cells]
    refine VCE.mk _ (compare_spec l[k].int m[k].int) ?_
    simp -dsimp [h1,h2,Val.cells]
    refine VC.mk _ (strCmp_spec l[k].text m[k].text) ?_
    simp -dsimp
    refine ⟨by decide,VCL.snap ?_⟩
    simp -dsimp
    refine VC.mk _ (or_at false _ (cmpI l[k].kind m[k].kind) (cmpI l[k].int m[k].int) (cmpB l[k].text m[k].text) rfl) ?_
    have hv:(if cmpI l[k].kind m[k].kind=0 then if cmpI l[k].int m[k].int=0 then cmpB l[k].text m[k].text else cmpI l[k].int m[k].int else cmpI l[k].kind m[k].kind)=cmpV l[k] m[k]:=by
      rw [cmpV_eq];rfl
    rw [hv]
    simp -dsimp
    refine VIf.mk (fun h=>?_) (fun h=>?_)
    · simp at h
      simp -dsimp
      exact (cmpR_at heq h1 h2 h).symm
    · simp at h
      simp -dsimp [hw]
      refine ⟨k+1,⟨by omega,by omega,take_step h1 h2 heq ((cmpV_0 _ _).1 h)⟩,?_,by omega⟩
      simp [St.le]
  · have hend:=cmpR_end heq hk hk' (by omega)
    have hmn:((k:Int)<((min l.length m.length:Nat):Int))=False:=by simp;omega
    simp -dsimp [hmn]
    refine VC.mk _ (compare2_spec l.length m.length) ?_
    simp -dsimp
    rw [hend]
    unfold cmpI
    simp only [Int.ofNat_lt]
set_option maxRecDepth 4000 in
set_option maxHeartbeats 16000000 in
theorem order_spec (f g:Fact) (hl:f.row.length≤140737488355328) (hm:g.row.length≤140737488355328):Con Tryz.prog 91 [.agg f.cells,.agg g.cells] [.c (i64 (ordF f g))]:=by
  refine spec_of Tryz.func91 rfl (by kernel_rfl) (by simp [Tryz.f91]) (fun w0 K0=>vc_ok _ _ _ (by kernel_rfl) ?_)
  simp only [Tryz.f91]
  simp -dsimp [Fact.cells]
  refine VL.draw (by kernel_rfl) [(0,false),(1,false),(0,false),(4,false),(15,false),(0,false),(32,false),(96,false),(0,false),(256,false),(768,false),(2047,false),(0,false),(4096,false),(12288,false),(0,false),(32768,false),(98304,false),(262143,true),(524287,true),(1048575,true),(2097151,true)] (by kernel_rfl) ?_
  simp -dsimp
  refine VCE.mk _ (compareR_spec _ _ f.row g.row hl hm) ?_
  simp -dsimp
  refine VCE.mk _ (compare_spec f.p.f g.p.f) ?_
  simp -dsimp
  refine VC.mk _ (compare_spec f.p.t g.p.t) ?_
  simp -dsimp
  refine ⟨by decide,VCL.snap ?_⟩
  simp -dsimp
  refine VC.mk _ (or_at false _ (cmpR f.row g.row) (cmpI f.p.f g.p.f) (cmpI f.p.t g.p.t) rfl) ?_
  simp -dsimp
  rfl
end Go.Proofs.YtlphpbcafplnbaaGreat
