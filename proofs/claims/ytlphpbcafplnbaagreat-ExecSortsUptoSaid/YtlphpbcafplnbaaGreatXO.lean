/- Contracts of functions of the seat, proved in a logic on data over the model (part XO). -/
import Derived.Shelf.SlSortCmp.NoneTotal
import Derived.Test.YtlphpbcafplnbaaGreatB1
import Derived.Test.YtlphpbcafplnbaaGreatS4
import Derived.Shelf.SortM.Plain
import Derived.Shelf.SortM.SortNone
import Derived.Shelf.SlicesG.CompactI
import Derived.Test.YtlphpbcafplnbaaGreatBY
import Derived.Test.YtlphpbcafplnbaaGreatRows
import Derived.Test.YtlphpbcafplnbaaGreatV24
import Derived.Test.YtlphpbcafplnbaaGreatVN13
import Derived.Test.YtlphpbcafplnbaaGreatN45
import Derived.Test.YtlphpbcafplnbaaGreatV37
set_option linter.unusedSimpArgs false
set_option linter.unusedVariables false
namespace Go.VL
open Go.RowKit Go.Shelf Go.Lib Go.Sort Go.Proofs
theorem BelowD.grown {w w':World} (h:BelowD w.heap.size w w'):∃ q os',w'=grow (w.drewN q) os':=by
  refine ⟨w'.drawn-w.drawn,w'.heap.extract w.heap.size w'.heap.size,?_⟩
  have hheap:w'.heap=w.heap++w'.heap.extract w.heap.size w'.heap.size:=by
    refine Array.ext_getElem? fun i=>?_
    rw [Array.getElem?_append]
    split
    · rename_i hi;exact h.block i hi
    · rename_i hi
      rw [Array.getElem?_extract]
      split
      · congr 1;omega
      · rw [Array.getElem?_eq_none];omega
  have hd:w'.drawn=w.drawn+(w'.drawn-w.drawn):=by have:=h.drawn;omega
  have h1:=h.os
  have h2:=h.tape
  have h3:=h.output
  cases w with
  | _ =>
    cases w' with
    | _ =>
      simp only at h1 h2 h3 hheap hd
      subst h1 h2 h3
      unfold grow World.drewN
      simp only
      rw [← hheap,← hd]
theorem VR.keep {K K':Nat→Nat→Prop} {w w':World} (hk:Keeps K w K' w') {cs:List C} {us:List Value} (h:VR K w cs us):VR K' w' cs us:=by
  rw [VR_iff] at h ⊢
  exact ⟨h.1,fun k c u h1 h2=>CR.mono hk _ _ (h.2 k c u h1 h2)⟩
section
variable {P:Program} {α:Type}
abbrev Elem (K:Nat→Nat→Prop) (w:World) (cells:α→List C) (Q:α→Prop):Type:={ x:α × List Value // Q x.1∧VR K w (cells x.1) x.2 }
theorem holdsK_ofD {K:Nat→Nat→Prop} {w:World} {cells:α→List C} {Q:α→Prop} [Inhabited (Elem K w cells Q)] {k:Nat} {b:Nat} {cur:Array Value} {E:TypeId} {d:List (Elem K w cells Q)} (hkd:∀ x:Elem K w cells Q,x.1.2.length=k)
    (hh:w.heap[b]? = some (.cells cur E (0,0))) (h:∀ j,(hj:j<d.length)→∀ c,c<k→cur[j*k+c]? = (d[j]).1.2[c]?):Sort.HoldsK (fun x:Elem K w cells Q=>x.1.2) k w b 0 d.toArray:=by
  intro j hj
  rw [Sort.size_flatK] at hj
  have hj':j<d.length*k:=by simpa using hj
  have k0:0<k:=by rcases Nat.eq_zero_or_pos k with h | h; · subst h;simp at hj'
                  · exact h
  have hq:j / k<d.length:=(Nat.div_lt_iff_lt_mul k0).2 hj'
  have hm:j % k<k:=Nat.mod_lt _ k0
  rw [Sort.get_flatK _ _ _ _ hj]
  have h2:=h (j / k) hq (j % k) hm
  rw [Nat.div_add_mod'] at h2
  have hl:=hkd d[j / k]
  have e1:d.toArray[j / k]! = d[j / k]:=by simp [hq]
  refine ⟨?_,?_⟩
  · unfold World.cell?
    simp only [hh,Nat.zero_add]
    rw [e1,getElem!_pos _ _ (by omega),h2,List.getElem?_eq_getElem (by omega)]
    rfl
  · unfold World.frozen?
    simp [hh]
theorem holds_sortedD {K:Nat→Nat→Prop} {w w':World} {cells:α→List C} {Q:α→Prop} [Inhabited (Elem K w cells Q)] {k:Nat} (hkd:∀ x:Elem K w cells Q,x.1.2.length=k) (hck:∀ x,(cells x).length=k) (hk:Keeps K w K w') {cur:Array Value} {cap:Nat} {l:List (Elem K w cells Q)}
    (hs:cur.size=cap*k) (hcap:l.length≤cap):Holds K w' k ((l.map fun x=>x.1.1).map cells) (Sort.putCells id 0 (Sort.flatK (fun x:Elem K w cells Q=>x.1.2) k l.toArray) cur):=by
  intro j e he
  rw [List.getElem?_map,List.getElem?_map] at he
  cases hj:l[j]? with
  | none=>rw [hj] at he;simp at he
  | some x =>
    rw [hj] at he
    simp only [Option.map_some,Option.some.injEq] at he
    subst he
    have hjl:j<l.length:=(List.getElem?_eq_some_iff.1 hj).1
    have hx:l[j]=x:=(List.getElem?_eq_some_iff.1 hj).2
    refine ⟨hck _,fun c y hy=>?_⟩
    have hcc:c<k:=by have:=(List.getElem?_eq_some_iff.1 hy).1;rwa [hck] at this
    have hxl:c<x.1.2.length:=by rw [hkd];exact hcc
    have hv:=List.getElem?_eq_getElem hxl
    have hb:j*k+c<l.length*k:=by
      have:=Nat.mul_le_mul_right k (show j+1≤l.length from hjl)
      rw [Nat.add_mul,Nat.one_mul] at this;omega
    have hb2:j*k+c<cur.size:=by
      have:=Nat.mul_le_mul_right k hcap
      omega
    have e1:(j*k+c) / k=j:=(Sort.blk_iff k j _ (by omega)).1 ⟨by omega,by omega⟩
    have e2:(j*k+c) % k=c:=by rw [Nat.mod_eq_sub_div_mul,e1];omega
    refine ⟨x.1.2[c],?_,CR.mono hk _ _ ((VR_iff _ _).1 x.2.2 |>.2 c y _ hy hv)⟩
    unfold Sort.putCells
    rw [Array.getElem?_mapIdx,Array.getElem?_eq_getElem hb2]
    simp only [Option.map_some,Nat.zero_le,true_and,Nat.zero_add,Sort.size_flatK,Nat.sub_zero,id]
    rw [if_pos (by simpa using hb),Sort.get_flatK _ _ _ _ (by simpa using hb),e1,e2]
    simp [hjl,hx,hxl]
theorem ConB.sortD {ρ:Go.Shelf.Ren} (L:Go.Proofs.SlLaysF0.n6 P ρ) {k:Nat} (aE:∀ w,(isAgg (ρ.t 24)).run P w = .ok true w) (zE:∀ w,(Go.sizeOf (ρ.t 24)).run P w = .ok k w) (hf:callable P (ρ.f 6)=true) {fv:FuncId}
    (eg:∀ args w,(callFunc fv args).run P w = .ok (.enter fv args) w) {cells:α→List C} (hck:∀ x,(cells x).length=k) {cf:α→α→Int} {Q:α→Prop} (hcon:∀ x y,Q x→Q y→Con P fv [.agg (cells x),.agg (cells y)] [.c (.v (.int .i64 (cf x y)))])
    (hO:SWO (ltOf cf)) (l l':List α) (hne:l≠[]) (hq:∀ x∈l,Q x) (hsz0:l.length<4611686018427387904) (huniq:∀ m:List α,m.Perm l→(m.Pairwise fun x y=>ltOf cf y x=false)→m=l') :
    ConB P (ρ.f 6) [.own 1 l.length,.c (.fn fv [])] [(1,.arr false k (l.map cells) 0)] [] [.own 1 l.length,.c (.fn fv [])] [(1,.arr false k (l'.map cells) 0)]:=by
  refine ⟨hf,fun w g us hM hargs=>?_⟩
  have hb1:lk [(1,Res.arr false k (l.map cells) 0)] 1=some (.arr false k (l.map cells) 0):=rfl
  rw [SRs] at hargs
  obtain ⟨u1,us1,rfl,hu1,hargs⟩:=hargs
  rw [SRs] at hargs
  obtain ⟨u2,us2,rfl,hu2,hargs⟩:=hargs
  rw [SRs] at hargs
  subst hargs
  have hu2':=hu2
  rw [SR] at hu1
  have e1:=hu1 false k (l.map cells) 0 hb1 (by simp)
  rw [SR,CR] at hu2
  obtain ⟨us3,e2,hu2⟩:=hu2
  rw [VR] at hu2
  subst hu2
  have hres:=hM.res 1 _ hb1
  rw [RR] at hres
  rcases hres with ⟨hn,_⟩ | ⟨_,b,cap,cur,E,hloc,hB,hheap,hcap,hmax,hsz,hfx,hH,hK⟩
  · cases hn
  have hbs:b<w.heap.size:=(Array.getElem?_eq_some_iff.1 hheap).1
  rw [List.length_map] at hloc hcap
  have hKb:∀ o,¬ g.K b o:=fun o h=>by have:=(hK o).1 h;omega
  let vals (j:Nat):List Value:=(List.range k).map fun c=>cur[j*k+c]!
  have hvals:∀ j,(hj:j<l.length)→VR g.K w (cells l[j]) (vals j)∧∀ c,c<k→cur[j*k+c]? = (vals j)[c]? := by
    intro j hj
    obtain ⟨_,h2⟩:=hH j (cells l[j]) (by rw [List.getElem?_map,List.getElem?_eq_getElem hj];rfl)
    have hcell:∀ c,c<k→∃ y u,(cells l[j])[c]? = some y∧cur[j*k+c]? = some u∧CR g.K w y u:=by
      intro c hc
      have hc':c<(cells l[j]).length:=by rw [hck];exact hc
      obtain ⟨u,hu,hcr⟩:=h2 c _ (List.getElem?_eq_getElem hc')
      exact ⟨_,u,List.getElem?_eq_getElem hc',hu,hcr⟩
    have hget:∀ c,c<k→cur[j*k+c]? = (vals j)[c]? := by
      intro c hc
      obtain ⟨y,u,_,hu,_⟩:=hcell c hc
      have:(vals j)[c]? = some cur[j*k+c]! := by simp [vals,hc]
      rw [this,hu]
      congr 1
      rw [getElem!_def,hu]
    refine ⟨?_,hget⟩
    rw [VR_iff]
    refine ⟨by simp [vals,hck],fun c y u hy hu=>?_⟩
    have hc:c<k:=by have:=(List.getElem?_eq_some_iff.1 hy).1;rwa [hck] at this
    obtain ⟨y',u',hy',hu',hcr⟩:=hcell c hc
    rw [hy] at hy'
    cases hy'
    rw [← hget c hc,hu'] at hu
    cases hu
    exact hcr
  let d:List (Elem g.K w cells Q):=List.ofFn (n:=l.length) fun j=>⟨(l[j.1],vals j.1),hq _ (List.getElem_mem j.2),(hvals j.1 j.2).1⟩
  have hdl:d.length=l.length:=by simp [d]
  have hd1:d.map (fun x=>x.1.1)=l:=by
    refine List.ext_getElem (by simp [d]) fun i h1 h2=>?_
    simp [d]
  have hl0:0<l.length:=List.length_pos_iff.2 hne
  letI:Inhabited (Elem g.K w cells Q):=⟨d[0]'(by omega)⟩
  have hkd:∀ x:Elem g.K w cells Q,x.1.2.length=k:=fun x=>by rw [((VR_iff _ _).1 x.2.2).1,hck]
  have hone:∀ x:Elem g.K w cells Q,∀ v∈x.1.2,v.oneCell'=true:=by
    intro x v hv
    obtain ⟨c,hc,rfl⟩:=List.getElem_of_mem hv
    have hl2:=((VR_iff _ _).1 x.2.2).1
    have:=((VR_iff _ _).1 x.2.2).2 c _ _ (List.getElem?_eq_getElem (by omega)) (List.getElem?_eq_getElem hc)
    exact this.one
  have hHK:Sort.HoldsK (fun x:Elem g.K w cells Q=>x.1.2) k w b 0 d.toArray:=holdsK_ofD hkd hheap fun j hj c hc=>by
    have hj':j<l.length:=by omega
    rw [(hvals j hj').2 c hc]
    simp [d]
  let cf':Elem g.K w cells Q→Elem g.K w cells Q→Int:=fun x y=>cf x.1.1 y.1.1
  have hO':SWO (ltOf cf'):={ irrefl:=fun x=>hO.irrefl x.1.1,trans:=fun x y z h1 h2=>hO.trans x.1.1 y.1.1 z.1.1 h1 h2,ntrans:=fun x y z h1 h2=>hO.ntrans x.1.1 y.1.1 z.1.1 h1 h2 }
  have hother0:∀ (n:Nat) (dk:Array (Elem g.K w cells Q)) (os:Array Obj) q,q<w.heap.size→q≠b→(Go.Proofs.sortWorldK (fun x:Elem g.K w cells Q=>x.1.2) k w b 0 n dk os).heap[q]? = w.heap[q]? := by
    intro n dk os q hq hne
    unfold Go.Proofs.sortWorldK
    rw [Sort.heap_grow_old _ _ (by show q<(Sort.putRow id (Sort.ahead w n) b 0 _).heap.size;rw [Sort.size_putRow];exact hq)]
    show ((Sort.ahead w n).heap.modify b _)[q]? = _
    rw [Array.getElem?_modify,if_neg (Ne.symm hne)]
    rfl
  have hsize0:∀ (n:Nat) (dk:Array (Elem g.K w cells Q)) (os:Array Obj),w.heap.size≤(Go.Proofs.sortWorldK (fun x:Elem g.K w cells Q=>x.1.2) k w b 0 n dk os).heap.size:=by
    intro n dk os
    show w.heap.size≤(((Sort.ahead w n).heap.modify b _)++os).size
    rw [Array.size_append,Array.size_modify]
    exact Nat.le_add_right _ _
  have hcell0:∀ (n:Nat) (dk:Array (Elem g.K w cells Q)) (os:Array Obj) q o,g.K q o→(Go.Proofs.sortWorldK (fun x:Elem g.K w cells Q=>x.1.2) k w b 0 n dk os).cell? ⟨q,o,none⟩=w.cell? ⟨q,o,none⟩:=by
    intro n dk os q o h
    have hne:q≠b:=fun e=>hKb o (e ▸ h)
    unfold World.cell?
    simp only [hother0 n dk os q (hM.klt q o h) hne]
  have hcmp:CmpLays P fv #[] (fun x:Elem g.K w cells Q=>x.1.2) k cf' b 0 d.toArray.size w:=by
    intro m os dk hs x y
    have hkW:Keeps g.K w g.K (Go.Proofs.sortWorldK (fun x:Elem g.K w cells Q=>x.1.2) k w b 0 m dk os):=⟨fun _ _ h=>h,fun q o h=>hcell0 m dk os q o h⟩
    have hc:=Runs.calls' (eg _ _) (hcon x.1.1 y.1.1 x.2.1 y.2.1 (Go.Proofs.sortWorldK (fun x:Elem g.K w cells Q=>x.1.2) k w b 0 m dk os) g.K [.agg x.1.2.toArray,.agg y.1.2.toArray] (fun q o h=>Nat.lt_of_lt_of_le (hM.klt q o h) (hsize0 m dk os)) (by
      unfold DRs
      rw [SRs]
      refine ⟨_,_,rfl,?_,?_⟩
      · rw [SR];exact ⟨_,rfl,x.2.2.keep hkW⟩
      rw [SRs]
      refine ⟨_,_,rfl,?_,by rw [SRs]⟩
      rw [SR];exact ⟨_,rfl,y.2.2.keep hkW⟩))
    have eA:(#[Value.agg x.1.2.toArray,Value.agg y.1.2.toArray] ++ #[]:Array Value)=[Value.agg x.1.2.toArray,Value.agg y.1.2.toArray].toArray:=by simp
    show Calls P fv (#[Value.agg x.1.2.toArray,Value.agg y.1.2.toArray] ++ #[]) _ _
    rw [eA]
    refine hc.mono ?_
    rintro e w' ⟨vs,rfl,hbel,K',_,_,_,hv1,hv2,_⟩
    have hvs:∃ v,vs=[v]:=by
      match vs,hv1 with
      | [v],_=>exact ⟨v,rfl⟩
      | [],h=>simp at h
      | _::_::_,h=>simp at h
    obtain ⟨v,rfl⟩:=hvs
    have hvv:=hv2 0 _ v rfl rfl
    rw [RtR,CR] at hvv
    obtain ⟨rfl,_⟩:=hvv
    exact ⟨rfl,hbel.grown⟩
  have hcall:=AnyQ.slices_SortFunc_eq L k aE zE (fun x:Elem g.K w cells Q=>x.1.2) hkd hone cf' hO' fv #[] b 0 cap d.toArray w eg hcmp hHK hbs (by simpa [hdl] using hsz0)
  have hps:=pdq_sorts (ltOf cf') hO' d.toArray 0 d.toArray.size (Lib.bitLen d.toArray.size) true true (Nat.zero_le _) (Nat.le_refl _) (Or.inl rfl)
  generalize pdq (ltOf cf') d.toArray 0 d.toArray.size (Lib.bitLen d.toArray.size) true true=p at hcall hps
  obtain ⟨hp1,hp2⟩:=hps
  have hpl:p.size=l.length:=by rw [hp1.1];simp [hdl]
  have hperm:p.toList.Perm d:=by
    have h2:=hp1.2.2
    have e1:p.extract 0 d.toArray.size=p:=by rw [← hp1.1];simp
    have e2:d.toArray.extract 0 d.toArray.size=d.toArray:=by simp
    rw [e1,e2] at h2
    simpa using h2
  have hl':p.toList.map (fun x=>x.1.1)=l':=by
    refine huniq _ (by have:=hperm.map (fun x:Elem g.K w cells Q=>x.1.1);rwa [hd1] at this) ?_
    rw [List.pairwise_map,List.pairwise_iff_getElem]
    intro i j hi hj hij
    simp only [Array.length_toList] at hi hj
    have:=hp2 i j (Nat.zero_le _) hij (by rw [← hp1.1];exact hj)
    rw [getElem!_pos p i hi,getElem!_pos p j hj] at this
    exact this
  have hl'l:l'.length=l.length:=by rw [← hl',List.length_map,Array.length_toList,hpl]
  rw [e1,hloc,e2]
  have e0:d.toArray.size=l.length:=by simp [hdl]
  rw [e0] at hcall
  refine hcall.mono ?_
  rintro e w' ⟨rfl,n,os,rfl⟩
  have hheap':(Go.Proofs.sortWorldK (fun x:Elem g.K w cells Q=>x.1.2) k w b 0 n p os).heap[b]? = some (.cells (Sort.putCells id 0 (Sort.flatK (fun x:Elem g.K w cells Q=>x.1.2) k p) cur) E (0,0)):=by
    unfold Go.Proofs.sortWorldK
    rw [Sort.heap_grow_old _ _ (by show b<(Sort.putRow id (Sort.ahead w n) b 0 _).heap.size;rw [Sort.size_putRow];exact hbs)]
    show ((Sort.ahead w n).heap.modify b _)[b]? = _
    rw [Array.getElem?_modify,if_pos rfl]
    show Option.map _ w.heap[b]? = _
    rw [hheap]
    rfl
  have hother:=hother0 n p os
  have hsize:=hsize0 n p os
  have hcell:=hcell0 n p os
  have hlent:∀ q,lent g [(1,Res.arr false k (l.map cells) 0)] q↔q=b:=by
    intro q
    constructor
    · rintro ⟨i,r,hi,hq⟩
      have:=(Prod.mk.inj (List.mem_singleton.1 (lk_mem hi))).1
      subst this
      rw [hloc] at hq
      simpa [blk] using hq.symm
    · rintro rfl
      exact ⟨1,_,hb1,by rw [hloc];rfl⟩
  have hk':Keeps g.K w g.K (Go.Proofs.sortWorldK (fun x:Elem g.K w cells Q=>x.1.2) k w b 0 n p os):=⟨fun _ _ h=>h,hcell⟩
  refine ⟨[],g,rfl,⟨⟨rfl,rfl,rfl,hsize,fun q hq=>?_,Nat.le_add_right _ _⟩,fun _ _ h=>h,fun _ _ h _=>h,fun q o h=>Nat.lt_of_lt_of_le (hM.klt q o h) hsize,fun i r hi=>?_,fun i j r r' hi hj hne=>?_,fun q o h=>hcell q o h⟩,rfl,?_⟩
  · exact hother q hq.1 (fun e=>hq.2 ((hlent q).2 e))
  · obtain ⟨rfl,rfl⟩:=Prod.mk.inj (List.mem_singleton.1 (lk_mem hi))
    rw [RR]
    refine .inr ⟨rfl,b,cap,_,E,?_,hB,hheap',?_,hmax,?_,Nat.zero_le _,?_,hK⟩
    · rw [List.length_map,hl'l];exact hloc
    · rw [List.length_map,hl'l];exact hcap
    · unfold Sort.putCells
      rw [Array.size_mapIdx];exact hsz
    · rw [← hl']
      have:=holds_sortedD (l:=p.toList) hkd hck hk' hsz (by rw [Array.length_toList,hpl];exact hcap)
      rwa [Array.toArray_toList] at this
  · obtain ⟨rfl,rfl⟩:=Prod.mk.inj (List.mem_singleton.1 (lk_mem hi))
    obtain ⟨rfl,rfl⟩:=Prod.mk.inj (List.mem_singleton.1 (lk_mem hj))
    exact absurd rfl hne
  · rw [SRs]
    refine ⟨_,_,rfl,?_,?_⟩
    · rw [SR]
      intro _ _ _ _ _ _
      exact hloc.symm
    rw [SRs]
    refine ⟨_,_,rfl,?_,by rw [SRs]⟩
    rw [e2] at hu2'
    rw [SR] at hu2' ⊢
    exact CR.mono hk' _ _ hu2'
end
end Go.VL
namespace Go.Proofs.YtlphpbcafplnbaaGreat
open Go.Shelf Go.RowKit Go.Lib Go.Sort
def Tryz.sortFact_ren:Go.Shelf.Ren:=⟨fun | 6=>90 | 15=>116 | 14=>115 | 28=>142 | 29=>75 | 20=>117 | 21=>135 | 22=>136 | 23=>137 | 24=>138 | 25=>139 | 26=>140 | 27=>141 | 46=>151 | 47=>152 | 48=>153 | 49=>154 | 50=>155 | 57=>175 | n=>n,fun | 22=>22 | 24=>40 | 25=>148 | 3=>3 | 39=>205 | 0=>0 | 53=>241 | 55=>179 | 4=>4 | 46=>235 | 45=>234 | 50=>156 | 5=>5 | 9=>9 | 66=>249 | 70=>253 | 76=>267 | 77=>221 | n=>n,fun | n=>n⟩
theorem Tryz.sortFact:Go.Proofs.SlLaysF0.n6 Tryz.prog Tryz.sortFact_ren:={ mixed:=by kernel_rfl,f6:=⟨Tryz.f90.name,by decide,Tryz.func90.trans (congrArg some (by kernel_rfl))⟩,f14:=⟨Tryz.f115.name,by decide,Tryz.func115.trans (congrArg some (by kernel_rfl))⟩,f15:=Tryz.func116.trans (congrArg some (by kernel_rfl)),f20:=⟨Tryz.f117.name,by decide,Tryz.func117.trans (congrArg some (by kernel_rfl))⟩,f21:=⟨Tryz.f135.name,by decide,Tryz.func135.trans (congrArg some (by kernel_rfl))⟩,f22:=⟨Tryz.f136.name,by decide,Tryz.func136.trans (congrArg some (by kernel_rfl))⟩,f23:=⟨Tryz.f137.name,by decide,Tryz.func137.trans (congrArg some (by kernel_rfl))⟩,f24:=⟨Tryz.f138.name,by decide,Tryz.func138.trans (congrArg some (by kernel_rfl))⟩,f25:=⟨Tryz.f139.name,by decide,Tryz.func139.trans (congrArg some (by kernel_rfl))⟩,f26:=⟨Tryz.f140.name,by decide,Tryz.func140.trans (congrArg some (by kernel_rfl))⟩,f27:=⟨Tryz.f141.name,by decide,Tryz.func141.trans (congrArg some (by kernel_rfl))⟩,f28:=Tryz.func142.trans (congrArg some (by kernel_rfl)),f29:=Tryz.func75.trans (congrArg some (by kernel_rfl)),f46:=⟨Tryz.f151.name,by decide,Tryz.func151.trans (congrArg some (by kernel_rfl))⟩,f47:=Tryz.func152.trans (congrArg some (by kernel_rfl)),f48:=Tryz.func153.trans (congrArg some (by kernel_rfl)),f49:=⟨Tryz.f154.name,by decide,Tryz.func154.trans (congrArg some (by kernel_rfl))⟩,f50:=⟨Tryz.f155.name,by decide,Tryz.func155.trans (congrArg some (by kernel_rfl))⟩,f57:=⟨Tryz.f175.name,by decide,Tryz.func175.trans (congrArg some (by kernel_rfl))⟩,t0:=Tryz.underlying0,a0:=Tryz.isAgg0,z0:=Tryz.sizeOf0,v0:=Tryz.zeroValue0,t3:=Tryz.underlying3,a3:=Tryz.isAgg3,z3:=Tryz.sizeOf3,v3:=Tryz.zeroValue3,t4:=Tryz.underlying4,a4:=Tryz.isAgg4,z4:=Tryz.sizeOf4,v4:=Tryz.zeroValue4,t5:=Tryz.underlying5,a5:=Tryz.isAgg5,z5:=Tryz.sizeOf5,v5:=Tryz.zeroValue5,t9:=Tryz.underlying9,a9:=Tryz.isAgg9,z9:=Tryz.sizeOf9,v9:=Tryz.zeroValue9,t22:=Tryz.underlying22,a22:=Tryz.isAgg22,z22:=Tryz.sizeOf22,v22:=Tryz.zeroValue22,t25:=Tryz.underlying148,a25:=Tryz.isAgg148,z25:=Tryz.sizeOf148,v25:=Tryz.zeroValue148,t39:=Tryz.underlying205,a39:=Tryz.isAgg205,z39:=Tryz.sizeOf205,v39:=Tryz.zeroValue205,t45:=Tryz.underlying234,a45:=Tryz.isAgg234,z45:=Tryz.sizeOf234,v45:=Tryz.zeroValue234,t46:=Tryz.underlying235,a46:=Tryz.isAgg235,z46:=Tryz.sizeOf235,v46:=Tryz.zeroValue235,t50:=Tryz.underlying156,a50:=Tryz.isAgg156,z50:=Tryz.sizeOf156,v50:=Tryz.zeroValue156,t53:=Tryz.underlying241,a53:=Tryz.isAgg241,z53:=Tryz.sizeOf241,v53:=Tryz.zeroValue241,t55:=Tryz.underlying179,a55:=Tryz.isAgg179,z55:=Tryz.sizeOf179,v55:=Tryz.zeroValue179,t66:=Tryz.underlying249,a66:=Tryz.isAgg249,z66:=Tryz.sizeOf249,v66:=Tryz.zeroValue249,t70:=Tryz.underlying253,a70:=Tryz.isAgg253,z70:=Tryz.sizeOf253,v70:=Tryz.zeroValue253,t76:=Tryz.underlying267,a76:=Tryz.isAgg267,z76:=Tryz.sizeOf267,v76:=Tryz.zeroValue267,t77:=Tryz.underlying221,a77:=Tryz.isAgg221,z77:=Tryz.sizeOf221,v77:=Tryz.zeroValue221 }
theorem ltO (x y:Fact):ltOf ordF x y=decide (ordF x y<0):=rfl
theorem swoO:SWO (ltOf ordF) where
  irrefl x:=by rw [ltO,Cmp.fact.self];rfl
  trans x y z h1 h2:=by
    rw [ltO] at *
    simp only [decide_eq_true_eq] at *
    exact Cmp.fact.lt (b:=y) h1 (by omega)
  ntrans x y z h1 h2:=by
    rw [ltO] at *
    simp only [decide_eq_false_iff_not] at *
    have a1:=Cmp.fact.anti x y
    have a2:=Cmp.fact.anti y z
    have a3:=Cmp.fact.anti x z
    have:=Cmp.fact.trans z y x (by omega) (by omega)
    omega
theorem sortsF_ok:SortsF:=by
  refine ⟨fun l hne hN hl=>?_,?_⟩
  · have eg:∀ args w,(callFunc 91 args).run Tryz.prog w = .ok (.enter 91 args) w:=enters_of Tryz.func91 (by kernel_rfl) rfl
    have h:=Go.VL.ConB.sortD Tryz.sortFact (k:=3) Tryz.isAgg40 Tryz.sizeOf40 (by kernel_rfl) (fv:=91) eg (cells:=Fact.cells) (fun _=>rfl) (cf:=ordF) (Q:=fun f=>Normed f∧f.row.length≤140737488355328)
      (fun x y hx hy=>order_spec x y hx.2 hy.2) swoO l (sortF l) hne hN (by omega) (fun m hp hs=>sortF_uniq (fun f hf=>(hN f hf).1) hp (hs.imp fun {x y} hxy=>by
        rw [ltO] at hxy
        simp only [decide_eq_false_iff_not] at hxy
        have:=Cmp.fact.anti y x
        omega))
    exact h
  · refine Go.VL.Con.same (by kernel_rfl) fun w K us hd=>?_
    unfold Go.VL.DRs at hd
    rw [Go.VL.SRs] at hd
    obtain ⟨u,us',rfl,hu,hd⟩:=hd
    rw [Go.VL.SRs] at hd
    obtain ⟨u2,us'',rfl,hu2,hd⟩:=hd
    rw [Go.VL.SRs] at hd
    subst hd
    rw [Go.VL.SR,Go.VL.CR] at hu
    have hu':u = .slice none 0 0:=by
      rcases hu with ⟨_,_,h⟩ | ⟨h,_⟩
      · exact h
      · cases h
    subst hu'
    have h:=AnyF.slices_SortFunc_none Tryz.sortFact none 0 u2 w
    exact h
def Tryz.sortInt_ren:Go.Shelf.Ren:=⟨fun | 5=>133 | 8=>116 | 7=>150 | 19=>142 | 20=>75 | 10=>166 | 11=>167 | 12=>168 | 13=>169 | 14=>170 | 15=>171 | 16=>172 | 17=>173 | 18=>174 | 30=>188 | 31=>152 | 32=>153 | 33=>189 | 34=>190 | 35=>93 | 40=>195 | n=>n,fun | 23=>185 | 25=>2 | 3=>3 | 32=>205 | 22=>185 | 0=>0 | 44=>241 | 46=>179 | 4=>4 | 36=>235 | 35=>234 | 41=>156 | 5=>5 | 9=>9 | 53=>249 | 57=>253 | 63=>267 | 64=>221 | n=>n,fun | n=>n⟩
theorem Tryz.sortInt:Go.Proofs.SlLaysM.n5 Tryz.prog Tryz.sortInt_ren:={ mixed:=by kernel_rfl,f5:=⟨Tryz.f133.name,by decide,Tryz.func133.trans (congrArg some (by kernel_rfl))⟩,f7:=⟨Tryz.f150.name,by decide,Tryz.func150.trans (congrArg some (by kernel_rfl))⟩,f8:=Tryz.func116.trans (congrArg some (by kernel_rfl)),f10:=⟨Tryz.f166.name,by decide,Tryz.func166.trans (congrArg some (by kernel_rfl))⟩,f11:=⟨Tryz.f167.name,by decide,Tryz.func167.trans (congrArg some (by kernel_rfl))⟩,f12:=⟨Tryz.f168.name,by decide,Tryz.func168.trans (congrArg some (by kernel_rfl))⟩,f13:=⟨Tryz.f169.name,by decide,Tryz.func169.trans (congrArg some (by kernel_rfl))⟩,f14:=⟨Tryz.f170.name,by decide,Tryz.func170.trans (congrArg some (by kernel_rfl))⟩,f15:=⟨Tryz.f171.name,by decide,Tryz.func171.trans (congrArg some (by kernel_rfl))⟩,f16:=⟨Tryz.f172.name,by decide,Tryz.func172.trans (congrArg some (by kernel_rfl))⟩,f17:=⟨Tryz.f173.name,by decide,Tryz.func173.trans (congrArg some (by kernel_rfl))⟩,f18:=⟨Tryz.f174.name,by decide,Tryz.func174.trans (congrArg some (by kernel_rfl))⟩,f19:=Tryz.func142.trans (congrArg some (by kernel_rfl)),f20:=Tryz.func75.trans (congrArg some (by kernel_rfl)),f30:=⟨Tryz.f188.name,by decide,Tryz.func188.trans (congrArg some (by kernel_rfl))⟩,f31:=Tryz.func152.trans (congrArg some (by kernel_rfl)),f32:=Tryz.func153.trans (congrArg some (by kernel_rfl)),f33:=⟨Tryz.f189.name,by decide,Tryz.func189.trans (congrArg some (by kernel_rfl))⟩,f34:=⟨Tryz.f190.name,by decide,Tryz.func190.trans (congrArg some (by kernel_rfl))⟩,f35:=⟨Tryz.f93.name,by decide,Tryz.func93.trans (congrArg some (by kernel_rfl))⟩,f40:=⟨Tryz.f195.name,by decide,Tryz.func195.trans (congrArg some (by kernel_rfl))⟩,t0:=Tryz.underlying0,a0:=Tryz.isAgg0,z0:=Tryz.sizeOf0,v0:=Tryz.zeroValue0,t3:=Tryz.underlying3,a3:=Tryz.isAgg3,z3:=Tryz.sizeOf3,v3:=Tryz.zeroValue3,t4:=Tryz.underlying4,a4:=Tryz.isAgg4,z4:=Tryz.sizeOf4,v4:=Tryz.zeroValue4,t5:=Tryz.underlying5,a5:=Tryz.isAgg5,z5:=Tryz.sizeOf5,v5:=Tryz.zeroValue5,t9:=Tryz.underlying9,a9:=Tryz.isAgg9,z9:=Tryz.sizeOf9,v9:=Tryz.zeroValue9,t22:=Tryz.underlying185,a22:=Tryz.isAgg185,z22:=Tryz.sizeOf185,v22:=Tryz.zeroValue185,t23:=Tryz.underlying185,a23:=Tryz.isAgg185,z23:=Tryz.sizeOf185,v23:=Tryz.zeroValue185,t25:=Tryz.underlying2,a25:=Tryz.isAgg2,z25:=Tryz.sizeOf2,v25:=Tryz.zeroValue2,t32:=Tryz.underlying205,a32:=Tryz.isAgg205,z32:=Tryz.sizeOf205,v32:=Tryz.zeroValue205,t35:=Tryz.underlying234,a35:=Tryz.isAgg234,z35:=Tryz.sizeOf234,v35:=Tryz.zeroValue234,t36:=Tryz.underlying235,a36:=Tryz.isAgg235,z36:=Tryz.sizeOf235,v36:=Tryz.zeroValue235,t41:=Tryz.underlying156,a41:=Tryz.isAgg156,z41:=Tryz.sizeOf156,v41:=Tryz.zeroValue156,t44:=Tryz.underlying241,a44:=Tryz.isAgg241,z44:=Tryz.sizeOf241,v44:=Tryz.zeroValue241,t46:=Tryz.underlying179,a46:=Tryz.isAgg179,z46:=Tryz.sizeOf179,v46:=Tryz.zeroValue179,t53:=Tryz.underlying249,a53:=Tryz.isAgg249,z53:=Tryz.sizeOf249,v53:=Tryz.zeroValue249,t57:=Tryz.underlying253,a57:=Tryz.isAgg253,z57:=Tryz.sizeOf253,v57:=Tryz.zeroValue253,t63:=Tryz.underlying267,a63:=Tryz.isAgg267,z63:=Tryz.sizeOf267,v63:=Tryz.zeroValue267,t64:=Tryz.underlying221,a64:=Tryz.isAgg221,z64:=Tryz.sizeOf221,v64:=Tryz.zeroValue221 }
def Tryz.compactInt_ren:Go.Shelf.Ren:=⟨fun | 43=>134 | n=>n,fun | 22=>185 | 23=>2 | 3=>3 | 4=>4 | 0=>0 | n=>n,fun | n=>n⟩
theorem Tryz.compactInt:Go.Proofs.SlLaysN.n43 Tryz.prog Tryz.compactInt_ren:={ mixed:=by kernel_rfl,f43:=⟨Tryz.f134.name,by decide,Tryz.func134.trans (congrArg some (by kernel_rfl))⟩,t0:=Tryz.underlying0,a0:=Tryz.isAgg0,z0:=Tryz.sizeOf0,v0:=Tryz.zeroValue0,t3:=Tryz.underlying3,a3:=Tryz.isAgg3,z3:=Tryz.sizeOf3,v3:=Tryz.zeroValue3,t4:=Tryz.underlying4,a4:=Tryz.isAgg4,z4:=Tryz.sizeOf4,v4:=Tryz.zeroValue4,t22:=Tryz.underlying185,a22:=Tryz.isAgg185,z22:=Tryz.sizeOf185,v22:=Tryz.zeroValue185,t23:=Tryz.underlying2,a23:=Tryz.isAgg2,z23:=Tryz.sizeOf2,v23:=Tryz.zeroValue2,i23:=by kernel_rfl }
theorem sortsI_ok:Go.Proofs.YtlphpbcafplnbaaGreat.SortsI:=by
  refine ⟨fun l hl=>?_,?_,fun l hl=>?_,?_⟩
  · have h:=Go.VL.ConB.ints (P:=Tryz.prog) (f:=133) (by kernel_rfl) l (sortI l) l.length (sortI_len l) (Nat.le_refl _) false ?_
    · rw [if_neg (by simp),if_pos rfl,List.take_of_length_le (by rw [sortI_len];exact Nat.le_refl _)] at h
      exact h
    · intro w b cap hH hb _
      have hcon:=AnyM.slices_Sort_int Tryz.sortInt b 0 cap l w hH hb (by omega)
      change Calls Tryz.prog 133 _ _ _ at hcon
      exact hcon
  · refine Go.VL.Con.same (by kernel_rfl) fun w K us hd=>?_
    unfold Go.VL.DRs at hd
    rw [Go.VL.SRs] at hd
    obtain ⟨u,us',rfl,hu,hd⟩:=hd
    rw [Go.VL.SRs] at hd
    subst hd
    rw [Go.VL.SR,Go.VL.CR] at hu
    have hu':u = .slice none 0 0:=by
      rcases hu with ⟨_,_,h⟩ | ⟨h,_⟩
      · exact h
      · cases h
    subst hu'
    exact AnyM.slices_Sort_int_none Tryz.sortInt none 0 w
  · have hcl:=compact_len l
    have h:=Go.VL.ConB.ints (P:=Tryz.prog) (f:=134) (by kernel_rfl) l (compact l++List.replicate (l.length-(compact l).length) 0) (compact l).length (by simp;omega) hcl true ?_
    · rw [if_pos rfl,List.take_left] at h
      exact h
    · intro w b cap hH hb hcap
      have hcon:=AnyG.slices_Compact_int Tryz.compactInt b 0 cap l w hH (by omega) hcap
      change Calls Tryz.prog 134 _ _ _ at hcon
      refine hcon.mono ?_
      rintro e w' ⟨he,q,hw⟩
      refine ⟨by rw [he];rfl,q,#[],?_⟩
      rw [hw]
      simp [grow]
      rfl
  · exact compact_nil
end Go.Proofs.YtlphpbcafplnbaaGreat
namespace Go.Proofs.YtlphpbcafplnbaaGreat
open Go.VL Go.RowKit
def bT (P:Program) (M:Nat):Nat→TypeId→Bool
  | 0,_=>false
  | n+1,t=>match P.underlying t with
    | some (.slice e)=>decide (P.bytesOf e≤M) && bT P M n e
    | some (.pointer e)=>bT P M n e
    | some (.struct fs)=>fs.toList.all fun f=>bT P M n f.type
    | some (.map _ _)=>false
    | some (.array _ _)=>false
    | _=>true
mutual
theorem w_le {H:Type} {P:Program} {M:Nat} (h1:1≤M):∀ (d:DataW H) (n:Nat) (t:TypeId),bT P M n t=true→∀ m∈d.weights P t,m≤Rows.uptoBulk d*M
  | .lit (.string bytes),n,t,hb,m,hm=>by
    simp only [DataW.weights,List.mem_singleton] at hm
    subst hm
    simp only [Rows.uptoBulk]
    exact Nat.le_trans (Nat.le_succ _) (Nat.le_mul_of_pos_right _ h1)
  | .lit (.bool _),n,t,hb,m,hm=>by simp [DataW.weights] at hm
  | .lit (.int _ _),n,t,hb,m,hm=>by simp [DataW.weights] at hm
  | .lit (.float _ _),n,t,hb,m,hm=>by simp [DataW.weights] at hm
  | .lit .nil,n,t,hb,m,hm=>by simp [DataW.weights] at hm
  | .nil,n,t,hb,m,hm=>by simp [DataW.weights] at hm
  | .held _,n,t,hb,m,hm=>by simp [DataW.weights] at hm
  | .iface _ _,n,t,hb,m,hm=>by simp [DataW.weights] at hm
  | .ptr d,0,t,hb,m,hm=>by cases hb
  | .ptr d,n+1,t,hb,m,hm=>by
    rw [DataW.weights] at hm
    rw [Rows.uptoBulk]
    rw [bT] at hb
    split at hm
    · rename_i e hu
      rw [hu] at hb
      exact Nat.le_trans (w_le h1 d n _ hb m hm) (Nat.mul_le_mul_right _ (Nat.le_succ _))
    · simp at hm
  | .slice elems spare,0,t,hb,m,hm=>by cases hb
  | .slice elems spare,n+1,t,hb,m,hm=>by
    rw [DataW.weights] at hm
    rw [Rows.uptoBulk]
    rw [bT] at hb
    split at hm
    · rename_i e hu
      rw [hu] at hb
      simp only [Bool.and_eq_true,decide_eq_true_eq] at hb
      simp only [List.mem_cons,List.mem_append] at hm
      rcases hm with rfl | hm | hm
      · refine Nat.mul_le_mul ?_ hb.1
        have:=len_le elems
        have:=len_le spare
        omega
      · exact Nat.le_trans (ws_le h1 elems n _ hb.2 m hm) (Nat.mul_le_mul_right _ (by omega))
      · exact Nat.le_trans (ws_le h1 spare n _ hb.2 m hm) (Nat.mul_le_mul_right _ (by omega))
    · simp at hm
  | .agg parts,0,t,hb,m,hm=>by cases hb
  | .agg parts,n+1,t,hb,m,hm=>by
    rw [DataW.weights] at hm
    rw [Rows.uptoBulk]
    rw [bT] at hb
    split at hm
    · rename_i fs hu
      rw [hu] at hb
      simp only [List.all_eq_true] at hb
      refine Nat.le_trans (we_le h1 parts n _ (fun t ht=>?_) m hm) (Nat.mul_le_mul_right _ (by omega))
      obtain ⟨f,hf,rfl⟩:=List.mem_map.1 ht
      exact hb f hf
    · rename_i hu;rw [hu] at hb;cases hb
    · simp at hm
  | .map entries,0,t,hb,m,hm=>by cases hb
  | .map entries,n+1,t,hb,m,hm=>by
    rw [DataW.weights] at hm
    rw [bT] at hb
    split at hm
    · rename_i hu;rw [hu] at hb;cases hb
    · simp at hm
theorem ws_le {H:Type} {P:Program} {M:Nat} (h1:1≤M):∀ (l:List (DataW H)) (n:Nat) (t:TypeId),bT P M n t=true→∀ m∈DataW.weightsAll P t l,m≤Rows.uptoBulkAll l*M
  | [],n,t,hb,m,hm=>by simp [DataW.weightsAll] at hm
  | d::r,n,t,hb,m,hm=>by
    simp only [DataW.weightsAll,List.mem_append] at hm
    rw [Rows.uptoBulkAll]
    rcases hm with hm | hm
    · exact Nat.le_trans (w_le h1 d n _ hb m hm) (Nat.mul_le_mul_right _ (by omega))
    · exact Nat.le_trans (ws_le h1 r n _ hb m hm) (Nat.mul_le_mul_right _ (by omega))
theorem we_le {H:Type} {P:Program} {M:Nat} (h1:1≤M):∀ (l:List (DataW H)) (n:Nat) (ts:List TypeId),(∀ t∈ts,bT P M n t=true)→∀ m∈DataW.weightsEach P ts l,m≤Rows.uptoBulkAll l*M
  | [],n,[],hb,m,hm=>by simp [DataW.weightsEach] at hm
  | [],n,_::_,hb,m,hm=>by simp [DataW.weightsEach] at hm
  | _::_,n,[],hb,m,hm=>by simp [DataW.weightsEach] at hm
  | d::r,n,t::ts,hb,m,hm=>by
    simp only [DataW.weightsEach,List.mem_append] at hm
    rw [Rows.uptoBulkAll]
    rcases hm with hm | hm
    · exact Nat.le_trans (w_le h1 d n _ (hb t (by simp)) m hm) (Nat.mul_le_mul_right _ (by omega))
    · exact Nat.le_trans (we_le h1 r n _ (fun t ht=>hb t (by simp [ht])) m hm) (Nat.mul_le_mul_right _ (by omega))
theorem len_le {H:Type} : ∀ (l:List (DataW H)),l.length≤Rows.uptoBulkAll l
  | []=>by simp
  | d::r=>by
    have:=len_le r
    have:=pos_le d
    simp only [List.length_cons,Rows.uptoBulkAll]
    omega
theorem pos_le {H:Type} : ∀ (d:DataW H),1≤Rows.uptoBulk d
  | .lit l=>by cases l <;> simp [Rows.uptoBulk]
  | .nil=>by simp [Rows.uptoBulk]
  | .held _=>by simp [Rows.uptoBulk]
  | .iface _ _=>by simp [Rows.uptoBulk]
  | .ptr _=>by simp [Rows.uptoBulk]
  | .slice _ _=>by simp [Rows.uptoBulk]
  | .agg _=>by simp [Rows.uptoBulk]
  | .map _=>by simp [Rows.uptoBulk]
end
def bG (P:Program) (M:Nat) (G:List TypeId) (t:TypeId):Bool :=
  match P.underlying t with
  | some (.slice e)=>decide (P.bytesOf e≤M) && G.contains e
  | some (.pointer e)=>G.contains e
  | some (.struct fs)=>fs.toList.all fun f=>G.contains f.type
  | some (.map _ _)=>false
  | some (.array _ e)=>G.contains e
  | _=>true
def closedB (P:Program) (M:Nat) (G:List TypeId):Bool:=G.all (bG P M G)
mutual
theorem w_leR {H:Type} {P:Program} {M:Nat} {G:List TypeId} (hG:closedB P M G=true) (h1:1≤M):∀ (d:DataW H) (t:TypeId),t∈G→∀ m∈d.weights P t,m≤Rows.uptoBulk d*M
  | .lit (.string bytes),t,hb,m,hm=>by
    simp only [DataW.weights,List.mem_singleton] at hm
    subst hm
    simp only [Rows.uptoBulk]
    exact Nat.le_trans (Nat.le_succ _) (Nat.le_mul_of_pos_right _ h1)
  | .lit (.bool _),t,hb,m,hm=>by simp [DataW.weights] at hm
  | .lit (.int _ _),t,hb,m,hm=>by simp [DataW.weights] at hm
  | .lit (.float _ _),t,hb,m,hm=>by simp [DataW.weights] at hm
  | .lit .nil,t,hb,m,hm=>by simp [DataW.weights] at hm
  | .nil,t,hb,m,hm=>by simp [DataW.weights] at hm
  | .held _,t,hb,m,hm=>by simp [DataW.weights] at hm
  | .iface _ _,t,hb,m,hm=>by simp [DataW.weights] at hm
  | .ptr d,t,hb,m,hm=>by
    have hb:=List.all_eq_true.1 hG t hb
    rw [DataW.weights] at hm
    rw [Rows.uptoBulk]
    unfold bG at hb
    split at hm
    · rename_i e hu
      rw [hu] at hb
      simp only [List.contains_iff_mem] at hb
      exact Nat.le_trans (w_leR hG h1 d _ hb m hm) (Nat.mul_le_mul_right _ (Nat.le_succ _))
    · simp at hm
  | .slice elems spare,t,hb,m,hm=>by
    have hb:=List.all_eq_true.1 hG t hb
    rw [DataW.weights] at hm
    rw [Rows.uptoBulk]
    unfold bG at hb
    split at hm
    · rename_i e hu
      rw [hu] at hb
      simp only [Bool.and_eq_true,decide_eq_true_eq,List.contains_iff_mem] at hb
      simp only [List.mem_cons,List.mem_append] at hm
      rcases hm with rfl | hm | hm
      · refine Nat.mul_le_mul ?_ hb.1
        have:=len_le elems
        have:=len_le spare
        omega
      · exact Nat.le_trans (ws_leR hG h1 elems _ hb.2 m hm) (Nat.mul_le_mul_right _ (by omega))
      · exact Nat.le_trans (ws_leR hG h1 spare _ hb.2 m hm) (Nat.mul_le_mul_right _ (by omega))
    · simp at hm
  | .agg parts,t,hb,m,hm=>by
    have hb:=List.all_eq_true.1 hG t hb
    rw [DataW.weights] at hm
    rw [Rows.uptoBulk]
    unfold bG at hb
    split at hm
    · rename_i fs hu
      rw [hu] at hb
      simp only [List.all_eq_true,List.contains_iff_mem] at hb
      refine Nat.le_trans (we_leR hG h1 parts _ (fun t ht=>?_) m hm) (Nat.mul_le_mul_right _ (by omega))
      obtain ⟨f,hf,rfl⟩:=List.mem_map.1 ht
      exact hb f hf
    · rename_i hu
      rw [hu] at hb
      simp only [List.contains_iff_mem] at hb
      exact Nat.le_trans (ws_leR hG h1 parts _ hb m hm) (Nat.mul_le_mul_right _ (by omega))
    · simp at hm
  | .map entries,t,hb,m,hm=>by
    have hb:=List.all_eq_true.1 hG t hb
    rw [DataW.weights] at hm
    unfold bG at hb
    split at hm
    · rename_i hu;rw [hu] at hb;cases hb
    · simp at hm
theorem ws_leR {H:Type} {P:Program} {M:Nat} {G:List TypeId} (hG:closedB P M G=true) (h1:1≤M):∀ (l:List (DataW H)) (t:TypeId),t∈G→∀ m∈DataW.weightsAll P t l,m≤Rows.uptoBulkAll l*M
  | [],t,hb,m,hm=>by simp [DataW.weightsAll] at hm
  | d::r,t,hb,m,hm=>by
    simp only [DataW.weightsAll,List.mem_append] at hm
    rw [Rows.uptoBulkAll]
    rcases hm with hm | hm
    · exact Nat.le_trans (w_leR hG h1 d _ hb m hm) (Nat.mul_le_mul_right _ (by omega))
    · exact Nat.le_trans (ws_leR hG h1 r _ hb m hm) (Nat.mul_le_mul_right _ (by omega))
theorem we_leR {H:Type} {P:Program} {M:Nat} {G:List TypeId} (hG:closedB P M G=true) (h1:1≤M):∀ (l:List (DataW H)) (ts:List TypeId),(∀ t∈ts,t∈G)→∀ m∈DataW.weightsEach P ts l,m≤Rows.uptoBulkAll l*M
  | [],[],hb,m,hm=>by simp [DataW.weightsEach] at hm
  | [],_::_,hb,m,hm=>by simp [DataW.weightsEach] at hm
  | _::_,[],hb,m,hm=>by simp [DataW.weightsEach] at hm
  | d::r,t::ts,hb,m,hm=>by
    simp only [DataW.weightsEach,List.mem_append] at hm
    rw [Rows.uptoBulkAll]
    rcases hm with hm | hm
    · exact Nat.le_trans (w_leR hG h1 d _ (hb t (by simp)) m hm) (Nat.mul_le_mul_right _ (by omega))
    · exact Nat.le_trans (we_leR hG h1 r _ (fun t ht=>hb t (by simp [ht])) m hm) (Nat.mul_le_mul_right _ (by omega))
end
theorem upto_weightsR {H:Type} {P:Program} (G:List TypeId) (hG:closedB P 4096 G=true) {ts:List TypeId} (hb:ts.all (G.contains ·)=true) {l:List (DataW H)} (hk:Rows.uptoSmall H l=true):(DataW.weightsEach P ts l).all (· ≤ 4294967296)=true:=by
  have hl:Rows.uptoBulkAll l≤1048576:=of_decide_eq_true hk
  rw [List.all_eq_true] at hb ⊢
  intro m hm
  have:=we_leR (M:=4096) hG (by decide) l ts (fun t ht=>by simpa using hb t ht) m hm
  have h2:=Nat.mul_le_mul_right 4096 hl
  simp only [decide_eq_true_eq]
  omega
set_option maxRecDepth 100000 in
theorem own:ownKnob Tryz.prog.godebug=none:=by kernel_rfl
set_option maxRecDepth 100000 in
theorem laid:laidOutB Tryz.prog=true:=by kernel_rfl
set_option maxRecDepth 100000 in
theorem bytes34:Tryz.prog.bytesOf 40=40:=by kernel_rfl
set_option maxRecDepth 100000 in
theorem bytes58:Tryz.prog.bytesOf 58=32:=by kernel_rfl
set_option maxRecDepth 100000 in
theorem bytes3:Tryz.prog.bytesOf 3=8:=by kernel_rfl
set_option maxRecDepth 100000 in
theorem fits_pos {P:Program} {R n:Nat} {t:TypeId} {xs:List C} (h:Fits P R n t xs):∃ m,n=m+1:=by
  cases n with
  | zero=>unfold Fits at h;exact h.elim
  | succ m=>exact ⟨m,rfl⟩
set_option maxRecDepth 100000 in
theorem fit_i64 {n:Nat} {R:Nat} {t:TypeId} {xs:List C} (hu:Tryz.prog.underlying t=some (.int .i64)) (h:Fits Tryz.prog R n t xs):∃ m:Int,xs=[i64 m]∧fits64 m=true:=by
  obtain ⟨n,rfl⟩:=fits_pos h
  obtain ⟨m,rfl,h1,h2⟩:=fits_i64 hu h
  exact ⟨m,rfl,(fits64_iff m).2 ⟨h1,h2⟩⟩
set_option maxRecDepth 100000 in
theorem fit_str {n R:Nat} {xs:List C} (h:Fits Tryz.prog R n 9 xs):∃ l:List UInt8,xs=[str l]∧l.length≤R:=by
  obtain ⟨n,rfl⟩:=fits_pos h
  exact fits_string Tryz.underlying9 h
set_option maxRecDepth 100000 in
theorem open_per (R n:Nat) (xs:List C) (h:Fits Tryz.prog R n 38 xs):∃ p:Per,xs=p.cells∧True:=by
  obtain ⟨n,rfl⟩:=fits_pos h
  obtain ⟨a1,_,rfl,h1,a2,_,rfl,h2,rfl⟩:=fits_struct Tryz.underlying38 h
  obtain ⟨f,rfl,_⟩:=fit_i64 Tryz.underlying2 h1
  obtain ⟨t,rfl,_⟩:=fit_i64 Tryz.underlying2 h2
  exact ⟨⟨f,t⟩,rfl,trivial⟩
set_option maxRecDepth 100000 in
theorem open_val (R n:Nat) (xs:List C) (h:Fits Tryz.prog R n 58 xs):∃ v:Val,xs=v.cells∧fits64 v.int=true:=by
  obtain ⟨n,rfl⟩:=fits_pos h
  obtain ⟨a1,_,rfl,h1,a2,_,rfl,h2,a3,_,rfl,h3,rfl⟩:=fits_struct Tryz.underlying58 h
  obtain ⟨k,rfl,_⟩:=fit_i64 Tryz.underlying3 h1
  obtain ⟨i,rfl,hi⟩:=fit_i64 Tryz.underlying2 h2
  obtain ⟨s,rfl,_⟩:=fit_str h3
  exact ⟨⟨k,i,s⟩,rfl,hi⟩
set_option maxRecDepth 100000 in
theorem open_ints (R n:Nat) (xs:List C) (h:Fits Tryz.prog R n 53 xs):∃ (nl:Bool) (l:List Int),xs=[.sl nl (l.map icell)]∧l.length*8≤R:=by
  obtain ⟨n,rfl⟩:=fits_pos h
  obtain ⟨nl,ys,rfl,hn,hl,hys⟩:=fits_slice Tryz.underlying53 h
  obtain ⟨l,rfl,_⟩:=fits_list icell (fun _=>True) (fun y hy=>by
    obtain ⟨k,rfl,_⟩:=fit_i64 Tryz.underlying3 hy
    exact ⟨k,rfl,trivial⟩) hys
  rw [bytes3] at hl
  exact ⟨nl,l,rfl,by simpa using hl⟩
end Go.Proofs.YtlphpbcafplnbaaGreat
