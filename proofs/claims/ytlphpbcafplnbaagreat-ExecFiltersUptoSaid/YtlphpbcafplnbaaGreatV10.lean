/- Contracts of functions of the seat, proved in a logic on data over the model (part V10). -/
import Derived.Test.YtlphpbcafplnbaaGreatV9
import Derived.Test.YtlphpbcafplnbaaGreatV9c
set_option linter.unusedSimpArgs false
set_option linter.unusedVariables false
namespace Go.VL
open Go.RowKit
def keq:Value→Value→Bool
  | .int j a,.int k b=>j == k && a == b
  | .string a,.string b=>a == b
  | .bool a,.bool b=>a == b
  | _,_=>false
def kfits:TypeDesc→Value→Bool
  | .int q,.int k _=>k == q
  | .string,.string _=>true
  | .bool,.bool _=>true
  | _,_=>false
theorem sameNow_ok {d:TypeDesc} {k k':Value} (h:kfits d k=true) (h':kfits d k'=true):Instr.sameNow d k k'=some (keq k k'):=by
  unfold kfits at h h'
  split at h
  · rename_i q j n
    split at h'
    · rename_i q' j' n' _ _
      simp at h h'
      simp_all [Instr.sameNow,keq]
    · rename_i e1 e2;simp_all
    · rename_i e1 e2;simp_all
    · cases h'
  · split at h'
    · rename_i e1 e2;simp_all
    · simp [Instr.sameNow,keq]
    · rename_i e1 e2;simp_all
    · cases h'
  · split at h'
    · rename_i e1 e2;simp_all
    · rename_i e1 e2;simp_all
    · simp [Instr.sameNow,keq]
    · cases h'
  · cases h
def findK (k:Value):List (Value × List S)→Option (Nat × List S)
  | []=>none
  | x::r=>if keq k x.1 then some (0,x.2) else (findK k r).map fun y=>(y.1+1,y.2)
theorem findNow_ok {g:G} {w:World} {R:Nat→Option Res} {d:TypeDesc} {k:Value} (hk:kfits d k=true):∀ (kvs:List (Value × List S)) (es:List MapEntry) (i:Nat),MapR g w R kvs es→(kvs.all fun x=>kfits d x.1)=true →
    (Instr.findNow d k es i=some none∧findK k kvs=none)∨(∃ j cs e,Instr.findNow d k es i=some (some (i+j,e.val))∧findK k kvs=some (j,cs)∧es[j]? = some e∧kvs[j]? = some (e.key,cs)∧keq k e.key=true∧EntR g w R cs e.val)
  | [],es,i,h,_=>by
    have:es=[]:=h
    subst this
    exact .inl ⟨rfl,rfl⟩
  | x::r,es,i,h,ha=>by
    obtain ⟨e,es',rfl,h2,h3,h4⟩:=h
    simp only [List.all_cons,Bool.and_eq_true] at ha
    have hs:=sameNow_ok hk ha.1
    rw [← h2] at hs
    cases hq:keq k e.key with
    | true =>
      rw [hq] at hs
      refine .inr ⟨0,x.2,e,by simp [Instr.findNow,hs],?_,rfl,by simp [h2],hq,h3⟩
      rw [findK,if_pos (by rw [← h2];exact hq)]
    | false =>
      rw [hq] at hs
      rcases findNow_ok hk r es' (i+1) h4 (by simpa using ha.2) with ⟨e1,e2⟩ | ⟨j,cs,e',e1,e2,e3,e4,e5,e6⟩
      · refine .inl ⟨by simp [Instr.findNow,hs,e1],?_⟩
        rw [findK,if_neg (by rw [← h2,hq];simp),e2];rfl
      · refine .inr ⟨j+1,cs,e',by simp [Instr.findNow,hs,e1];omega,?_,by simpa using e3,by simpa using e4,e5,e6⟩
        rw [findK,if_neg (by rw [← h2,hq];simp),e2];rfl
theorem MapR.len {g:G} {w:World} {R:Nat→Option Res} : ∀ (kvs:List (Value × List S)) (es:List MapEntry),MapR g w R kvs es→es.length=kvs.length
  | [],es,h=>by have:es=[]:=h;subst this;rfl
  | x::r,es,h=>by
    obtain ⟨e,es',rfl,_,_,h4⟩:=h
    simp [MapR.len r es' h4]
theorem MapR.at {g:G} {w:World} {R:Nat→Option Res} : ∀ (kvs:List (Value × List S)) (es:List MapEntry) (j:Nat) (e:MapEntry),MapR g w R kvs es→es[j]? = some e→∃ cs,kvs[j]? = some (e.key,cs)∧EntR g w R cs e.val
  | [],es,j,e,h,he=>by have:es=[]:=h;subst this;simp at he
  | x::r,es,0,e,h,he=>by
    obtain ⟨e',es',rfl,h2,h3,h4⟩:=h
    simp at he
    subst he
    exact ⟨x.2,by simp [h2],h3⟩
  | x::r,es,j+1,e,h,he=>by
    obtain ⟨e',es',rfl,h2,h3,h4⟩:=h
    simpa using MapR.at r es' j e h4 (by simpa using he)
def mpT (P:Program) (t:TypeId):Option (TypeId × TypeDesc × TypeId) :=
  match P.underlying t with
  | some (.map k e)=>match P.underlying k with
    | some (.int q)=>some (k,.int q,e)
    | some .string=>some (k,.string,e)
    | some .bool=>some (k,.bool,e)
    | _=>none
  | _=>none
theorem mpT_ok {P:Program} {t k e:TypeId} {d:TypeDesc} (h:mpT P t=some (k,d,e)):P.underlying t=some (.map k e)∧P.underlying k=some d∧((∃ q,d = .int q)∨d = .string∨d = .bool):=by
  unfold mpT at h
  cases hu:P.underlying t with
  | none=>simp [hu] at h
  | some x =>
    cases x <;> simp [hu] at h
    rename_i k' e'
    cases hk:P.underlying k' with
    | none=>simp [hk] at h
    | some y =>
      cases y <;> simp [hk] at h
      · obtain ⟨rfl,rfl,rfl⟩:=h;exact ⟨rfl,hk,by simp⟩
      · obtain ⟨rfl,rfl,rfl⟩:=h;exact ⟨rfl,hk,by simp⟩
      · obtain ⟨rfl,rfl,rfl⟩:=h;exact ⟨rfl,hk,by simp⟩
theorem run_checkKey {P:Program} {w:World} {k:TypeId} {d:TypeDesc} {v:Value} (em:Bool) (n:Nat) (hk:P.underlying k=some d) (hd:(∃ q,d = .int q)∨d = .string∨d = .bool):(Instr.checkKey em (n+1) k v).run P w = .ok () w:=by
  rcases hd with ⟨q,rfl⟩ | rfl | rfl <;> simp [Instr.checkKey,run_underlying hk]
theorem run_findKey {P:Program} {w:World} {k:TypeId} {d:TypeDesc} {v:Value} {es:List MapEntry} {r:Option (Nat × Value)} (hk:P.underlying k=some d) (hf:Instr.findNow d v es 0=some r):(Instr.findKey k v es).run P w = .ok r w:=by
  simp [Instr.findKey,run_underlying hk,hf]
theorem run_lookup {P:Program} {w:World} {t k e:TypeId} {d:TypeDesc} {b:Nat} {es:Array MapEntry} {ck:Nat} {v:Value} {r:Option (Nat × Value)} {z:Value} (ok:Bool) (h:mpT P t=some (k,d,e)) (hb:w.heap[b]? = some (.map es ck))
    (hf:Instr.findNow d v es.toList 0=some r) (hz:zeroOf P e=some z) :
    (Instr.lookup t (.map (some b)) v ok).run P w = .ok (if ok then .tuple #[match r with | some x=>x.2 | none=>z,.bool r.isSome] else match r with | some x=>x.2 | none=>z) w:=by
  obtain ⟨h1,h2,h3⟩:=mpT_ok h
  have hz':=run_zero (P:=P) (w:=w) hz
  have hg:(getObj b).run P w = .ok (.map es ck) w:=by simp [getObj,Sem.run,hb]
  have hc:=run_checkKey (w:=w) (v:=v) es.isEmpty 9999 h2 h3
  have hk:=run_findKey (w:=w) h2 hf
  cases r with
  | none=>cases ok <;> simp [Instr.lookup,run_underlying h1,hg,hc,hk,hz']
  | some x=>cases ok <;> simp [Instr.lookup,run_underlying h1,hg,hc,hk]
def setMap (w:World) (b:Nat) (es:Array MapEntry) (ck:Nat):World:={ w with heap:=w.heap.setIfInBounds b (.map es ck) }
theorem run_setMap {P:Program} {w:World} {b:Nat} {es es':Array MapEntry} {ck ck':Nat} (hb:w.heap[b]? = some (.map es ck)):(setObj b (.map es' ck')).run P w = .ok () (setMap w b es' ck'):=by
  simp [setObj,Sem.run,hb,setMap]
theorem sameBits_keq {a b:Value} (n:Nat) (h:keq a b=true):Instr.sameBits n b a=true∧a=b:=by
  unfold keq at h
  split at h
  · rename_i j x k y
    simp at h
    obtain ⟨rfl,rfl⟩:=h
    exact ⟨by cases n <;> simp [Instr.sameBits],rfl⟩
  · rename_i x y
    have h1:(x.data == y.data)=true:=h
    have h2:=eq_of_beq h1
    have h3:x=y:=by cases x;cases y;simp_all
    subst h3
    have h4:(x == x)=true:=h
    exact ⟨by cases n <;> simp [Instr.sameBits,h4],rfl⟩
  · rename_i x y
    simp at h
    subst h
    exact ⟨by cases n <;> simp [Instr.sameBits],rfl⟩
  · cases h
theorem run_mapPut {P:Program} {w:World} {t k e:TypeId} {d:TypeDesc} {b:Nat} {es:Array MapEntry} {ck i:Nat} {v x y:Value} {e0:MapEntry} (h:mpT P t=some (k,d,e)) (hb:w.heap[b]? = some (.map es ck))
    (hf:Instr.findNow d v es.toList 0=some (some (i,y))) (hi:es[i]? = some e0) (hq:keq v e0.key=true) :
    (Instr.mapUpdate t (.map (some b)) v x).run P w = .ok () (setMap w b (es.modify i fun e=>{ e with key:=v,val:=x }) ck):=by
  obtain ⟨h1,h2,h3⟩:=mpT_ok h
  have hg:(getObj b).run P w = .ok (.map es ck) w:=by simp [getObj,Sem.run,hb]
  have hc:=run_checkKey (w:=w) (v:=v) false 9999 h2 h3
  have hk:=run_findKey (w:=w) h2 hf
  obtain ⟨hs,_⟩:=sameBits_keq 10000 hq
  simp [Instr.mapUpdate,run_underlying h1,hg,hc,hk,hi,Instr.keyThatStays,hs,run_setMap hb]
theorem run_mapNew {P:Program} {w:World} {t k e:TypeId} {d:TypeDesc} {b:Nat} {es:Array MapEntry} {ck:Nat} {v x:Value} (h:mpT P t=some (k,d,e)) (hb:w.heap[b]? = some (.map es ck))
    (hf:Instr.findNow d v es.toList 0=some none) :
    (Instr.mapUpdate t (.map (some b)) v x).run P w = .ok () (setMap w b (es.push { key:=v,val:=x,born:=ck }) (ck+1)):=by
  obtain ⟨h1,h2,h3⟩:=mpT_ok h
  have hg:(getObj b).run P w = .ok (.map es ck) w:=by simp [getObj,Sem.run,hb]
  have hc:=run_checkKey (w:=w) (v:=v) false 9999 h2 h3
  have hk:=run_findKey (w:=w) h2 hf
  simp [Instr.mapUpdate,run_underlying h1,hg,hc,hk,run_setMap hb]
theorem run_makeMap {P:Program} {w:World} {t:TypeId} : (Instr.makeMap t none).run P w = .ok (.map (some w.heap.size)) (w.alloc (.map #[] 0)):=by
  simp [Instr.makeMap,run_newObj]
section
variable {P:Program} {w0:World} {K0:K0T} {nt:Nat} {st:St} {a:Act} {w:World} {g:G}
theorem T.newmap (h:T w0 K0 nt st a w g) (i:Nat) :
    ∃ g',T w0 K0 nt ((st.clr i).setR i (some (.map (.ents [])))) a (w.alloc (.map #[] 0)) g'∧g'.loc i = .map (some w.heap.size)∧(∀ j,j≠i→g'.loc j=g.loc j)∧g'.K=g.K:=by
  refine ⟨{ g with loc:=fun j=>if j=i then .map (some w.heap.size) else g.loc j },?_,by simp,fun j hj=>by simp [hj],rfl⟩
  have hB:w0.heap.size≤w.heap.size:=h.below.size
  refine T.make h (g':={ g with loc:=fun j=>if j=i then .map (some w.heap.size) else g.loc j }) (Bel.of ((BelowD.refl _ _).alloc hB _)) ⟨fun _ _ k=>k,fun b o k=>World.cell?_alloc_lt _ _ _ (h.klt b o k)⟩ h.kold (fun b o k=>by
      have:=h.klt b o k;simp;omega) (fun j hj=>by simp [hj]) (fun j r b hj hr hb=>⟨Below.heap_alloc _ _ _ ((h.res j r hr).lt hb),fun _ k=>k⟩) (fun j r hj hr b hb hb2=>?_) ?_
  · simp [blk] at hb
    have:=(h.res j r hr).lt hb2
    omega
  · exact ⟨w.heap.size,#[],by simp,(fun e=>absurd e.1 (by omega)),heap_alloc_new w _,rfl,fun j e he=>by simp at he⟩
theorem setMap_other (w:World) (b k:Nat) (es:Array MapEntry) (ck:Nat) (h:k≠b):(setMap w b es ck).heap[k]? = w.heap[k]? := by
  simp [setMap,Array.getElem?_setIfInBounds_ne (Ne.symm h)]
theorem setMap_same {w:World} {b:Nat} {es es':Array MapEntry} {ck ck':Nat} (hb:w.heap[b]? = some (.map es ck)):(setMap w b es' ck').heap[b]? = some (.map es' ck'):=by
  have:=(Array.getElem?_eq_some_iff.1 hb).1
  simp [setMap,this]
theorem T.setmap (h:T w0 K0 nt st a w g) {i b:Nat} {kvs kvs':List (Value × List S)} {es es':Array MapEntry} {ck:Nat} (hi:st.rs i=some (.map (.ents kvs))) (hl:g.loc i = .map (some b)) (hb:w.heap[b]? = some (.map es ck))
    (hr:MapR g w st.rs kvs' es'.toList) (hbo:∀ (j:Nat) (e:MapEntry),es'[j]? = some e→e.born=j):T w0 K0 nt (st.setR i (some (.map (.ents kvs')))) a (setMap w b es' es'.size) g:=by
  have hB:=((h.res i _ hi).block (b:=b) (by rw [hl];rfl)).1
  have hk:Keeps g.K w g.K (setMap w b es' es'.size):=⟨fun _ _ k=>k,fun b' o k=>by
    by_cases e:b'=b
    · subst e
      simp only [World.cell?]
      rw [setMap_same hb,hb]
    · simp only [World.cell?];rw [setMap_other _ _ _ _ _ e]⟩
  refine T.mod h hi ⟨rfl,rfl,rfl,by simp [setMap],fun k hk'=>setMap_other _ _ _ _ _ (fun e=>hB (e ▸ hk')),Nat.le_refl _⟩ hk h.kold (fun b' o k=>by simpa [setMap] using h.klt b' o k) rfl
    (fun j r' b' hj hrj hbj=>⟨setMap_other _ _ _ _ _ (fun e=>?_),fun _ k=>k⟩) (.inr (.inr ⟨_,_,rfl,rfl,rfl⟩)) (fun hc=>?_)
  · subst e
    exact h.dis i j _ r' hi hrj (Ne.symm hj) b' (by rw [hl];rfl) hbj
  · exact ⟨b,es',hl,hB,setMap_same hb,MapR.mono hk _ _ hc hr,hbo⟩
end
def allCs:List S→Option (List C)
  | []=>some []
  | .c x::r=>(allCs r).map (x :: ·)
  | _::_=>none
def entS:List S→S
  | [c]=>c
  | cs=>match allCs cs with
    | some l=>.agg l
    | none=>.st cs
def entC (st:St):S→Option (List S)
  | .agg cs=>if cs.length=1 then none else some (cs.map .c)
  | .st ss=>if ss.length=1 then none else some ss
  | s=>cellsH st s
def vmkMap (dst:Option Nat) (st:St) (K:St→Prop):Prop :=
  match dst with
  | some x=>K (((st.clr (64*x)).setR (64*x) (some (.map (.ents [])))).put x (.mp (64*x)))
  | none=>False
def lkS (ok:Bool) (r:Option (Nat × List S)) (z:Value):S :=
  if ok then .tup [match r with | some y=>entS y.2 | none=>ofConst z,.c (.v (.bool r.isSome))] else match r with | some y=>entS y.2 | none=>ofConst z
def vlkup (P:Program) (dst:Option Nat) (st:St) (t:TypeId) (m k:S) (ok:Bool) (K:St→Prop):Prop :=
  match m,k with
  | .mp i,.c (.v kv)=>match st.rs i,mpT P t with
    | some (.map (.ents kvs)),some (_,d,e)=>match zeroOf P e with
      | some z=>kfits d kv=true∧(kvs.all fun x=>kfits d x.1)=true∧K (st.putd dst (lkS ok (findK kv kvs) z))
      | none=>False
    | _,_=>False
  | _,_=>False
def putK (k:Value) (cs:List S) (kvs:List (Value × List S)):List (Value × List S) :=
  match findK k kvs with
  | some y=>kvs.set y.1 (k,cs)
  | none=>kvs++[(k,cs)]
def vmapUp (P:Program) (dst:Option Nat) (st:St) (t:TypeId) (m k x:S) (K:St→Prop):Prop :=
  match m,k,entC st x with
  | .mp i,.c (.v kv),some cs=>match st.rs i,mpT P t with
    | some (.map (.ents kvs)),some (_,d,_)=>kfits d kv=true∧(kvs.all fun x=>kfits d x.1)=true∧K ((st.setR i (some (.map (.ents (putK kv cs kvs))))).putd dst .un)
    | _,_=>False
  | _,_,_=>False
def vrange (P:Program) (dst:Option Nat) (st:St) (t:TypeId) (m:S) (K:St→Prop):Prop :=
  match dst,m with
  | some x,.mp i=>match st.rs i,mpT P t with
    | some (.map (.ents kvs)),some _=>∀ bm:Nat,K ((((((st.clr (64*x+1)).setR (64*x+1) (some (.pin (.map (some bm)) (S.clr (64*x+1) (.mp i))))).clr (64*x)).setR (64*x) (some (.map (.iter bm kvs.length []))))).put x (.mp (64*x)))
    | _,_=>False
  | _,_=>False
def todoK (n:Nat) (seen:List Nat):List Nat:=(List.range n).filter fun j=>!seen.contains j
def vnext (dst:Option Nat) (st:St) (it:S) (K:St→Prop):Prop :=
  match it with
  | .mp y=>match st.rs y,st.rs (y+1) with
    | some (.map (.iter bm n seen)),some (.pin (.map (some bm')) (.mp i))=>match st.rs i with
      | some (.map (.ents kvs))=>bm=bm'∧n=kvs.length∧(kvs.all fun x=>x.1.oneCell')=true∧(todoK n seen=[]→K (st.putd dst (.tup [.c (.v (.bool false))]))) ∧
          ∀ j k cs,j∈todoK n seen→kvs[j]? = some (k,cs)→K ((st.setR y (some (.map (.iter bm n (seen++[j]))))).putd dst (.tup [.c (.v (.bool true)),.c (.v k),entS cs]))
      | _=>False
    | _,_=>False
  | _=>False
def ventry (dst:Option Nat) (st:St) (it:S) (K:St→Prop):Prop :=
  match it with
  | .mp y=>match st.rs y,st.rs (y+1) with
    | some (.map (.iter bm n seen)),some (.pin (.map (some bm')) (.mp i))=>match st.rs i,seen.getLast? with
      | some (.map (.ents kvs)),some j=>match kvs[j]? with
        | some (k,cs)=>bm=bm'∧n=kvs.length∧k.oneCell'=true∧K (st.putd dst (.tup [.c (.v k),entS cs]))
        | none=>False
      | _,_=>False
    | _,_=>False
  | _=>False
def vsnap (st:St) (s:S) (k:S→St→Prop):Prop :=
  match s with
  | .own i n =>
    match st.rs i with
    | some (.arr nil sz xs _)=>xs.length=n∧k (.c (.sl nil xs)) (st.setR i (some (.arr nil sz xs xs.length)))
    | _=>False
  | s=>k s st
def vsnaps (st:St):List S→(List S→St→Prop)→Prop
  | [],k=>k [] st
  | s::r,k=>vsnap st s fun s' st'=>vsnaps st' r fun r' st''=>k (s'::r') st''
section
variable {P:Program} {w0:World} {K0:K0T} {nt:Nat} {st:St} {a:Act} {w:World} {g:G}
theorem vsnap_ok (h:T w0 K0 nt st a w g) {s:S} {u:Value} {k:S→St→Prop} (hs:SR g w st.rs s u) (hv:vsnap st s k) :
    ∃ s' st' g',k s' st'∧T w0 K0 nt st' a w g'∧SR g' w st'.rs s' u∧(∀ s u,SR g w st.rs s u→SR g' w st'.rs s u)∧g'.loc=g.loc∧Keeps g.K w g'.K w:=by
  have trivial_case:k s st→∃ s' st' g',k s' st'∧T w0 K0 nt st' a w g'∧SR g' w st'.rs s' u∧(∀ s u,SR g w st.rs s u→SR g' w st'.rs s u)∧g'.loc=g.loc∧Keeps g.K w g'.K w :=
    fun hk=>⟨s,st,g,hk,h,hs,fun _ _ h=>h,rfl,Keeps.refl _ _⟩
  unfold vsnap at hv
  split at hv
  · rename_i i n
    split at hv
    · rename_i nil sz xs fx hr
      obtain ⟨hn,hk⟩:=hv
      obtain ⟨g',h1,h2,h3,h4⟩:=h.snap hr
      rw [SR] at hs
      have hu:=hs nil sz xs fx hr hn
      refine ⟨_,_,g',hk,h1,by rw [SR,hu];exact h2,fun s u hsu=>?_,h3,h4⟩
      refine SR.mono h4 s u (fun j _=>?_) hsu
      by_cases e:j=i
      · subst e
        refine ⟨fun fz ss e=>?_,fun nil' sz' xs' fx' e=>?_,fun kvs e=>?_⟩
        · rw [St.rs_setR,if_pos rfl] at e;simp at e
        · rw [St.rs_setR,if_pos rfl] at e;simp at e
          obtain ⟨rfl,rfl,rfl,rfl⟩:=e
          exact ⟨⟨nil,xs,fx,hr,rfl⟩,by rw [h3]⟩
        · rw [St.rs_setR,if_pos rfl] at e;simp at e
      · exact Cmp.same (by rw [St.rs_setR,if_neg (Ne.symm e)]) (by rw [h3])
    · exact hv.elim
  · exact trivial_case hv
theorem vsnaps_ok:∀ (ss:List S) (us:List Value) (st:St) (g:G) (k:List S→St→Prop),T w0 K0 nt st a w g→SRs g w st.rs ss us→vsnaps st ss k →
    ∃ ss' st' g',k ss' st'∧T w0 K0 nt st' a w g'∧SRs g' w st'.rs ss' us∧(∀ s u,SR g w st.rs s u→SR g' w st'.rs s u)∧g'.loc=g.loc∧Keeps g.K w g'.K w
  | [],us,st,g,k,h,hs,hv=>⟨[],st,g,hv,h,hs,fun _ _ h=>h,rfl,Keeps.refl _ _⟩
  | s::r,us,st,g,k,h,hs,hv=>by
    rw [SRs] at hs
    obtain ⟨u,us',rfl,h1,h2⟩:=hs
    rw [vsnaps] at hv
    obtain ⟨s',st',g',k1,k2,k3,k4,k5,k6⟩:=vsnap_ok h h1 hv
    have h2':SRs g' w st'.rs r us':=by
      rw [SRs_iff] at h2 ⊢
      exact ⟨h2.1,fun k s u e1 e2=>k4 s u (h2.2 k s u e1 e2)⟩
    obtain ⟨r',st'',g'',m1,m2,m3,m4,m5,m6⟩:=vsnaps_ok r us' st' g' _ k2 h2' k1
    refine ⟨s'::r',st'',g'',m1,m2,?_,fun s u hh=>m4 s u (k4 s u hh),m5.trans k5,k6.trans m6⟩
    rw [SRs]
    exact ⟨u,us',rfl,m4 _ _ k3,m3⟩
def vsnapm (st:St):List Bool→List S→(List S→St→Prop)→Prop
  | true::m,s::r,k=>vsnap st s fun s' st'=>vsnapm st' m r fun r' st''=>k (s'::r') st''
  | false::m,s::r,k=>vsnapm st m r fun r' st''=>k (s::r') st''
  | _,ss,k=>k ss st
theorem vsnapm_ok:∀ (m:List Bool) (ss:List S) (us:List Value) (st:St) (g:G) (k:List S→St→Prop),T w0 K0 nt st a w g→SRs g w st.rs ss us→vsnapm st m ss k →
    ∃ ss' st' g',k ss' st'∧T w0 K0 nt st' a w g'∧SRs g' w st'.rs ss' us∧(∀ s u,SR g w st.rs s u→SR g' w st'.rs s u)
  | [],ss,us,st,g,k,h,hs,hv=>⟨ss,st,g,hv,h,hs,fun _ _ h=>h⟩
  | true::m,[],us,st,g,k,h,hs,hv=>⟨[],st,g,hv,h,hs,fun _ _ h=>h⟩
  | false::m,[],us,st,g,k,h,hs,hv=>⟨[],st,g,hv,h,hs,fun _ _ h=>h⟩
  | true::m,s::r,us,st,g,k,h,hs,hv=>by
    rw [SRs] at hs
    obtain ⟨u,us',rfl,h1,h2⟩:=hs
    rw [vsnapm] at hv
    obtain ⟨s',st',g',k1,k2,k3,k4,k5,k6⟩:=vsnap_ok h h1 hv
    have h2':SRs g' w st'.rs r us':=by
      rw [SRs_iff] at h2 ⊢
      exact ⟨h2.1,fun k s u e1 e2=>k4 s u (h2.2 k s u e1 e2)⟩
    obtain ⟨r',st'',g'',m1,m2,m3,m4⟩:=vsnapm_ok m r us' st' g' _ k2 h2' k1
    refine ⟨s'::r',st'',g'',m1,m2,?_,fun s u hh=>m4 s u (k4 s u hh)⟩
    rw [SRs]
    exact ⟨u,us',rfl,m4 _ _ k3,m3⟩
  | false::m,s::r,us,st,g,k,h,hs,hv=>by
    rw [SRs] at hs
    obtain ⟨u,us',rfl,h1,h2⟩:=hs
    rw [vsnapm] at hv
    obtain ⟨r',st'',g'',m1,m2,m3,m4⟩:=vsnapm_ok m r us' st g _ h h2 hv
    refine ⟨s::r',st'',g'',m1,m2,?_,m4⟩
    rw [SRs]
    exact ⟨u,us',rfl,m4 _ _ h1,m3⟩
theorem ow_value {o:Oper} {u:Value} {w':World} {next:Act→World→Prop} {Q:Exit→Act→World→Prop} (hr:(execOp a.eval o).run P w = .ok (.value u) w') (h:next (a.put o.dst u) w'):o.wp P a w next Q:=by
  unfold Oper.wp;rw [hr];exact h
theorem ow_skip {o:Oper} {w':World} {next:Act→World→Prop} {Q:Exit→Act→World→Prop} (hr:(execOp a.eval o).run P w = .ok .skip w') (h:next (a.put o.dst undef) w'):o.wp P a w next Q:=by
  unfold Oper.wp;rw [hr];exact h
end
def zcells (N:Nat):Nat→List Value→List S
  | _,[]=>[]
  | k,.slice none 0 0::r=>.own (N+k+1) 0::zcells N (k+1) r
  | k,v::r=>.c (ofVal v)::zcells N (k+1) r
def znils (N:Nat):Nat→List Value→St→St
  | _,[],st=>st
  | k,.slice none 0 0::r,st=>znils N (k+1) r ((st.clr (N+k+1)).setR (N+k+1) (some (.arr true 0 [] 0)))
  | k,_::r,st=>znils N (k+1) r st
def valloc (P:Program) (dst:Option Nat) (st:St) (t:TypeId) (K:St→Prop):Prop :=
  match dst,zeroOf P t with
  | some x,some z =>
    z.cells.all (·.oneCell')=true ∧
      K ((((znils (64*x) 0 z.cells.toList st).clr (64*x)).setR (64*x) (some (.box false (zcells (64*x) 0 z.cells.toList)))).put x (.ptr (64*x) 0))
  | _,_=>False
def vbox (dst:Option Nat) (st:St) (s:S) (K:St→Prop):Prop :=
  match dst with
  | some x=>vsnap st s fun s' st' =>
    match cellsH st' s' with
    | some cs=>S.mens (64*x) cs=false∧K (((st'.clr (64*x)).setR (64*x) (some (.box false cs))).put x (.ptr (64*x) 0))
    | none=>False
  | none=>False
def vstore (P:Program) (st:St) (t:TypeId) (ad s:S) (K:St→Prop):Prop :=
  match ad with
  | .ptr i off =>
    match st.rs i,tySz P t,cellsH st s with
    | some (.box false ss),some (_,n),some cs=>cs.length=n∧off+n≤ss.length∧K (st.setR i (some (.box false (spl ss off cs))))
    | _,_,_=>False
  | .ep i m j o=>vsnap st s fun s' st' =>
    match st'.rs i,tySz P t,cellsS s' with
    | some (.arr nil sz xs fx),some (_,n),some cs=>cs.length=n∧xs.length=m∧j<m∧o+n≤sz∧fx≤j∧K (st'.setR i (some (.arr nil sz (xs.set j (spl (xs.getD j []) o cs)) fx)))
    | _,_,_=>False
  | _=>False
def chunks (s:Nat):Nat→List C→List (List C)
  | 0,_=>[]
  | n+1,l=>l.take s::chunks s n (l.drop s)
def vbuildSlice (P:Program) (dst:Option Nat) (st:St) (t:TypeId) (len:Nat) (parts:List (Nat × S)) (K:St→Prop):Prop :=
  match dst,P.underlying t with
  | some x,some (.slice e) =>
    match tySz P e,zeroOf P e with
    | some (_,s),some z =>
      match cellsS (ofConst z) with
      | some zc=>vsnaps st (parts.map (·.2)) fun ss st' =>
        match pfill (.inr s) (List.replicate len zc).flatten ((parts.map (·.1)).zip ss) with
        | some out=>zc.length=s∧len*s≤16777216∧0<s∧len≤maxLen∧K (((st'.clr (64*x)).setR (64*x) (some (.arr false s (chunks s len out) 0))).put x (.own (64*x) len))
        | none=>False
      | none=>False
    | _,_=>False
  | _,_=>False
def vappend (P:Program) (dst:Option Nat) (st:St) (t xt:TypeId) (d x:S) (K:St→Prop):Prop :=
  match dst,slT P t,P.underlying xt with
  | some y,some (s,B),some (.slice _)=>vsnap st x fun x' st' =>
    match x' with
    | .c (.sl _ ys) =>
      match d with
      | .c (.sl true [])=>(∀ e∈ys,e.length=s)∧0<B∧ys.length*B≤140737488355328∧K (((st'.clr (64*y)).setR (64*y) (some (.arr ys.isEmpty s ys 0))).put y (.own (64*y) ys.length))
      | .own i n =>
        match st'.rs i with
        | some (.arr nil sz xs fx)=>xs.length=n∧(nil=false→sz=s)∧(∀ e∈ys,e.length=s)∧0<B∧(xs.length+ys.length)*B≤140737488355328 ∧
            K (((st'.clr i).setR i (some (.arr (nil && ys.isEmpty) s (xs++ys) fx))).put y (.own i (n+ys.length)))
        | _=>False
      | _=>False
    | _=>False
  | _,_,_=>False
def vmake (P:Program) (dst:Option Nat) (st:St) (t:TypeId) (l c:S) (K:St→Prop):Prop :=
  match dst,slT P t,sint l,sint c with
  | some y,some (s,B),some n,some m =>
    match P.underlying t with
    | some (.slice e)=>match zeroOf P e with
      | some z=>match cellsS (ofConst z) with
        | some zc=>0≤n∧n≤m∧0<B∧m.toNat*B≤140737488355328∧0<s∧K (((st.clr (64*y)).setR (64*y) (some (.arr false s (List.replicate n.toNat zc) 0))).put y (.own (64*y) n.toNat))
        | none=>False
      | none=>False
    | _=>False
  | _,_,_,_=>False
def lendS:S→Bool
  | .own .. => true
  | .ptr .. => true
  | .ep .. => true
  | .pre .. => true
  | .mp _=>true
  | _=>false
def vlend (P:Program) (dst:Option Nat) (st:St) (fid:FuncId) (args:List S) (K:St→Prop):Prop :=
  ∃ m,vsnapm st m args fun args st=>∃ (b b':List (Nat × Res)) (as0 rs as1:List S) (τ:Nat→Nat) (C:List Nat),LendOk P st fid args b b' as0 rs as1 τ C∧K ((lendSt st τ C b').putd dst (retS τ rs))
def vcallA (P:Program) (dst:Option Nat) (st:St) (fid:FuncId) (caps:List C) (args:List S) (K:St→Prop):Prop :=
  vsnaps st args fun ss st'=>(∃ rs,Con P fid (ss++caps.map .c) rs∧K (vret st' dst rs))∨vlend P dst st' fid (ss++caps.map .c) K
def vcallQ (P:Program) (dst:Option Nat) (st:St) (fid:FuncId) (caps:List C) (args:List S) (K:St→Prop) (q:Bool):Prop :=
  match q with
  | true=>vcallA P dst st fid caps args K∨(caps=[]∧vlend P dst st fid args K)
  | false=>vcallA P dst st fid caps args K
def vcall (P:Program) (dst:Option Nat) (st:St) (f:S) (args:List S) (K:St→Prop):Prop :=
  match f with
  | .c (.fn fid caps)=>vcallQ P dst st fid caps args K (args.any lendS)
  | .fnp fid ss=>vlend P dst st fid (args++ss) K
  | _=>False
def vpure (P:Program) (dst:Option Nat) (st:St) (e:Operand→S) (op:Op) (K:St→Prop):Prop :=
  (pev P st e op).2∧K (st.putd dst (pev P st e op).1)
def vloadb (P:Program) (st:St) (t:TypeId) (s:S) (k:S→St→Prop):Prop :=
  match tySz P t,s with
  | some (true,m),.ptr i o =>
    match st.rs i with
    | some (.box _ ss)=>vsnaps st ((ss.drop o).take m) fun ss' st' =>
      match allC ss' with
      | some cs=>cs.length=m∧k (.agg cs) st'
      | none=>False
    | _=>False
  | _,_=>(pload P st t s).2∧k (pload P st t s).1 st
def vcap (st:St) (s:S) (k:C→St→Prop):Prop :=
  match s with
  | .c x=>k x st
  | .ptr i 0 =>
    match st.rs i with
    | some (.box _ ss)=>vsnaps st ss fun ss' st' =>
      match allC ss',st'.rs i with
      | some cs,some (.box _ _)=>k (.dp cs) (st'.setR i (some (.box true (cs.map .c))))
      | _,_=>False
    | _=>False
  | _=>False
def vcaps (st:St):List S→(List C→St→Prop)→Prop
  | [],k=>k [] st
  | s::r,k=>vcap st s fun c st'=>vcaps st' r fun cs st''=>k (c::cs) st''
def S.isOwn:S→Bool
  | .own _ _=>true
  | _=>false
def capR:Option Res→Bool
  | some (.box _ ss)=>ss.any S.isOwn
  | _=>false
def capS (st:St):S→Bool
  | .ptr i _=>capR (st.rs i)
  | _=>false
def capOwn (st:St):List S→Bool
  | []=>false
  | s::r=>capS st s || capOwn st r
def vmf (dst:Option Nat) (st:St) (f:FuncId) (ss:List S) (K:St→Prop) (q:Bool):Prop :=
  match q with
  | true=>K (st.putd dst (.fnp f ss))
  | false=>vcaps st ss fun cs st'=>K (st'.putd dst (.c (.fn f cs)))
def vsliceO (P:Program) (dst:Option Nat) (st:St) (t:TypeId) (x:S) (lo hi:Option S) (K:St→Prop):Prop :=
  match dst,x,lo,hi with
  | some y,.own i n,none,some h =>
    match sint h,st.rs i with
    | some m,some (.arr nil sz xs fx)=>0≤m∧m≤n∧xs.length=n∧fx≤m.toNat∧(esz P t).isSome=true∧K (((st.clr i).setR i (some (.arr nil sz (xs.take m.toNat) fx))).put y (.own i m.toNat))
    | _,_=>False
  | some y,.own i n,some l,none =>
    match sint l,st.rs i with
    | some m,some (.arr nil sz xs _)=>0≤m∧m≤n∧xs.length=n∧(nil=false→esz P t=some sz)∧(esz P t).isSome=true∧K (st.put y (.suf i n m.toNat))
    | _,_=>False
  | _,_,_,_=>False
def vclear (P:Program) (dst:Option Nat) (st:St) (t:TypeId) (x:S) (K:St→Prop):Prop :=
  match dst,x,P.underlying t with
  | none,.suf i n j,some (.slice e) =>
    match st.rs i,tySz P e,zeroOf P e with
    | some (.arr nil sz xs fx),some (_,s),some z =>
      match cellsS (ofConst z) with
      | some zc=>xs.length=n∧fx≤j∧j≤n∧s=sz∧zc.length=s∧0<s∧K (st.setR i (some (.arr nil sz (xs.take j++List.replicate (n-j) zc) fx)))
      | none=>False
    | _,_,_=>False
  | _,_,_=>False
def isOne:Option (Bool × Nat)→Bool
  | some (b,n)=>b && n == 1
  | none=>false
def oneOwn (q:Bool) (is:List Nat) (ss:List S):Option (Nat × Nat) :=
  bif q then
    match is,ss with
    | [0],[.own i n]=>some (i,n)
    | _,_=>none
  else none
def B1 (P:Program) (t:TypeId):Prop:=∀ d:C,pbuild P t [(0,.c d)]=(.agg [d],True)
def vmkI (P:Program) (dst:Option Nat) (st:St) (t:TypeId) (s:S) (K:St→Prop):Prop :=
  match s with
  | .st ss=>vsnaps st ss fun ss' st' =>
    match allC ss' with
    | some cs=>isIface P t=false∧K (st'.putd dst (.c (.ifc t cs)))
    | none=>False
  | s=>vsnap st s fun s' st'=>(pmkI P t s').2∧K (st'.putd dst (pmkI P t s').1)
def methOf (P:Program) (d:TypeId) (name:String):Option FuncId :=
  match P.info? d with
  | some i =>
    match i.methods.find? (·.name == name) with
    | some m =>
      match m.path.toList,m.func,P.underlying d with
      | [],some (_,false),some (.pointer _)=>none
      | [],some (f,false),some _=>some f
      | _,_,_=>none
    | none=>none
  | none=>none
def recvS:S→Option (TypeId × S)
  | .c (.ifc d cs)=>some (d,.agg cs)
  | .c (.ifo d c)=>some (d,.c c)
  | _=>none
def vinv (P:Program) (dst:Option Nat) (st:St) (r:S) (name:String) (args:List S) (K:St→Prop):Prop :=
  ∃ d s f,recvS r=some (d,s)∧methOf P d name=some f∧vsnaps st args fun ss st'=>∃ rs,Con P f (s::ss) rs∧K (vret st' dst rs)
def vop (P:Program) (dst:Option Nat) (st:St) (e:Operand→S) (op:Op) (K:St→Prop):Prop :=
  match op with
  | .assign (.const (.slice none 0 0)) =>
    match dst with
    | some x=>K (((st.clr (64*x)).setR (64*x) (some (.arr true 0 [] 0))).put x (.own (64*x) 0))
    | none=>False
  | .alloc t=>valloc P dst st t K
  | .box _ x=>vbox dst st (e x) K
  | .store t ad x=>vstore P st t (e ad) (e x) K
  | .load t x=>vloadb P st t (e x) fun s st'=>K (st'.putd dst s)
  | .buildSlice t len parts=>vbuildSlice P dst st t len (parts.toList.map fun p=>(p.1,e p.2)) K
  | .makeSlice t l c=>vmake P dst st t (e l) (e c) K
  | .slice t x lo hi mx=>(vsnap st (e x) fun s st'=>(pslice P t s (lo.map e) (hi.map e) (mx.map e)).2∧K (st'.putd dst (pslice P t s (lo.map e) (hi.map e) (mx.map e)).1))∨(mx=none∧vsliceO P dst st t (e x) (lo.map e) (hi.map e) K)
  | .makeFunc (.func f) first cap=>first.toList=[]∧vmf dst st f (cap.toList.map e) K (capOwn st (cap.toList.map e))
  | .build t parts =>
    match oneOwn (isOne (tySz P t)) (parts.toList.map (·.1)) (parts.toList.map fun p=>e p.2) with
    | some (i,n) =>
      match st.rs i with
      | some (.arr _ _ xs _)=>B1 P t∧xs.length=n∧K (st.putd dst (.st [.own i n]))
      | _=>False
    | none=>vsnaps st (parts.toList.map fun p=>e p.2) fun ss st'=>(pbuild P t ((parts.toList.map (·.1)).zip ss)).2∧K (st'.putd dst (pbuild P t ((parts.toList.map (·.1)).zip ss)).1)
  | .makeInterface t x=>vmkI P dst st t (e x) K
  | .makeMap _ none=>vmkMap dst st K
  | .lookup t m k ok=>vlkup P dst st t (e m) (e k) ok K
  | .mapUpdate t m k x=>vmapUp P dst st t (e m) (e k) (e x) K
  | .range t m=>vrange P dst st t (e m) K
  | .next it false=>vnext dst st (e it) K
  | .entry it=>ventry dst st (e it) K
  | .call c =>
    match c.callee with
    | .builtin .append=>match c.argTypes.toList,c.args.toList with
      | [t,xt],[d,x]=>vappend P dst st t xt (e d) (e x) K
      | _,_=>False
    | .value f=>vcall P dst st (e f) (c.args.toList.map e) K
    | .invoke r name=>vinv P dst st (e r) name (c.args.toList.map e) K
    | .builtin .clear=>match c.argTypes.toList,c.args.toList with
      | [t],[x]=>vclear P dst st t (e x) K
      | _,_=>False
    | _=>vpure P dst st e op K
  | _=>vpure P dst st e op K
end Go.VL
