/- Contracts of functions of the seat, proved in a logic on data over the model (part V9). -/
import Derived.Test.YtlphpbcafplnbaaGreatV7
set_option linter.unusedSimpArgs false
set_option linter.unusedVariables false
namespace Go.VL
open Go.RowKit
section
variable {P:Program} {w0:World} {K0:K0T} {nt:Nat} {st:St} {a:Act} {w:World} {g:G}
theorem T.nilR (h:T w0 K0 nt st a w g) (i:Nat):∃ g',T w0 K0 nt ((st.clr i).setR i (some (.arr true 0 [] 0))) a w g'∧g'.loc i = .slice none 0 0∧(∀ j,j≠i→g'.loc j=g.loc j)∧g'.K=g.K:=by
  refine ⟨{ g with loc:=fun j=>if j=i then .slice none 0 0 else g.loc j },?_,by simp,fun j hj=>by simp [hj],rfl⟩
  exact T.make h (Bel.refl _ _ _) (Keeps.refl _ _) h.kold h.klt (fun j hj=>by simp [hj]) (fun _ _ _ _ _ _=>⟨rfl,fun _ k=>k⟩) (fun j r hj hr b hb=>by simp [blk] at hb) (.inl ⟨rfl,rfl,by simp,rfl⟩)
theorem SRs_iff:∀ (ss:List S) (us:List Value) {R:Nat→Option Res},SRs g w R ss us↔us.length=ss.length∧∀ (k:Nat) s u,ss[k]? = some s→us[k]? = some u→SR g w R s u
  | [],us,R=>by rw [SRs];simp
  | s::r,us,R=>by
    rw [SRs]
    constructor
    · rintro ⟨u,us',rfl,h1,h2⟩
      obtain ⟨h3,h4⟩:=(SRs_iff r us').1 h2
      refine ⟨by simp [h3],fun k d x hk hx=>?_⟩
      cases k with
      | zero=>simp at hk hx;subst hk;subst hx;exact h1
      | succ k=>exact h4 k d x (by simpa using hk) (by simpa using hx)
    · rintro ⟨h1,h2⟩
      cases us with
      | nil=>simp at h1
      | cons u us'=>exact ⟨u,us',rfl,h2 0 s u rfl rfl,(SRs_iff r us').2 ⟨by simpa using h1,fun k d x hk hx=>h2 (k+1) d x (by simpa using hk) (by simpa using hx)⟩⟩
theorem T.newbox (h:T w0 K0 nt st a w g) (i:Nat) (ss:List S) (us:List Value) (E:TypeId) (hs:SRs g w st.rs ss us) (h1:∀ u∈us,u.oneCell'=true) (hm:S.mens i ss=false) :
    ∃ g',T w0 K0 nt ((st.clr i).setR i (some (.box false ss))) a (w.alloc (.cells us.toArray E)) g'∧g'.loc i = .pointer (some ⟨w.heap.size,0,none⟩)∧(∀ j,j≠i→g'.loc j=g.loc j)∧g'.K=g.K:=by
  refine ⟨{ g with loc:=fun j=>if j=i then .pointer (some ⟨w.heap.size,0,none⟩) else g.loc j },?_,by simp,fun j hj=>by simp [hj],rfl⟩
  have hc:∀ R',(∀ j,j≠i→R' j=(st.rs j).map (Res.clr i))→∀ j,S.mens j ss=true→Cmp g st.rs { g with loc:=fun j=>if j=i then .pointer (some ⟨w.heap.size,0,none⟩) else g.loc j } R' j:=by
    intro R' hR j hj
    have hji:j≠i:=fun e=>by rw [e] at hj;rw [hj] at hm;cases hm
    refine ⟨fun fz ss' e=>?_,fun nil sz xs fx e=>?_,fun kvs e=>?_⟩
    · rw [hR j hji] at e
      cases hs:st.rs j with
      | none=>simp [hs] at e
      | some r=>cases r with
        | box fz0 ss0=>exact ⟨⟨fz0,ss0,rfl⟩,by simp [hji]⟩
        | arr _ _ _ _=>simp [hs,Res.clr] at e
        | pin _ _=>simp [hs,Res.clr] at e
        | map _=>simp [hs,Res.clr] at e
    · rw [hR j hji] at e
      cases hs:st.rs j with
      | none=>simp [hs] at e
      | some r=>cases r with
        | box fz0 ss0=>simp [hs,Res.clr] at e
        | arr nil0 sz0 xs0 fx0 =>
          simp [hs,Res.clr] at e
          obtain ⟨rfl,rfl,rfl,rfl⟩:=e
          exact ⟨⟨_,_,_,rfl,rfl⟩,by simp [hji]⟩
        | pin _ _=>simp [hs,Res.clr] at e
        | map _=>simp [hs,Res.clr] at e
    · rw [hR j hji] at e
      cases hs:st.rs j with
      | none=>simp [hs] at e
      | some r=>cases r with
        | box fz0 ss0=>simp [hs,Res.clr] at e
        | arr _ _ _ _=>simp [hs,Res.clr] at e
        | pin _ _=>simp [hs,Res.clr] at e
        | map k0 =>
          simp [hs,Res.clr] at e
          exact ⟨⟨k0,rfl,by rw [← e,MB.sh_clr]⟩,by simp [hji]⟩
  have key:=fun (g':G) (hg':g' = { g with loc:=fun j=>if j=i then .pointer (some ⟨w.heap.size,0,none⟩) else g.loc j }) (hk:Keeps g.K w g'.K (w.alloc (.cells us.toArray E))) =>
    SRs.mono (R':=((st.clr i).setR i (some (.box false ss))).rs) hk ss us (fun j hj=>hg' ▸ hc _ (fun j hj=>by rw [St.rs_setR,if_neg (Ne.symm hj),St.rs_clr]) j hj) hs
  have hB:w0.heap.size≤w.heap.size:=h.below.size
  refine T.make h (g':={ g with loc:=fun j=>if j=i then .pointer (some ⟨w.heap.size,0,none⟩) else g.loc j }) (Bel.of ((BelowD.refl _ _).alloc hB _)) ⟨fun _ _ k=>k,fun b o k=>World.cell?_alloc_lt _ _ _ (h.klt b o k)⟩ h.kold (fun b o k=>by
      have:=h.klt b o k;simp;omega) (fun j hj=>by simp [hj]) (fun j r b hj hr hb=>⟨Below.heap_alloc _ _ _ ((h.res j r hr).lt hb),fun _ k=>k⟩) (fun j r hj hr b hb hb2=>?_) ?_
  · simp [blk] at hb
    have:=(h.res j r hr).lt hb2
    omega
  · have hk:Keeps g.K w g.K (w.alloc (.cells us.toArray E)):=⟨fun _ _ k=>k,fun b o k=>World.cell?_alloc_lt _ _ _ (h.klt b o k)⟩
    have hss:=key _ rfl hk
    obtain ⟨hl,hss⟩:=(SRs_iff ss us).1 hss
    refine ⟨w.heap.size,us.toArray,E,by simp,(fun e=>absurd e.1 (by omega)),heap_alloc_new w _,by simp [hl],fun k s hs'=>?_,fun o k=>?_⟩
    · have hlt:k<us.length:=by rw [hl];exact (List.getElem?_eq_some_iff.1 hs').1
      exact ⟨us[k],by simp [hlt],hss k s _ hs' (by simp [hlt]),h1 _ (List.getElem_mem hlt)⟩
    · have:=h.klt _ _ k
      omega
theorem T.newarr (h:T w0 K0 nt st a w g) (i:Nat) (sz:Nat) (xs:List (List C)) (cur:Array Value) (E:TypeId) (cap:Nat) (w':World) (hw:w'=w.alloc (.cells cur E)∨w'=w.drew.alloc (.cells cur E))
    (hh:Holds g.K w sz xs cur) (h1:xs.length≤cap) (h2:cap≤maxLen) (h3:cur.size=cap*sz) :
    ∃ g',T w0 K0 nt ((st.clr i).setR i (some (.arr false sz xs 0))) a w' g'∧g'.loc i = .slice (some ⟨w.heap.size,0,none⟩) xs.length cap∧(∀ j,j≠i→g'.loc j=g.loc j)∧g'.K=g.K:=by
  have hB:w0.heap.size≤w.heap.size:=h.below.size
  refine ⟨_,T.new h i (.arr false sz xs 0) (.slice (some ⟨w.heap.size,0,none⟩) xs.length cap) w' (.cells cur E) hw rfl (fun g' R' hg' hk hb hn=>?_),by simp,fun j hj=>by simp [hj],rfl⟩
  exact .inr ⟨rfl,w.heap.size,cap,cur,E,by rw [hg'];simp,(fun e=>absurd e.1 (by omega)),hb,h1,h2,h3,Nat.zero_le _,hh.mono hk,fun o=>⟨fun k=>absurd k (hn o),fun k=>by simp at k⟩⟩
theorem T.append (h:T w0 K0 nt st a w g) {t xt ty s B:Nat} {d:TypeDesc} (ht:slT P t=some (s,B)) (hx:P.underlying xt=some d) (hd:∀ k,d≠.int k)
    {i:Nat} {nil:Bool} {sz:Nat} {xs ys:List (List C)} {fx:Nat} (hi:st.rs i=some (.arr nil sz xs fx)) (hsz:nil=false→sz=s)
    {x:Value} {news:List Value} (hs:Src P w s x ys.length news) (hh:Holds g.K w s ys news.toArray) (hB0:0<B) (hB:(xs.length+ys.length)*B≤140737488355328) :
    ∃ v w' g',(Builtin.append_ #[t,xt] ty #[g.loc i,x]).run P w = .ok v w'∧T w0 K0 nt ((st.clr i).setR i (some (.arr (nil && ys.isEmpty) s (xs++ys) fx))) a w' g'∧g'.loc i=v∧(∀ j,j≠i→g'.loc j=g.loc j)∧Keeps g.K w g'.K w':=by
  obtain ⟨e,ti,z,t1,t2,t3,t4,t5,rfl,rfl⟩:=slT_some ht
  have hBz:w0.heap.size≤w.heap.size:=h.below.size
  have h63:xs.length+ys.length≤maxLen:=by
    have:(xs.length+ys.length)*1≤(xs.length+ys.length)*ti.bytes:=Nat.mul_le_mul_left _ hB0
    simp only [maxLen];omega
  have hkeepA:∀ o,Keeps g.K w g.K (w.drew.alloc o):=fun o=>⟨fun _ _ k=>k,fun b o' k=>World.cell?_alloc_lt w.drew _ _ (h.klt b o' k)⟩
  have hheap:∀ (o:Obj) k,k<w.heap.size→(w.drew.alloc o).heap[k]? = w.heap[k]? := fun o k hk=>Below.heap_alloc w.drew o k hk
  have hbelowA:∀ o,BelowD w0.heap.size w (w.drew.alloc o):=fun o=>((BelowD.refl _ w).drew).alloc hBz o
  have grow:∀ (cap:Nat) (olds:List Value),Holds g.K w ti.size xs olds.toArray→olds.length=xs.length*ti.size →
      (nil && ys.isEmpty)=false→∀ C,C=grownCap w (xs.length+ys.length) cap e →
      fx≤xs.length→∃ g',T w0 K0 nt ((st.clr i).setR i (some (.arr (nil && ys.isEmpty) ti.size (xs++ys) fx))) a (w.drew.alloc (.cells (olds.toArray++news.toArray++Builtin.zeroCells z.cells (C-(xs.length+ys.length))) e)) g' ∧
        g'.loc i = .slice (some ⟨w.heap.size,0,none⟩) (xs.length+ys.length) C∧(∀ j,j≠i→g'.loc j=g.loc j)∧Keeps g.K w g'.K (w.drew.alloc (.cells (olds.toArray++news.toArray++Builtin.zeroCells z.cells (C-(xs.length+ys.length))) e)):=by
    intro cap olds ho hol hne C hC hfx
    have hge:=grownCap_ge w (xs.length+ys.length) cap e
    have hle:=grownCap_le_maxLen w (xs.length+ys.length) cap e h63
    rw [← hC] at hge hle
    have hT:=T.new h i (.arr (nil && ys.isEmpty) ti.size (xs++ys) 0) (.slice (some ⟨w.heap.size,0,none⟩) (xs.length+ys.length) C) _ (.cells (olds.toArray++news.toArray++Builtin.zeroCells z.cells (C-(xs.length+ys.length))) e) (.inr rfl) rfl (fun g' R' hg' hk hb hn=>?_)
    · obtain ⟨g',k1,k2,k3,_⟩:=hT.fix (by rw [St.rs_setR,if_pos rfl]) fx (Nat.zero_le _) (by simp;omega)
      refine ⟨g',k1.congr rfl ?_,by rw [k2];simp,fun j hj=>by rw [k2];simp [hj],(hkeepA _).trans k3⟩
      funext j
      simp only [St.rs_setR]
      split <;> rfl
    refine .inr ⟨hne,w.heap.size,C,_,e,by rw [hg'];simp,(fun e=>absurd e.1 (by omega)),hb,by simpa using hge,hle,?_,Nat.zero_le _,?_,fun o=>⟨fun k=>absurd k (hn o),fun k=>by simp at k⟩⟩
    · simp only [Array.size_append,List.size_toArray,size_zeroCells,t4,hol,hs.size,← Nat.add_mul]
      congr 1
      omega
    · have:=Holds.append (rest:=(Builtin.zeroCells z.cells (C-(xs.length+ys.length))).toList) ho (by simp [hol]) hh
      have h2:Holds g.K w ti.size (xs++ys) (olds.toArray++news.toArray++Builtin.zeroCells z.cells (C-(xs.length+ys.length))):=by
        have e1:(olds.toArray.toList.take (xs.length*ti.size))=olds:=by simp [← hol]
        rw [e1] at this
        have e2:(olds++news++(Builtin.zeroCells z.cells (C-(xs.length+ys.length))).toList).toArray=olds.toArray++news.toArray++Builtin.zeroCells z.cells (C-(xs.length+ys.length)):=by
          apply Array.ext';simp
        rw [e2] at this
        exact this
      exact h2.mono hk
  rcases h.res i _ hi with ⟨rfl,rfl,h3,rfl⟩ | ⟨rfl,b,cap,cur,E,h3,h4,h5,h6,h7,h8,h9,h10,h11⟩
  · rw [h3]
    by_cases hy:ys=[]
    · subst hy
      refine ⟨_,w,g,run_app_none t1 hx hd t2 hs,?_,h3,fun _ _=>rfl,Keeps.refl _ _⟩
      exact T.make h (Bel.refl _ _ _) (Keeps.refl _ _) h.kold h.klt (fun _ _=>rfl) (fun _ _ _ _ _ _=>⟨rfl,fun _ k=>k⟩) (fun j r hj hr b hb=>by rw [h3] at hb;simp [blk] at hb) (.inl ⟨rfl,rfl,h3,rfl⟩)
    · have hr:=run_app_grow (base:=none) (n:=0) (cap:=0) (olds:=[]) (ty:=ty) t1 hx hd t2 t3 hs (by simp [Builtin.firstCells]) (by have:=List.length_pos_iff.2 hy;omega) (by simpa using h63) (by simpa using hB)
      have hg:=grow 0 [] (fun j e h=>by simp at h) (by simp) (by simp [hy]) _ rfl (Nat.le_refl _)
      simp only [List.length_nil,Nat.zero_add] at hr hg
      obtain ⟨g',k1,k2,k3,k4⟩:=hg
      exact ⟨_,_,g',hr,k1,k2,k3,k4⟩
  · have e:sz=ti.size:=hsz rfl
    subst e
    rw [h3]
    by_cases hroom:xs.length+ys.length≤cap
    · have hcap:(xs.length+ys.length)*ti.size≤cap*ti.size:=Nat.mul_le_mul_right _ hroom
      have hfit:xs.length*ti.size+news.length≤cur.size:=by rw [hs.size,h8,← Nat.add_mul];exact hcap
      have hr:=run_app_room (ty:=ty) t1 hx hd t2 hs h5 hroom hfit
      have hlt:b<w.heap.size:=(Array.getElem?_eq_some_iff.1 h5).1
      have hoth:∀ k,k≠b→∀ cs,(w.setRow b cs).heap[k]? = w.heap[k]? := fun k hk cs=>setRow_other w b k cs hk
      have hxs:xs.length*ti.size≤cur.size:=by omega
      have hk:∀ rest:List Value,Keeps g.K w g.K (w.setRow b (cur.toList.take (xs.length*ti.size)++rest).toArray):=fun rest=>⟨fun _ _ k=>k,fun b' o k=>by
        by_cases hb:b'=b
        · subst hb
          have ho:=(h11 o).1 k
          have:fx*ti.size≤xs.length*ti.size:=Nat.mul_le_mul_right _ h9
          rw [cell_of_heap h5,cell_of_heap (setRow_heap w b' cur _ E _ h5)]
          rw [List.getElem?_toArray,List.getElem?_append_left (by simp;omega),List.getElem?_take,if_pos (by omega)]
          simp
        · simp only [World.cell?];rw [hoth b' hb]⟩
      have hk':=hk (news++cur.toList.drop (xs.length*ti.size+news.length))
      rw [← List.append_assoc] at hk'
      refine ⟨_,_,{ g with loc:=fun j=>if j=i then .slice (some ⟨b,0,none⟩) (xs.length+ys.length) cap else g.loc j },hr,?_,by simp,fun j hj=>by simp [hj],hk'⟩
      refine T.make h ⟨rfl,rfl,rfl,by simp,fun k hk=>hoth k (fun e=>h4 (e ▸ hk)) _,Nat.le_refl _⟩ hk' h.kold (fun b' o k=>by simpa using h.klt b' o k) (fun j hj=>by simp [hj]) (fun j r b' hj hrj hb=>⟨hoth b' (fun e=>?_) _,fun _ k=>k⟩) (fun j r hj hrj b' hb hb2=>?_) ?_
      · subst e;exact h.dis i j _ _ hi hrj (Ne.symm hj) b' (by rw [h3];rfl) hb
      · simp [blk] at hb
        subst hb
        exact h.dis i j _ _ hi hrj (Ne.symm hj) b (by rw [h3];rfl) hb2
      · refine .inr ⟨rfl,b,cap,_,E,by simp,h4,setRow_heap w b cur _ E _ h5,by simpa using hroom,h7,?_,by simp;omega,?_,h11⟩
        · simp only [List.size_toArray,List.length_append,List.length_take,List.length_drop,Array.length_toList]
          omega
        · exact (Holds.append h10 hxs hh).mono hk'
    · have hlt:b<w.heap.size:=(Array.getElem?_eq_some_iff.1 h5).1
      have hcap:xs.length*ti.size≤cap*ti.size:=Nat.mul_le_mul_right _ h6
      have hol:(cur.toList.take (xs.length*ti.size)).length=xs.length*ti.size:=by simp;omega
      have hfc:(Builtin.firstCells ti.size xs.length (.slice (some ⟨b,0,none⟩) xs.length cap)).run P w.drew = .ok (cur.toList.take (xs.length*ti.size)).toArray w.drew :=
        run_firstCells_some (P:=P) w.drew ti.size xs.length ⟨b,0,none⟩ _ _ _ hol (fun j v hj=>by
          rw [add_lit,Nat.zero_add,World.cell?_drew,cell_of_heap h5]
          rw [List.getElem?_take] at hj
          split at hj
          · simpa using hj
          · cases hj)
      have hr:=run_app_grow (ty:=ty) t1 hx hd t2 t3 hs hfc (by omega) h63 hB
      have hho:Holds g.K w ti.size xs (cur.toList.take (xs.length*ti.size)).toArray:=by
        intro j e hj
        obtain ⟨k1,k2⟩:=h10 j e hj
        refine ⟨k1,fun k c hc=>?_⟩
        obtain ⟨u,e1,e2⟩:=k2 k c hc
        refine ⟨u,?_,e2⟩
        have hjlt:j<xs.length:=(List.getElem?_eq_some_iff.1 hj).1
        have hklt:k<ti.size:=by rw [← k1];exact (List.getElem?_eq_some_iff.1 hc).1
        have:j*ti.size+k<xs.length*ti.size:=by
          have:(j+1)*ti.size≤xs.length*ti.size:=Nat.mul_le_mul_right _ (by omega)
          rw [Nat.add_mul] at this;omega
        rw [List.getElem?_toArray,List.getElem?_take,if_pos this]
        simpa using e1
      obtain ⟨g',k1,k2,k3,k4⟩:=grow cap _ hho hol rfl _ rfl h9
      exact ⟨_,_,g',hr,k1,k2,k3,k4⟩
end
def spl {α:Type} (l:List α) (off:Nat) (new:List α):List α:=l.take off++new++l.drop (off+new.length)
def cellsH (st:St):S→Option (List S)
  | .c x=>some [.c x]
  | .agg cs=>some (cs.map .c)
  | .st ss=>some ss
  | .ptr i o =>
    match st.rs i with
    | some (.box _ _)=>some [.ptr i o]
    | _=>none
  | .own i n =>
    match st.rs i with
    | some (.arr _ _ xs _)=>if xs.length=n then some [.own i n] else none
    | _=>none
  | _=>none
section
variable {P:Program} {w0:World} {K0:K0T} {nt:Nat} {st:St} {a:Act} {w:World} {g:G}
theorem spl_getElem {α:Type} {l new:List α} {off:Nat} (h:off+new.length≤l.length) (k:Nat) :
    (spl l off new)[k]? = if k<off then l[k]? else if k<off+new.length then new[k-off]? else l[k]? := by
  unfold spl
  have hl:(l.take off).length=off:=by simp;omega
  rw [List.append_assoc]
  by_cases h1:k<off
  · rw [if_pos h1,List.getElem?_append_left (by omega),List.getElem?_take,if_pos h1]
  · rw [if_neg h1,List.getElem?_append_right (by omega),hl]
    by_cases h2:k<off+new.length
    · rw [if_pos h2,List.getElem?_append_left (by omega)]
    · rw [if_neg h2,List.getElem?_append_right (by omega),List.getElem?_drop]
      congr 1
      omega
theorem spl_length {α:Type} {l new:List α} {off:Nat} (h:off+new.length≤l.length):(spl l off new).length=l.length:=by
  simp [spl];omega
theorem run_storeAt {t:TypeId} {agg:Bool} {n b off:Nat} {u:Value} {cur:Array Value} {E:TypeId} (ht:tySz P t=some (agg,n)) (hn:u.cells.size=n) (h1:∀ v∈u.cells.toList,v.oneCell'=true) (hb:w.heap[b]? = some (.cells cur E (0,0))) (hf:off+n≤cur.size) :
    (Instr.storeAt t (.pointer (some ⟨b,off,none⟩)) u).run P w = .ok () (w.setRow b (spl cur.toList off u.cells.toList).toArray):=by
  have hst:=run_storeCells_at P b off E u.cells.toList 0 cur w hb (by simp;omega) h1
  simp only [Nat.add_zero] at hst
  have hne:¬ (u.cells.size≠n):=by omega
  simp [Instr.storeAt,Instr.sureAddr,storeVar,run_sizeOf ht,hn,hst,spl]
theorem Holds_set {K:Nat→Nat→Prop} {sz:Nat} {xs:List (List C)} {cur:Array Value} {j o:Nat} {cs:List C} {us:List Value} (h:Holds K w sz xs cur) (hc:cur.size ≥ xs.length*sz) (hv:VR K w cs us) (hj:j<xs.length) (ho:o+cs.length≤sz) :
    Holds K w sz (xs.set j (spl (xs.getD j []) o cs)) (spl cur.toList (j*sz+o) us).toArray:=by
  have hl:=((VR_iff _ _).1 hv).1
  have hjs:(j+1)*sz≤xs.length*sz:=Nat.mul_le_mul_right _ (by omega)
  rw [Nat.add_mul] at hjs
  have hsp:j*sz+o+us.length≤cur.toList.length:=by simp;omega
  have hxj:(xs.getD j []).length=sz:=(h.elem hj).1
  intro m e hm
  rw [List.getElem?_set] at hm
  by_cases e1:j=m
  · subst e1
    rw [if_pos rfl,if_pos hj] at hm
    cases hm
    refine ⟨by rw [spl_length (by omega),hxj],fun k c hk=>?_⟩
    rw [spl_getElem (by omega)] at hk
    rw [List.getElem?_toArray,spl_getElem hsp]
    have hold:∀ k,(xs.getD j [])[k]? = some c→∃ u,cur.toList[j*sz+k]? = some u∧CR K w c u:=fun k hk=>by
      obtain ⟨u,k1,k2⟩:=(h j (xs.getD j []) (by simp [List.getD,List.getElem?_eq_getElem hj])).2 k c hk
      exact ⟨u,by simpa using k1,k2⟩
    by_cases c1:k<o
    · rw [if_pos c1] at hk
      rw [if_pos (by omega)]
      exact hold k hk
    · rw [if_neg c1] at hk
      rw [if_neg (by omega)]
      by_cases c2:k<o+cs.length
      · rw [if_pos c2] at hk
        rw [if_pos (by omega)]
        have c3:k-o<us.length:=by omega
        refine ⟨us[k-o],?_,((VR_iff _ _).1 hv).2 _ c _ hk (by simp [c3])⟩
        rw [show j*sz+k-(j*sz+o)=k-o from by omega]
        simp [c3]
      · rw [if_neg c2] at hk
        rw [if_neg (by omega)]
        exact hold k hk
  · rw [if_neg e1] at hm
    obtain ⟨k1,k2⟩:=h m e hm
    refine ⟨k1,fun k c hk=>?_⟩
    obtain ⟨u,k3,k4⟩:=k2 k c hk
    refine ⟨u,?_,k4⟩
    have hklt:k<sz:=by rw [← k1];exact (List.getElem?_eq_some_iff.1 hk).1
    rw [List.getElem?_toArray,spl_getElem hsp]
    have:m*sz+k<j*sz+o∨j*sz+o+us.length≤m*sz+k:=by
      rcases Nat.lt_or_gt_of_ne e1 with h' | h'
      · right
        have:(j+1)*sz≤m*sz:=Nat.mul_le_mul_right _ h'
        rw [Nat.add_mul] at this;omega
      · left
        have:(m+1)*sz≤j*sz:=Nat.mul_le_mul_right _ h'
        rw [Nat.add_mul] at this;omega
    rcases this with h' | h'
    · rw [if_pos h'];simpa using k3
    · rw [if_neg (by omega),if_neg (by omega)];simpa using k3
theorem T.rewrite (h:T w0 K0 nt st a w g) {i:Nat} {r0 r:Res} {b:Nat} {cur:Array Value} {E:TypeId} {cs:List Value} (hi:st.rs i=some r0) (hb:blk (g.loc i)=some b) (hc:w.heap[b]? = some (.cells cur E (0,0)))
    (hK:∀ o,g.K b o→cs[o]? = cur[o]?)
    (hsh:(∃ fz0 ss0 fz ss,r0 = .box fz0 ss0∧r = .box fz ss)∨(∃ nil0 sz xs0 fx0 nil xs fx,r0 = .arr nil0 sz xs0 fx0∧r = .arr nil sz xs fx∧xs0.length=xs.length))
    (hr:(∀ j,Cmp g st.rs g (st.setR i (some r)).rs j)→Keeps g.K w g.K (w.setRow b cs.toArray)→(w.setRow b cs.toArray).heap[b]? = some (.cells cs.toArray E (0,0))→RR g (w.setRow b cs.toArray) (st.setR i (some r)).rs (fun b=>¬ Old w0 K0 b) i r) :
    T w0 K0 nt (st.setR i (some r)) a (w.setRow b cs.toArray) g:=by
  have hB:=((h.res i r0 hi).block hb).1
  have hheap:=setRow_heap w b cur cs.toArray E (0,0) hc
  have hoth:∀ k,k≠b→(w.setRow b cs.toArray).heap[k]? = w.heap[k]? := fun k hk=>setRow_other w b k _ hk
  have hk:Keeps g.K w g.K (w.setRow b cs.toArray):=⟨fun _ _ k=>k,fun b' o k=>by
    by_cases e:b'=b
    · subst e
      rw [cell_of_heap hheap,cell_of_heap hc,List.getElem?_toArray]
      exact hK o k
    · simp only [World.cell?];rw [hoth b' e]⟩
  refine T.mod h hi ⟨rfl,rfl,rfl,by simp,fun k hk=>hoth k (fun e=>hB (e ▸ hk)),Nat.le_refl _⟩ hk h.kold (fun b' o k=>by simpa using h.klt b' o k) rfl (fun j r' b' hj hrj hbj=>⟨hoth b' (fun e=>?_),fun _ k=>k⟩) (hsh.elim .inl fun x=>.inr (.inl x)) (fun hcmp=>hr hcmp hk hheap)
  subst e
  exact h.dis i j _ _ hi hrj (Ne.symm hj) b' hb hbj
theorem T.store_box (h:T w0 K0 nt st a w g) {i off:Nat} {ss new:List S} (hi:st.rs i=some (.box false ss)) {t:TypeId} {agg:Bool} {n:Nat} (ht:tySz P t=some (agg,n)) {u ad:Value} (had:SR g w st.rs (.ptr i off) ad)
    (hs:SRs g w st.rs new u.cells.toList) (h1:∀ v∈u.cells.toList,v.oneCell'=true) (hn:new.length=n) (hf:off+n≤ss.length) :
    ∃ w',(Instr.storeAt t ad u).run P w = .ok () w'∧T w0 K0 nt (st.setR i (some (.box false (spl ss off new)))) a w' g:=by
  rw [SR] at had
  obtain ⟨b,hb,rfl⟩:=had false ss hi
  obtain ⟨b',cur,E,e1,e2,e3,e4,e5,e6⟩:=h.res i _ hi
  rw [hb] at e1
  simp at e1;subst e1
  obtain ⟨hl,hs'⟩:=(SRs_iff _ _).1 hs
  have hsz:u.cells.size=n:=by simpa [hn] using hl
  refine ⟨_,run_storeAt ht hsz h1 e3 (by omega),?_⟩
  refine T.rewrite h hi (by rw [hb];rfl) e3 (fun o k=>by have:=e6 o k;simp at this) (.inl ⟨false,ss,false,_,rfl,rfl⟩) (fun hcmp hk hh=>?_)
  have hlen:off+u.cells.toList.length≤cur.toList.length:=by simp;omega
  refine ⟨b,_,E,hb,e2,hh,by have q1:=spl_length hlen;have q2:(spl ss off new).length=ss.length:=spl_length (by omega);simp only [List.size_toArray];rw [q1,q2];simpa using e4,fun k s hk'=>?_,fun o k=>by have:=e6 o k;simp at this⟩
  rw [spl_getElem (by omega)] at hk'
  have conv:∀ (s:S) (v:Value),SR g w st.rs s v→SR g (w.setRow b (spl cur.toList off u.cells.toList).toArray) (st.setR i (some (.box false (spl ss off new)))).rs s v:=fun s v hv=>SR.mono hk s v (fun j _=>hcmp j) hv
  rw [List.getElem?_toArray,spl_getElem hlen]
  have hul:u.cells.toList.length=new.length:=hl
  by_cases c1:k<off
  · rw [if_pos c1] at hk' ⊢
    obtain ⟨v,f1,f2,f3⟩:=e5 k s hk'
    exact ⟨v,by simpa using f1,conv _ _ f2,f3⟩
  · rw [if_neg c1] at hk' ⊢
    by_cases c2:k<off+new.length
    · rw [if_pos c2] at hk'
      rw [if_pos (by omega)]
      have c3:k-off<u.cells.toList.length:=by omega
      exact ⟨u.cells.toList[k-off],by simp,conv _ _ (hs' _ s _ hk' (by simp)),h1 _ (List.getElem_mem c3)⟩
    · rw [if_neg c2] at hk'
      rw [if_neg (by omega)]
      obtain ⟨v,f1,f2,f3⟩:=e5 k s hk'
      exact ⟨v,by simpa using f1,conv _ _ f2,f3⟩
theorem T.store_arr (h:T w0 K0 nt st a w g) {i m j o:Nat} {nil:Bool} {sz:Nat} {xs:List (List C)} {fx:Nat} {cs:List C} (hi:st.rs i=some (.arr nil sz xs fx)) {t:TypeId} {agg:Bool} {n:Nat} (ht:tySz P t=some (agg,n)) {u ad:Value} (had:SR g w st.rs (.ep i m j o) ad)
    (hm:xs.length=m) (hj:j<m) (hv:VR g.K w cs u.cells.toList) (h1:∀ v∈u.cells.toList,v.oneCell'=true) (hn:cs.length=n) (hf:o+n≤sz) (hfx:fx≤j) :
    ∃ w',(Instr.storeAt t ad u).run P w = .ok () w'∧T w0 K0 nt (st.setR i (some (.arr nil sz (xs.set j (spl (xs.getD j []) o cs)) fx))) a w' g:=by
  rw [SR] at had
  obtain ⟨b,cap,hb,rfl⟩:=had nil sz xs fx hi hm
  rcases h.res i _ hi with ⟨_,_,e,_⟩ | ⟨e0,b',cap',cur,E,e1,e2,e3,e4,e5,e6,e7,e8,e9⟩
  · rw [hb] at e;simp at e
  · rw [hb] at e1
    simp at e1
    obtain ⟨rfl,_,rfl⟩:=e1
    have hl:=((VR_iff _ _).1 hv).1
    have hcap:xs.length*sz≤cap*sz:=Nat.mul_le_mul_right _ e4
    have hjs:(j+1)*sz≤xs.length*sz:=Nat.mul_le_mul_right _ (by omega)
    have hfs:fx*sz≤j*sz:=Nat.mul_le_mul_right _ hfx
    rw [Nat.add_mul] at hjs
    have hsz:u.cells.size=n:=by simpa [hn] using hl
    have hsp:j*sz+o+u.cells.toList.length≤cur.toList.length:=by simp;omega
    refine ⟨_,run_storeAt ht hsz h1 e3 (by omega),?_⟩
    refine T.rewrite h hi (by rw [hb];rfl) e3 (fun o' k=>?_) (.inr ⟨nil,sz,xs,fx,nil,_,fx,rfl,rfl,by simp⟩) (fun hcmp hk hh=>?_)
    · have:=(e9 o').1 k
      rw [spl_getElem hsp,if_pos (by omega)]
      simp
    · refine .inr ⟨e0,b,cap,_,E,by simp [hb,hm],e2,hh,by simp;omega,e5,by simp [spl_length hsp,e6],by simp;omega,?_,e9⟩
      exact (Holds_set e8 (by omega) hv (by omega) (by omega)).mono hk
end
inductive Rt where
  | c (x:C)
  | ag (cs:List C)
  | fr (nil:Bool) (sz:Nat) (xs:List (List C)) (fx:Nat)
def RtR (K:Nat→Nat→Prop) (w:World) (B:Nat):Rt→Value→Prop
  | .c x,u=>CR K w x u
  | .ag cs,u=>∃ us:List Value,u = .agg us.toArray∧VR K w cs us
  | .fr nil sz xs fx,u=>RR ⟨K,fun _=>u⟩ w (fun _=>none) (fun b=>B≤b) 0 (.arr nil sz xs fx)
def isFr:Rt→Bool
  | .fr .. => true
  | _=>false
def RtRs (K:Nat→Nat→Prop) (w:World) (B:Nat) (rs:List Rt) (vs:List Value):Prop :=
  vs.length=rs.length∧(∀ (k:Nat) r v,rs[k]? = some r→vs[k]? = some v→RtR K w B r v) ∧
    ∀ (j k:Nat) r r' v v',j≠k→rs[j]? = some r→rs[k]? = some r'→vs[j]? = some v→vs[k]? = some v'→isFr r=true→isFr r'=true→∀ b,blk v=some b→blk v'≠some b
def retV:List Value→Value
  | [v]=>v
  | vs=>.tuple vs.toArray
def DRs (K:Nat→Nat→Prop) (w:World) (ss:List S) (us:List Value):Prop:=SRs ⟨K,fun _=>undef⟩ w (fun _=>none) ss us
def callable (P:Program) (f:FuncId):Bool :=
  match P.funcs[f]? with
  | some fn=>fn.name != "runtime.NumGoroutine" && fn.body.isSome
  | none=>false
def Runs (P:Program) (f:FuncId) (us:Array Value) (w:World) (R:Ending→World→Prop):Prop :=
  (callable P f=true∧Calls P f us w R)∨∃ v w',(callFunc f us).run P w = .ok (.value v) w'∧R (.returned v) w'
theorem Runs.mono {P:Program} {f:FuncId} {us:Array Value} {w:World} {R R':Ending→World→Prop} (h:Runs P f us w R) (hr:∀ e w',R e w'→R' e w'):Runs P f us w R':=by
  rcases h with ⟨h1,h2⟩ | ⟨v,w',h1,h2⟩
  · exact .inl ⟨h1,h2.mono hr⟩
  · exact .inr ⟨v,w',h1,hr _ _ h2⟩
theorem run_callable {P:Program} {f:FuncId} (hcall:callable P f=true) (us:Array Value) (w:World):(callFunc f us).run P w = .ok (.enter f us) w:=by
  unfold callable at hcall
  split at hcall
  · rename_i fn hfn
    simp only [Bool.and_eq_true,bne_iff_ne,ne_eq] at hcall
    obtain ⟨c1,c2⟩:=hcall
    have c3:(fn.name == "runtime.NumGoroutine")=false:=by simpa using c1
    have c4:fn.body.isNone=false:=by
      cases hb:fn.body with
      | none=>rw [hb] at c2;simp at c2
      | some b=>rfl
    simp only [callFunc,run_program,Sem.run_bind,Sem.run_pure,Result.andThen_ok,hfn,c3,c4,Bool.false_eq_true,if_false]
  · cases hcall
theorem Runs.calls' {P:Program} {f:FuncId} {us:Array Value} {w:World} {R:Ending→World→Prop} (hc:(callFunc f us).run P w = .ok (.enter f us) w) (h:Runs P f us w R):Calls P f us w R:=by
  rcases h with ⟨_,h2⟩ | ⟨v,w',h1,_⟩
  · exact h2
  · rw [hc] at h1;cases h1
theorem Runs.calls {P:Program} {f:FuncId} {us:Array Value} {w:World} {R:Ending→World→Prop} (hc:callable P f=true) (h:Runs P f us w R):Calls P f us w R:=by
  rcases h with ⟨_,h2⟩ | ⟨v,w',h1,_⟩
  · exact h2
  · rw [run_callable hc] at h1;cases h1
theorem wp_runs {P:Program} {o:Oper} {a:Act} {w:World} {next:Act→World→Prop} {Q:Exit→Act→World→Prop} {c:Call} {f:Operand} {fid:FuncId} {us:List Value} {R:Ending→World→Prop}
    (ho:o.op = .call c) (hc:c.callee = .value f) (hfv:a.eval f = .func (.func fid) #[] us.toArray) (h:Runs P fid ((c.args.toList.map a.eval++us).toArray) w R)
    (hR:∀ e w',R e w'→∃ v,e = .returned v∧next (a.put o.dst v) w'):o.wp P a w next Q:=by
  obtain ⟨cal,args,ats⟩:=c
  simp only at hc
  subst hc
  have harr:(args.map a.eval)++us.toArray=(args.toList.map a.eval++us).toArray:=by
    apply Array.ext';simp
  have hex:(execOp a.eval o).run P w=(callFunc fid ((args.toList.map a.eval++us).toArray)).run P w:=by
    simp only [execOp,ho,resolve,Deferred.ofValue,hfv,Sem.run_bind,Sem.run_pure,Result.andThen_ok,invoke,Array.empty_append]
    rw [harr]
  unfold Oper.wp
  rw [hex]
  rcases h with ⟨h1,h2⟩ | ⟨v,w',h1,h2⟩
  · rw [run_callable h1,Oper.upon_enter]
    refine h2.mono fun e w' hr=>?_
    obtain ⟨v,rfl,hn⟩:=hR _ _ hr
    exact hn
  · rw [h1,Oper.upon_value]
    obtain ⟨v',e1,hn⟩:=hR _ _ h2
    cases e1
    exact hn
def Con (P:Program) (f:FuncId) (args:List S) (rs:List Rt):Prop :=
  ∀ (w:World) (K:Nat→Nat→Prop) (us:List Value),(∀ b o,K b o→b<w.heap.size)→DRs K w args us →
    Runs P f us.toArray w fun e w'=>∃ vs:List Value,e = .returned (retV vs)∧BelowD w.heap.size w w' ∧
      ∃ K':Nat→Nat→Prop,(∀ b o,K b o→K' b o)∧(∀ b o,K' b o→b<w.heap.size→K b o)∧(∀ b o,K' b o→b<w'.heap.size)∧RtRs K' w' w.heap.size rs vs
theorem Con.of {P:Program} {f:FuncId} {args:List S} {rs:List Rt} (hc:callable P f=true) (h:∀ (w:World) (K:Nat→Nat→Prop) (us:List Value),(∀ b o,K b o→b<w.heap.size)→DRs K w args us →
    Calls P f us.toArray w fun e w'=>∃ vs:List Value,e = .returned (retV vs)∧BelowD w.heap.size w w' ∧
      ∃ K':Nat→Nat→Prop,(∀ b o,K b o→K' b o)∧(∀ b o,K' b o→b<w.heap.size→K b o)∧(∀ b o,K' b o→b<w'.heap.size)∧RtRs K' w' w.heap.size rs vs):Con P f args rs :=
  fun w K us hK hd=>.inl ⟨hc,h w K us hK hd⟩
def vret1 (st:St) (N:Nat):Rt→S × St
  | .c x=>(.c x,st)
  | .ag cs=>(.agg cs,st)
  | .fr nil sz xs fx=>(.own N xs.length,(st.clr N).setR N (some (.arr nil sz xs fx)))
def vrets (st:St) (N:Nat):List Rt→List S × St
  | []=>([],st)
  | r::rest=>((vret1 st N r).1::(vrets (vret1 st N r).2 (N+1) rest).1,(vrets (vret1 st N r).2 (N+1) rest).2)
def vret (st:St) (dst:Option Nat) (rs:List Rt):St :=
  match dst,rs with
  | none,_=>st
  | some d,[r]=>(vret1 st (64*d) r).2.put d (vret1 st (64*d) r).1
  | some d,rs=>(vrets st (64*d+1) rs).2.put d (.tup (vrets st (64*d+1) rs).1)
section
variable {P:Program} {w0:World} {K0:K0T} {nt:Nat} {st:St} {a:Act} {w:World} {g:G}
theorem DRs_of {ss:List S} {us:List Value} (h:SRs g w st.rs ss us):DRs g.K w ss us :=
  SRs.mono (g:=g) (g':=⟨g.K,fun _=>undef⟩) (R':=fun _=>none) (Keeps.refl _ _) ss us (fun _ _=>⟨fun _ _ h=>by simp at h,fun _ _ _ _ h=>by simp at h,fun _ h=>by simp at h⟩) h
theorem T.adopt (h:T w0 K0 nt st a w g) (i:Nat) {nil:Bool} {sz:Nat} {xs:List (List C)} {fx:Nat} {v:Value} (hr:RtR g.K w w0.heap.size (.fr nil sz xs fx) v)
    (hd:∀ j r,j≠i→st.rs j=some r→∀ b,blk v=some b→blk (g.loc j)≠some b) :
    T w0 K0 nt ((st.clr i).setR i (some (.arr nil sz xs fx))) a w { g with loc:=fun j=>if j=i then v else g.loc j } := by
  refine T.make h (g':={ g with loc:=fun j=>if j=i then v else g.loc j }) (Bel.refl _ _ _) (Keeps.refl _ _) h.kold h.klt (fun j hj=>by simp [hj]) (fun _ _ _ _ _ _=>⟨rfl,fun _ k=>k⟩) (fun j r hj hrj b hb=>hd j r hj hrj b (by simpa using hb)) ?_
  rw [RtR] at hr
  rcases hr with ⟨h1,h2,h3,h4⟩ | ⟨h0,b,cap,cur,E,h1,h2,h3,h4,h5,h6,h7,h8,h9⟩
  · exact .inl ⟨h1,h2,by simpa using h3,h4⟩
  · exact .inr ⟨h0,b,cap,cur,E,by simpa using h1,(fun e=>absurd e.1 (by omega)),h3,h4,h5,h6,h7,h8,h9⟩
theorem T.rets (hb0:w0.heap.size≤w.heap.size):∀ (rs:List Rt) (vs:List Value) (st:St) (g:G) (N B1:Nat) (used:List Value),T w0 K0 nt st a w g →
    (∀ i r b,st.rs i=some r→blk (g.loc i)=some b→b<B1∨∃ v∈used,blk v=some b)→RtRs g.K w B1 rs vs→w0.heap.size≤B1 →
    (∀ (k:Nat) r v,rs[k]? = some r→vs[k]? = some v→isFr r=true→∀ u∈used,∀ b,blk v=some b→blk u≠some b) →
    ∃ g',T w0 K0 nt (vrets st N rs).2 a w g'∧SRs g' w (vrets st N rs).2.rs (vrets st N rs).1 vs∧g'.K=g.K ∧
      (∀ j,(∀ k,k<rs.length→j≠N+k)→g'.loc j=g.loc j)∧(∀ s u,(∀ k,k<rs.length→s.men (N+k)=false)→SR g w st.rs s u→SR g' w (vrets st N rs).2.rs s u)
  | [],vs,st,g,N,B1,used,h,hu,hr,hB,hdu=>by
    obtain ⟨h1,_,_⟩:=hr
    have:vs=[]:=List.eq_nil_of_length_eq_zero (by simpa using h1)
    subst this
    exact ⟨g,h,by rw [vrets,SRs],rfl,fun _ _=>rfl,fun s u _ hs=>hs⟩
  | r::rest,vs,st,g,N,B1,used,h,hu,hr,hB,hdu=>by
    obtain ⟨h1,h2,h3⟩:=hr
    cases vs with
    | nil=>simp at h1
    | cons v vs =>
      have hrest:∀ g':G,g'.K=g.K→RtRs g'.K w B1 rest vs:=fun g' e=>by
        rw [e]
        exact ⟨by simpa using h1,fun k r' v' e1 e2=>h2 (k+1) r' v' (by simpa using e1) (by simpa using e2),fun j k r1 r2 v1 v2 hjk e1 e2 e3 e4 =>
          h3 (j+1) (k+1) r1 r2 v1 v2 (by omega) (by simpa using e1) (by simpa using e2) (by simpa using e3) (by simpa using e4)⟩
      have h0:=h2 0 r v rfl rfl
      have data:∀ (s:S),(vret1 st N r)=(s,st)→SR g w st.rs s v→isFr r=false→(∀ k,k<(r::rest).length→s.men (N+k)=false) →
          ∃ g',T w0 K0 nt (vrets st N (r::rest)).2 a w g'∧SRs g' w (vrets st N (r::rest)).2.rs (vrets st N (r::rest)).1 (v::vs)∧g'.K=g.K ∧
            (∀ j,(∀ k,k<(r::rest).length→j≠N+k)→g'.loc j=g.loc j)∧(∀ s u,(∀ k,k<(r::rest).length→s.men (N+k)=false)→SR g w st.rs s u→SR g' w (vrets st N (r::rest)).2.rs s u):=by
        intro s hs hsr hf hm
        obtain ⟨g',k1,k2,k3,k4,k5⟩:=T.rets hb0 rest vs st g (N+1) B1 used h hu (hrest g rfl) hB (fun k r' v' e1 e2 e3=>hdu (k+1) r' v' (by simpa using e1) (by simpa using e2) e3)
        have e1:(vrets st N (r::rest)).2=(vrets st (N+1) rest).2:=by rw [vrets,hs]
        have e2:(vrets st N (r::rest)).1=s::(vrets st (N+1) rest).1:=by rw [vrets,hs]
        rw [e1,e2]
        refine ⟨g',k1,?_,k3,fun j hj=>k4 j (fun k hk=>by have:=hj (k+1) (by simp;omega);omega),fun s' u' hm' hs'=>k5 s' u' (fun k hk=>by rw [show N+1+k=N+(k+1) from by omega];exact hm' (k+1) (by simp;omega)) hs'⟩
        rw [SRs]
        exact ⟨v,vs,rfl,k5 s v (fun k hk=>by rw [show N+1+k=N+(k+1) from by omega];exact hm (k+1) (by simp;omega)) hsr,k2⟩
      cases r with
      | c x=>exact data (.c x) rfl (by rw [SR];rw [RtR] at h0;exact h0) rfl (fun _ _=>rfl)
      | ag cs=>exact data (.agg cs) rfl (by rw [SR];rw [RtR] at h0;exact h0) rfl (fun _ _=>rfl)
      | fr nil sz xs fx =>
        have hfr:RtR g.K w w0.heap.size (.fr nil sz xs fx) v:=by
          rw [RtR] at h0 ⊢
          rcases h0 with h0 | ⟨q0,b,cap,cur,E,q1,q2,q3⟩
          · exact .inl h0
          · exact .inr ⟨q0,b,cap,cur,E,q1,by omega,q3⟩
        have hge:∀ b,blk v=some b→B1≤b:=fun b hb=>by
          rw [RtR] at h0
          rcases h0 with ⟨_,_,q,_⟩ | ⟨_,b',cap,cur,E,q1,q2,q3⟩
          · simp at q;rw [q] at hb;simp [blk] at hb
          · simp at q1;rw [q1] at hb;simp [blk] at hb;omega
        have hT':=h.adopt N hfr (fun j r' hj hrj b hb hb2=>by
          rcases hu j r' b hrj hb2 with h' | ⟨u,hu1,hu2⟩
          · have:=hge b hb;omega
          · exact hdu 0 _ v rfl rfl rfl u hu1 b hb hu2)
        obtain ⟨g',k1,k2,k3,k4,k5⟩:=T.rets hb0 rest vs ((st.clr N).setR N (some (.arr nil sz xs fx))) { g with loc:=fun j=>if j=N then v else g.loc j } (N+1) B1 (v::used) hT'
          (fun i r' b hi hb=>by
            by_cases e:i=N
            · subst e;simp at hb;exact .inr ⟨v,by simp,hb⟩
            · rw [St.rs_setR,if_neg (Ne.symm e),St.rs_clr] at hi
              simp only [Option.map_eq_some_iff] at hi
              obtain ⟨r0,hr0,_⟩:=hi
              simp [e] at hb
              rcases hu i r0 b hr0 hb with h' | ⟨u,q1,q2⟩
              · exact .inl h'
              · exact .inr ⟨u,by simp [q1],q2⟩)
          (hrest _ rfl) hB (fun k r' v' e1 e2 e3 u hu1 b hb hb2=>by
            rcases List.mem_cons.1 hu1 with rfl | hu1
            · exact h3 (k+1) 0 r' _ v' u (by omega) (by simpa using e1) rfl (by simpa using e2) rfl e3 rfl b hb hb2
            · exact hdu (k+1) r' v' (by simpa using e1) (by simpa using e2) e3 u hu1 b hb hb2)
        have e1:(vrets st N (.fr nil sz xs fx::rest)).2=(vrets ((st.clr N).setR N (some (.arr nil sz xs fx))) (N+1) rest).2:=rfl
        have e2:(vrets st N (.fr nil sz xs fx::rest)).1 = .own N xs.length::(vrets ((st.clr N).setR N (some (.arr nil sz xs fx))) (N+1) rest).1:=rfl
        rw [e1,e2]
        refine ⟨g',k1,?_,k3,fun j hj=>?_,fun s u hm hs=>k5 s u (fun k hk=>by rw [show N+1+k=N+(k+1) from by omega];exact hm (k+1) (by simp;omega)) ?_⟩
        · rw [SRs]
          refine ⟨v,vs,rfl,k5 (.own N xs.length) v (fun k hk=>by simp [S.men];omega) ?_,k2⟩
          rw [SR]
          intro nil' sz' xs' fx' hr' _
          simp
        · rw [k4 j (fun k hk=>by have:=hj (k+1) (by simp;omega);omega)]
          have:=hj 0 (by simp)
          simp at this
          simp [this]
        · refine SR.mono (g:=g) (g':={ g with loc:=fun j=>if j=N then v else g.loc j }) (Keeps.refl _ _) s u (fun j hj=>?_) hs
          have hjN:j≠N:=fun e=>by subst e;have:=hm 0 (by simp);simp at this;rw [hj] at this;cases this
          have hR:((st.clr N).setR N (some (.arr nil sz xs fx))).rs j=(st.rs j).map (Res.clr N):=by rw [St.rs_setR,if_neg (Ne.symm hjN),St.rs_clr]
          refine ⟨fun fz ss e=>?_,fun nil sz xs fx e=>?_,fun kvs e=>?_⟩
          · rw [hR] at e
            cases hs':st.rs j with
            | none=>simp [hs'] at e
            | some r0=>cases r0 with
              | box fz0 ss0=>exact ⟨⟨fz0,ss0,rfl⟩,by simp [hjN]⟩
              | arr _ _ _ _=>simp [hs',Res.clr] at e
              | pin _ _=>simp [hs',Res.clr] at e
              | map _=>simp [hs',Res.clr] at e
          · rw [hR] at e
            cases hs':st.rs j with
            | none=>simp [hs'] at e
            | some r0=>cases r0 with
              | box fz0 ss0=>simp [hs',Res.clr] at e
              | arr nil0 sz0 xs0 fx0 =>
                simp [hs',Res.clr] at e
                obtain ⟨rfl,rfl,rfl,rfl⟩:=e
                exact ⟨⟨_,_,_,rfl,rfl⟩,by simp [hjN]⟩
              | pin _ _=>simp [hs',Res.clr] at e
              | map _=>simp [hs',Res.clr] at e
          · rw [hR] at e
            cases hs':st.rs j with
            | none=>simp [hs'] at e
            | some r0=>cases r0 with
              | box fz0 ss0=>simp [hs',Res.clr] at e
              | arr _ _ _ _=>simp [hs',Res.clr] at e
              | pin _ _=>simp [hs',Res.clr] at e
              | map k0 =>
                simp [hs',Res.clr] at e
                exact ⟨⟨k0,rfl,by rw [← e,MB.sh_clr]⟩,by simp [hjN]⟩
end
end Go.VL
