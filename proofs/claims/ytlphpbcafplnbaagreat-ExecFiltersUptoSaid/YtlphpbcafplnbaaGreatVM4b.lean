/- Contracts of functions of the seat, proved in a logic on data over the model (part VM4b). -/
import Derived.Maps.RangeRun
import Derived.Test.YtlphpbcafplnbaaGreatV12
set_option linter.unusedSimpArgs false
set_option linter.unusedVariables false
namespace Go.VL
open Go.RowKit Go.ChangeMaps
theorem allCs_eq:∀ (ss:List S) (cs:List C),allCs ss=some cs→ss=cs.map .c
  | [],cs,h=>by simp [allCs] at h;subst h;rfl
  | s::r,cs,h=>by
    unfold allCs at h
    split at h
    · rename_i e;cases e
    · rename_i x r' e
      cases e
      simp only [Option.map_eq_some_iff] at h
      obtain ⟨l,h1,rfl⟩:=h
      rw [List.map_cons,allCs_eq r l h1]
    · cases h
theorem SRs_c {g:G} {w:World} {R:Nat→Option Res} : ∀ (cs:List C) (us:List Value),SRs g w R (cs.map .c) us→VR g.K w cs us
  | [],us,h=>by rw [List.map_nil,SRs] at h;rw [VR];exact h
  | c::r,us,h=>by
    rw [List.map_cons,SRs] at h
    obtain ⟨u,us',rfl,h1,h2⟩:=h
    rw [SR] at h1
    rw [VR]
    exact ⟨u,us',rfl,h1,SRs_c r us' h2⟩
theorem SR_entS {g:G} {w:World} {R:Nat→Option Res} {cs:List S} {u:Value} (h:EntR g w R cs u):SR g w R (entS cs) u:=by
  unfold EntR at h
  unfold entS
  split at h
  · exact h.1
  · rename_i hne
    split
    · rename_i c;exact absurd rfl (hne c)
    · obtain ⟨us,h1,h2,h3⟩:=h
      split
      · rename_i l hl
        rw [SR]
        exact ⟨us,h1,SRs_c l us (by rw [← allCs_eq _ _ hl];exact h2)⟩
      · rw [SR];exact ⟨us,h1,h2,h3⟩
theorem MapR.set {g:G} {w:World} {R:Nat→Option Res} {k:Value} {cs:List S} {v:Value} (hv:EntR g w R cs v):∀ (kvs:List (Value × List S)) (es:List MapEntry) (j:Nat),MapR g w R kvs es→MapR g w R (kvs.set j (k,cs)) (es.modify j fun e=>{ e with key:=k,val:=v })
  | [],es,j,h=>by have:es=[]:=h;subst this;cases j <;> simp [MapR]
  | x::r,es,0,h=>by
    obtain ⟨e,es',rfl,h2,h3,h4⟩:=h
    exact ⟨{ e with key:=k,val:=v },es',by simp,rfl,hv,h4⟩
  | x::r,es,j+1,h=>by
    obtain ⟨e,es',rfl,h2,h3,h4⟩:=h
    exact ⟨e,_,by simp,h2,h3,MapR.set hv r es' j h4⟩
theorem MapR.push {g:G} {w:World} {R:Nat→Option Res} {k:Value} {cs:List S} {v:Value} {ck:Nat} (hv:EntR g w R cs v):∀ (kvs:List (Value × List S)) (es:List MapEntry),MapR g w R kvs es→MapR g w R (kvs++[(k,cs)]) (es++[{ key:=k,val:=v,born:=ck }])
  | [],es,h=>by have:es=[]:=h;subst this;exact ⟨_,[],rfl,rfl,hv,rfl⟩
  | x::r,es,h=>by
    obtain ⟨e,es',rfl,h2,h3,h4⟩:=h
    exact ⟨e,_,rfl,h2,h3,MapR.push hv r es' h4⟩
section
variable {P:Program} {w0:World} {K0:K0T} {nt:Nat} {st:St} {a:Act} {w:World} {g:G} {o:Oper} {e:Operand→S} {K:St→Prop} {next:Act→World→Prop} {Q:Exit→Act→World→Prop}
theorem EntR_entC (h:T w0 K0 nt st a w g) {s:S} {cs:List S} {u:Value} (hc:entC st s=some cs) (hs:SR g w st.rs s u):EntR g w st.rs cs u:=by
  have agg:∀ ss:List S,ss.length≠1→(∃ us:List Value,u = .agg us.toArray∧SRs g w st.rs ss us∧∀ v∈us,v.oneCell'=true)→EntR g w st.rs ss u:=fun ss hl hh=>by
    unfold EntR
    split
    · simp at hl
    · exact hh
  unfold entC at hc
  split at hc
  · rename_i cs'
    split at hc
    · cases hc
    · rename_i hl
      cases hc
      have h2:=cellsH_ok h (s:=.agg cs') (cs:=cs'.map .c) rfl hs
      rw [SR] at hs
      obtain ⟨us,rfl,hv⟩:=hs
      exact agg _ (by simpa using hl) ⟨us,rfl,by simpa [Value.cells] using h2.1,by simpa [Value.cells] using h2.2⟩
  · rename_i ss
    split at hc
    · cases hc
    · rename_i hl
      cases hc
      rw [SR] at hs
      obtain ⟨us,rfl,h1,h2⟩:=hs
      exact agg _ hl ⟨us,rfl,h1,h2⟩
  · rename_i n1 n2
    have h2:=(cellsH_ok h hc hs).2
    have one:u.oneCell'=true→EntR g w st.rs [s] u:=fun hu=>⟨hs,hu⟩
    unfold cellsH at hc
    split at hc
    · cases hc
      rw [SR] at hs
      exact one (CR.one hs)
    · rename_i cs';exact absurd rfl (n1 cs')
    · rename_i ss;exact absurd rfl (n2 ss)
    · split at hc
      · rename_i fz ss hr
        cases hc
        have hs':=hs
        rw [SR] at hs'
        obtain ⟨b,_,rfl⟩:=hs' fz ss hr
        exact one rfl
      · cases hc
    · split at hc
      · rename_i nil sz xs fx hr
        split at hc
        · rename_i hl
          cases hc
          have hs':=hs
          rw [SR] at hs'
          have hu:=hs' nil sz xs fx hr hl
          refine one ?_
          rw [hu]
          rcases h.res _ _ hr with ⟨_,_,q,_⟩ | ⟨_,b,cap,cur,E,q,_⟩
          · rw [q];rfl
          · rw [q];rfl
        · cases hc
      · cases hc
    · cases hc
theorem vlkup_ok (h:T w0 K0 nt st a w g) (hd:∀ t,o.dst=some t→t<nt) {t:TypeId} {m k:Operand} {ok:Bool} (hm:SR g w st.rs (e m) (a.eval m)) (hk:SR g w st.rs (e k) (a.eval k))
    (hv:vlkup P o.dst st t (e m) (e k) ok K) (hn:∀ st' a' w' g',K st'→T w0 K0 nt st' a' w' g'→next a' w'):∃ u,(Instr.lookup t (a.eval m) (a.eval k) ok).run P w = .ok u w∧next (a.put o.dst u) w:=by
  unfold vlkup at hv
  split at hv
  · rename_i i kv e1 e2
    split at hv
    · rename_i kvs kt d et h1 h2
      split at hv
      · rename_i z hz
        obtain ⟨q1,q2,q3⟩:=hv
        rw [e1,SR] at hm
        rw [e2,SR,CR] at hk
        have hm':=hm _ h1
        rw [hk.1]
        obtain ⟨b,es,b1,b2,b3,b4,b5⟩:=h.res i _ h1
        rw [hm',b1]
        rcases findNow_ok q1 kvs es.toList 0 b4 q2 with ⟨f1,f2⟩ | ⟨j,cs,en,f1,f2,f3,f4,f5,f6⟩
        · refine ⟨_,run_lookup ok h2 b3 f1 hz,hn _ _ _ g q3 (h.putd hd ?_)⟩
          rw [f2]
          unfold lkS
          cases ok
          · exact SR_ofConst g w st.rs z
          · simp only [if_true]
            rw [SR]
            refine ⟨[z,.bool false],rfl,?_⟩
            simp only [SRs]
            exact ⟨z,_,rfl,SR_ofConst g w st.rs z,_,_,rfl,by rw [SR,CR];exact ⟨rfl,rfl⟩,rfl⟩
        · refine ⟨_,run_lookup ok h2 b3 f1 hz,hn _ _ _ g q3 (h.putd hd ?_)⟩
          rw [f2]
          unfold lkS
          cases ok
          · exact SR_entS f6
          · simp only [if_true]
            rw [SR]
            refine ⟨[en.val,.bool true],rfl,?_⟩
            simp only [SRs]
            exact ⟨_,_,rfl,SR_entS f6,_,_,rfl,by rw [SR,CR];exact ⟨rfl,rfl⟩,rfl⟩
      · exact hv.elim
    · exact hv.elim
  · exact hv.elim
theorem vmapUp_ok (h:T w0 K0 nt st a w g) (hd:∀ t,o.dst=some t→t<nt) {t:TypeId} {m k x:Operand} (hm:SR g w st.rs (e m) (a.eval m)) (hk:SR g w st.rs (e k) (a.eval k)) (hx:SR g w st.rs (e x) (a.eval x))
    (hv:vmapUp P o.dst st t (e m) (e k) (e x) K) (hn:∀ st' a' w' g',K st'→T w0 K0 nt st' a' w' g'→next a' w'):∃ w',(Instr.mapUpdate t (a.eval m) (a.eval k) (a.eval x)).run P w = .ok () w'∧next (a.put o.dst undef) w':=by
  unfold vmapUp at hv
  split at hv
  · rename_i i kv cs e1 e2 e3
    split at hv
    · rename_i kvs kt d et h1 h2
      obtain ⟨q1,q2,q3⟩:=hv
      rw [e1,SR] at hm
      rw [e2,SR,CR] at hk
      have hm':=hm _ h1
      have hx':=EntR_entC h e3 hx
      rw [hk.1]
      obtain ⟨b,es,b1,b2,b3,b4,b5⟩:=h.res i _ h1
      rw [hm',b1]
      rcases findNow_ok q1 kvs es.toList 0 b4 q2 with ⟨f1,f2⟩ | ⟨j,cs',en,f1,f2,f3,f4,f5,f6⟩
      · have hT:=h.setmap (kvs':=putK kv cs kvs) (es':=es.push { key:=kv,val:=a.eval x,born:=es.size }) h1 b1 b3 (by
          unfold putK
          rw [f2]
          simpa using MapR.push hx' kvs es.toList b4) (fun j en hj=>by
          rw [Array.getElem?_push] at hj
          split at hj
          · rename_i e;cases hj;exact e.symm
          · exact b5 j en hj)
        rw [Array.size_push] at hT
        exact ⟨_,run_mapNew h2 b3 f1,hn _ _ _ g q3 (T.putd (s:=.un) (u:=undef) hT hd (by rw [SR];trivial))⟩
      · simp only [Nat.zero_add] at f1
        have hT:=h.setmap (kvs':=putK kv cs kvs) (es':=es.modify j fun e=>{ e with key:=kv,val:=a.eval x }) h1 b1 b3 (by
          unfold putK
          rw [f2]
          simpa using MapR.set (k:=kv) hx' kvs es.toList j b4) (fun i en hi=>by
          rw [Array.getElem?_modify] at hi
          split at hi
          · rename_i e
            subst e
            simp only [Option.map_eq_some_iff] at hi
            obtain ⟨e0,h0,rfl⟩:=hi
            exact b5 _ e0 h0
          · exact b5 i en hi)
        rw [Array.size_modify] at hT
        exact ⟨_,run_mapPut h2 b3 f1 (by simpa using f3) f5,hn _ _ _ g q3 (T.putd (s:=.un) (u:=undef) hT hd (by rw [SR];trivial))⟩
    · exact hv.elim
  · exact hv.elim
theorem vmkMap_ok (h:T w0 K0 nt st a w g) (hd:∀ t,o.dst=some t→t<nt) {t:TypeId} (hv:vmkMap o.dst st K) (hn:∀ st' a' w' g',K st'→T w0 K0 nt st' a' w' g'→next a' w') :
    ∃ u w',(Instr.makeMap t none).run P w = .ok u w'∧next (a.put o.dst u) w':=by
  unfold vmkMap at hv
  split at hv
  · rename_i x hx
    obtain ⟨g',k1,k2,k3,k4⟩:=h.newmap (64*x)
    refine ⟨_,_,run_makeMap,hn _ _ _ g' hv ?_⟩
    rw [hx]
    refine k1.put (hd x hx) ?_
    rw [SR]
    intro m _
    exact k2.symm
  · exact hv.elim
theorem T.pinS (h:T w0 K0 nt st a w g) (N:Nat) {s:S} {u:Value} (hs:SR g w st.rs s u) :
    ∃ g',T w0 K0 nt ((st.clr N).setR N (some (.pin u (s.clr N)))) a w g'∧g'.loc N=undef∧(∀ j,j≠N→g'.loc j=g.loc j)∧g'.K=g.K:=by
  let g':G:=⟨g.K,fun j=>if j=N then undef else g.loc j⟩
  have hl:∀ j,j≠N→g'.loc j=g.loc j:=fun j hj=>by show (if j=N then undef else g.loc j)=_;rw [if_neg hj]
  refine ⟨g',?_,by show (if N=N then undef else _)=_;rw [if_pos rfl],hl,rfl⟩
  refine T.make h (g':=g') (Bel.refl _ _ _) (Keeps.refl _ _) h.kold h.klt hl (fun j r b hj hr hb=>⟨rfl,fun _ k=>k⟩) (fun j r hj hr b hb=>?_) ?_
  · rw [show g'.loc N=undef from by show (if N=N then undef else _)=_;rw [if_pos rfl]] at hb
    cases hb
  · refine ⟨by show (if N=N then undef else _)=_;rw [if_pos rfl],?_⟩
    refine SR.mono (g:=g) (g':=g') (R:=st.rs) (R':=((st.clr N).setR N (some (.pin u (s.clr N)))).rs) (w:=w) (w':=w) (Keeps.refl _ _) _ _ (fun j hj=>?_) (SR.clr N s u hs)
    obtain ⟨hjN,_⟩:=S.men_clr N j s hj
    have hR:((st.clr N).setR N (some (.pin u (s.clr N)))).rs j=(st.rs j).map (Res.clr N):=by rw [St.rs_setR,if_neg (Ne.symm hjN),St.rs_clr]
    refine ⟨fun fz ss e=>?_,fun nil sz xs fx e=>?_,fun m e=>?_⟩
    all_goals
      rw [hR] at e
      cases hs':st.rs j with
      | none=>rw [hs'] at e;simp at e
      | some r0 =>
        rw [hs'] at e
        cases r0 <;> simp [Res.clr] at e
        first
          | exact ⟨⟨_,_,rfl⟩,hl j hjN⟩
          | exact ⟨⟨_,_,_,by rw [e.1,e.2.1],by rw [e.2.2.1]⟩,hl j hjN⟩
          | exact ⟨⟨_,rfl,by rw [← e,MB.sh_clr]⟩,hl j hjN⟩
theorem run_range {t k et:TypeId} {d:TypeDesc} {b:Nat} {es:Array MapEntry} {ck:Nat} (h:mpT P t=some (k,d,et)) (hb:w.heap[b]? = some (.map es ck)) :
    (Instr.range t (.map (some b))).run P w = .ok (.pointer (some ⟨w.heap.size,0,none⟩)) (w.alloc (.mapIter (some b) ck #[] ck)):=by
  obtain ⟨h1,_,_⟩:=mpT_ok h
  have hg:(getObj b).run P w = .ok (.map es ck) w:=by simp [getObj,Sem.run,hb]
  simp [Instr.range,run_underlying h1,hg,run_newObj]
theorem T.newiter (h:T w0 K0 nt st a w g) (i bm n:Nat) :
    ∃ g',T w0 K0 nt ((st.clr i).setR i (some (.map (.iter bm n [])))) a (w.alloc (.mapIter (some bm) n #[] n)) g'∧g'.loc i = .pointer (some ⟨w.heap.size,0,none⟩)∧(∀ j,j≠i→g'.loc j=g.loc j)∧g'.K=g.K:=by
  refine ⟨{ g with loc:=fun j=>if j=i then .pointer (some ⟨w.heap.size,0,none⟩) else g.loc j },?_,by simp,fun j hj=>by simp [hj],rfl⟩
  have hB:w0.heap.size≤w.heap.size:=h.below.size
  refine T.make h (g':={ g with loc:=fun j=>if j=i then .pointer (some ⟨w.heap.size,0,none⟩) else g.loc j }) (Bel.of ((BelowD.refl _ _).alloc hB _)) ⟨fun _ _ k=>k,fun b o k=>World.cell?_alloc_lt _ _ _ (h.klt b o k)⟩ h.kold (fun b o k=>by
      have:=h.klt b o k;simp;omega) (fun j hj=>by simp [hj]) (fun j r b hj hr hb=>⟨Below.heap_alloc _ _ _ ((h.res j r hr).lt hb),fun _ k=>k⟩) (fun j r hj hr b hb hb2=>?_) ?_
  · simp [blk] at hb
    have:=(h.res j r hr).lt hb2
    omega
  · exact ⟨w.heap.size,by simp,(fun e=>absurd e.1 (by omega)),heap_alloc_new w _⟩
theorem vrange_ok (h:T w0 K0 nt st a w g) (hd:∀ t,o.dst=some t→t<nt) {t:TypeId} {m:Operand} (hm:SR g w st.rs (e m) (a.eval m))
    (hv:vrange P o.dst st t (e m) K) (hn:∀ st' a' w' g',K st'→T w0 K0 nt st' a' w' g'→next a' w'):∃ u w',(Instr.range t (a.eval m)).run P w = .ok u w'∧next (a.put o.dst u) w':=by
  unfold vrange at hv
  split at hv
  · rename_i x i hx e1
    split at hv
    · rename_i kvs m3 h1 h2
      rw [e1] at hm
      have hm':=hm
      rw [SR] at hm'
      have hm1:=hm' _ h1
      obtain ⟨b,es,b1,b2,b3,b4,b5⟩:=h.res i _ h1
      have hlen:es.size=kvs.length:=by have:=MapR.len _ _ b4;simpa using this
      obtain ⟨kt,d,et⟩:=m3
      have hrun:=run_range h2 b3
      refine ⟨_,_,by rw [hm1,b1];exact hrun,?_⟩
      obtain ⟨g1,p1,p2,p3,p4⟩:=h.pinS (64*x+1) hm
      obtain ⟨g2,r1,r2,r3,r4⟩:=p1.newiter (64*x) b es.size
      rw [hm1,b1] at r1
      rw [hx]
      refine hn _ _ _ g2 (hv b) ?_
      rw [hlen] at r1 ⊢
      refine r1.put (hd x hx) ?_
      rw [SR]
      intro mm _
      exact r2.symm
    · exact hv.elim
  · exact hv.elim
theorem T.setiter (h:T w0 K0 nt st a w g) {i b bm n:Nat} {seen seen':List Nat} {w1:World} (hi:st.rs i=some (.map (.iter bm n seen))) (hl:g.loc i = .pointer (some ⟨b,0,none⟩)) (hb:w.heap[b]? = some (.mapIter (some bm) n seen.toArray n)) (hw:w1=w∨w1=w.drew) :
    T w0 K0 nt (st.setR i (some (.map (.iter bm n seen')))) a (setBlock w1 b (.mapIter (some bm) n seen'.toArray n)) g:=by
  have hB:=((h.res i _ hi).block (b:=b) (by rw [hl];rfl)).1
  have hblt:b<w.heap.size:=(Array.getElem?_eq_some_iff.1 hb).1
  have hh:(setBlock w1 b (.mapIter (some bm) n seen'.toArray n)).heap=w.heap.setIfInBounds b (.mapIter (some bm) n seen'.toArray n):=by rcases hw with rfl | rfl <;> rfl
  have hoth:∀ k,k≠b→(setBlock w1 b (.mapIter (some bm) n seen'.toArray n)).heap[k]? = w.heap[k]? := fun k hk=>by
    rw [hh,Array.getElem?_setIfInBounds_ne (Ne.symm hk)]
  have hsame:(setBlock w1 b (.mapIter (some bm) n seen'.toArray n)).heap[b]? = some (.mapIter (some bm) n seen'.toArray n):=by rw [hh];simp [hblt]
  have hk:Keeps g.K w g.K (setBlock w1 b (.mapIter (some bm) n seen'.toArray n)):=⟨fun _ _ k=>k,fun b' o k=>by
    by_cases e:b'=b
    · subst e
      simp only [World.cell?]
      rw [hsame,hb]
    · simp only [World.cell?];rw [hoth b' e]⟩
  have hbel:Bel w0 K0 w (setBlock w1 b (.mapIter (some bm) n seen'.toArray n)):=by
    refine ⟨?_,?_,?_,by rw [hh];simp,fun k hk'=>hoth k (fun e=>hB (e ▸ hk')),?_⟩
    · rcases hw with rfl | rfl <;> rfl
    · rcases hw with rfl | rfl <;> rfl
    · rcases hw with rfl | rfl <;> rfl
    · rcases hw with rfl | rfl
      · exact Nat.le_refl _
      · exact Nat.le_succ _
  refine T.mod h hi hbel hk h.kold (fun b' o k=>by rw [hh];simpa using h.klt b' o k) rfl (fun j r' b' hj hrj hbj=>⟨hoth b' (fun e=>?_),fun _ k=>k⟩) (.inr (.inr ⟨_,_,rfl,rfl,rfl⟩)) (fun _=>?_)
  · subst e
    exact h.dis i j _ r' hi hrj (Ne.symm hj) b' (by rw [hl];rfl) hbj
  · exact ⟨b,hl,hB,hsame⟩
theorem todoK_mem {n:Nat} {seen:List Nat} {j:Nat} : j∈todoK n seen↔j<n∧j ∉ seen:=by
  simp [todoK]
theorem leftOf_mem {es:Array MapEntry} {seen:List Nat} {en:MapEntry} : en∈(leftOf es seen.toArray).toList↔en∈es.toList∧en.born ∉ seen:=by
  unfold leftOf
  simp
theorem vnext_ok (h:T w0 K0 nt st a w g) (hd:∀ t,o.dst=some t→t<nt) {ty:TypeId} {m:Operand} (hm:SR g w st.rs (e m) (a.eval m))
    (hv:vnext o.dst st (e m) K) (hn:∀ st' a' w' g',K st'→T w0 K0 nt st' a' w' g'→next a' w'):∃ u w',(Instr.next (a.eval m) false ty).run P w = .ok u w'∧next (a.put o.dst u) w':=by
  unfold vnext at hv
  split at hv
  · rename_i y e1
    split at hv
    · rename_i bm n seen bm' i h1 h2
      split at hv
      · rename_i kvs h3
        obtain ⟨rfl,hnl,hkeys,hover,hgo⟩:=hv
        rw [e1,SR] at hm
        have hm':=hm _ h1
        obtain ⟨bi,i1,i2,i3⟩:=h.res y _ h1
        obtain ⟨b,es,b1,b2,b3,b4,b5⟩:=h.res i _ h3
        have hp:=(h.res (y+1) _ h2).2
        rw [SR] at hp
        have hp':=hp _ h3
        rw [b1] at hp'
        simp at hp'
        subst hp'
        have hlen:es.size=kvs.length:=by have:=MapR.len _ _ b4;simpa using this
        rw [← hlen] at hnl
        subst hnl
        have hbo:∀ x∈es.toList,x.born<es.size∧es[x.born]? = some x:=fun x hx=>by
          obtain ⟨j,hj,rfl⟩:=List.mem_iff_getElem.1 hx
          have hj':j<es.size:=by simpa using hj
          have:=b5 j es[j] (by simp [hj'])
          simp only [Array.getElem_toList]
          rw [this]
          exact ⟨hj',by simp [hj']⟩
        rw [hm',i1]
        rcases run_next_at (P:=P) w ty bi bm es.size es.size seen.toArray es es.size i3 b3 (fun x hx=>(hbo x hx).1) (Nat.le_refl _) with ⟨q1,q2⟩ | ⟨en,q1,w1,q2,q3⟩
        · refine ⟨_,_,q2,hn _ _ _ g (hover ?_) (h.putd hd ?_)⟩
          · rw [List.eq_nil_iff_forall_not_mem]
            intro j hj
            obtain ⟨j1,j2⟩:=todoK_mem.1 hj
            have hmem:es[j]∈(leftOf es seen.toArray).toList:=leftOf_mem.2 ⟨by simp,by rw [b5 j es[j] (by simp [j1])];exact j2⟩
            rw [Array.eq_empty_of_size_eq_zero q1] at hmem
            simp at hmem
          · rw [SR]
            refine ⟨[.bool false],rfl,?_⟩
            simp only [SRs]
            exact ⟨_,_,rfl,by rw [SR,CR];exact ⟨rfl,rfl⟩,rfl⟩
        · obtain ⟨m1,m2⟩:=leftOf_mem.1 q1
          obtain ⟨n1,n2⟩:=hbo en m1
          obtain ⟨cs,c1,c2⟩:=MapR.at kvs es.toList en.born en b4 (by simpa using n2)
          have hT:=h.setiter (seen':=seen++[en.born]) h1 i1 i3 q2
          refine ⟨_,_,q3,hn _ _ _ g (hgo en.born en.key cs (todoK_mem.2 ⟨n1,m2⟩) c1) ?_⟩
          have e2:seen.toArray.push en.born=(seen++[en.born]).toArray:=by simp
          rw [e2]
          refine hT.putd hd ?_
          have hk1:en.key.oneCell'=true:=by
            have:=List.all_eq_true.1 hkeys (en.key,cs) (List.mem_of_getElem? c1)
            exact this
          have c2':EntR g (setBlock w1 bi (.mapIter (some bm) es.size (seen++[en.born]).toArray es.size)) (st.setR y (some (.map (.iter bm es.size (seen++[en.born]))))).rs cs en.val:=by
            obtain ⟨b',es',r1,r2,r3,r4,r5⟩:=hT.res i (.map (.ents kvs)) (by
              rw [St.rs_setR]
              by_cases e3:y=i
              · subst e3;rw [h1] at h3;cases h3
              · rw [if_neg e3];exact h3)
            rw [b1] at r1
            simp at r1
            subst r1
            have hne:bm≠bi:=fun e3=>by subst e3;rw [b3] at i3;cases i3
            have hhb:(setBlock w1 bi (.mapIter (some bm) es.size (seen++[en.born]).toArray es.size)).heap[bm]? = w.heap[bm]? := by
              rcases q2 with rfl | rfl
              · exact Array.getElem?_setIfInBounds_ne (Ne.symm hne)
              · exact Array.getElem?_setIfInBounds_ne (Ne.symm hne)
            rw [hhb,b3] at r3
            cases r3
            obtain ⟨cs',d1,d2⟩:=MapR.at kvs es.toList en.born en r4 (by simpa using n2)
            rw [c1] at d1
            simp at d1
            subst d1
            exact d2
          rw [SR]
          refine ⟨[.bool true,en.key,en.val],rfl,?_⟩
          simp only [SRs]
          exact ⟨_,_,rfl,by rw [SR,CR];exact ⟨rfl,rfl⟩,_,_,rfl,by rw [SR,CR];exact ⟨rfl,hk1⟩,_,_,rfl,SR_entS c2',rfl⟩
      · exact hv.elim
    · exact hv.elim
  · exact hv.elim
theorem ventry_ok (h:T w0 K0 nt st a w g) (hd:∀ t,o.dst=some t→t<nt) {m:Operand} (hm:SR g w st.rs (e m) (a.eval m))
    (hv:ventry o.dst st (e m) K) (hn:∀ st' a' w' g',K st'→T w0 K0 nt st' a' w' g'→next a' w'):∃ u,(Instr.entry (a.eval m)).run P w = .ok u w∧next (a.put o.dst u) w:=by
  unfold ventry at hv
  split at hv
  · rename_i y e1
    split at hv
    · rename_i bm n seen bm' i h1 h2
      split at hv
      · rename_i kvs j h3 h4
        split at hv
        · rename_i k cs h5
          obtain ⟨rfl,hnl,hk1,hK⟩:=hv
          rw [e1,SR] at hm
          have hm':=hm _ h1
          obtain ⟨bi,i1,i2,i3⟩:=h.res y _ h1
          obtain ⟨b,es,b1,b2,b3,b4,b5⟩:=h.res i _ h3
          have hp:=(h.res (y+1) _ h2).2
          rw [SR] at hp
          have hp':=hp _ h3
          rw [b1] at hp'
          simp at hp'
          subst hp'
          have hlen:es.size=kvs.length:=by have:=MapR.len _ _ b4;simpa using this
          rw [← hlen] at hnl
          subst hnl
          have hj:j<es.size:=by rw [hlen];exact (List.getElem?_eq_some_iff.1 h5).1
          have hbj:=b5 j es[j] (by simp [hj])
          obtain ⟨cs',d1,d2⟩:=MapR.at kvs es.toList j es[j] b4 (by simp [hj])
          rw [h5] at d1
          simp at d1
          obtain ⟨rfl,rfl⟩:=d1
          obtain ⟨sn,hsn⟩:∃ sn,seen=sn++[j]:=by
            rw [List.getLast?_eq_some_iff] at h4
            exact h4
          have i3':w.heap[bi]? = some (.mapIter (some bm) es.size (sn.toArray.push es[j].born) es.size):=by rw [i3,hsn,hbj];simp
          rw [hm',i1]
          refine ⟨_,run_entry_at w bi bm es.size sn.toArray es es.size es[j] i3' b3 (by simp) ?_,hn _ _ _ g hK (h.putd hd ?_)⟩
          · rw [List.nodup_iff_pairwise_ne,List.pairwise_iff_getElem]
            intro x y hx hy hxy
            simp at hx hy
            have ex:=b5 x es[x] (by simp [hx])
            have ey:=b5 y es[y] (by simp [hy])
            simp only [List.getElem_map,Array.getElem_toList,ex,ey]
            omega
          · rw [SR]
            refine ⟨[es[j].key,es[j].val],rfl,?_⟩
            simp only [SRs]
            exact ⟨_,_,rfl,by rw [SR,CR];exact ⟨rfl,hk1⟩,_,_,rfl,SR_entS d2,rfl⟩
        · exact hv.elim
      · exact hv.elim
    · exact hv.elim
  · exact hv.elim
end
end Go.VL
