/- Contracts of functions of the seat, proved in a logic on data over the model (part VM3). -/
import Derived.Test.YtlphpbcafplnbaaGreatV9b
import Derived.Test.YtlphpbcafplnbaaGreatV9
set_option linter.unusedSimpArgs false
set_option linter.unusedVariables false
namespace Go.VL
open Go.RowKit
def S.clrL:List Nat→S→S
  | [],s=>s
  | i::r,s=>S.clrL r (s.clr i)
def Res.clrL:List Nat→Res→Res
  | [],s=>s
  | i::r,s=>Res.clrL r (s.clr i)
def St.clrL:List Nat→St→St
  | [],st=>st
  | i::r,st=>St.clrL r (st.clr i)
theorem get_clrL:∀ (C:List Nat) (st:St) (t:Nat),(st.clrL C).get t=(st.get t).clrL C
  | [],_,_=>rfl
  | i::r,st,t=>by rw [St.clrL,get_clrL r,St.get_clr];rfl
theorem rs_clrL:∀ (C:List Nat) (st:St) (n:Nat),(st.clrL C).rs n=(st.rs n).map (Res.clrL C)
  | [],st,n=>by simp [St.clrL,show Res.clrL []=id from rfl]
  | i::r,st,n=>by
    rw [St.clrL,rs_clrL r,St.rs_clr]
    cases st.rs n <;> rfl
theorem SR_clrL {g:G} {w:World} {R:Nat→Option Res} : ∀ (C:List Nat) (s:S) (u:Value),SR g w R s u→SR g w R (s.clrL C) u
  | [],_,_,h=>h
  | i::r,s,u,h=>SR_clrL r (s.clr i) u (SR.clr i s u h)
theorem RR_clrL {g:G} {w:World} {R:Nat→Option Res} {B:Nat→Prop} {i:Nat} : ∀ (C:List Nat) (r:Res),RR g w R B i r→RR g w R B i (r.clrL C)
  | [],_,h=>h
  | j::C,r,h=>RR_clrL C (r.clr j) (h.clr j)
theorem men_clrL (j:Nat):∀ (C:List Nat) (s:S),(s.clrL C).men j=true→j ∉ C∧s.men j=true
  | [],s,h=>⟨by simp,h⟩
  | i::r,s,h=>by
    obtain ⟨h1,h2⟩:=men_clrL j r (s.clr i) h
    obtain ⟨h3,h4⟩:=S.men_clr i j s h2
    exact ⟨by simp [h3,h1],h4⟩
theorem ment_clr (i j:Nat) (r:Res) (h:(r.clr i).ment j=true):j≠i∧r.ment j=true:=by
  cases r with
  | box fz ss =>
    simp only [Res.clr,Res.ment] at h ⊢
    induction ss with
    | nil=>simp [S.mens] at h
    | cons s r ih =>
      simp only [List.map_cons,S.mens,Bool.or_eq_true] at h ⊢
      rcases h with h | h
      · obtain ⟨h1,h2⟩:=S.men_clr i j s h;exact ⟨h1,.inl h2⟩
      · obtain ⟨h1,h2⟩:=ih h;exact ⟨h1,.inr h2⟩
  | arr=>simp [Res.clr,Res.ment] at h
  | map m=>exact MB.men_clr i j m h
  | pin v s=>exact S.men_clr i j s h
theorem ment_clrL (j:Nat):∀ (C:List Nat) (r:Res),(r.clrL C).ment j=true→j ∉ C∧r.ment j=true
  | [],r,h=>⟨by simp,h⟩
  | i::C,r,h=>by
    obtain ⟨h1,h2⟩:=ment_clrL j C (r.clr i) h
    obtain ⟨h3,h4⟩:=ment_clr i j r h2
    exact ⟨by simp [h3,h1],h4⟩
theorem RR.mono' {g g':G} {w w':World} {R R':Nat→Option Res} {B:Nat→Prop} {i:Nat} {r:Res} (hk:Keeps g.K w g'.K w') (hl:g'.loc i=g.loc i)
    (hb:∀ b,blk (g.loc i)=some b→w'.heap[b]? = w.heap[b]? ∧ ∀ o,g'.K b o→g.K b o)
    (hc:∀ j,r.ment j=true→Cmp g R g' R' j) (h:RR g w R B i r):RR g' w' R' B i r :=
  RR.mono hk hl hb (fun fz ss e s hs j hj=>hc j (by subst e;exact mens_of hs hj)) (fun v s e j hj=>hc j (by subst e;exact hj)) (fun m e j hj=>hc j (by subst e;exact hj)) h
theorem kind_clrL:∀ (C:List Nat) (r:Res),(∀ fz ss,r.clrL C = .box fz ss→∃ fz0 ss0,r = .box fz0 ss0)∧(∀ nil sz xs fx,r.clrL C = .arr nil sz xs fx→r = .arr nil sz xs fx)∧(∀ m,r.clrL C = .map m→∃ m0,r = .map m0∧m0.sh=m.sh)
  | [],r=>⟨fun fz ss e=>⟨fz,ss,e⟩,fun _ _ _ _ e=>e,fun m e=>⟨m,e,rfl⟩⟩
  | i::C,r=>by
    obtain ⟨h1,h2,h3⟩:=kind_clrL C (r.clr i)
    refine ⟨fun fz ss e=>?_,fun nil sz xs fx e=>?_,fun kvs e=>?_⟩
    · obtain ⟨fz0,ss0,e0⟩:=h1 fz ss e
      cases r <;> simp [Res.clr] at e0
      exact ⟨_,_,rfl⟩
    · have e0:=h2 nil sz xs fx e
      cases r <;> simp [Res.clr] at e0
      obtain ⟨rfl,rfl,rfl,rfl⟩:=e0
      rfl
    · obtain ⟨m0,e0,hs0⟩:=h3 kvs e
      cases r <;> simp [Res.clr] at e0
      exact ⟨_,rfl,by rw [← hs0,← e0,MB.sh_clr]⟩
def alikeR:Res→Res→Prop
  | .box ..,.box .. => True
  | .arr _ sz xs _,.arr _ sz' xs' _=>sz=sz'∧xs.length=xs'.length
  | .map m,.map m'=>m.sh=m'.sh
  | _,_=>False
section
variable {w0:World} {K0:K0T} {nt:Nat} {st:St} {a:Act} {w:World} {g:G}
theorem T.lend (h:T w0 K0 nt st a w g) {b b':List (Nat × Res)} {τ:Nat→Nat} {C:List Nat} {w':World} {g0:G}
    (hb:∀ i r,lk b i=some r→st.rs (τ i)=some (renR τ r))
    (hM:M w ⟨g.K,lent ⟨g.K,fun i=>g.loc (τ i)⟩ b,[]⟩ (lk b') w' g0)
    (inj:∀ i j,(lk b' i).isSome=true→(lk b' j).isSome=true→τ i=τ j→i=j)
    (cl:∀ i r,lk b' i=some r→∀ j,r.ment j=true→(lk b' j).isSome=true)
    (sub:∀ i,(lk b i).isSome=true→(lk b' i).isSome=true)
    (hC:∀ i r',lk b' i=some r'→τ i∈C∨∃ r,lk b i=some r∧alikeR r r'∧g0.loc i=g.loc (τ i))
    {st':St} (hget:st'.get=(st.clrL C).get) (hrs1:∀ i r,lk b' i=some r→st'.rs (τ i)=some (renR τ r))
    (hrs2:∀ n,(∀ i,(lk b' i).isSome=true→τ i≠n)→st'.rs n=(st.clrL C).rs n) :
    ∃ g',T w0 K0 nt st' a w' g'∧g'.K=g0.K∧(∀ i,(lk b' i).isSome=true→g'.loc (τ i)=g0.loc i)∧(∀ j,(lk b' j).isSome=true→Ren2 τ g0 g' (lk b') st'.rs j):=by
  classical
  let loc':Nat→Value:=fun n=>if hx:∃ i,(lk b' i).isSome=true∧τ i=n then g0.loc hx.choose else g.loc n
  have hl1:∀ i,(lk b' i).isSome=true→loc' (τ i)=g0.loc i:=fun i hi=>by
    have hx:∃ j,(lk b' j).isSome=true∧τ j=τ i:=⟨i,hi,rfl⟩
    show (if hx:∃ j,(lk b' j).isSome=true∧τ j=τ i then g0.loc hx.choose else g.loc (τ i))=_
    rw [dif_pos hx]
    exact congrArg _ (inj _ _ hx.choose_spec.1 hi hx.choose_spec.2)
  have hl2:∀ n,(∀ i,(lk b' i).isSome=true→τ i≠n)→loc' n=g.loc n:=fun n hn=>by
    show (if hx:∃ j,(lk b' j).isSome=true∧τ j=n then g0.loc hx.choose else g.loc n)=_
    rw [dif_neg (fun ⟨i,hi,e⟩=>hn i hi e)]
  let g':G:=⟨g0.K,loc'⟩
  have hlent:∀ k,lent ⟨g.K,fun i=>g.loc (τ i)⟩ b k→¬ Old w0 K0 k∧∃ i r,lk b i=some r∧blk (g.loc (τ i))=some k:=fun k ⟨i,r,h1,h2⟩ =>
    ⟨((h.res _ _ (hb i r h1)).block h2).1,i,r,h1,h2⟩
  have hold:∀ k,Old w0 K0 k→Old w ⟨g.K,lent ⟨g.K,fun i=>g.loc (τ i)⟩ b,[]⟩ k:=fun k hk =>
    ⟨Nat.lt_of_lt_of_le hk.1 h.below.size,fun hl=>(hlent k hl).1 hk⟩
  have hkeep:Keeps g.K w g'.K w':=⟨hM.k0,fun b o k=>hM.keep b o k⟩
  have hother:∀ n r,st.rs n=some r→(∀ i,(lk b' i).isSome=true→τ i≠n)→∀ k,blk (g.loc n)=some k→w'.heap[k]? = w.heap[k]? ∧ ∀ o,g'.K k o→g.K k o:=by
    intro n r hn hne k hk
    have hk':Old w ⟨g.K,lent ⟨g.K,fun i=>g.loc (τ i)⟩ b,[]⟩ k:=⟨(h.res n r hn).lt hk,fun hl=>by
      obtain ⟨_,i,ri,h1,h2⟩:=hlent k hl
      exact h.dis _ _ _ _ (hb i ri h1) hn (hne i (sub i (by rw [h1];rfl))) k h2 hk⟩
    exact ⟨hM.below.block k hk',fun o ho=>hM.kold k o ho hk'⟩
  have hcmp:∀ j,j ∉ C→Cmp g st.rs g' st'.rs j:=by
    intro j hj
    by_cases hx:∃ i,(lk b' i).isSome=true∧τ i=j
    · obtain ⟨i,hi,rfl⟩:=hx
      obtain ⟨r',hr'⟩:=Option.isSome_iff_exists.1 hi
      rcases hC i r' hr' with hc | ⟨r,h1,h2,h3⟩
      · exact absurd hc hj
      · have e1:=hrs1 i r' hr'
        have e2:=hb i r h1
        have e3:g'.loc (τ i)=g.loc (τ i):=(hl1 i hi).trans h3
        cases r <;> cases r' <;> simp [alikeR] at h2
        · exact ⟨fun fz ss e=>⟨⟨_,_,e2⟩,e3⟩,fun nil sz xs fx e=>(by rw [e1] at e;cases e),fun kvs e=>(by rw [e1] at e;cases e)⟩
        · obtain ⟨rfl,h2⟩:=h2
          refine ⟨fun fz ss e=>(by rw [e1] at e;cases e),fun nil sz xs fx e=>?_,fun kvs e=>(by rw [e1] at e;cases e)⟩
          rw [e1] at e
          cases e
          exact ⟨⟨_,_,_,e2,h2⟩,e3⟩
        · exact ⟨fun fz ss e=>(by rw [e1] at e;cases e),fun nil sz xs fx e=>(by rw [e1] at e;cases e),fun kvs e=>⟨⟨_,e2,by
            rw [e1] at e;simp only [renR,Option.some.injEq,Res.map.injEq] at e;rw [← e,MB.sh_map,MB.sh_map,h2]⟩,e3⟩⟩
    · have hx':∀ i,(lk b' i).isSome=true→τ i≠j:=fun i hi e=>hx ⟨i,hi,e⟩
      have e1:=hrs2 j hx'
      rw [rs_clrL] at e1
      refine ⟨fun fz ss e=>?_,fun nil sz xs fx e=>?_,fun kvs e=>?_⟩
      · rw [e1] at e
        simp only [Option.map_eq_some_iff] at e
        obtain ⟨r,q1,q2⟩:=e
        obtain ⟨fz0,ss0,rfl⟩:=(kind_clrL C r).1 fz ss q2
        exact ⟨⟨_,_,q1⟩,hl2 j hx'⟩
      · rw [e1] at e
        simp only [Option.map_eq_some_iff] at e
        obtain ⟨r,q1,q2⟩:=e
        have:=(kind_clrL C r).2.1 _ _ _ _ q2
        subst this
        exact ⟨⟨_,_,_,q1,rfl⟩,hl2 j hx'⟩
      · rw [e1] at e
        simp only [Option.map_eq_some_iff] at e
        obtain ⟨r,q1,q2⟩:=e
        obtain ⟨m0,rfl,hs0⟩:=(kind_clrL C r).2.2 _ q2
        exact ⟨⟨_,q1,hs0⟩,hl2 j hx'⟩
  have hren:∀ j,(lk b' j).isSome=true→Ren2 τ g0 g' (lk b') st'.rs j:=fun j hj=>by
    obtain ⟨r,hr⟩:=Option.isSome_iff_exists.1 hj
    exact ⟨fun r' e=>⟨r,hr,by rw [hrs1 j r hr] at e;exact (Option.some.inj e).symm⟩,hl1 j hj⟩
  refine ⟨g',⟨?_,fun b o k=>hM.k0 b o (h.k0 b o k),fun b o k hb'=>h.kold b o (hM.kold b o k (hold b hb')) hb',hM.klt,fun n r hn=>?_,fun n m r1 r2 hn hm hne k hk1 hk2=>?_,fun t=>?_,h.nt,h.defers,fun b o k=>(hM.keep b o (h.k0 b o k)).trans (h.keep b o k)⟩,rfl,hl1,hren⟩
  · exact h.below.trans ⟨hM.below.os,hM.below.tape,hM.below.output,hM.below.size,fun k hk=>hM.below.block k (hold k hk),hM.below.drawn⟩
  · by_cases hx:∃ i,(lk b' i).isSome=true∧τ i=n
    · obtain ⟨i,hi,rfl⟩:=hx
      obtain ⟨r',hr'⟩:=Option.isSome_iff_exists.1 hi
      rw [hrs1 i r' hr'] at hn
      cases hn
      refine RR_ren2 (g0:=g0) (g:=g') (R0:=lk b') rfl (fun j hj=>hren j (cl i r' hr' j hj)) (hl1 i hi) (fun k hk ho hold'=>?_) (hM.res i r' hr')
      exact ho (hold k hold')
    · have hx':∀ i,(lk b' i).isSome=true→τ i≠n:=fun i hi e=>hx ⟨i,hi,e⟩
      rw [hrs2 n hx',rs_clrL] at hn
      simp only [Option.map_eq_some_iff] at hn
      obtain ⟨r0,q1,rfl⟩:=hn
      exact RR.mono' hkeep (hl2 n hx') (fun k hk=>hother n r0 q1 hx' k hk) (fun j hj=>hcmp j (ment_clrL j C r0 hj).1) (RR_clrL C r0 (h.res n r0 q1))
  · by_cases hx:∃ i,(lk b' i).isSome=true∧τ i=n
    · obtain ⟨i,hi,rfl⟩:=hx
      obtain ⟨ri,hri⟩:=Option.isSome_iff_exists.1 hi
      by_cases hy:∃ j,(lk b' j).isSome=true∧τ j=m
      · obtain ⟨j,hj,rfl⟩:=hy
        obtain ⟨rj,hrj⟩:=Option.isSome_iff_exists.1 hj
        exact hM.dis i j ri rj hri hrj (fun e=>hne (by rw [e])) k (by rw [← hl1 i hi];exact hk1) (by rw [← hl1 j hj];exact hk2)
      · have hy':∀ i,(lk b' i).isSome=true→τ i≠m:=fun i hi e=>hy ⟨i,hi,e⟩
        rw [hrs2 m hy',rs_clrL] at hm
        simp only [Option.map_eq_some_iff] at hm
        obtain ⟨r0,q1,_⟩:=hm
        have hk2':blk (g.loc m)=some k:=by rw [← hl2 m hy'];exact hk2
        have hk1':blk (g0.loc i)=some k:=by rw [← hl1 i hi];exact hk1
        refine ((hM.res i ri hri).block hk1').1 ⟨(h.res m r0 q1).lt hk2',fun hl=>?_⟩
        obtain ⟨_,i',ri',h1,h2⟩:=hlent k hl
        exact h.dis _ _ _ _ (hb i' ri' h1) q1 (hy' i' (sub i' (by rw [h1];rfl))) k h2 hk2'
    · have hx':∀ i,(lk b' i).isSome=true→τ i≠n:=fun i hi e=>hx ⟨i,hi,e⟩
      rw [hrs2 n hx',rs_clrL] at hn
      simp only [Option.map_eq_some_iff] at hn
      obtain ⟨r0,q1,_⟩:=hn
      have hk1':blk (g.loc n)=some k:=by rw [← hl2 n hx'];exact hk1
      by_cases hy:∃ j,(lk b' j).isSome=true∧τ j=m
      · obtain ⟨j,hj,rfl⟩:=hy
        obtain ⟨rj,hrj⟩:=Option.isSome_iff_exists.1 hj
        have hk2':blk (g0.loc j)=some k:=by rw [← hl1 j hj];exact hk2
        refine ((hM.res j rj hrj).block hk2').1 ⟨(h.res n r0 q1).lt hk1',fun hl=>?_⟩
        obtain ⟨_,i',ri',h1,h2⟩:=hlent k hl
        exact h.dis _ _ _ _ (hb i' ri' h1) q1 (hx' i' (sub i' (by rw [h1];rfl))) k h2 hk1'
      · have hy':∀ i,(lk b' i).isSome=true→τ i≠m:=fun i hi e=>hy ⟨i,hi,e⟩
        rw [hrs2 m hy',rs_clrL] at hm
        simp only [Option.map_eq_some_iff] at hm
        obtain ⟨r1',q1',_⟩:=hm
        exact h.dis n m r0 r1' q1 q1' hne k hk1' (by rw [← hl2 m hy'];exact hk2)
  · rw [hget,get_clrL]
    exact SR.mono hkeep _ _ (fun j hj=>hcmp j (men_clrL j C _ hj).1) (SR_clrL C _ _ (h.env t))
end
section
variable {w0:World} {K0:K0T} {nt:Nat} {st:St} {a:Act} {w:World} {g:G}
theorem T.fixbox (h:T w0 K0 nt st a w g) {i:Nat} {fz:Bool} {ss:List S} {cs:List C} (hi:st.rs i=some (.box fz ss))
    (hv:∀ b cur E,g.loc i = .pointer (some ⟨b,0,none⟩)→w.heap[b]? = some (.cells cur E (0,0))→VR g.K w cs cur.toList) :
    ∃ g',T w0 K0 nt (st.setR i (some (.box true (cs.map .c)))) a w g'∧(∀ s u,SR g w st.rs s u→SR g' w (st.setR i (some (.box true (cs.map .c)))).rs s u)∧(∀ b,g.loc i = .pointer (some ⟨b,0,none⟩)→LR g'.K w b 0 cs)∧g'.loc=g.loc∧Keeps g.K w g'.K w:=by
  obtain ⟨b,cur,E,h1,h2,h3,h4,h5,h6⟩:=h.res i _ hi
  have hvr:=hv b cur E h1 h3
  obtain ⟨hl,hcv⟩:=(VR_iff _ _).1 hvr
  let K':Nat→Nat→Prop:=fun b' o=>g.K b' o∨(b'=b∧o<cur.size)
  have hk:Keeps g.K w K' w:=⟨fun _ _ k=>.inl k,fun _ _ _=>rfl⟩
  have hc:∀ j,Cmp g st.rs ⟨K',g.loc⟩ (st.setR i (some (.box true (cs.map .c)))).rs j:=fun j=>by
    by_cases e:j=i
    · subst e
      exact ⟨fun fz' ss' e'=>⟨⟨fz,ss,hi⟩,rfl⟩,fun nil sz xs fx e'=>(by rw [St.rs_setR,if_pos rfl] at e';simp at e'),fun kvs e'=>(by rw [St.rs_setR,if_pos rfl] at e';simp at e')⟩
    · exact Cmp.same (by rw [St.rs_setR,if_neg (Ne.symm e)]) rfl
  refine ⟨⟨K',g.loc⟩,?_,fun s u hs=>SR.mono hk s u (fun j _=>hc j) hs,fun b' hb'=>?_,rfl,hk⟩
  · refine T.mod h hi (Bel.refl _ _ _) hk (fun b' o k ho=>?_) (fun b' o k=>?_) rfl (fun j r b' hj hr hb=>⟨rfl,fun o k=>?_⟩) (.inl ⟨fz,ss,true,_,rfl,rfl⟩) (fun _=>?_)
    · rcases k with k | ⟨rfl,_⟩
      · exact h.kold _ _ k ho
      · exact absurd ho h2
    · rcases k with k | ⟨rfl,_⟩
      · exact h.klt _ _ k
      · exact (Array.getElem?_eq_some_iff.1 h3).1
    · rcases k with k | ⟨rfl,_⟩
      · exact k
      · exact absurd hb (h.dis i j _ _ hi hr (Ne.symm hj) b' (by rw [h1];rfl))
    · refine ⟨b,cur,E,h1,h2,h3,by simpa using hl,fun k s hs=>?_,fun o _=>rfl⟩
      simp only [List.getElem?_map,Option.map_eq_some_iff] at hs
      obtain ⟨c,hc1,rfl⟩:=hs
      have hlt:k<cur.toList.length:=by rw [hl];exact (List.getElem?_eq_some_iff.1 hc1).1
      have hcr:=hcv k c _ hc1 (List.getElem?_eq_getElem hlt)
      refine ⟨cur.toList[k],?_,by rw [SR];exact CR.mono hk c _ hcr,CR.one hcr⟩
      rw [← Array.getElem?_toList,List.getElem?_eq_getElem hlt]
  · rw [h1] at hb'
    simp at hb'
    subst hb'
    rw [LR_iff]
    intro k c hk1
    have hlt:k<cur.toList.length:=by rw [hl];exact (List.getElem?_eq_some_iff.1 hk1).1
    have hcr:=hcv k c _ hk1 (List.getElem?_eq_getElem hlt)
    refine ⟨.inr ⟨rfl,by simpa using hlt⟩,cur.toList[k],?_,CR.mono hk c _ hcr⟩
    rw [cell_of_heap h3,← Array.getElem?_toList,Nat.zero_add,List.getElem?_eq_getElem hlt]
end
mutual
def S.nam:S→List Nat
  | .tup ss=>S.nams ss
  | .fnp f ss=>S.nams ss
  | .st ss=>S.nams ss
  | .own i _=>[i]
  | .ptr i _=>[i]
  | .ep i _ _ _=>[i]
  | .suf i _ _=>[i]
  | .mp i=>[i]
  | .me i _ _=>[i]
  | .pre i _ _=>[i]
  | .cut i _ _=>[i]
  | .g _ s=>S.nam s
  | _=>[]
def S.nams:List S→List Nat
  | []=>[]
  | s::r=>S.nam s++S.nams r
end
mutual
theorem S.nam_of {j:Nat} : ∀ (s:S),s.men j=true→j∈s.nam
  | .tup ss,h=>by rw [S.men] at h;rw [S.nam];exact S.nams_of ss h
  | .fnp f ss,h=>by rw [S.men] at h;rw [S.nam];exact S.nams_of ss h
  | .st ss,h=>by rw [S.men] at h;rw [S.nam];exact S.nams_of ss h
  | .own i n,h=>by simp [S.men] at h;simp [S.nam,h]
  | .ptr i n,h=>by simp [S.men] at h;simp [S.nam,h]
  | .ep i n k o,h=>by simp [S.men] at h;simp [S.nam,h]
  | .suf i n k,h=>by simp [S.men] at h;simp [S.nam,h]
  | .mp i,h=>by simp [S.men] at h;simp [S.nam,h]
  | .me i n k,h=>by simp [S.men] at h;simp [S.nam,h]
  | .pre i n k,h=>by simp [S.men] at h;simp [S.nam,h]
  | .cut i n k,h=>by simp [S.men] at h;simp [S.nam,h]
  | .g b s,h=>by rw [S.men] at h;rw [S.nam];exact S.nam_of s h
  | .c x,h=>by simp [S.men] at h
  | .agg cs,h=>by simp [S.men] at h
  | .un,h=>by simp [S.men] at h
theorem S.nams_of {j:Nat} : ∀ (ss:List S),S.mens j ss=true→j∈S.nams ss
  | [],h=>by simp [S.mens] at h
  | s::r,h=>by
    simp only [S.mens,Bool.or_eq_true] at h
    rw [S.nams,List.mem_append]
    rcases h with h | h
    · exact .inl (S.nam_of s h)
    · exact .inr (S.nams_of r h)
end
def Res.nam:Res→List Nat
  | .box _ ss=>S.nams ss
  | .arr .. => []
  | .map m=>S.nams m.cells
  | .pin _ s=>s.nam
theorem Res.nam_of {j:Nat} (r:Res) (h:r.ment j=true):j∈r.nam:=by
  cases r with
  | box fz ss=>exact S.nams_of ss h
  | arr=>simp [Res.ment] at h
  | map m =>
    simp only [Res.ment,MB.men,List.any_eq_true] at h
    obtain ⟨s,h1,h2⟩:=h
    exact S.nams_of m.cells (mens_of h1 h2)
  | pin v s=>exact S.nam_of s h
theorem lk_mem:∀ {b:List (Nat × Res)} {i:Nat} {r:Res},lk b i=some r→(i,r)∈b
  | [],_,_,h=>by simp [lk,vlook] at h
  | (k,x)::l,i,r,h=>by
    unfold lk at h
    simp only [List.map_cons,vlook] at h
    cases hk:(k == i) with
    | true=>rw [hk] at h;simp at h;simp at hk;subst hk;subst h;simp
    | false=>rw [hk] at h;simp at h;exact List.mem_cons_of_mem _ (lk_mem (b:=l) h)
theorem lk_some:∀ {b:List (Nat × Res)} {i:Nat},i∈b.map (·.1)↔(lk b i).isSome=true
  | [],i=>by simp [lk,vlook]
  | (k,x)::l,i=>by
    have ih:=lk_some (b:=l) (i:=i)
    unfold lk at ih ⊢
    simp only [List.map_cons,vlook,List.mem_cons]
    by_cases hk:k=i
    · subst hk;simp
    · have:(k == i)=false:=by simpa using hk
      rw [this]
      simp only [cond_false]
      rw [← ih]
      constructor
      · rintro (h | h)
        · exact absurd h.symm hk
        · exact h
      · exact .inr
def keptQ (r r':Res) (i:Nat):List S→List S→Prop
  | .ptr a o::x,.ptr c o'::y=>(a=i∧c=i∧o=o'∧(∃ fz ss fz' ss',r = .box fz ss∧r' = .box fz' ss'))∨keptQ r r' i x y
  | _::x,_::y=>keptQ r r' i x y
  | _,_=>False
def keptP (r r':Res) (i:Nat):List S→List S→Prop
  | .ptr a o::x,.ptr c o'::y=>(a=i∧c=i∧o=o'∧(∃ fz ss fz' ss',r = .box fz ss∧r' = .box fz' ss'))∨keptP r r' i x y
  | .own a n::x,.own c m::y=>(a=i∧c=i∧n=m∧(∃ nil sz xs fx nil' xs' fx',r = .arr nil sz xs fx∧r' = .arr nil' sz xs' fx'∧xs.length=n∧xs'.length=n))∨keptP r r' i x y
  | .pre a n m::x,.pre c n' m'::y=>(a=i∧c=i∧n=n'∧m=m'∧(∃ nil sz xs fx nil' xs' fx',r = .arr nil sz xs fx∧r' = .arr nil' sz xs' fx'∧xs.length=n∧xs'.length=n))∨keptP r r' i x y
  | .mp a::x,.mp c::y=>(a=i∧c=i∧(∃ m m',r = .map m∧r' = .map m'∧m.sh=m'.sh))∨keptP r r' i x y
  | .fnp _ p::x,.fnp _ q::y=>keptQ r r' i p q∨keptP r r' i x y
  | _::x,_::y=>keptP r r' i x y
  | _,_=>False
theorem keptQ_ok {g g0:G} {w w':World} {R R':Nat→Option Res} {r r':Res} {i:Nat} (hR:R i=some r) (hR':R' i=some r'):∀ (x y:List S) (us:List Value),keptQ r r' i x y→SRs g w R x us→SRs g0 w' R' y us →
    alikeR r r'∧g0.loc i=g.loc i
  | [],_,_,h,_,_=>by simp [keptQ] at h
  | _::_,[],_,h,_,_=>by unfold keptQ at h;split at h <;> simp_all
  | s::x,t::y,us,h,h1,h2=>by
    rw [SRs] at h1 h2
    obtain ⟨u,us',rfl,a1,b1⟩:=h1
    obtain ⟨u',us'',e,a2,b2⟩:=h2
    cases e
    have ih:=fun h=>keptQ_ok hR hR' x y us' h b1 b2
    unfold keptQ at h
    split at h
    · rename_i e1 e2
      cases e1;cases e2
      rcases h with ⟨rfl,rfl,rfl,fz,ss,fz',ss',rfl,rfl⟩ | h
      · rw [SR] at a1 a2
        obtain ⟨b,c1,c2⟩:=a1 fz ss hR
        obtain ⟨b',c3,c4⟩:=a2 fz' ss' hR'
        rw [c2] at c4
        simp at c4
        exact ⟨trivial,by rw [c1,c3,c4]⟩
      · exact ih h
    · rename_i e1 e2
      cases e1;cases e2
      exact ih h
    · exact h.elim
theorem keptP_ok {g g0:G} {w w':World} {R R':Nat→Option Res} {r r':Res} {i:Nat} (hR:R i=some r) (hR':R' i=some r'):∀ (x y:List S) (us:List Value),keptP r r' i x y→SRs g w R x us→SRs g0 w' R' y us →
    alikeR r r'∧g0.loc i=g.loc i
  | [],_,_,h,_,_=>by simp [keptP] at h
  | _::_,[],_,h,_,_=>by unfold keptP at h;split at h <;> simp_all
  | s::x,t::y,us,h,h1,h2=>by
    rw [SRs] at h1 h2
    obtain ⟨u,us',rfl,a1,b1⟩:=h1
    obtain ⟨u',us'',e,a2,b2⟩:=h2
    cases e
    have ih:=fun h=>keptP_ok hR hR' x y us' h b1 b2
    unfold keptP at h
    split at h
    · rename_i e1 e2
      cases e1;cases e2
      rcases h with ⟨rfl,rfl,rfl,fz,ss,fz',ss',rfl,rfl⟩ | h
      · rw [SR] at a1 a2
        obtain ⟨b,c1,c2⟩:=a1 fz ss hR
        obtain ⟨b',c3,c4⟩:=a2 fz' ss' hR'
        rw [c2] at c4
        simp at c4
        exact ⟨trivial,by rw [c1,c3,c4]⟩
      · exact ih h
    · rename_i e1 e2
      cases e1;cases e2
      rcases h with ⟨rfl,rfl,rfl,nil,sz,xs,fx,nil',xs',fx',rfl,rfl,c1,c2⟩ | h
      · rw [SR] at a1 a2
        have d1:=a1 nil sz xs fx hR c1
        have d2:=a2 nil' sz xs' fx' hR' c2
        exact ⟨⟨rfl,by rw [c1,c2]⟩,by rw [← d1,← d2]⟩
      · exact ih h
    · rename_i e1 e2
      cases e1;cases e2
      rcases h with ⟨rfl,rfl,rfl,rfl,nil,sz,xs,fx,nil',xs',fx',rfl,rfl,c1,c2⟩ | h
      · rw [SR] at a1 a2
        obtain ⟨p1,cap1,d1,e1⟩:=a1 nil sz xs fx hR c1
        obtain ⟨p2,cap2,d2,e2⟩:=a2 nil' sz xs' fx' hR' c2
        rw [e1] at e2
        cases e2
        exact ⟨⟨rfl,by rw [c1,c2]⟩,by rw [d1,d2]⟩
      · exact ih h
    · rename_i e1 e2
      cases e1;cases e2
      rcases h with ⟨rfl,rfl,m,m',rfl,rfl,hsh⟩ | h
      · rw [SR] at a1 a2
        have d1:=a1 m hR
        have d2:=a2 m' hR'
        exact ⟨hsh,by rw [← d1,← d2]⟩
      · exact ih h
    · rename_i e1 e2
      cases e1;cases e2
      rcases h with h | h
      · rw [SR] at a1 a2
        obtain ⟨us1,c1,d1⟩:=a1
        obtain ⟨us2,c2,d2⟩:=a2
        rw [c1] at c2
        have e:us1=us2:=by simpa using (Value.func.inj c2).2.2
        subst e
        exact keptQ_ok hR hR' _ _ us1 h d1 d2
      · exact ih h
    · rename_i e1 e2
      cases e1;cases e2
      exact ih h
    · exact h.elim
def lendSt (st:St) (τ:Nat→Nat) (C:List Nat) (b':List (Nat × Res)):St :=
  ⟨(st.clrL C).env,(b'.map fun p=>(τ p.1,some (renR τ p.2)))++(st.clrL C).res⟩
def retS (τ:Nat→Nat):List S→S
  | [r]=>renS τ r
  | rs=>.tup (renSs τ rs)
theorem look_app (τ:Nat→Nat) (l:List (Nat × Option Res)):∀ (b':List (Nat × Res)) (n:Nat),vlook none ((b'.map fun p=>(τ p.1,some (renR τ p.2)))++l) n =
    if n∈b'.map (fun p=>τ p.1) then vlook none (b'.map fun p=>(τ p.1,some (renR τ p.2))) n else vlook none l n
  | [],n=>by simp
  | p::b',n=>by
    simp only [List.map_cons,List.cons_append,vlook,List.mem_cons]
    cases hk:(τ p.1 == n) with
    | true=>simp at hk;simp [hk]
    | false =>
      have hne:τ p.1≠n:=by simpa using hk
      simp only [cond_false,look_app τ l b' n]
      by_cases hm:n∈b'.map (fun p=>τ p.1)
      · rw [if_pos hm,if_pos (.inr hm)]
      · rw [if_neg hm,if_neg (fun h=>h.elim (fun h=>hne h.symm) hm)]
theorem look_in {τ:Nat→Nat} : ∀ {b':List (Nat × Res)},(b'.map fun p=>τ p.1).Nodup→∀ {i:Nat} {r:Res},lk b' i=some r→vlook none (b'.map fun p=>(τ p.1,some (renR τ p.2))) (τ i)=some (renR τ r)
  | [],_,i,r,h=>by simp [lk,vlook] at h
  | (k,x)::b',hnd,i,r,h=>by
    simp only [List.map_cons,List.nodup_cons] at hnd
    unfold lk at h
    simp only [List.map_cons,vlook] at h ⊢
    cases hk:(k == i) with
    | true=>rw [hk] at h;simp at h;simp at hk;subst hk;subst h;simp
    | false =>
      rw [hk] at h
      simp only [cond_false] at h
      have hm:τ i∈b'.map (fun p=>τ p.1):=List.mem_map.2 ⟨(i,r),lk_mem (b:=b') h,rfl⟩
      have:(τ k == τ i)=false:=by
        simp only [beq_eq_false_iff_ne,ne_eq]
        exact fun e=>hnd.1 (e ▸ hm)
      rw [this]
      exact look_in (b':=b') hnd.2 h
theorem nodup_inj {α:Type} {f:α→Nat} : ∀ {l:List α},(l.map f).Nodup→∀ {x y:α},x∈l→y∈l→f x=f y→x=y
  | [],_,_,_,h,_,_=>by cases h
  | z::l,hnd,x,y,hx,hy,e=>by
    simp only [List.map_cons,List.nodup_cons] at hnd
    rcases List.mem_cons.1 hx with h1 | h1
    · rcases List.mem_cons.1 hy with h2 | h2
      · rw [h1,h2]
      · exact absurd (List.mem_map.2 ⟨y,h2,by rw [← e,h1]⟩) hnd.1
    · rcases List.mem_cons.1 hy with h2 | h2
      · exact absurd (List.mem_map.2 ⟨x,h1,by rw [e,h2]⟩) hnd.1
      · exact nodup_inj hnd.2 h1 h2 e
structure LendOk (P:Program) (st:St) (fid:FuncId) (args:List S) (b b':List (Nat × Res)) (as0 rs as1:List S) (τ:Nat→Nat) (C:List Nat):Prop where
  con:ConB P fid as0 b rs as1 b'
  args:args=renSs τ as0
  pre:∀ p∈b,st.rs (τ p.1)=some (renR τ p.2)
  inj:(b'.map fun p=>τ p.1).Nodup
  sub:∀ p∈b,p.1∈b'.map (·.1)
  cl:∀ p∈b',∀ j∈p.2.nam,j∈b'.map (·.1)
  clr:∀ j∈S.nams rs,j∈b'.map (·.1)
  kept:∀ p∈b',τ p.1∈C∨∃ r,lk b p.1=some r∧keptP r p.2 p.1 as0 as1
section
variable {P:Program} {w0:World} {K0:K0T} {nt:Nat} {st:St} {a:Act} {w:World} {g:G}
theorem LendOk.calls {fid:FuncId} {args:List S} {b b':List (Nat × Res)} {as0 rs as1:List S} {τ:Nat→Nat} {C:List Nat} (L:LendOk P st fid args b b' as0 rs as1 τ C) (h:T w0 K0 nt st a w g) {us:List Value} (hu:SRs g w st.rs args us) :
    Calls P fid us.toArray w fun e w'=>∃ (vs:List Value) (g':G),e = .returned (retV vs)∧T w0 K0 nt (lendSt st τ C b') a w' g'∧SRs g' w' (lendSt st τ C b').rs (renSs τ rs) vs:=by
  have hb:∀ i r,lk b i=some r→st.rs (τ i)=some (renR τ r):=fun i r hi=>L.pre (i,r) (lk_mem hi)
  have inj:∀ i j,(lk b' i).isSome=true→(lk b' j).isSome=true→τ i=τ j→i=j:=by
    intro i j hi hj e
    obtain ⟨ri,hri⟩:=Option.isSome_iff_exists.1 hi
    obtain ⟨rj,hrj⟩:=Option.isSome_iff_exists.1 hj
    exact (Prod.mk.inj (nodup_inj L.inj (lk_mem hri) (lk_mem hrj) e)).1
  have sub:∀ i,(lk b i).isSome=true→(lk b' i).isSome=true:=fun i hi=>by
    obtain ⟨r,hr⟩:=Option.isSome_iff_exists.1 hi
    exact lk_some.1 (L.sub _ (lk_mem hr))
  have hu0:=hu
  rw [L.args] at hu
  have hu':=SRs_ren1 hb as0 us hu
  have hM0:M w ⟨g.K,lent ⟨g.K,fun i=>g.loc (τ i)⟩ b,[]⟩ (lk b) w ⟨g.K,fun i=>g.loc (τ i)⟩:=by
    refine ⟨Bel.refl _ _ _,fun _ _ k=>k,fun _ _ k _=>k,h.klt,fun i r hi=>?_,fun i j ri rj hi hj hne k h1 h2=>?_,fun _ _ _=>rfl⟩
    · exact RR_ren1 hb (fun k hk ho=>ho.2 ⟨i,r,hi,hk⟩) (h.res _ _ (hb i r hi))
    · exact h.dis _ _ _ _ (hb i ri hi) (hb j rj hj) (fun e=>hne (inj i j (sub i (by rw [hi];rfl)) (sub j (by rw [hj];rfl)) e)) k h1 h2
  refine (L.con.2 w _ us hM0 hu').mono fun e w' ⟨vs,g0,he,hM,hrs,has⟩=>?_
  obtain ⟨g',k1,k2,k3,k4⟩:=T.lend h (st':=lendSt st τ C b') (C:=C) hb hM inj (fun i r hi j hj=>lk_some.1 (L.cl (i,r) (lk_mem hi) j (r.nam_of hj))) sub (fun i r' hi=>by
      rcases L.kept (i,r') (lk_mem hi) with hc | ⟨r,h1,h2⟩
      · exact .inl hc
      · obtain ⟨q1,q2⟩:=keptP_ok h1 hi as0 as1 us h2 hu' has
        exact .inr ⟨r,h1,q1,q2⟩) rfl (fun i r hi=>by
      show vlook none ((b'.map fun p=>(τ p.1,some (renR τ p.2)))++(st.clrL C).res) (τ i)=_
      rw [look_app,if_pos (List.mem_map.2 ⟨(i,r),lk_mem hi,rfl⟩)]
      exact look_in L.inj hi) (fun n hn=>by
      show vlook none ((b'.map fun p=>(τ p.1,some (renR τ p.2)))++(st.clrL C).res) n=_
      rw [look_app,if_neg (fun hm=>by
        obtain ⟨p,hp,e⟩:=List.mem_map.1 hm
        exact hn p.1 (lk_some.1 (List.mem_map.2 ⟨p,hp,rfl⟩)) e)]
      rfl)
  exact ⟨vs,g',he,k1,SRs_ren2 k2 rs vs (fun j hj=>k4 j (lk_some.1 (L.clr j (S.nams_of rs hj)))) hrs⟩
end
def keq:Value→Value→Bool
  | .int j a,.int k b=>j == k && a == b
  | .string a,.string b=>a == b
  | .bool a,.bool b=>a == b
  | _,_=>false
def kfits:TypeDesc→Value→Bool
  | .int q,.int k _=>k == q
  | .string,.string _=>true
  | .bool,.bool _=>true
  | _,_=>false
theorem sameNow_ok {d:TypeDesc} {k k':Value} (h:kfits d k=true) (h':kfits d k'=true):Instr.sameNow d k k'=some (keq k k'):=by
  unfold kfits at h h'
  split at h
  · rename_i q j n
    split at h'
    · rename_i q' j' n' _ _
      simp at h h'
      simp_all [Instr.sameNow,keq]
    · rename_i e1 e2;simp_all
    · rename_i e1 e2;simp_all
    · cases h'
  · split at h'
    · rename_i e1 e2;simp_all
    · simp [Instr.sameNow,keq]
    · rename_i e1 e2;simp_all
    · cases h'
  · split at h'
    · rename_i e1 e2;simp_all
    · rename_i e1 e2;simp_all
    · simp [Instr.sameNow,keq]
    · cases h'
  · cases h
def findK (k:Value):List (Value × List S)→Option (Nat × List S)
  | []=>none
  | x::r=>if keq k x.1 then some (0,x.2) else (findK k r).map fun y=>(y.1+1,y.2)
theorem findNow_ok {g:G} {w:World} {R:Nat→Option Res} {d:TypeDesc} {k:Value} (hk:kfits d k=true):∀ (kvs:List (Value × List S)) (es:List MapEntry) (i:Nat),MapR g w R kvs es→(kvs.all fun x=>kfits d x.1)=true →
    (Instr.findNow d k es i=some none∧findK k kvs=none)∨(∃ j cs e,Instr.findNow d k es i=some (some (i+j,e.val))∧findK k kvs=some (j,cs)∧es[j]? = some e∧kvs[j]? = some (e.key,cs)∧keq k e.key=true∧EntR g w R cs e.val)
  | [],es,i,h,_=>by
    have:es=[]:=h
    subst this
    exact .inl ⟨rfl,rfl⟩
  | x::r,es,i,h,ha=>by
    obtain ⟨e,es',rfl,h2,h3,h4⟩:=h
    simp only [List.all_cons,Bool.and_eq_true] at ha
    have hs:=sameNow_ok hk ha.1
    rw [← h2] at hs
    cases hq:keq k e.key with
    | true =>
      rw [hq] at hs
      refine .inr ⟨0,x.2,e,by simp [Instr.findNow,hs],?_,rfl,by simp [h2],hq,h3⟩
      rw [findK,if_pos (by rw [← h2];exact hq)]
    | false =>
      rw [hq] at hs
      rcases findNow_ok hk r es' (i+1) h4 (by simpa using ha.2) with ⟨e1,e2⟩ | ⟨j,cs,e',e1,e2,e3,e4,e5,e6⟩
      · refine .inl ⟨by simp [Instr.findNow,hs,e1],?_⟩
        rw [findK,if_neg (by rw [← h2,hq];simp),e2];rfl
      · refine .inr ⟨j+1,cs,e',by simp [Instr.findNow,hs,e1];omega,?_,by simpa using e3,by simpa using e4,e5,e6⟩
        rw [findK,if_neg (by rw [← h2,hq];simp),e2];rfl
theorem MapR.len {g:G} {w:World} {R:Nat→Option Res} : ∀ (kvs:List (Value × List S)) (es:List MapEntry),MapR g w R kvs es→es.length=kvs.length
  | [],es,h=>by have:es=[]:=h;subst this;rfl
  | x::r,es,h=>by
    obtain ⟨e,es',rfl,_,_,h4⟩:=h
    simp [MapR.len r es' h4]
theorem MapR.at {g:G} {w:World} {R:Nat→Option Res} : ∀ (kvs:List (Value × List S)) (es:List MapEntry) (j:Nat) (e:MapEntry),MapR g w R kvs es→es[j]? = some e→∃ cs,kvs[j]? = some (e.key,cs)∧EntR g w R cs e.val
  | [],es,j,e,h,he=>by have:es=[]:=h;subst this;simp at he
  | x::r,es,0,e,h,he=>by
    obtain ⟨e',es',rfl,h2,h3,h4⟩:=h
    simp at he
    subst he
    exact ⟨x.2,by simp [h2],h3⟩
  | x::r,es,j+1,e,h,he=>by
    obtain ⟨e',es',rfl,h2,h3,h4⟩:=h
    simpa using MapR.at r es' j e h4 (by simpa using he)
def mpT (P:Program) (t:TypeId):Option (TypeId × TypeDesc × TypeId) :=
  match P.underlying t with
  | some (.map k e)=>match P.underlying k with
    | some (.int q)=>some (k,.int q,e)
    | some .string=>some (k,.string,e)
    | some .bool=>some (k,.bool,e)
    | _=>none
  | _=>none
theorem mpT_ok {P:Program} {t k e:TypeId} {d:TypeDesc} (h:mpT P t=some (k,d,e)):P.underlying t=some (.map k e)∧P.underlying k=some d∧((∃ q,d = .int q)∨d = .string∨d = .bool):=by
  unfold mpT at h
  cases hu:P.underlying t with
  | none=>simp [hu] at h
  | some x =>
    cases x <;> simp [hu] at h
    rename_i k' e'
    cases hk:P.underlying k' with
    | none=>simp [hk] at h
    | some y =>
      cases y <;> simp [hk] at h
      · obtain ⟨rfl,rfl,rfl⟩:=h;exact ⟨rfl,hk,by simp⟩
      · obtain ⟨rfl,rfl,rfl⟩:=h;exact ⟨rfl,hk,by simp⟩
      · obtain ⟨rfl,rfl,rfl⟩:=h;exact ⟨rfl,hk,by simp⟩
theorem run_checkKey {P:Program} {w:World} {k:TypeId} {d:TypeDesc} {v:Value} (em:Bool) (n:Nat) (hk:P.underlying k=some d) (hd:(∃ q,d = .int q)∨d = .string∨d = .bool):(Instr.checkKey em (n+1) k v).run P w = .ok () w:=by
  rcases hd with ⟨q,rfl⟩ | rfl | rfl <;> simp [Instr.checkKey,run_underlying hk]
theorem run_findKey {P:Program} {w:World} {k:TypeId} {d:TypeDesc} {v:Value} {es:List MapEntry} {r:Option (Nat × Value)} (hk:P.underlying k=some d) (hf:Instr.findNow d v es 0=some r):(Instr.findKey k v es).run P w = .ok r w:=by
  simp [Instr.findKey,run_underlying hk,hf]
theorem run_lookup {P:Program} {w:World} {t k e:TypeId} {d:TypeDesc} {b:Nat} {es:Array MapEntry} {ck:Nat} {v:Value} {r:Option (Nat × Value)} {z:Value} (ok:Bool) (h:mpT P t=some (k,d,e)) (hb:w.heap[b]? = some (.map es ck))
    (hf:Instr.findNow d v es.toList 0=some r) (hz:zeroOf P e=some z) :
    (Instr.lookup t (.map (some b)) v ok).run P w = .ok (if ok then .tuple #[match r with | some x=>x.2 | none=>z,.bool r.isSome] else match r with | some x=>x.2 | none=>z) w:=by
  obtain ⟨h1,h2,h3⟩:=mpT_ok h
  have hz':=run_zero (P:=P) (w:=w) hz
  have hg:(getObj b).run P w = .ok (.map es ck) w:=by simp [getObj,Sem.run,hb]
  have hc:=run_checkKey (w:=w) (v:=v) es.isEmpty 9999 h2 h3
  have hk:=run_findKey (w:=w) h2 hf
  cases r with
  | none=>cases ok <;> simp [Instr.lookup,run_underlying h1,hg,hc,hk,hz']
  | some x=>cases ok <;> simp [Instr.lookup,run_underlying h1,hg,hc,hk]
def setMap (w:World) (b:Nat) (es:Array MapEntry) (ck:Nat):World:={ w with heap:=w.heap.setIfInBounds b (.map es ck) }
theorem run_setMap {P:Program} {w:World} {b:Nat} {es es':Array MapEntry} {ck ck':Nat} (hb:w.heap[b]? = some (.map es ck)):(setObj b (.map es' ck')).run P w = .ok () (setMap w b es' ck'):=by
  simp [setObj,Sem.run,hb,setMap]
theorem sameBits_keq {a b:Value} (n:Nat) (h:keq a b=true):Instr.sameBits n b a=true∧a=b:=by
  unfold keq at h
  split at h
  · rename_i j x k y
    simp at h
    obtain ⟨rfl,rfl⟩:=h
    exact ⟨by cases n <;> simp [Instr.sameBits],rfl⟩
  · rename_i x y
    have h1:(x.data == y.data)=true:=h
    have h2:=eq_of_beq h1
    have h3:x=y:=by cases x;cases y;simp_all
    subst h3
    have h4:(x == x)=true:=h
    exact ⟨by cases n <;> simp [Instr.sameBits,h4],rfl⟩
  · rename_i x y
    simp at h
    subst h
    exact ⟨by cases n <;> simp [Instr.sameBits],rfl⟩
  · cases h
theorem run_mapPut {P:Program} {w:World} {t k e:TypeId} {d:TypeDesc} {b:Nat} {es:Array MapEntry} {ck i:Nat} {v x y:Value} {e0:MapEntry} (h:mpT P t=some (k,d,e)) (hb:w.heap[b]? = some (.map es ck))
    (hf:Instr.findNow d v es.toList 0=some (some (i,y))) (hi:es[i]? = some e0) (hq:keq v e0.key=true) :
    (Instr.mapUpdate t (.map (some b)) v x).run P w = .ok () (setMap w b (es.modify i fun e=>{ e with key:=v,val:=x }) ck):=by
  obtain ⟨h1,h2,h3⟩:=mpT_ok h
  have hg:(getObj b).run P w = .ok (.map es ck) w:=by simp [getObj,Sem.run,hb]
  have hc:=run_checkKey (w:=w) (v:=v) false 9999 h2 h3
  have hk:=run_findKey (w:=w) h2 hf
  obtain ⟨hs,_⟩:=sameBits_keq 10000 hq
  simp [Instr.mapUpdate,run_underlying h1,hg,hc,hk,hi,Instr.keyThatStays,hs,run_setMap hb]
theorem run_mapNew {P:Program} {w:World} {t k e:TypeId} {d:TypeDesc} {b:Nat} {es:Array MapEntry} {ck:Nat} {v x:Value} (h:mpT P t=some (k,d,e)) (hb:w.heap[b]? = some (.map es ck))
    (hf:Instr.findNow d v es.toList 0=some none) :
    (Instr.mapUpdate t (.map (some b)) v x).run P w = .ok () (setMap w b (es.push { key:=v,val:=x,born:=ck }) (ck+1)):=by
  obtain ⟨h1,h2,h3⟩:=mpT_ok h
  have hg:(getObj b).run P w = .ok (.map es ck) w:=by simp [getObj,Sem.run,hb]
  have hc:=run_checkKey (w:=w) (v:=v) false 9999 h2 h3
  have hk:=run_findKey (w:=w) h2 hf
  simp [Instr.mapUpdate,run_underlying h1,hg,hc,hk,run_setMap hb]
theorem run_makeMap {P:Program} {w:World} {t:TypeId} : (Instr.makeMap t none).run P w = .ok (.map (some w.heap.size)) (w.alloc (.map #[] 0)):=by
  simp [Instr.makeMap,run_newObj]
section
variable {P:Program} {w0:World} {K0:K0T} {nt:Nat} {st:St} {a:Act} {w:World} {g:G}
theorem T.newmap (h:T w0 K0 nt st a w g) (i:Nat) :
    ∃ g',T w0 K0 nt ((st.clr i).setR i (some (.map (.ents [])))) a (w.alloc (.map #[] 0)) g'∧g'.loc i = .map (some w.heap.size)∧(∀ j,j≠i→g'.loc j=g.loc j)∧g'.K=g.K:=by
  refine ⟨{ g with loc:=fun j=>if j=i then .map (some w.heap.size) else g.loc j },?_,by simp,fun j hj=>by simp [hj],rfl⟩
  have hB:w0.heap.size≤w.heap.size:=h.below.size
  refine T.make h (g':={ g with loc:=fun j=>if j=i then .map (some w.heap.size) else g.loc j }) (Bel.of ((BelowD.refl _ _).alloc hB _)) ⟨fun _ _ k=>k,fun b o k=>World.cell?_alloc_lt _ _ _ (h.klt b o k)⟩ h.kold (fun b o k=>by
      have:=h.klt b o k;simp;omega) (fun j hj=>by simp [hj]) (fun j r b hj hr hb=>⟨Below.heap_alloc _ _ _ ((h.res j r hr).lt hb),fun _ k=>k⟩) (fun j r hj hr b hb hb2=>?_) ?_
  · simp [blk] at hb
    have:=(h.res j r hr).lt hb2
    omega
  · exact ⟨w.heap.size,#[],by simp,(fun e=>absurd e.1 (by omega)),heap_alloc_new w _,rfl,fun j e he=>by simp at he⟩
theorem setMap_other (w:World) (b k:Nat) (es:Array MapEntry) (ck:Nat) (h:k≠b):(setMap w b es ck).heap[k]? = w.heap[k]? := by
  simp [setMap,Array.getElem?_setIfInBounds_ne (Ne.symm h)]
theorem setMap_same {w:World} {b:Nat} {es es':Array MapEntry} {ck ck':Nat} (hb:w.heap[b]? = some (.map es ck)):(setMap w b es' ck').heap[b]? = some (.map es' ck'):=by
  have:=(Array.getElem?_eq_some_iff.1 hb).1
  simp [setMap,this]
theorem T.setmap (h:T w0 K0 nt st a w g) {i b:Nat} {kvs kvs':List (Value × List S)} {es es':Array MapEntry} {ck:Nat} (hi:st.rs i=some (.map (.ents kvs))) (hl:g.loc i = .map (some b)) (hb:w.heap[b]? = some (.map es ck))
    (hr:MapR g w st.rs kvs' es'.toList) (hbo:∀ (j:Nat) (e:MapEntry),es'[j]? = some e→e.born=j):T w0 K0 nt (st.setR i (some (.map (.ents kvs')))) a (setMap w b es' es'.size) g:=by
  have hB:=((h.res i _ hi).block (b:=b) (by rw [hl];rfl)).1
  have hk:Keeps g.K w g.K (setMap w b es' es'.size):=⟨fun _ _ k=>k,fun b' o k=>by
    by_cases e:b'=b
    · subst e
      simp only [World.cell?]
      rw [setMap_same hb,hb]
    · simp only [World.cell?];rw [setMap_other _ _ _ _ _ e]⟩
  refine T.mod h hi ⟨rfl,rfl,rfl,by simp [setMap],fun k hk'=>setMap_other _ _ _ _ _ (fun e=>hB (e ▸ hk')),Nat.le_refl _⟩ hk h.kold (fun b' o k=>by simpa [setMap] using h.klt b' o k) rfl
    (fun j r' b' hj hrj hbj=>⟨setMap_other _ _ _ _ _ (fun e=>?_),fun _ k=>k⟩) (.inr (.inr ⟨_,_,rfl,rfl,rfl⟩)) (fun hc=>?_)
  · subst e
    exact h.dis i j _ r' hi hrj (Ne.symm hj) b' (by rw [hl];rfl) hbj
  · exact ⟨b,es',hl,hB,setMap_same hb,MapR.mono hk _ _ hc hr,hbo⟩
end
end Go.VL
