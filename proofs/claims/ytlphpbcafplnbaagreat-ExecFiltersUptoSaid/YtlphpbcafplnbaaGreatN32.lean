/- Contracts of functions of the seat, proved in a logic on data over the model (part N32). -/
import Derived.Test.YtlphpbcafplnbaaGreatN30
set_option linter.unusedSimpArgs false
set_option linter.unusedVariables false
namespace Go.Proofs.YtlphpbcafplnbaaGreat
open Go.VL Go.RowKit
theorem Rise.lt {E:List Int} (h:Rise E) {i j:Nat} (hij:i<j) (hj:j<E.length):(ge E (i))<(ge E (j)):=by
  rw [ge_pos _ _ hj,ge_pos _ _ (by omega)]
  exact List.pairwise_iff_getElem.1 h i j (by omega) hj hij
theorem Rise.gap {E:List Int} (h:Rise E) {j:Nat} (hj:j+1<E.length) {x:Int} (hx:x∈E) (hlt:(ge E (j))<x):(ge E (j+1))≤x:=by
  obtain ⟨i,hi,rfl⟩:=List.getElem_of_mem hx
  rw [← ge_pos E i hi] at hlt ⊢
  have:j<i:=by
    apply Classical.byContradiction
    intro hn
    by_cases e:i=j
    · subst e;omega
    · have:=h.lt (show i<j by omega) (by omega);omega
  by_cases e:i=j+1
  · subst e;exact Int.le_refl _
  · have:=h.lt (show j+1<i by omega) hi;omega
theorem Rise.cell {E:List Int} (h:Rise E) {x y t:Int} (hx:x∈E) (hy:y∈E) (h1:x≤t) (h2:t<y):∃ j,j+1<E.length∧(ge E (j))≤t∧t<(ge E (j+1)):=by
  obtain ⟨i,hi,rfl⟩:=List.getElem_of_mem hx
  obtain ⟨k,hk,rfl⟩:=List.getElem_of_mem hy
  rw [← ge_pos E i hi] at h1
  rw [← ge_pos E k hk] at h2
  clear hx hy
  induction k with
  | zero =>
    exfalso
    by_cases e:i=0
    · subst e;omega
    · have:=h.lt (show 0<i by omega) hi;omega
  | succ k ih =>
    by_cases e:t<(ge E (k))
    · exact ih (by omega) e
    · exact ⟨k,hk,by omega,h2⟩
def whereS (E:List Int) (cond:Int→Bool) (out:List Per) (i:Nat):List Per :=
  if cond (ge E (i)) then (if decide (0<out.length) && decide ((out[out.length-1]!).t=(ge E (i))) then out.set (out.length-1) ⟨(out[out.length-1]!).f,(ge E (i+1))⟩ else out++[⟨(ge E (i)),(ge E (i+1))⟩]) else out
def whereK (E:List Int) (cond:Int→Bool):Nat→List Per
  | 0=>[]
  | k+1=>whereS E cond (whereK E cond k) k
theorem whereK_ok {E:List Int} (hE:Rise E) (hb:∀ t∈E,0≤t∧t≤1099511627776) (cond:Int→Bool):∀ k,k+1≤E.length →
    Canon (whereK E cond k)∧(∀ q∈whereK E cond k,q.t≤(ge E (k)))∧∀ t,inL (whereK E cond k) t=true↔∃ j,j<k∧(ge E (j))≤t∧t<(ge E (j+1))∧cond (ge E (j))=true
  | 0,_=>⟨Canon.nil,by simp [whereK],fun t=>by simp [whereK,inL]⟩
  | k+1,hk=>by
    obtain ⟨h1,h2,h3⟩:=whereK_ok hE hb cond k (by omega)
    have hlt:=hE.lt (show k<k+1 by omega) (show k+1<E.length by omega)
    rw [whereK]
    unfold whereS
    have b0:=hb (ge E (k)) (by rw [ge_pos _ _ (by omega)];exact List.getElem_mem _)
    have b1:=hb (ge E (k+1)) (by rw [ge_pos _ _ (by omega)];exact List.getElem_mem _)
    by_cases hc:cond (ge E (k))=true
    · rw [if_pos hc]
      generalize hout:whereK E cond k=out at *
      rcases List.eq_nil_or_concat out with rfl | ⟨ini,q,rfl⟩
      · rw [if_neg (by simp)]
        refine ⟨h1.snoc (by rw [right_iff];simp only;omega) (by simp),fun q hq=>by simp at hq;subst hq;exact Int.le_refl _,fun t=>?_⟩
        rw [inL_append,Bool.or_eq_true,h3]
        constructor
        · rintro (⟨j,a,b,c,d⟩ | h)
          · exact ⟨j,by omega,b,c,d⟩
          · simp [inL,has_iff] at h;exact ⟨k,by omega,h.1,h.2,hc⟩
        · rintro ⟨j,a,b,c,d⟩
          by_cases e:j=k
          · subst e;exact .inr (by simp [inL,has_iff];exact ⟨b,c⟩)
          · exact .inl ⟨j,by omega,b,c,d⟩
      · simp only [List.concat_eq_append] at *
        have hq:=h2 q (by simp)
        have hlast:(ini++[q])[(ini++[q]).length-1]! = q:=by
          rw [getElem!_pos _ _ (by simp)];simp
        rw [hlast]
        obtain ⟨c1,c2,c3⟩:=h1.init
        have hqr:=(right_iff q).1 c2
        by_cases he:q.t=(ge E (k))
        · rw [if_pos (by simp [he])]
          have hset:(ini++[q]).set ((ini++[q]).length-1) ⟨q.f,(ge E (k+1))⟩=ini++[⟨q.f,(ge E (k+1))⟩]:=by
            rw [List.set_append_right _ _ (by simp)];simp
          rw [hset]
          refine ⟨c1.snoc (by rw [right_iff];simp only;omega) c3,fun r hr=>?_,fun t=>?_⟩
          · rcases List.mem_append.1 hr with hr | hr
            · have:=h2 r (by simp [hr]);omega
            · simp at hr;subst hr;exact Int.le_refl _
          · have h3:=h3 t
            rw [inL_append,Bool.or_eq_true] at h3 ⊢
            have e1:inL [q] t=true↔q.f≤t∧t<q.t:=by simp [inL,has_iff]
            have e2:inL [⟨q.f,(ge E (k+1))⟩] t=true↔q.f≤t∧t<(ge E (k+1)):=by simp [inL,has_iff]
            rw [e1] at h3
            rw [e2]
            constructor
            · rintro (h | ⟨ha,hb⟩)
              · obtain ⟨j,a,b,c,d⟩:=h3.1 (.inl h)
                exact ⟨j,by omega,b,c,d⟩
              · by_cases hlt2:t<q.t
                · obtain ⟨j,a,b,c,d⟩:=h3.1 (.inr ⟨ha,hlt2⟩)
                  exact ⟨j,by omega,b,c,d⟩
                · exact ⟨k,by omega,by omega,hb,hc⟩
            · rintro ⟨j,a,b,c,d⟩
              by_cases e:j=k
              · subst e;exact .inr ⟨by omega,c⟩
              · rcases h3.2 ⟨j,by omega,b,c,d⟩ with h | ⟨ha,hb⟩
                · exact .inl h
                · exact .inr ⟨ha,by omega⟩
        · rw [if_neg (by simp [he])]
          refine ⟨h1.snoc (by rw [right_iff];simp only;omega) (fun r hr=>?_),fun r hr=>?_,fun t=>?_⟩
          · simp only
            rcases List.mem_append.1 hr with hr | hr
            · have:=c3 r hr;omega
            · simp at hr;subst hr;omega
          · rcases List.mem_append.1 hr with hr | hr
            · have:=h2 r hr;omega
            · simp at hr;subst hr;exact Int.le_refl _
          · rw [inL_append,Bool.or_eq_true,h3]
            constructor
            · rintro (⟨j,a,b,c,d⟩ | h)
              · exact ⟨j,by omega,b,c,d⟩
              · simp [inL,has_iff] at h;exact ⟨k,by omega,h.1,h.2,hc⟩
            · rintro ⟨j,a,b,c,d⟩
              by_cases e:j=k
              · subst e;exact .inr (by simp [inL,has_iff];exact ⟨b,c⟩)
              · exact .inl ⟨j,by omega,b,c,d⟩
    · rw [if_neg hc]
      refine ⟨h1,fun q hq=>by have:=h2 q hq;omega,fun t=>?_⟩
      rw [h3]
      constructor
      · rintro ⟨j,a,b,c,d⟩;exact ⟨j,by omega,b,c,d⟩
      · rintro ⟨j,a,b,c,d⟩
        by_cases e:j=k
        · subst e;exact absurd d hc
        · exact ⟨j,by omega,b,c,d⟩
def condW (a:Per) (w wo:List Per) (t:Int):Bool:=(right a && has a t && !someP wo t) || someP w t
def allW (a:Per) (w wo:List Per):List Per:=[a]++w++wo
def whereL (a:Per) (w wo:List Per):List Per:=whereK (edgesL (allW a w wo)) (condW a w wo) ((edgesL (allW a w wo)).length-1)
theorem has_cell {l:List Per} {p:Per} (hp:p∈l) (hr:right p=true) {j:Nat} (hj:j+1<(edgesL l).length) {t:Int} (h1:(ge (edgesL l) j)≤t) (h2:t<(ge (edgesL l) (j+1))):has p t=has p (ge (edgesL l) j):=by
  obtain ⟨hE,hm⟩:=edgesL_ok l
  have m1:=(hm p.f).2 ((mem_endsOf l _).2 ⟨p,hp,hr,.inl rfl⟩)
  have m2:=(hm p.t).2 ((mem_endsOf l _).2 ⟨p,hp,hr,.inr rfl⟩)
  rw [Bool.eq_iff_iff,has_iff,has_iff]
  constructor
  · rintro ⟨a,b⟩
    refine ⟨?_,by omega⟩
    apply Classical.byContradiction
    intro hn
    have:=hE.gap hj m1 (by omega)
    omega
  · rintro ⟨a,b⟩
    refine ⟨by omega,?_⟩
    have:=hE.gap hj m2 b
    omega
theorem some_cell {l m:List Per} (hs:∀ p∈m,p∈l) {j:Nat} (hj:j+1<(edgesL l).length) {t:Int} (h1:(ge (edgesL l) j)≤t) (h2:t<(ge (edgesL l) (j+1))):someP m t=someP m (ge (edgesL l) j):=by
  unfold someP
  rw [Bool.eq_iff_iff,List.any_eq_true,List.any_eq_true]
  constructor
  · rintro ⟨p,hp,h⟩
    simp only [Bool.and_eq_true] at h
    exact ⟨p,hp,by rw [h.1,← has_cell (hs p hp) h.1 hj h1 h2,h.2];rfl⟩
  · rintro ⟨p,hp,h⟩
    simp only [Bool.and_eq_true] at h
    exact ⟨p,hp,by rw [h.1,has_cell (hs p hp) h.1 hj h1 h2,h.2];rfl⟩
theorem whereL_ok (a:Per) (w wo:List Per):Canon (whereL a w wo)∧∀ t,inL (whereL a w wo) t=condW a w wo t:=by
  obtain ⟨hE,hm⟩:=edgesL_ok (allW a w wo)
  have ha:a∈allW a w wo:=by simp [allW]
  have hw:∀ p∈w,p∈allW a w wo:=fun p hp=>by simp [allW,hp]
  have hwo:∀ p∈wo,p∈allW a w wo:=fun p hp=>by simp [allW,hp]
  have hcell:=fun (j:Nat) (hj:j+1<(edgesL (allW a w wo)).length) (t:Int) (h1:(ge (edgesL (allW a w wo)) j)≤t) (h2:t<(ge (edgesL (allW a w wo)) (j+1))) =>
    show condW a w wo t=condW a w wo (ge (edgesL (allW a w wo)) j) by
      unfold condW
      rw [some_cell hw hj h1 h2,some_cell hwo hj h1 h2]
      cases hr:right a with
      | false=>simp
      | true=>rw [has_cell ha hr hj h1 h2]
  have hin:∀ t,condW a w wo t=true→∃ j,j+1<(edgesL (allW a w wo)).length∧(ge (edgesL (allW a w wo)) j)≤t∧t<(ge (edgesL (allW a w wo)) (j+1)):=by
    intro t h
    have:∃ p∈allW a w wo,right p=true∧has p t=true:=by
      unfold condW at h
      rw [Bool.or_eq_true] at h
      rcases h with h | h
      · simp only [Bool.and_eq_true] at h
        exact ⟨a,ha,h.1.1,h.1.2⟩
      · unfold someP at h
        rw [List.any_eq_true] at h
        obtain ⟨p,hp,h⟩:=h
        simp only [Bool.and_eq_true] at h
        exact ⟨p,hw p hp,h.1,h.2⟩
    obtain ⟨p,hp,hr,ht⟩:=this
    rw [has_iff] at ht
    exact hE.cell ((hm p.f).2 ((mem_endsOf _ _).2 ⟨p,hp,hr,.inl rfl⟩)) ((hm p.t).2 ((mem_endsOf _ _).2 ⟨p,hp,hr,.inr rfl⟩)) ht.1 ht.2
  have hb:∀ t∈edgesL (allW a w wo),0≤t∧t≤1099511627776:=by
    intro t ht
    obtain ⟨p,hp,hr,e⟩:=(mem_endsOf _ _).1 ((hm t).1 ht)
    have:=(right_iff p).1 hr
    rcases e with rfl | rfl <;> omega
  unfold whereL
  generalize edgesL (allW a w wo)=E at *
  rcases Nat.eq_zero_or_pos E.length with h0 | h0
  · have:E.length-1=0:=by omega
    rw [this]
    refine ⟨Canon.nil,fun t=>?_⟩
    cases hc:condW a w wo t with
    | false=>rfl
    | true=>obtain ⟨j,hj,_⟩:=hin t hc;omega
  · obtain ⟨h1,_,h3⟩:=whereK_ok hE hb (condW a w wo) (E.length-1) (by omega)
    refine ⟨h1,fun t=>?_⟩
    rw [Bool.eq_iff_iff,h3]
    constructor
    · rintro ⟨j,a1,b,c,d⟩
      rw [hcell j (by omega) t b c];exact d
    · intro h
      obtain ⟨j,hj,b,c⟩:=hin t h
      exact ⟨j,by omega,b,c,by rw [← hcell j hj t b c];exact h⟩
theorem where_union {sortP:List Per→List Per} (hs:Sorts sortP) (l:List Per):whereL ⟨0,0⟩ l []=unionL sortP l:=by
  obtain ⟨h1,h2⟩:=whereL_ok ⟨0,0⟩ l []
  obtain ⟨h3,h4⟩:=unionL_ok hs l
  refine Canon.ext h1 h3 fun t=>?_
  rw [h2,h4]
  have:right ⟨0,0⟩=false:=by decide
  simp [condW,this]
theorem refHas_at' (cs:List C) (p:Per) (t:Int) (h:cs=p.cells):Con Tryz.prog 64 [.agg cs,.c (i64 t)] [.c (bln (has p t))]:=by rw [h];exact refHas_spec p t
theorem refEdges_at (nl:Bool) (xs:List (List C)) (l:List Per) (h:xs=l.map Per.cells) (hl:l.length≤8796093022207) :
    Con Tryz.prog 106 [.c (.sl nl xs)] [.fr (edgesL l).isEmpty (ez (edgesL l)) (ints (edgesL l)) 0]:=by rw [h];exact refEdges_spec nl l hl
set_option maxRecDepth 4000 in
set_option maxHeartbeats 4000000 in
theorem some_spec (nil:Bool) (l:List Per) (t:Int) (hl:l.length≤140737488355328):Con Tryz.prog 128 [.c (.sl nil (l.map Per.cells)),.c (i64 t)] [.c (bln (someP l t))]:=by
  refine spec_of Tryz.func128 rfl (by kernel_rfl) (by simp [Tryz.f128]) (fun w0 K0=>vc_ok _ _ _ (by kernel_rfl) ?_)
  simp only [Tryz.f128]
  simp -dsimp
  refine VL.loop (fun k:Nat=>⟨[(5,.c (i64 k)),(0,.c (.sl nil (l.map Per.cells))),(1,.c (i64 t))],[]⟩) (fun k=>k≤l.length∧someP (l.take k) t=false) (fun k=>l.length-k) 0 (by kernel_rfl) (by simp [someP]) (by simp [St.le]) ?_
  intro k ⟨hk,hbef⟩
  simp -dsimp
  refine VIf.mk (fun h=>?_) (fun h=>?_)
  · have hlt:k<l.length:=by simpa using h
    have hw:IntKind.i64.wrap ((k:Int)+1)=(k:Int)+1:=IntWalk.i64_in _ (by omega)
    simp -dsimp [hlt,Per.cells]
    refine VC.mk _ (refRight_spec l[k]) ?_
    simp -dsimp
    have hg:(Option.map Per.cells l[k]?).getD []=l[k].cells:=by rw [List.getElem?_eq_getElem hlt];rfl
    refine ⟨fun _=>⟨hlt,by rw [hg];rfl⟩,fun _=>by rw [hg];exact Nat.le_refl 2,?_⟩
    refine VG.mk [.c (bln (has l[k] t))] _ (fun _=>by rw [hg];exact refHas_spec l[k] t) rfl ?_
    simp -dsimp
    refine VIf.mk (fun h2=>?_) (fun h2=>?_)
    · simp -dsimp
      unfold someP
      have:(l.any fun p=>right p && has p t)=true:=List.any_eq_true.2 ⟨l[k],List.getElem_mem hlt,h2⟩
      exact this
    · simp -dsimp [hw]
      refine ⟨k+1,⟨by omega,?_⟩,?_,by omega⟩
      · unfold someP at hbef ⊢
        rw [any_snoc _ hlt,hbef];exact h2
      · simp [St.le]
  · simp at h
    obtain rfl:k=l.length:=by omega
    simp -dsimp
    rw [← hbef,List.take_length]
theorem refRight_at' (cs:List C) (p:Per) (h:cs=p.cells):Con Tryz.prog 53 [.agg cs] [.c (bln (right p))]:=by rw [h];exact refRight_spec p
theorem whereS_len2 (E:List Int) (cond:Int→Bool) (out:List Per) (k:Nat) (h1:2*out.length≤k+1) (h2:(∀ h:0<out.length,(out[out.length-1]'(by omega)).t≠ge E k)→2*out.length≤k) :
    ∀ o,o=whereS E cond out k→2*o.length≤k+1+1∧((∀ h:0<o.length,(o[o.length-1]'(by omega)).t≠ge E (k+1))→2*o.length≤k+1):=by
  intro o ho
  unfold whereS at ho
  by_cases hc:cond (ge E k)=true
  · rw [if_pos hc] at ho
    by_cases hl:0<out.length
    · have hlast:out[out.length-1]! = out[out.length-1]:=getElem!_pos out _ (by omega)
      rw [hlast] at ho
      by_cases he:out[out.length-1].t=ge E k
      · rw [if_pos (by simp [hl,he])] at ho
        subst ho
        refine ⟨by simp;omega,fun h=>absurd ?_ (h (by simp;omega))⟩
        simp
      · rw [if_neg (by simp [he])] at ho
        subst ho
        have:=h2 (fun _=>he)
        refine ⟨by simp;omega,fun h=>absurd ?_ (h (by simp))⟩
        simp
    · rw [if_neg (by simp [hl])] at ho
      subst ho
      have h0:out.length=0:=by omega
      refine ⟨by simp;omega,fun h=>absurd ?_ (h (by simp))⟩
      simp
  · rw [if_neg hc] at ho
    subst ho
    exact ⟨by omega,fun _=>by omega⟩
theorem whereK_len2 (E:List Int) (cond:Int→Bool):∀ k,∀ o,o=whereK E cond k→2*o.length≤k+1∧((∀ h:0<o.length,(o[o.length-1]'(by omega)).t≠ge E k)→2*o.length≤k)
  | 0,o,ho=>by subst ho;simp [whereK]
  | k+1,o,ho=>by
    obtain ⟨h1,h2⟩:=whereK_len2 E cond k _ rfl
    exact whereS_len2 E cond _ k h1 h2 o ho
set_option maxRecDepth 4000 in
set_option maxHeartbeats 16000000 in
theorem refWhere_spec (a:Per) (n1 n2:Bool) (w wo:List Per) (hl:w.length+wo.length+1≤8796093022207) :
    Con Tryz.prog 104 [.agg a.cells,.c (.sl n1 (w.map Per.cells)),.c (.sl n2 (wo.map Per.cells))] [.fr (whereL a w wo).isEmpty (esz (whereL a w wo)) ((whereL a w wo).map Per.cells) 0]:=by
  refine spec_of Tryz.func104 rfl (by kernel_rfl) (by simp [Tryz.f104]) (fun w0 K0=>vc_ok _ _ _ (by kernel_rfl) ?_)
  simp only [Tryz.f104]
  simp -dsimp [Per.cells,maxLen]
  refine ⟨by omega,by omega,by omega,VCL.snap ?_⟩
  simp -dsimp
  refine ⟨by omega,?_⟩
  have hE:=refEdges_at false ([i64 a.f,i64 a.t]::(w.map Per.cells++wo.map Per.cells)) (allW a w wo) (by simp [allW,Per.cells]) (by simp [allW];try omega)
  refine VC.mk _ hE ?_
  have hlen:=edgesL_len (allW a w wo)
  have hal:(allW a w wo).length=w.length+wo.length+1:=by simp [allW];try omega
  have hwd:whereL a w wo=whereK (edgesL (allW a w wo)) (condW a w wo) ((edgesL (allW a w wo)).length-1):=rfl
  rw [hwd]
  clear hwd hE
  generalize edgesL (allW a w wo)=E at *
  simp -dsimp
  refine VL.loop (fun i:LI=>⟨[(10,.c (i64 i.k)),(9,.own 576 (whereK E (condW a w wo) i.k).length),(8,.own 1280 E.length),(3,.ptr 192 0),(1,.c (.sl n1 (w.map Per.cells))),(2,.c (.sl n2 (wo.map Per.cells)))],
      [(576,some (.arr i.nl i.sz ((whereK E (condW a w wo) i.k).map Per.cells) 0)),(1280,some (.arr E.isEmpty (ez E) (ints E) 0)),(192,some (.box false [.c (i64 a.f),.c (i64 a.t)]))]⟩)
    (fun i=>i.k≤E.length-1∧i.nl=(whereK E (condW a w wo) i.k).isEmpty∧i.sz=esz (whereK E (condW a w wo) i.k)) (fun i=>E.length-i.k) ⟨0,true,0⟩ (by kernel_rfl) (by simp [whereK,esz]) (by simp [St.le,whereK]) ?_
  intro ⟨k,nl',sz⟩ ⟨hk,hnl,hsz⟩
  simp only at hk hnl hsz
  have hol:=(whereK_len2 E (condW a w wo) k _ rfl).1
  have hsu:whereK E (condW a w wo) (k+1)=whereS E (condW a w wo) (whereK E (condW a w wo) k) k:=rfl
  generalize ho:whereK E (condW a w wo) k=out at *
  have hw:IntKind.i64.wrap ((k:Int)+1)=(k:Int)+1:=IntWalk.i64_in _ (by omega)
  by_cases hlt:k+1<E.length
  · have hEe:E.isEmpty=false:=by cases E with | nil=>simp at hlt | cons=>rfl
    have hEz:ez E=1:=by simp [ez,hEe]
    have hd:decide ((k:Int)+1<(E.length:Int))=true:=by simp;omega
    have hk1:k<E.length:=by omega
    have g0:ge E k=E[k]:=ge_pos E k hk1
    have g1:ge E (k+1)=E[k+1]:=ge_pos E _ hlt
    simp -dsimp [hw,hd,hEe,hEz,hk1]
    refine VC.mk _ (refRight_at' _ a rfl) ?_
    simp -dsimp
    refine VG.mk [.c (bln (has a E[k]))] _ (fun _=>refHas_at' _ a _ rfl) rfl ?_
    simp -dsimp
    refine VG.mk [.c (bln (someP wo E[k]))] _ (fun _=>some_spec n2 wo _ (by omega)) rfl ?_
    simp -dsimp
    refine VG.mk [.c (bln (someP w E[k]))] _ (fun _=>some_spec n1 w _ (by omega)) rfl ?_
    simp -dsimp
    refine ⟨fun h=>?_,?_⟩
    · cases h1:right a <;> cases h2:has a E[k] <;> cases h3:someP wo E[k] <;> simp_all
    have hc:condW a w wo E[k] = !((!right a || !has a E[k] || someP wo E[k]) && !someP w E[k]):=by
      unfold condW
      cases right a <;> cases has a E[k] <;> cases someP wo E[k] <;> cases someP w E[k] <;> rfl
    refine VIf.mk (fun h=>?_) (fun h=>?_)
    · have e:whereS E (condW a w wo) out k=out:=by unfold whereS;rw [g0,hc,h];rfl
      rw [e] at hsu
      simp -dsimp [hw]
      refine ⟨⟨k+1,nl',sz⟩,⟨show k+1≤E.length-1 by omega,by rw [hsu];exact hnl,by rw [hsu];exact hsz⟩,?_,by simp;omega⟩
      simp [St.le,hsu,hEe,hEz]
    · have hcd:condW a w wo E[k]=true:=by rw [hc,h];rfl
      simp -dsimp
      match out,hnl,hol,hsz,hsu with
      | [],hnl,hol,hsz,hsu =>
        obtain rfl:nl'=true:=hnl
        obtain rfl:sz=0:=hsz
        have e:whereS E (condW a w wo) [] k=[⟨E[k],E[k+1]⟩]:=by unfold whereS;rw [g0,hcd,g1];simp
        rw [e] at hsu
        simp -dsimp [hw,maxLen,defC,hlt,hk1]
        refine ⟨by omega,⟨k+1,false,2⟩,⟨show k+1≤E.length-1 by omega,by rw [hsu];rfl,by rw [hsu];rfl⟩,?_,show E.length-(k+1)<E.length-k by omega⟩
        simp [St.le,hsu,hEe,hEz,Per.cells]
      | x::r,hnl,hol,hsz,hsu =>
        obtain rfl:nl'=false:=hnl
        obtain rfl:sz=2:=hsz
        generalize hout:x::r=out at *
        have hne:0<out.length:=by rw [← hout];simp
        have hT:IntKind.i64.wrap ((out.length:Int)-1)=((out.length-1:Nat):Int):=by rw [IntWalk.i64_in _ (by omega)];omega
        have hl1:out.length-1<out.length:=by omega
        have hlast:out[out.length-1]! = out[out.length-1]:=getElem!_pos out _ hl1
        simp -dsimp [hw,hne,hl1,hT,Per.cells]
        refine VIf.mk (fun hle=>?_) (fun hle=>?_)
        · have hle':out[out.length-1].t=E[k]:=by simpa using hle
          have e:whereS E (condW a w wo) out k=out.set (out.length-1) ⟨out[out.length-1].f,E[k+1]⟩:=by
            unfold whereS;rw [g0,hcd,g1,hlast];simp [hne,hle']
          rw [e] at hsu
          simp -dsimp [hw,hne,hl1,hT,hlt,hk1,Per.cells]
          refine ⟨by omega,⟨k+1,false,2⟩,⟨show k+1≤E.length-1 by omega,?_,?_⟩,?_,show E.length-(k+1)<E.length-k by omega⟩
          · rw [hsu];simp only [Bool.false_eq,List.isEmpty_eq_false_iff];intro e2;have:=congrArg List.length e2;rw [List.length_set] at this;simp at this;simp [this] at hne
          · rw [hsu];unfold esz;rw [if_neg];simp only [List.isEmpty_iff];intro e2;have:=congrArg List.length e2;rw [List.length_set] at this;simp at this;simp [this] at hne
          · simp [St.le,hsu,List.map_set,hEe,hEz,Per.cells]
        · have hle':¬ out[out.length-1].t=E[k]:=by simpa using hle
          have e:whereS E (condW a w wo) out k=out++[⟨E[k],E[k+1]⟩]:=by
            unfold whereS;rw [g0,hcd,g1,hlast];simp [hle']
          rw [e] at hsu
          simp -dsimp [hw,maxLen,hlt,hk1,Per.cells]
          refine ⟨by omega,by omega,⟨k+1,false,2⟩,⟨show k+1≤E.length-1 by omega,by rw [hsu];simp,by rw [hsu];simp [esz]⟩,?_,show E.length-(k+1)<E.length-k by omega⟩
          simp [St.le,hsu,hEe,hEz,Per.cells]
  · have hd:decide ((k:Int)+1<(E.length:Int))=false:=by simp;omega
    simp -dsimp [hw,hd]
    obtain rfl:k=E.length-1:=by omega
    rw [ho]
    exact ⟨⟨hnl,hsz,rfl⟩,rfl⟩
theorem refUnion_spec {sortP:List Per→List Per} (hs:Sorts sortP) (nl:Bool) (l:List Per) (hl:l.length≤8796093022206) :
    Con Tryz.prog 80 [.c (.sl nl (l.map Per.cells))] [.fr (unionL sortP l).isEmpty (esz (unionL sortP l)) ((unionL sortP l).map Per.cells) 0]:=by
  have h:=refWhere_spec ⟨0,0⟩ nl true l [] (by simp;omega)
  rw [where_union hs] at h
  refine spec_of Tryz.func80 rfl (by kernel_rfl) (by simp [Tryz.f80]) (fun w0 K0=>vc_ok _ _ _ (by kernel_rfl) ?_)
  simp only [Tryz.f80]
  simp -dsimp
  refine VC.mk _ h ?_
  simp -dsimp
set_option maxRecDepth 4000 in
set_option maxHeartbeats 8000000 in
theorem num13_spec (fl:List Val→Bool) (nl nr:Bool) (rs:List (List Val)) (r:List Val) (hl:rs.length≤140737488355328) (hr:∀ x∈rs,x.length≤140737488355328) :
    Con Tryz.prog 79 [.c (.sl nl (rowsW fl rs)),.c (.sl nr (vals r))] [.c (i64 (rs.count r))]:=by
  refine spec_of Tryz.func79 rfl (by kernel_rfl) (by simp [Tryz.f79]) (fun w0 K0=>vc_ok _ _ _ (by kernel_rfl) ?_)
  simp only [Tryz.f79]
  simp -dsimp
  refine VL.loop (fun k:Nat=>⟨[(6,.c (i64 k)),(5,.c (i64 ((rs.take k).count r))),(0,.c (.sl nl (rowsW fl rs))),(1,.c (.sl nr (vals r)))],[]⟩)
    (fun k=>k≤rs.length) (fun k=>rs.length-k) 0 (by kernel_rfl) (by simp) (by simp [St.le]) ?_
  intro k hk
  by_cases h1:k<rs.length
  · have hw:IntKind.i64.wrap ((k:Int)+1)=(k:Int)+1:=IntWalk.i64_in _ (by omega)
    have hc:=List.count_le_length (a:=r) (l:=rs.take k)
    rw [List.length_take] at hc
    have hw2:IntKind.i64.wrap (((rs.take k).count r:Int)+1)=((rs.take k).count r:Int)+1:=IntWalk.i64_in _ (by omega)
    have hsn:(rs.take (k+1)).count r=(rs.take k).count r+if rs[k]=r then 1 else 0:=by
      rw [take_snoc h1,List.count_append,List.count_singleton]
      simp
    simp -dsimp [h1]
    refine VC.mk _ (refSame_spec _ _ rs[k] r (hr _ (List.getElem_mem h1))) ?_
    simp -dsimp
    refine VIf.mk (fun h=>?_) (fun h=>?_)
    · rw [if_pos (of_decide_eq_true h)] at hsn
      simp -dsimp [hw,hw2]
      refine ⟨k+1,by omega,?_,by omega⟩
      simp [St.le,hsn]
    · rw [if_neg (of_decide_eq_false h),Nat.add_zero] at hsn
      simp -dsimp [hw]
      refine ⟨k+1,by omega,?_,by omega⟩
      simp [St.le,hsn]
  · obtain rfl:k=rs.length:=by omega
    rw [List.take_length]
    simp -dsimp
set_option maxRecDepth 4000 in
set_option maxHeartbeats 8000000 in
theorem before_spec (f g:Fact) (hr:f.row.length≤140737488355328):Con Tryz.prog 105 [.agg f.cells,.agg g.cells] [.c (bln (decide (ordF f g<0)))]:=by
  refine spec_of Tryz.func105 rfl (by kernel_rfl) (by simp [Tryz.f105]) (fun w0 K0=>vc_ok _ _ _ (by kernel_rfl) ?_)
  simp only [Tryz.f105]
  simp -dsimp [Fact.cells]
  refine VC.mk _ (refCompare_spec _ _ f.row g.row hr) ?_
  simp -dsimp
  refine VIf.mk (fun h=>?_) (fun h=>?_)
  · have h':¬ cmpR f.row g.row=0:=by simpa using h
    have e:ordF f g=cmpR f.row g.row:=by unfold ordF lexC;rw [if_neg h']
    simp -dsimp
    rw [e]
  · have h':cmpR f.row g.row=0:=by simpa using h
    have e:ordF f g=lexC (fun f g:Fact=>cmpI f.p.f g.p.f) (fun f g=>cmpI f.p.t g.p.t) f g:=by unfold ordF;rw [lexC,if_pos h']
    simp -dsimp
    refine ⟨fun h=>⟨h,fun h2=>⟨h,h2⟩⟩,?_⟩
    rw [e]
    unfold lexC cmpI
    rw [Bool.eq_iff_iff]
    simp only [Bool.or_eq_true,Bool.and_eq_true,decide_eq_true_eq,beq_iff_eq]
    repeat' split
    all_goals omega
def Plain (l:List Fact):Prop:=∀ f∈l,f.nl=false
theorem plain_uniq {l m:List Fact} (hl:Plain l) (hp:m.Perm l) (hs:m.Pairwise fun x y=>ordF x y≤0):m=sortF l:=by
  refine uniq_sorted (hp.trans (sortF_perm l).symm) hs (sortF_sorted l) fun a ha b hb h1 h2=>?_
  have:=Cmp.fact.anti a b
  have e:=ordF_0.1 (show ordF a b=0 by omega)
  have na:=hl a (hp.mem_iff.1 ha)
  have nb:=hl b (hp.mem_iff.1 hb)
  cases a;cases b
  simp at e na nb
  simp [e,na,nb]
theorem before_at (xs ys:List C) (f g:Fact) (h1:xs=f.cells) (h2:ys=g.cells) (hr:f.row.length≤140737488355328):Con Tryz.prog 105 [.agg xs,.agg ys] [.c (bln (decide (ordF f g<0)))]:=by rw [h1,h2];exact before_spec f g hr
structure SI where
  out:List Fact
  A:List Fact
  B:List Fact
def SI.Ok (l:List Fact) (i:SI):Prop:=(i.out++i.A++i.B).Perm l∧(i.out++i.A).Pairwise (fun x y=>ordF x y≤0)∧(i.out++i.B).Pairwise (fun x y=>ordF x y≤0)
theorem SI.takeA {l out A B:List Fact} {x:Fact} (h:SI.Ok l ⟨out,x::A,B⟩) (hb:∀ y∈B,ordF x y≤0):SI.Ok l ⟨out++[x],A,B⟩:=by
  obtain ⟨h1,h2,h3⟩:=h
  simp only at h1 h2 h3
  refine ⟨by simpa using h1,by simpa using h2,?_⟩
  show (out++[x]++B).Pairwise _
  rw [List.append_assoc,List.pairwise_append]
  obtain ⟨a1,a2,a3⟩:=List.pairwise_append.1 h2
  obtain ⟨b1,b2,b3⟩:=List.pairwise_append.1 h3
  refine ⟨a1,List.pairwise_cons.2 ⟨hb,b2⟩,fun u hu v hv=>?_⟩
  rcases List.mem_cons.1 hv with rfl | hv
  · exact a3 u hu _ (by simp)
  · exact b3 u hu v hv
theorem SI.takeB {l out A B:List Fact} {y:Fact} (h:SI.Ok l ⟨out,A,y::B⟩) (hb:∀ x∈A,ordF y x≤0):SI.Ok l ⟨out++[y],A,B⟩:=by
  obtain ⟨h1,h2,h3⟩:=h
  simp only at h1 h2 h3
  refine ⟨?_,?_,by simpa using h3⟩
  · refine List.Perm.trans ?_ h1
    show (out++[y]++A++B).Perm (out++A++(y::B))
    simp only [List.append_assoc]
    refine List.Perm.append_left _ ?_
    exact (List.perm_middle (l₁:=A) (l₂:=B) (a:=y)).symm
  · show (out++[y]++A).Pairwise _
    rw [List.append_assoc,List.pairwise_append]
    obtain ⟨a1,a2,a3⟩:=List.pairwise_append.1 h2
    obtain ⟨b1,b2,b3⟩:=List.pairwise_append.1 h3
    refine ⟨a1,List.pairwise_cons.2 ⟨hb,a2⟩,fun u hu v hv=>?_⟩
    rcases List.mem_cons.1 hv with rfl | hv
    · exact b3 u hu _ (by simp)
    · exact a3 u hu v hv
theorem SI.ge {l out A B:List Fact} {x y:Fact} (h:SI.Ok l ⟨out,x::A,y::B⟩) (hxy:ordF x y≤0):∀ z∈y::B,ordF x z≤0:=by
  obtain ⟨_,_,h3⟩:=h
  have h4:=(List.pairwise_append.1 h3).2.1
  intro z hz
  rcases List.mem_cons.1 hz with rfl | hz
  · exact hxy
  · exact Cmp.fact.trans x y z hxy ((List.pairwise_cons.1 h4).1 z hz)
theorem SI.ge2 {l out A B:List Fact} {x y:Fact} (h:SI.Ok l ⟨out,x::A,y::B⟩) (hxy:ordF y x≤0):∀ z∈x::A,ordF y z≤0:=by
  obtain ⟨_,h2,_⟩:=h
  have h4:=(List.pairwise_append.1 h2).2.1
  intro z hz
  rcases List.mem_cons.1 hz with rfl | hz
  · exact hxy
  · exact Cmp.fact.trans y x z hxy ((List.pairwise_cons.1 h4).1 z hz)
theorem sorted_step (n:Nat) (ih:∀ (m:Nat),m<n→∀ (nl:Bool) (l:List Fact),l.length=m→l.length≤3518437208883→Rows1 l→Plain l→Con Tryz.prog 81 [.c (.sl nl (facts l))] [.c (.sl (if l.length<2 then nl else false) (facts (sortF l)))])
    (nl:Bool) (l:List Fact) (hn:l.length=n) (hl:l.length≤3518437208883) (hr:Rows1 l) (hp:Plain l):Con Tryz.prog 81 [.c (.sl nl (facts l))] [.c (.sl (if l.length<2 then nl else false) (facts (sortF l)))]:=by
  by_cases h2:l.length<2
  · have e:sortF l=l:=by
      match l,h2 with
      | [],_=>exact (plain_uniq hp (.refl _) (by simp)).symm
      | [x],_=>exact (plain_uniq hp (.refl _) (by simp)).symm
    rw [if_pos h2,e]
    refine spec_of Tryz.func81 rfl (by kernel_rfl) (by simp [Tryz.f81]) (fun w0 K0=>vc_ok _ _ _ (by kernel_rfl) ?_)
    simp only [Tryz.f81]
    have h3:((l.length:Int)<2)=True:=eq_true (by omega)
    simp -dsimp [h3]
  · rw [if_neg h2]
    have mem1:∀ f∈l.take (l.length / 2),f∈l:=fun f hf=>List.mem_of_mem_take hf
    have mem2:∀ f∈l.drop (l.length / 2),f∈l:=fun f hf=>List.mem_of_mem_drop hf
    have k1:=ih (l.length / 2) (by omega) nl (l.take (l.length / 2)) (by rw [List.length_take];omega) (by rw [List.length_take];omega) (fun f hf=>hr f (mem1 f hf)) (fun f hf=>hp f (mem1 f hf))
    have k2:=ih (l.length-l.length / 2) (by omega) nl (l.drop (l.length / 2)) (by rw [List.length_drop]) (by rw [List.length_drop];omega) (fun f hf=>hr f (mem2 f hf)) (fun f hf=>hp f (mem2 f hf))
    refine Con.frz (rs:=[.fr false 3 (facts (sortF l)) 0]) ?_ 0 rfl
    refine spec_of Tryz.func81 rfl (by kernel_rfl) (by simp [Tryz.f81]) (fun w0 K0=>vc_ok _ _ _ (by kernel_rfl) ?_)
    simp only [Tryz.f81]
    have h3:((l.length:Int)<2)=False:=by simp;omega
    have h5:IntKind.i64.wrap ((l.length:Int) / 2)=((l.length / 2:Nat):Int):=by rw [IntWalk.i64_in _ (by omega)];omega
    rw [facts,List.map_take] at k1
    rw [facts,List.map_drop] at k2
    have hA:=sortF_sorted (l.take (l.length / 2))
    have hB:=sortF_sorted (l.drop (l.length / 2))
    have pA:=sortF_perm (l.take (l.length / 2))
    have pB:=sortF_perm (l.drop (l.length / 2))
    have h0:SI.Ok l ⟨[],sortF (l.take (l.length / 2)),sortF (l.drop (l.length / 2))⟩:=by
      refine ⟨?_,hA,hB⟩
      have:=pA.append pB
      rw [List.take_append_drop] at this
      exact this
    generalize sortF (l.take (l.length / 2))=A0 at *
    generalize sortF (l.drop (l.length / 2))=B0 at *
    generalize (if (l.take (l.length / 2)).length<2 then nl else false)=na at *
    generalize (if (l.drop (l.length / 2)).length<2 then nl else false)=nb at *
    have h6:(0≤(l.length:Int) / 2)=True:=eq_true (by omega)
    have h7:((l.length / 2:Nat):Int)≤(l.length:Int):=by omega
    simp -dsimp [h3,h5]
    refine ⟨by omega,VC.mk _ k1 ?_⟩
    have hT:List.take l.length (facts l)=facts l:=List.take_of_length_le (by rw [List.length_map];exact Nat.le_refl _)
    have hN:((l.length:Int) / 2).toNat=l.length / 2:=by omega
    simp -dsimp [h5,hT,hN]
    refine ⟨by omega,VC.mk _ k2 ?_⟩
    simp -dsimp
    refine ⟨by omega,?_⟩
    refine VL.loop (fun i:SI=>⟨[(3,.c (.sl na (facts i.A))),(4,.c (.sl nb (facts i.B))),(5,.own 1536 i.out.length)],[(1536,some (.arr false 3 (facts i.out) 0))]⟩)
      (SI.Ok l) (fun i=>i.A.length+i.B.length) ⟨[],A0,B0⟩ (by kernel_rfl) h0 (by simp [St.le]) ?_
    intro ⟨out,A,B⟩ hok
    have hlen:=hok.1.length_eq
    rw [List.length_append,List.length_append] at hlen
    simp only at hlen
    have hmem:∀ f∈A++B,f∈l:=fun f hf=>hok.1.mem_iff.1 (by simp only;rw [List.append_assoc];exact List.mem_append_right _ hf)
    have hwl:IntKind.i64.wrap ((A.length:Int)+B.length)=A.length+B.length:=IntWalk.i64_in _ (by omega)
    match A,B,hok,hlen,hmem,hwl with
    | [],[],hok,hlen,hmem,hwl =>
      simp -dsimp [hwl]
      have e:=plain_uniq hp (by simpa using hok.1) (by simpa using hok.2.1)
      rw [← e]
      exact ⟨rfl,rfl⟩
    | x::A,[],hok,hlen,hmem,hwl =>
      simp only [List.length_cons,List.length_nil] at hwl hlen
      have hw1:IntKind.i64.wrap ((A.length:Int)+1)=A.length+1:=IntWalk.i64_in _ (by omega)
      have hp1:(0<(A.length:Int)+1)=True:=eq_true (by omega)
      simp -dsimp [hw1,hp1]
      refine VL.draw (by kernel_rfl) [(0,true),(1,true),(3,true),(7,true),(15,true),(31,true),(63,true),(127,true),(255,false),(511,false),(1023,false),(255,false),(2303,false),(6399,false),(16383,true),(32767,true),(65535,true),(131071,true)] (by kernel_rfl) ?_
      simp -dsimp [hw1,hp1]
      refine VG.mk [.c (bln false)] _ (fun h=>Bool.noConfusion h) rfl ?_
      simp -dsimp [maxLen]
      refine ⟨by omega,by omega,⟨out++[x],A,[]⟩,SI.takeA hok (by simp),?_,by simp only [List.length_cons,List.length_nil];omega⟩
      simp [St.le]
      exact ⟨List.take_of_length_le (by rw [List.length_map];exact Nat.le_refl _),rfl⟩
    | [],y::B,hok,hlen,hmem,hwl =>
      simp only [List.length_cons,List.length_nil] at hwl hlen
      have hw1:IntKind.i64.wrap ((B.length:Int)+1)=B.length+1:=IntWalk.i64_in _ (by omega)
      have hp1:(0<(B.length:Int)+1)=True:=eq_true (by omega)
      have hp2:((B.length:Int)+1 == 0)=false:=by rw [beq_eq_false_iff_ne];omega
      simp -dsimp [hw1,hp1]
      refine VL.draw (by kernel_rfl) [(0,true),(1,true),(3,true),(7,true),(15,true),(31,true),(63,true),(127,true),(255,false),(511,false),(1023,false),(255,false),(2303,false),(6399,false),(16383,true),(32767,true),(65535,true),(131071,true)] (by kernel_rfl) ?_
      simp -dsimp [hw1,hp1,hp2]
      refine VG.mk [.c (bln false)] _ (fun h=>Bool.noConfusion h) rfl ?_
      simp -dsimp [maxLen]
      refine ⟨by omega,by omega,⟨out++[y],[],B⟩,SI.takeB hok (by simp),?_,by simp only [List.length_cons,List.length_nil];omega⟩
      simp [St.le]
      exact ⟨List.take_of_length_le (by rw [List.length_map];exact Nat.le_refl _),rfl⟩
    | x::A,y::B,hok,hlen,hmem,hwl =>
      simp only [List.length_cons] at hwl hlen
      have hw1:IntKind.i64.wrap ((A.length:Int)+1+(B.length+1))=A.length+1+(B.length+1):=IntWalk.i64_in _ (by omega)
      have hp1:(0<(A.length:Int)+1+(B.length+1))=True:=eq_true (by omega)
      have hp2:((B.length:Int)+1 == 0)=false:=by rw [beq_eq_false_iff_ne];omega
      have hp3:(0<(A.length:Int)+1)=True:=eq_true (by omega)
      simp -dsimp [hw1,hp1]
      refine VL.draw (by kernel_rfl) [(0,true),(1,true),(3,true),(7,true),(15,true),(31,true),(63,true),(127,true),(255,false),(511,false),(1023,false),(255,false),(2303,false),(6399,false),(16383,true),(32767,true),(65535,true),(131071,true)] (by kernel_rfl) ?_
      simp -dsimp [hp2,hp3]
      refine VG.mk [.c (bln (decide (ordF y x<0)))] _ (fun _=>before_at _ _ y x rfl rfl (by have:=hr y (hmem y (by simp));omega)) rfl ?_
      simp -dsimp
      have an:=Cmp.fact.anti x y
      refine VIf.mk (fun h=>?_) (fun h=>?_)
      · have h':¬ ordF y x<0:=by simpa using h
        simp -dsimp [maxLen]
        refine ⟨by omega,by omega,⟨out++[x],A,y::B⟩,SI.takeA hok (SI.ge hok (by omega)),?_,by simp only [List.length_cons];omega⟩
        simp [St.le]
        exact ⟨List.take_of_length_le (by rw [List.length_map];exact Nat.le_refl _),rfl⟩
      · have h':ordF y x<0:=by simpa using h
        simp -dsimp [maxLen]
        refine ⟨by omega,by omega,⟨out++[y],x::A,B⟩,SI.takeB hok (SI.ge2 hok (by omega)),?_,by simp only [List.length_cons];omega⟩
        simp [St.le]
        exact ⟨List.take_of_length_le (by rw [List.length_map];exact Nat.le_refl _),rfl⟩
theorem sorted_all:∀ (n:Nat) (nl:Bool) (l:List Fact),l.length=n→l.length≤3518437208883→Rows1 l→Plain l→Con Tryz.prog 81 [.c (.sl nl (facts l))] [.c (.sl (if l.length<2 then nl else false) (facts (sortF l)))]:=by
  intro n
  induction n using Nat.strongRecOn with
  | _ n ih=>exact fun nl l hn hl hr hp=>sorted_step n ih nl l hn hl hr hp
theorem sorted_spec (nl:Bool) (l:List Fact) (hl:l.length≤3518437208883) (hr:Rows1 l) (hp:Plain l):Con Tryz.prog 81 [.c (.sl nl (facts l))] [.c (.sl (if l.length<2 then nl else false) (facts (sortF l)))]:=sorted_all _ nl l rfl hl hr hp
end Go.Proofs.YtlphpbcafplnbaaGreat
