/- Contracts of functions of the seat, proved in a logic on data over the model (part V2). -/
import Derived.Test.YtlphpbcafplnbaaGreatV1
set_option linter.unusedSimpArgs false
set_option linter.unusedVariables false
namespace Go.VL
open Go.RowKit
mutual
def S.clr (i:Nat):S→S
  | .c x=>.c x
  | .agg cs=>.agg cs
  | .tup ss=>.tup (S.clrs i ss)
  | .fnp f ss=>.fnp f (S.clrs i ss)
  | .st ss=>.st (S.clrs i ss)
  | .own j n=>bif j == i then .un else .own j n
  | .ptr j o=>bif j == i then .un else .ptr j o
  | .ep j n k o=>bif j == i then .un else .ep j n k o
  | .suf j n k=>bif j == i then .un else .suf j n k
  | .mp j=>bif j == i then .un else .mp j
  | .me j k o=>bif j == i then .un else .me j k o
  | .pre j n m=>bif j == i then .un else .pre j n m
  | .cut j n m=>bif j == i then .un else .cut j n m
  | .g b s=>.g b (S.clr i s)
  | .un=>.un
def S.clrs (i:Nat):List S→List S
  | []=>[]
  | s::r=>S.clr i s::S.clrs i r
end
mutual
def S.men (i:Nat):S→Bool
  | .tup ss=>S.mens i ss
  | .fnp f ss=>S.mens i ss
  | .st ss=>S.mens i ss
  | .own j _=>j == i
  | .ptr j _=>j == i
  | .ep j _ _ _=>j == i
  | .suf j _ _=>j == i
  | .mp j=>j == i
  | .me j _ _=>j == i
  | .pre j _ _=>j == i
  | .cut j _ _=>j == i
  | .g _ s=>S.men i s
  | _=>false
def S.mens (i:Nat):List S→Bool
  | []=>false
  | s::r=>S.men i s || S.mens i r
end
def Cmp (g:G) (R:Nat→Option Res) (g':G) (R':Nat→Option Res) (i:Nat):Prop :=
  (∀ fz ss,R' i=some (.box fz ss)→(∃ fz0 ss0,R i=some (.box fz0 ss0))∧g'.loc i=g.loc i) ∧
  (∀ nil sz xs fx,R' i=some (.arr nil sz xs fx)→(∃ nil0 xs0 fx0,R i=some (.arr nil0 sz xs0 fx0)∧xs0.length=xs.length)∧g'.loc i=g.loc i) ∧
  (∀ m,R' i=some (.map m)→(∃ m0,R i=some (.map m0)∧m0.sh=m.sh)∧g'.loc i=g.loc i)
theorem Cmp.same {g g':G} {R R':Nat→Option Res} {i:Nat} (h:R' i=R i) (hl:g'.loc i=g.loc i):Cmp g R g' R' i :=
  ⟨fun fz ss e=>⟨⟨fz,ss,by rw [← h];exact e⟩,hl⟩,fun nil sz xs fx e=>⟨⟨nil,xs,fx,by rw [← h];exact e,rfl⟩,hl⟩,fun m e=>⟨⟨m,by rw [← h];exact e,rfl⟩,hl⟩⟩
mutual
theorem SR.mono {g g':G} {w w':World} {R R':Nat→Option Res} (hk:Keeps g.K w g'.K w'):∀ (s:S) (u:Value),(∀ i,s.men i=true→Cmp g R g' R' i)→SR g w R s u→SR g' w' R' s u
  | .c x,u,_,h=>by rw [SR] at h ⊢;exact CR.mono hk x u h
  | .agg cs,u,_,h=>by
    rw [SR] at h ⊢
    obtain ⟨us,h1,h2⟩:=h
    exact ⟨us,h1,VR.mono hk cs us h2⟩
  | .tup ss,u,hm,h=>by
    rw [SR] at h ⊢
    obtain ⟨us,h1,h2⟩:=h
    exact ⟨us,h1,SRs.mono hk ss us (fun i hi=>hm i (by simpa [S.men] using hi)) h2⟩
  | .fnp f ss,u,hm,h=>by
    rw [SR] at h ⊢
    obtain ⟨us,h1,h2⟩:=h
    exact ⟨us,h1,SRs.mono hk ss us (fun i hi=>hm i (by simpa [S.men] using hi)) h2⟩
  | .st ss,u,hm,h=>by
    rw [SR] at h ⊢
    obtain ⟨us,h1,h2,h3⟩:=h
    exact ⟨us,h1,SRs.mono hk ss us (fun i hi=>hm i (by simpa [S.men] using hi)) h2,h3⟩
  | .own i n,u,hm,h=>by
    rw [SR] at h ⊢
    intro nil sz xs fx hr hn
    obtain ⟨⟨nil0,xs0,fx0,h1,h2⟩,h3⟩:=(hm i (by simp [S.men])).2.1 nil sz xs fx hr
    rw [h3]
    exact h nil0 sz xs0 fx0 h1 (h2.trans hn)
  | .ptr i off,u,hm,h=>by
    rw [SR] at h ⊢
    intro fz ss hr
    obtain ⟨⟨fz0,ss0,h1⟩,h3⟩:=(hm i (by simp [S.men])).1 fz ss hr
    rw [h3]
    exact h fz0 ss0 h1
  | .ep i n j off,u,hm,h=>by
    rw [SR] at h ⊢
    intro nil sz xs fx hr hn
    obtain ⟨⟨nil0,xs0,fx0,h1,h2⟩,h3⟩:=(hm i (by simp [S.men])).2.1 nil sz xs fx hr
    rw [h3]
    exact h nil0 sz xs0 fx0 h1 (h2.trans hn)
  | .suf i n j,u,hm,h=>by
    rw [SR] at h ⊢
    intro nil sz xs fx hr hn
    obtain ⟨⟨nil0,xs0,fx0,h1,h2⟩,h3⟩:=(hm i (by simp [S.men])).2.1 nil sz xs fx hr
    rw [h3]
    exact h nil0 sz xs0 fx0 h1 (h2.trans hn)
  | .mp i,u,hm,h=>by
    rw [SR] at h ⊢
    intro kvs hr
    obtain ⟨⟨kvs0,h1,_⟩,h3⟩:=(hm i (by simp [S.men])).2.2 kvs hr
    rw [h3]
    exact h kvs0 h1
  | .pre i n m,u,hm,h=>by
    rw [SR] at h ⊢
    intro nil sz xs fx hr hn
    obtain ⟨⟨nil0,xs0,fx0,q1,q2⟩,q3⟩:=(hm i (by simp [S.men])).2.1 nil sz xs fx hr
    rw [q3]
    exact h nil0 sz xs0 fx0 q1 (q2.trans hn)
  | .cut i n m,u,hm,h=>by
    rw [SR] at h ⊢
    intro nil sz xs fx hr hn
    obtain ⟨⟨nil0,xs0,fx0,q1,q2⟩,q3⟩:=(hm i (by simp [S.men])).2.1 nil sz xs fx hr
    rw [q3]
    exact h nil0 sz xs0 fx0 q1 (q2.trans hn)
  | .me i j off,u,hm,h=>by
    rw [SR] at h ⊢
    intro nil sz xs hr hj
    obtain ⟨⟨m0,h1,h2⟩,h3⟩:=(hm i (by simp [S.men])).2.2 _ hr
    rw [h3]
    cases m0 with
    | ents _=>cases h2
    | iter _ _ _=>cases h2
    | rows nil0 sz0 xs0 =>
      simp only [MB.sh,Option.some.injEq,Prod.mk.injEq] at h2
      obtain ⟨rfl,e⟩:=h2
      rw [← e]
      exact h nil0 sz0 xs0 h1 (by omega)
  | .g b s,u,hm,h=>by
    rw [SR] at h ⊢
    exact ⟨fun hb=>SR.mono hk s u (fun i hi=>hm i (by simpa [S.men] using hi)) (h.1 hb),h.2⟩
  | .un,u,_,_=>by rw [SR];trivial
theorem SRs.mono {g g':G} {w w':World} {R R':Nat→Option Res} (hk:Keeps g.K w g'.K w'):∀ (ss:List S) (us:List Value),(∀ i,S.mens i ss=true→Cmp g R g' R' i)→SRs g w R ss us→SRs g' w' R' ss us
  | [],us,_,h=>by rw [SRs] at h ⊢;exact h
  | s::r,us,hm,h=>by
    rw [SRs] at h ⊢
    obtain ⟨u,us',h1,h2,h3⟩:=h
    exact ⟨u,us',h1,SR.mono hk s u (fun i hi=>hm i (by simp [S.mens,hi])) h2,SRs.mono hk r us' (fun i hi=>hm i (by simp [S.mens,hi])) h3⟩
end
mutual
theorem S.men_clr (i j:Nat):∀ (s:S),(s.clr i).men j=true→j≠i∧s.men j=true
  | .c x,h=>by simp [S.clr,S.men] at h
  | .agg cs,h=>by simp [S.clr,S.men] at h
  | .tup ss,h=>by
    rw [S.clr,S.men] at h
    rw [S.men]
    exact S.mens_clrs i j ss h
  | .fnp f ss,h=>by
    rw [S.clr,S.men] at h
    rw [S.men]
    exact S.mens_clrs i j ss h
  | .st ss,h=>by
    rw [S.clr,S.men] at h
    rw [S.men]
    exact S.mens_clrs i j ss h
  | .own k n,h=>by
    rw [S.clr] at h
    by_cases hk:k=i
    · simp [hk,S.men] at h
    · have:(k == i)=false:=by simpa using hk
      simp [this,S.men] at h
      subst h
      exact ⟨hk,by simp [S.men]⟩
  | .ptr k n,h=>by
    rw [S.clr] at h
    by_cases hk:k=i
    · simp [hk,S.men] at h
    · have:(k == i)=false:=by simpa using hk
      simp [this,S.men] at h
      subst h
      exact ⟨hk,by simp [S.men]⟩
  | .ep k n _ _,h=>by
    rw [S.clr] at h
    by_cases hk:k=i
    · simp [hk,S.men] at h
    · have:(k == i)=false:=by simpa using hk
      simp [this,S.men] at h
      subst h
      exact ⟨hk,by simp [S.men]⟩
  | .suf k n _,h=>by
    rw [S.clr] at h
    by_cases hk:k=i
    · simp [hk,S.men] at h
    · have:(k == i)=false:=by simpa using hk
      simp [this,S.men] at h
      subst h
      exact ⟨hk,by simp [S.men]⟩
  | .mp k,h=>by
    rw [S.clr] at h
    by_cases hk:k=i
    · simp [hk,S.men] at h
    · have:(k == i)=false:=by simpa using hk
      simp [this,S.men] at h
      subst h
      exact ⟨hk,by simp [S.men]⟩
  | .pre k n _,h=>by
    rw [S.clr] at h
    by_cases hk:k=i
    · simp [hk,S.men] at h
    · have:(k == i)=false:=by simpa using hk
      simp [this,S.men] at h
      subst h
      exact ⟨hk,by simp [S.men]⟩
  | .cut k n _,h=>by
    rw [S.clr] at h
    by_cases hk:k=i
    · simp [hk,S.men] at h
    · have:(k == i)=false:=by simpa using hk
      simp [this,S.men] at h
      subst h
      exact ⟨hk,by simp [S.men]⟩
  | .me k n _,h=>by
    rw [S.clr] at h
    by_cases hk:k=i
    · simp [hk,S.men] at h
    · have:(k == i)=false:=by simpa using hk
      simp [this,S.men] at h
      subst h
      exact ⟨hk,by simp [S.men]⟩
  | .g b s,h=>by
    rw [S.clr,S.men] at h
    rw [S.men]
    exact S.men_clr i j s h
  | .un,h=>by simp [S.clr,S.men] at h
theorem S.mens_clrs (i j:Nat):∀ (ss:List S),S.mens j (S.clrs i ss)=true→j≠i∧S.mens j ss=true
  | [],h=>by simp [S.clrs,S.mens] at h
  | s::r,h=>by
    rw [S.clrs,S.mens] at h
    rw [S.mens]
    rcases Bool.or_eq_true _ _ ▸ h with h | h
    · obtain ⟨h1,h2⟩:=S.men_clr i j s h;exact ⟨h1,by simp [h2]⟩
    · obtain ⟨h1,h2⟩:=S.mens_clrs i j r h;exact ⟨h1,by simp [h2]⟩
end
mutual
theorem SR.clr {g:G} {w:World} {R:Nat→Option Res} (i:Nat):∀ (s:S) (u:Value),SR g w R s u→SR g w R (s.clr i) u
  | .c x,u,h=>by rw [S.clr];exact h
  | .agg cs,u,h=>by rw [S.clr];exact h
  | .tup ss,u,h=>by
    rw [S.clr]
    rw [SR] at h ⊢
    obtain ⟨us,h1,h2⟩:=h
    exact ⟨us,h1,SRs.clr i ss us h2⟩
  | .fnp f ss,u,h=>by
    rw [S.clr]
    rw [SR] at h ⊢
    obtain ⟨us,h1,h2⟩:=h
    exact ⟨us,h1,SRs.clr i ss us h2⟩
  | .st ss,u,h=>by
    rw [S.clr]
    rw [SR] at h ⊢
    obtain ⟨us,h1,h2,h3⟩:=h
    exact ⟨us,h1,SRs.clr i ss us h2,h3⟩
  | .own k n,u,h=>by
    rw [S.clr]
    cases hk:k == i
    · exact h
    · rw [cond_true,SR];trivial
  | .ptr k n,u,h=>by
    rw [S.clr]
    cases hk:k == i
    · exact h
    · rw [cond_true,SR];trivial
  | .ep k n _ _,u,h=>by
    rw [S.clr]
    cases hk:k == i
    · exact h
    · rw [cond_true,SR];trivial
  | .suf k n _,u,h=>by
    rw [S.clr]
    cases hk:k == i
    · exact h
    · rw [cond_true,SR];trivial
  | .mp k,u,h=>by
    rw [S.clr]
    cases hk:k == i
    · exact h
    · rw [cond_true,SR];trivial
  | .pre k _ _,u,h=>by
    rw [S.clr]
    cases hk:k == i
    · exact h
    · rw [cond_true,SR];trivial
  | .cut k _ _,u,h=>by
    rw [S.clr]
    cases hk:k == i
    · exact h
    · rw [cond_true,SR];trivial
  | .me k _ _,u,h=>by
    rw [S.clr]
    cases hk:k == i
    · exact h
    · rw [cond_true,SR];trivial
  | .g b s,u,h=>by
    rw [S.clr]
    rw [SR] at h ⊢
    exact ⟨fun hb=>SR.clr i s u (h.1 hb),h.2⟩
  | .un,u,h=>by rw [S.clr];exact h
theorem SRs.clr {g:G} {w:World} {R:Nat→Option Res} (i:Nat):∀ (ss:List S) (us:List Value),SRs g w R ss us→SRs g w R (S.clrs i ss) us
  | [],us,h=>by rw [S.clrs];exact h
  | s::r,us,h=>by
    rw [S.clrs]
    rw [SRs] at h ⊢
    obtain ⟨u,us',h1,h2,h3⟩:=h
    exact ⟨u,us',h1,SR.clr i s u h2,SRs.clr i r us' h3⟩
end
def MB.map (f:S→S):MB→MB
  | .ents kvs=>.ents (kvs.map fun x=>(x.1,x.2.map f))
  | .iter bm n seen=>.iter bm n seen
  | .rows nil sz xs=>.rows nil sz (xs.map fun e=>e.map f)
def MB.clr (i:Nat) (m:MB):MB:=m.map (S.clr i)
def MB.cells:MB→List S
  | .ents kvs=>(kvs.map (·.2)).flatten
  | .iter _ _ _=>[]
  | .rows _ _ xs=>xs.flatten
def MB.men (j:Nat) (m:MB):Bool:=m.cells.any (S.men j)
@[simp] theorem MB.sh_map (f:S→S) (m:MB):(m.map f).sh=m.sh:=by cases m <;> simp [MB.map,MB.sh]
@[simp] theorem MB.sh_clr (i:Nat) (m:MB):(m.clr i).sh=m.sh:=MB.sh_map _ m
theorem MB.cells_map (f:S→S) (m:MB):(m.map f).cells=m.cells.map f:=by
  cases m with
  | ents kvs=>simp only [MB.map,MB.cells,List.map_flatten,List.map_map];rfl
  | iter _ _ _=>rfl
  | rows _ _ xs=>simp only [MB.map,MB.cells,List.map_flatten]
theorem MB.map_id' {f:S→S} (m:MB) (h:∀ s∈m.cells,f s=s):m.map f=m:=by
  have hl:∀ l:List S,(∀ s∈l,f s=s)→l.map f=l:=fun l hl=>by
    conv=>rhs;rw [← List.map_id l]
    exact List.map_congr_left hl
  cases m with
  | ents kvs =>
    simp only [MB.map,MB.ents.injEq]
    conv=>rhs;rw [← List.map_id kvs]
    refine List.map_congr_left fun x hx=>?_
    rw [hl x.2 (fun s hs=>h s (by simp only [MB.cells,List.mem_flatten,List.mem_map];exact ⟨x.2,⟨x,hx,rfl⟩,hs⟩))];rfl
  | iter _ _ _=>rfl
  | rows _ _ xs =>
    simp only [MB.map,MB.rows.injEq,true_and]
    conv=>rhs;rw [← List.map_id xs]
    refine List.map_congr_left fun x hx=>?_
    rw [hl x (fun s hs=>h s (by simp only [MB.cells,List.mem_flatten];exact ⟨x,hx,hs⟩))];rfl
@[simp] theorem MB.map_id (m:MB):m.map (fun s=>s)=m:=MB.map_id' m fun _ _=>rfl
theorem MB.men_of {j:Nat} {m:MB} {s:S} (h:s∈m.cells) (hj:s.men j=true):m.men j=true:=by
  rw [MB.men,List.any_eq_true];exact ⟨s,h,hj⟩
theorem MB.men_clr (i j:Nat) (m:MB) (h:(m.clr i).men j=true):j≠i∧m.men j=true:=by
  simp only [MB.clr,MB.men,MB.cells_map,List.any_map,List.any_eq_true,Function.comp_apply] at h ⊢
  obtain ⟨x,h1,h2⟩:=h
  obtain ⟨h3,h4⟩:=S.men_clr i j _ h2
  exact ⟨h3,x,h1,h4⟩
def Res.clr (i:Nat):Res→Res
  | .box fz ss=>.box fz (ss.map (S.clr i))
  | .arr nil sz xs fx=>.arr nil sz xs fx
  | .pin v s=>.pin v (S.clr i s)
  | .map m=>.map (m.clr i)
def St.clr (st:St) (i:Nat):St:={ env:=st.env.map fun p=>(p.1,p.2.clr i),res:=st.res.map fun p=>(p.1,p.2.map (Res.clr i)) }
theorem vlook_map {α β:Type} (f:α→β) (d:α) (t:Nat):∀ l:List (Nat × α),vlook (f d) (l.map fun p=>(p.1,f p.2)) t=f (vlook d l t)
  | []=>rfl
  | (k,x)::r=>by
    simp only [List.map_cons,vlook]
    cases k == t
    · exact vlook_map f d t r
    · rfl
theorem St.get_clr (st:St) (i t:Nat):(st.clr i).get t=(st.get t).clr i:=by
  have:=vlook_map (S.clr i) .un t st.env
  simpa [St.get,St.clr,S.clr] using this
theorem St.rs_clr (st:St) (i j:Nat):(st.clr i).rs j=(st.rs j).map (Res.clr i):=by
  have:=vlook_map (Option.map (Res.clr i)) none j st.res
  simpa [St.rs,St.clr] using this
theorem Holds.mono {K K':Nat→Nat→Prop} {w w':World} {sz:Nat} {xs:List (List C)} {cur:Array Value} (hk:Keeps K w K' w') (h:Holds K w sz xs cur):Holds K' w' sz xs cur :=
  fun j e hj=>⟨(h j e hj).1,fun k c hc=>let ⟨u,h1,h2⟩:=(h j e hj).2 k c hc; ⟨u,h1,CR.mono hk c u h2⟩⟩
section
variable {g g':G} {w w':World} {R R':Nat→Option Res}
theorem SRs.tr {f1 f2:S→S} : ∀ (ss:List S) (us:List Value),(∀ s∈ss,∀ u,SR g w R (f1 s) u→SR g' w' R' (f2 s) u)→SRs g w R (ss.map f1) us→SRs g' w' R' (ss.map f2) us
  | [],us,_,h=>by simp only [List.map_nil] at h ⊢;rw [SRs] at h ⊢;exact h
  | s::r,us,hs,h=>by
    simp only [List.map_cons] at h ⊢
    rw [SRs] at h ⊢
    obtain ⟨u,us',h1,h2,h3⟩:=h
    exact ⟨u,us',h1,hs s (by simp) u h2,SRs.tr r us' (fun s hs'=>hs s (by simp [hs'])) h3⟩
theorem EntR.tr {f1 f2:S→S} {cs:List S} {u:Value} (hs:∀ s∈cs,∀ u,SR g w R (f1 s) u→SR g' w' R' (f2 s) u) (h:EntR g w R (cs.map f1) u):EntR g' w' R' (cs.map f2) u:=by
  match cs,hs,h with
  | [],_,h=>exact h
  | [c],hs,h=>exact ⟨hs c (by simp) u h.1,h.2⟩
  | c::d::r,hs,h =>
    obtain ⟨us,h1,h2,h3⟩:=h
    exact ⟨us,h1,SRs.tr (c::d::r) us hs h2,h3⟩
theorem MapR.tr {f1 f2:S→S} : ∀ (kvs:List (Value × List S)) (es:List MapEntry),(∀ x∈kvs,∀ s∈x.2,∀ u,SR g w R (f1 s) u→SR g' w' R' (f2 s) u) →
    MapR g w R (kvs.map fun x=>(x.1,x.2.map f1)) es→MapR g' w' R' (kvs.map fun x=>(x.1,x.2.map f2)) es
  | [],es,_,h=>h
  | x::r,es,hs,h=>by
    obtain ⟨e,es',h1,h2,h3,h4⟩:=h
    exact ⟨e,es',h1,h2,h3.tr (hs x (by simp)),MapR.tr r es' (fun x hx=>hs x (by simp [hx])) h4⟩
theorem HoldsS.tr {f1 f2:S→S} {sz:Nat} {xs:List (List S)} {cur:Array Value} (hs:∀ e∈xs,∀ s∈e,∀ u,SR g w R (f1 s) u→SR g' w' R' (f2 s) u)
    (h:HoldsS g w R sz (xs.map fun e=>e.map f1) cur):HoldsS g' w' R' sz (xs.map fun e=>e.map f2) cur:=by
  intro j e hj
  simp only [List.getElem?_map,Option.map_eq_some_iff] at hj
  obtain ⟨e0,h1,rfl⟩:=hj
  obtain ⟨q1,q2⟩:=h j (e0.map f1) (by simp [h1])
  refine ⟨by simpa using q1,fun k s hk=>?_⟩
  simp only [List.getElem?_map,Option.map_eq_some_iff] at hk
  obtain ⟨s0,h2,rfl⟩:=hk
  obtain ⟨u,h3,h4,h5⟩:=q2 k (f1 s0) (by simp [h2])
  exact ⟨u,h3,hs e0 (List.mem_of_getElem? h1) s0 (List.mem_of_getElem? h2) u h4,h5⟩
theorem MR.tr {B B':Nat→Prop} {i i':Nat} {m:MB} {f1 f2:S→S} (hl:g'.loc i'=g.loc i)
    (hb:∀ b,blk (g.loc i)=some b→w'.heap[b]? = w.heap[b]? ∧ (∀ o,g'.K b o→g.K b o)∧(B b→B' b)) (hs:∀ s∈m.cells,∀ u,SR g w R (f1 s) u→SR g' w' R' (f2 s) u)
    (h:MR g w R B i (m.map f1)):MR g' w' R' B' i' (m.map f2):=by
  cases m with
  | ents kvs =>
    obtain ⟨b,es,h1,h2,h3,h4,h5⟩:=h
    obtain ⟨hb1,hb2,hb3⟩:=hb b (by rw [h1];rfl)
    exact ⟨b,es,by rw [hl,h1],hb3 h2,by rw [hb1];exact h3,MapR.tr kvs _ (fun x hx s hs'=>hs s (by simp only [MB.cells,List.mem_flatten,List.mem_map];exact ⟨x.2,⟨x,hx,rfl⟩,hs'⟩)) h4,h5⟩
  | iter bm n seen =>
    obtain ⟨b,h1,h2,h3⟩:=h
    obtain ⟨hb1,hb2,hb3⟩:=hb b (by rw [h1];rfl)
    exact ⟨b,by rw [hl,h1],hb3 h2,by rw [hb1];exact h3⟩
  | rows nil sz xs =>
    rcases h with ⟨h1,h2,h3⟩ | ⟨h0,b,cap,cur,E,h1,h2,h3,h4,h5,h6,h8,h9⟩
    · exact .inl ⟨h1,by simpa using h2,by rw [hl];exact h3⟩
    · obtain ⟨hb1,hb2,hb3⟩:=hb b (by rw [h1];rfl)
      exact .inr ⟨h0,b,cap,cur,E,by rw [hl];simpa using h1,hb3 h2,by rw [hb1];exact h3,by simpa using h4,h5,h6,
        HoldsS.tr (fun e he s hs'=>hs s (by simp only [MB.cells,List.mem_flatten];exact ⟨e,he,hs'⟩)) h8,fun o ho=>h9 o (hb2 o ho)⟩
theorem EntR.mono (hk:Keeps g.K w g'.K w') {cs:List S} {u:Value} (hm:∀ j,S.mens j cs=true→Cmp g R g' R' j) (h:EntR g w R cs u):EntR g' w' R' cs u:=by
  unfold EntR at *
  split at h
  · exact ⟨SR.mono hk _ _ (fun j hj=>hm j (by simp [S.mens,hj])) h.1,h.2⟩
  · obtain ⟨us,h1,h2,h3⟩:=h;exact ⟨us,h1,SRs.mono hk _ us hm h2,h3⟩
theorem MapR.mono (hk:Keeps g.K w g'.K w'):∀ (kvs:List (Value × List S)) (es:List MapEntry),(∀ j,Cmp g R g' R' j)→MapR g w R kvs es→MapR g' w' R' kvs es
  | [],es,_,h=>h
  | x::r,es,hm,h=>by
    obtain ⟨e,es',h1,h2,h3,h4⟩:=h
    exact ⟨e,es',h1,h2,h3.mono hk (fun j _=>hm j),MapR.mono hk r es' hm h4⟩
theorem MR.mono {B:Nat→Prop} {i:Nat} {m:MB} (hk:Keeps g.K w g'.K w') (hl:g'.loc i=g.loc i)
    (hb:∀ b,blk (g.loc i)=some b→w'.heap[b]? = w.heap[b]? ∧ ∀ o,g'.K b o→g.K b o) (hm:∀ j,m.men j=true→Cmp g R g' R' j) (h:MR g w R B i m):MR g' w' R' B i m:=by
  have:=MR.tr (f1:=fun s=>s) (f2:=fun s=>s) (m:=m) (B':=B) hl (fun b e=>⟨(hb b e).1,(hb b e).2,fun x=>x⟩) (fun s hs u hu=>SR.mono hk s u (fun j hj=>hm j (MB.men_of hs hj)) hu) (by rw [MB.map_id];exact h)
  rwa [MB.map_id] at this
theorem MR.clr {B:Nat→Prop} {i:Nat} (j:Nat) {m:MB} (h:MR g w R B i m):MR g w R B i (m.clr j) :=
  MR.tr (f1:=fun s=>s) (f2:=S.clr j) (m:=m) rfl (fun b e=>⟨rfl,fun _ k=>k,fun x=>x⟩) (fun s _ u hu=>SR.clr j s u hu) (by rw [MB.map_id];exact h)
theorem MR.block {B:Nat→Prop} {i:Nat} {m:MB} (h:MR g w R B i m) {b:Nat} (hb:blk (g.loc i)=some b):B b∧∃ o,w.heap[b]? = some o:=by
  cases m with
  | ents kvs =>
    obtain ⟨b',es,h1,h2,h3,_⟩:=h
    rw [h1] at hb;simp [blk] at hb;subst hb
    exact ⟨h2,_,h3⟩
  | iter bm n seen =>
    obtain ⟨b',h1,h2,h3⟩:=h
    rw [h1] at hb;simp [blk] at hb;subst hb
    exact ⟨h2,_,h3⟩
  | rows nil sz xs =>
    rcases h with ⟨_,_,h3⟩ | ⟨h0,b',cap,cur,E,h1,h2,h3,_⟩
    · rw [h3] at hb;simp [blk] at hb
    · rw [h1] at hb;simp [blk] at hb;subst hb
      exact ⟨h2,_,h3⟩
end
theorem RR.block {g:G} {w:World} {R:Nat→Option Res} {B:Nat→Prop} {i:Nat} {r:Res} (h:RR g w R B i r) {b:Nat} (hb:blk (g.loc i)=some b):B b∧∃ o,w.heap[b]? = some o:=by
  cases r with
  | box fz ss =>
    obtain ⟨b',cur,E,h1,h2,h3,_⟩:=h
    rw [h1] at hb;simp [blk] at hb;subst hb
    exact ⟨h2,_,h3⟩
  | arr nil sz xs fx =>
    rcases h with ⟨_,_,h1,_⟩ | ⟨_,b',cap,cur,E,h1,h2,h3,_⟩
    · rw [h1] at hb;simp [blk] at hb
    · rw [h1] at hb;simp [blk] at hb;subst hb
      exact ⟨h2,_,h3⟩
  | pin v s =>
    rw [h.1] at hb;cases hb
  | map m=>exact MR.block h hb
theorem RR.lt {g:G} {w:World} {R:Nat→Option Res} {B:Nat→Prop} {i:Nat} {r:Res} (h:RR g w R B i r) {b:Nat} (hb:blk (g.loc i)=some b):b<w.heap.size:=by
  obtain ⟨_,o,h2⟩:=h.block hb
  exact (Array.getElem?_eq_some_iff.1 h2).1
theorem RR.mono {g g':G} {w w':World} {R R':Nat→Option Res} {B:Nat→Prop} {i:Nat} {r:Res} (hk:Keeps g.K w g'.K w') (hl:g'.loc i=g.loc i)
    (hb:∀ b,blk (g.loc i)=some b→w'.heap[b]? = w.heap[b]? ∧ ∀ o,g'.K b o→g.K b o)
    (hc:∀ fz ss,r = .box fz ss→∀ s∈ss,∀ j,s.men j=true→Cmp g R g' R' j) (hp:∀ v s,r = .pin v s→∀ j,s.men j=true→Cmp g R g' R' j) (hm:∀ m,r = .map m→∀ j,m.men j=true→Cmp g R g' R' j) (h:RR g w R B i r):RR g' w' R' B i r:=by
  cases r with
  | box fz ss =>
    obtain ⟨b,cur,E,h1,h2,h3,h4,h5,h6⟩:=h
    obtain ⟨hb1,hb2⟩:=hb b (by rw [h1];rfl)
    refine ⟨b,cur,E,by rw [hl,h1],h2,by rw [hb1];exact h3,h4,fun k s hs=>?_,fun o ho=>h6 o (hb2 o ho)⟩
    obtain ⟨u,e1,e2,e3⟩:=h5 k s hs
    exact ⟨u,e1,SR.mono hk s u (hc fz ss rfl s (List.mem_of_getElem? hs)) e2,e3⟩
  | arr nil sz xs fx =>
    rcases h with ⟨h1,h2,h3,h4⟩ | ⟨h0,b,cap,cur,E,h1,h2,h3,h4,h5,h6,h7,h8,h9⟩
    · exact .inl ⟨h1,h2,by rw [hl];exact h3,h4⟩
    · obtain ⟨hb1,hb2⟩:=hb b (by rw [h1];rfl)
      exact .inr ⟨h0,b,cap,cur,E,by rw [hl,h1],h2,by rw [hb1];exact h3,h4,h5,h6,h7,h8.mono hk,fun o=>⟨fun ho=>(h9 o).1 (hb2 o ho),fun ho=>hk.sub _ _ ((h9 o).2 ho)⟩⟩
  | pin v s=>exact ⟨by rw [hl];exact h.1,SR.mono hk s v (hp v s rfl) h.2⟩
  | map m=>exact MR.mono hk hl hb (hm m rfl) h
theorem RR.clr {g:G} {w:World} {R:Nat→Option Res} {B:Nat→Prop} {i:Nat} {r:Res} (j:Nat) (h:RR g w R B i r):RR g w R B i (r.clr j):=by
  cases r with
  | box fz ss =>
    obtain ⟨b,cur,E,h1,h2,h3,h4,h5,h6⟩:=h
    refine ⟨b,cur,E,h1,h2,h3,by simpa using h4,fun k s hs=>?_,h6⟩
    simp only [List.getElem?_map,Option.map_eq_some_iff] at hs
    obtain ⟨s0,hs0,rfl⟩:=hs
    obtain ⟨u,e1,e2,e3⟩:=h5 k s0 hs0
    exact ⟨u,e1,SR.clr j s0 u e2,e3⟩
  | arr nil sz xs fx=>exact h
  | pin v s=>exact ⟨h.1,SR.clr j s v h.2⟩
  | map m=>exact MR.clr j h
section
variable {w0:World} {K0:K0T} {nt:Nat} {st:St} {a:Act} {w:World} {g:G}
theorem T.put (h:T w0 K0 nt st a w g) {t:Nat} {s:S} {u:Value} (ht:t<nt) (hs:SR g w st.rs s u):T w0 K0 nt (st.put t s) (a.put (some t) u) w g:=by
  refine ⟨h.below,h.k0,h.kold,h.klt,h.res,h.dis,fun t'=>?_,by simp [Act.put,h.nt],h.defers,h.keep⟩
  rw [St.get_put]
  simp only [Act.put,St.rs_put]
  by_cases e:t=t'
  · subst e
    rw [if_pos rfl]
    have:(a.tmps.setIfInBounds t u).getD t undef=u:=by simp [Array.getD,h.nt,ht]
    rw [this]
    exact hs
  · rw [if_neg e]
    have:(a.tmps.setIfInBounds t u).getD t' undef=a.tmps.getD t' undef:=by
      simp only [Array.getD_eq_getD_getElem?]
      rw [Array.getElem?_setIfInBounds_ne e]
    rw [this]
    exact h.env t'
theorem T.putd (h:T w0 K0 nt st a w g) {dst:Option Nat} {s:S} {u:Value} (ht:∀ t,dst=some t→t<nt) (hs:SR g w st.rs s u):T w0 K0 nt (st.putd dst s) (a.put dst u) w g:=by
  cases dst with
  | none=>exact h
  | some t=>exact h.put (ht t rfl) hs
theorem T.world (h:T w0 K0 nt st a w g) {w':World} {K':Nat→Nat→Prop} (hb:Bel w0 K0 w w') (hk:Keeps g.K w K' w') (hkold:∀ b o,K' b o→Old w0 K0 b→K0.K b o) (hklt:∀ b o,K' b o→b<w'.heap.size)
    (ho:∀ i r b,st.rs i=some r→blk (g.loc i)=some b→w'.heap[b]? = w.heap[b]? ∧ ∀ o,K' b o→g.K b o):T w0 K0 nt st a w' { g with K:=K' } := by
  have hc:∀ i,Cmp g st.rs { g with K:=K' } st.rs i:=fun i=>Cmp.same rfl rfl
  refine ⟨h.below.trans hb,fun b o k=>hk.sub b o (h.k0 b o k),hkold,hklt,fun i r hr=>?_,h.dis,fun t=>SR.mono (g':={ g with K:=K' }) hk _ _ (fun i _=>hc i) (h.env t),h.nt,h.defers,fun b o k=>(hk.cell b o (h.k0 b o k)).trans (h.keep b o k)⟩
  exact RR.mono (g':={ g with K:=K' }) hk rfl (fun b hb'=>ho i r b hr hb') (fun _ _ _ _ _ j _=>hc j) (fun _ _ _ j _=>hc j) (fun _ _ j _=>hc j) (h.res i r hr)
theorem T.make (h:T w0 K0 nt st a w g) {w':World} {g':G} {i:Nat} {r:Res} (hb:Bel w0 K0 w w') (hk:Keeps g.K w g'.K w') (hkold:∀ b o,g'.K b o→Old w0 K0 b→K0.K b o)
    (hklt:∀ b o,g'.K b o→b<w'.heap.size) (hl:∀ j,j≠i→g'.loc j=g.loc j)
    (ho:∀ j r b,j≠i→st.rs j=some r→blk (g.loc j)=some b→w'.heap[b]? = w.heap[b]? ∧ ∀ o,g'.K b o→g.K b o)
    (hd:∀ j r,j≠i→st.rs j=some r→∀ b,blk (g'.loc i)=some b→blk (g.loc j)≠some b)
    (hr:RR g' w' ((st.clr i).setR i (some r)).rs (fun b=>¬ Old w0 K0 b) i r):T w0 K0 nt ((st.clr i).setR i (some r)) a w' g':=by
  have hc:∀ j,j≠i→Cmp g st.rs g' ((st.clr i).setR i (some r)).rs j:=fun j hj=>by
    have e:((st.clr i).setR i (some r)).rs j=(st.rs j).map (Res.clr i):=by rw [St.rs_setR,if_neg (Ne.symm hj),St.rs_clr]
    refine ⟨fun fz ss e'=>?_,fun nil sz xs fx e'=>?_,fun kvs e'=>?_⟩
    · rw [e] at e'
      cases hs:st.rs j with
      | none=>simp [hs] at e'
      | some r0 =>
        rw [hs] at e'
        cases r0 with
        | box fz0 ss0=>exact ⟨⟨fz0,ss0,rfl⟩,hl j hj⟩
        | arr nil sz xs fx=>simp [Res.clr] at e'
        | pin v s=>simp [Res.clr] at e'
        | map kvs=>simp [Res.clr] at e'
    · rw [e] at e'
      cases hs:st.rs j with
      | none=>simp [hs] at e'
      | some r0 =>
        rw [hs] at e'
        cases r0 with
        | box fz0 ss0=>simp [Res.clr] at e'
        | arr nil0 sz0 xs0 fx0 =>
          simp [Res.clr] at e'
          obtain ⟨rfl,rfl,rfl,rfl⟩:=e'
          exact ⟨⟨_,_,_,rfl,rfl⟩,hl j hj⟩
        | pin v s=>simp [Res.clr] at e'
        | map kvs=>simp [Res.clr] at e'
    · rw [e] at e'
      cases hs:st.rs j with
      | none=>simp [hs] at e'
      | some r0 =>
        rw [hs] at e'
        cases r0 with
        | box fz0 ss0=>simp [Res.clr] at e'
        | arr nil sz xs fx=>simp [Res.clr] at e'
        | pin v s=>simp [Res.clr] at e'
        | map kvs0 =>
          simp only [Option.map_some,Res.clr,Option.some.injEq,Res.map.injEq] at e'
          exact ⟨⟨kvs0,rfl,by rw [← e',MB.sh_clr]⟩,hl j hj⟩
  refine ⟨h.below.trans hb,fun b o k=>hk.sub b o (h.k0 b o k),hkold,hklt,fun j rj hj=>?_,fun j k rj rk hj hk' hne=>?_,fun t=>?_,h.nt,h.defers,fun b o k=>(hk.cell b o (h.k0 b o k)).trans (h.keep b o k)⟩
  · by_cases e:j=i
    · subst e
      rw [St.rs_setR,if_pos rfl] at hj
      cases hj
      exact hr
    · rw [St.rs_setR,if_neg (Ne.symm e),St.rs_clr] at hj
      simp only [Option.map_eq_some_iff] at hj
      obtain ⟨r0,h0,rfl⟩:=hj
      refine RR.mono hk (hl j e) (fun b hb'=>ho j r0 b e h0 hb') (fun fz ss e' s hs m hm=>?_) (fun v s e' m hm=>?_) (fun mb e' m hm=>?_) ((h.res j r0 h0).clr i)
      · cases r0 with
        | arr nil sz xs fx=>simp [Res.clr] at e'
        | box fz0 ss0 =>
          simp only [Res.clr,Res.box.injEq] at e'
          obtain ⟨rfl,rfl⟩:=e'
          simp only [List.mem_map] at hs
          obtain ⟨s0,_,rfl⟩:=hs
          exact hc m (S.men_clr i m s0 hm).1
        | pin v s=>simp [Res.clr] at e'
        | map kvs=>simp [Res.clr] at e'
      · cases r0 with
        | arr nil sz xs fx=>simp [Res.clr] at e'
        | box fz ss=>simp [Res.clr] at e'
        | map kvs=>simp [Res.clr] at e'
        | pin v0 s0 =>
          simp only [Res.clr,Res.pin.injEq] at e'
          obtain ⟨rfl,rfl⟩:=e'
          exact hc m (S.men_clr i m s0 hm).1
      · cases r0 with
        | arr nil sz xs fx=>simp [Res.clr] at e'
        | box fz ss=>simp [Res.clr] at e'
        | pin v0 s0=>simp [Res.clr] at e'
        | map m0 =>
          simp only [Res.clr,Res.map.injEq] at e'
          subst e'
          exact hc m (MB.men_clr i m m0 hm).1
  · intro b hb1 hb2
    by_cases e:j=i
    · subst e
      have e2:k≠j:=Ne.symm hne
      rw [St.rs_setR,if_neg hne,St.rs_clr] at hk'
      simp only [Option.map_eq_some_iff] at hk'
      obtain ⟨r0,h0,rfl⟩:=hk'
      rw [hl k e2] at hb2
      exact hd k r0 e2 h0 b hb1 hb2
    · rw [St.rs_setR,if_neg (Ne.symm e),St.rs_clr] at hj
      simp only [Option.map_eq_some_iff] at hj
      obtain ⟨r0,h0,rfl⟩:=hj
      rw [hl j e] at hb1
      by_cases e2:k=i
      · subst e2
        exact hd j r0 e h0 b hb2 hb1
      · rw [St.rs_setR,if_neg (Ne.symm e2),St.rs_clr] at hk'
        simp only [Option.map_eq_some_iff] at hk'
        obtain ⟨r1,h1,rfl⟩:=hk'
        rw [hl k e2] at hb2
        exact h.dis j k r0 r1 h0 h1 hne b hb1 hb2
  · rw [St.get_setR,St.get_clr]
    exact SR.mono hk _ _ (fun j hj=>hc j (S.men_clr i j _ hj).1) (SR.clr i _ _ (h.env t))
theorem T.congr {st':St} (h:T w0 K0 nt st a w g) (h1:st'.get=st.get) (h2:st'.rs=st.rs):T w0 K0 nt st' a w g :=
  ⟨h.below,h.k0,h.kold,h.klt,by rw [h2];exact h.res,by rw [h2];exact h.dis,by rw [h1,h2];exact h.env,h.nt,h.defers,h.keep⟩
theorem T.mod (h:T w0 K0 nt st a w g) {w':World} {g':G} {i:Nat} {r0 r:Res} (hi:st.rs i=some r0) (hb:Bel w0 K0 w w') (hk:Keeps g.K w g'.K w') (hkold:∀ b o,g'.K b o→Old w0 K0 b→K0.K b o)
    (hklt:∀ b o,g'.K b o→b<w'.heap.size) (hl:g'.loc=g.loc)
    (ho:∀ j r b,j≠i→st.rs j=some r→blk (g.loc j)=some b→w'.heap[b]? = w.heap[b]? ∧ ∀ o,g'.K b o→g.K b o)
    (hsh:(∃ fz0 ss0 fz ss,r0 = .box fz0 ss0∧r = .box fz ss)∨(∃ nil0 sz xs0 fx0 nil xs fx,r0 = .arr nil0 sz xs0 fx0∧r = .arr nil sz xs fx∧xs0.length=xs.length)∨(∃ k0 k1,r0 = .map k0∧r = .map k1∧k0.sh=k1.sh))
    (hr:(∀ j,Cmp g st.rs g' (st.setR i (some r)).rs j)→RR g' w' (st.setR i (some r)).rs (fun b=>¬ Old w0 K0 b) i r):T w0 K0 nt (st.setR i (some r)) a w' g':=by
  have hc:∀ j,Cmp g st.rs g' (st.setR i (some r)).rs j:=fun j=>by
    by_cases e:j=i
    · subst e
      rcases hsh with ⟨fz0,ss0,fz,ss,rfl,rfl⟩ | ⟨nil0,sz,xs0,fx0,nil,xs,fx,rfl,rfl,hlen⟩ | ⟨k0,k1,rfl,rfl,hk01⟩
      · refine ⟨fun fz' ss' e'=>⟨⟨fz0,ss0,hi⟩,by rw [hl]⟩,fun nil sz xs fx e'=>?_,fun kvs e'=>?_⟩
        · rw [St.rs_setR,if_pos rfl] at e';simp at e'
        · rw [St.rs_setR,if_pos rfl] at e';simp at e'
      · refine ⟨fun fz' ss' e'=>?_,fun nil' sz' xs' fx' e'=>?_,fun kvs e'=>?_⟩
        · rw [St.rs_setR,if_pos rfl] at e';simp at e'
        · rw [St.rs_setR,if_pos rfl] at e'
          simp at e'
          obtain ⟨rfl,rfl,rfl,rfl⟩:=e'
          exact ⟨⟨nil0,xs0,fx0,hi,hlen⟩,by rw [hl]⟩
        · rw [St.rs_setR,if_pos rfl] at e';simp at e'
      · refine ⟨fun fz' ss' e'=>?_,fun nil' sz' xs' fx' e'=>?_,fun kvs e'=>⟨⟨k0,hi,by rw [St.rs_setR,if_pos rfl] at e';simp only [Option.some.injEq,Res.map.injEq] at e';rw [← e'];exact hk01⟩,by rw [hl]⟩⟩
        · rw [St.rs_setR,if_pos rfl] at e';simp at e'
        · rw [St.rs_setR,if_pos rfl] at e';simp at e'
    · exact Cmp.same (by rw [St.rs_setR,if_neg (Ne.symm e)]) (by rw [hl])
  refine ⟨h.below.trans hb,fun b o k=>hk.sub b o (h.k0 b o k),hkold,hklt,fun j rj hj=>?_,fun j k rj rk hj hk' hne=>?_,fun t=>SR.mono hk _ _ (fun j _=>hc j) (h.env t),h.nt,h.defers,fun b o k=>(hk.cell b o (h.k0 b o k)).trans (h.keep b o k)⟩
  · by_cases e:j=i
    · subst e
      rw [St.rs_setR,if_pos rfl] at hj
      cases hj
      exact hr hc
    · rw [St.rs_setR,if_neg (Ne.symm e)] at hj
      exact RR.mono hk (by rw [hl]) (fun b hb'=>ho j rj b e hj hb') (fun _ _ _ _ _ m _=>hc m) (fun _ _ _ m _=>hc m) (fun _ _ m _=>hc m) (h.res j rj hj)
  · have hex:∀ m r,(st.setR i (some r0)).rs m=some r→∃ r',st.rs m=some r':=fun m r' e=>by
      by_cases e2:m=i
      · exact ⟨r0,by rw [e2];exact hi⟩
      · rw [St.rs_setR,if_neg (Ne.symm e2)] at e;exact ⟨_,e⟩
    have hx:∀ m rm,(st.setR i (some r)).rs m=some rm→∃ r',st.rs m=some r':=fun m rm e=>by
      by_cases e2:m=i
      · exact ⟨r0,by rw [e2];exact hi⟩
      · rw [St.rs_setR,if_neg (Ne.symm e2)] at e;exact ⟨_,e⟩
    obtain ⟨r1,h1⟩:=hx j rj hj
    obtain ⟨r2,h2⟩:=hx k rk hk'
    rw [hl]
    exact h.dis j k r1 r2 h1 h2 hne
end
end Go.VL
