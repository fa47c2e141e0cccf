/- Contracts of functions of the seat, proved in a logic on data over the model (part V9b). -/
import Derived.Test.YtlphpbcafplnbaaGreatV9
set_option linter.unusedSimpArgs false
set_option linter.unusedVariables false
namespace Go.VL
open Go.RowKit
structure M (w0:World) (K0:K0T) (R:Nat→Option Res) (w:World) (g:G):Prop where
  below:Bel w0 K0 w0 w
  k0:∀ b o,K0.K b o→g.K b o
  kold:∀ b o,g.K b o→Old w0 K0 b→K0.K b o
  klt:∀ b o,g.K b o→b<w.heap.size
  res:∀ i r,R i=some r→RR g w R (fun b=>¬ Old w0 K0 b) i r
  dis:∀ i j r r',R i=some r→R j=some r'→i≠j→∀ b,blk (g.loc i)=some b→blk (g.loc j)≠some b
  keep:∀ b o,K0.K b o→w.cell? ⟨b,o,none⟩=w0.cell? ⟨b,o,none⟩
def lk (b:List (Nat × Res)) (i:Nat):Option Res:=vlook none (b.map fun p=>(p.1,some p.2)) i
def lent (g:G) (b:List (Nat × Res)):Nat→Prop:=fun k=>∃ i r,lk b i=some r∧blk (g.loc i)=some k
def ConB (P:Program) (f:FuncId) (args:List S) (b:List (Nat × Res)) (rs args':List S) (b':List (Nat × Res)):Prop :=
  callable P f=true∧∀ (w:World) (g:G) (us:List Value),M w ⟨g.K,lent g b,[]⟩ (lk b) w g→SRs g w (lk b) args us →
    Calls P f us.toArray w fun e w'=>∃ (vs:List Value) (g':G),e = .returned (retV vs)∧M w ⟨g.K,lent g b,[]⟩ (lk b') w' g'∧SRs g' w' (lk b') rs vs∧SRs g' w' (lk b') args' us
mutual
def renS (τ:Nat→Nat):S→S
  | .c x=>.c x
  | .agg cs=>.agg cs
  | .tup ss=>.tup (renSs τ ss)
  | .fnp f ss=>.fnp f (renSs τ ss)
  | .st ss=>.st (renSs τ ss)
  | .own i n=>.own (τ i) n
  | .ptr i o=>.ptr (τ i) o
  | .ep i n j o=>.ep (τ i) n j o
  | .suf i n j=>.suf (τ i) n j
  | .mp i=>.mp (τ i)
  | .me i j o=>.me (τ i) j o
  | .pre i n m=>.pre (τ i) n m
  | .cut i n m=>.cut (τ i) n m
  | .g b s=>.g b (renS τ s)
  | .un=>.un
def renSs (τ:Nat→Nat):List S→List S
  | []=>[]
  | s::r=>renS τ s::renSs τ r
end
def renR (τ:Nat→Nat):Res→Res
  | .box fz ss=>.box fz (renSs τ ss)
  | .arr nil sz xs fx=>.arr nil sz xs fx
  | .pin v s=>.pin v (renS τ s)
  | .map m=>.map (m.map (renS τ))
theorem renSs_map (τ:Nat→Nat):∀ ss:List S,renSs τ ss=ss.map (renS τ)
  | []=>rfl
  | s::r=>by rw [renSs,renSs_map τ r];rfl
mutual
theorem SR_ren1 {τ:Nat→Nat} {g:G} {w:World} {R R0:Nat→Option Res} (h:∀ i r,R0 i=some r→R (τ i)=some (renR τ r)) :
    ∀ (s:S) (u:Value),SR g w R (renS τ s) u→SR ⟨g.K,fun i=>g.loc (τ i)⟩ w R0 s u
  | .c x,u,hs=>by rw [renS,SR] at hs;rw [SR];exact hs
  | .agg cs,u,hs=>by rw [renS,SR] at hs;rw [SR];exact hs
  | .tup ss,u,hs=>by
    rw [renS,SR] at hs
    obtain ⟨us,e,hs⟩:=hs
    rw [SR]
    exact ⟨us,e,SRs_ren1 h ss us hs⟩
  | .fnp f ss,u,hs=>by
    rw [renS,SR] at hs
    obtain ⟨us,e,hs⟩:=hs
    rw [SR]
    exact ⟨us,e,SRs_ren1 h ss us hs⟩
  | .st ss,u,hs=>by
    rw [renS,SR] at hs
    obtain ⟨us,e,hs,h3⟩:=hs
    rw [SR]
    exact ⟨us,e,SRs_ren1 h ss us hs,h3⟩
  | .own i n,u,hs=>by
    rw [renS,SR] at hs
    rw [SR]
    exact fun nil sz xs fx e1 e2=>hs nil sz xs fx (h i _ e1) e2
  | .ptr i o,u,hs=>by
    rw [renS,SR] at hs
    rw [SR]
    exact fun fz ss e1=>hs fz _ (h i _ e1)
  | .ep i n j o,u,hs=>by
    rw [renS,SR] at hs
    rw [SR]
    exact fun nil sz xs fx e1 e2=>hs nil sz xs fx (h i _ e1) e2
  | .suf i n j,u,hs=>by
    rw [renS,SR] at hs
    rw [SR]
    exact fun nil sz xs fx e1 e2=>hs nil sz xs fx (h i _ e1) e2
  | .mp i,u,hs=>by
    rw [renS,SR] at hs
    rw [SR]
    exact fun m e1=>hs _ (h i _ e1)
  | .pre i n m,u,hs=>by
    rw [renS,SR] at hs
    rw [SR]
    exact fun nil sz xs fx e1 e2=>hs nil sz xs fx (h i _ e1) e2
  | .cut i n m,u,hs=>by
    rw [renS,SR] at hs
    rw [SR]
    exact fun nil sz xs fx e1 e2=>hs nil sz xs fx (h i _ e1) e2
  | .me i j o,u,hs=>by
    rw [renS,SR] at hs
    rw [SR]
    intro nil sz xs e1 hj
    obtain ⟨b,cap,q1,q2⟩:=hs nil sz (List.map (fun e:List S=>e.map (renS τ)) xs) (by rw [h i _ e1];rfl) (by simpa using hj)
    exact ⟨b,cap,by simpa using q1,q2⟩
  | .g b s,u,hs=>by
    rw [renS,SR] at hs
    rw [SR]
    exact ⟨fun e=>SR_ren1 h s u (hs.1 e),hs.2⟩
  | .un,u,hs=>by rw [SR];trivial
theorem SRs_ren1 {τ:Nat→Nat} {g:G} {w:World} {R R0:Nat→Option Res} (h:∀ i r,R0 i=some r→R (τ i)=some (renR τ r)) :
    ∀ (ss:List S) (us:List Value),SRs g w R (renSs τ ss) us→SRs ⟨g.K,fun i=>g.loc (τ i)⟩ w R0 ss us
  | [],us,hs=>by rw [renSs,SRs] at hs;rw [SRs];exact hs
  | s::r,us,hs=>by
    rw [renSs,SRs] at hs
    obtain ⟨u,us',e,h1,h2⟩:=hs
    rw [SRs]
    exact ⟨u,us',e,SR_ren1 h s u h1,SRs_ren1 h r us' h2⟩
end
def Ren2 (τ:Nat→Nat) (g0 g:G) (R0 R:Nat→Option Res) (j:Nat):Prop:=(∀ r',R (τ j)=some r'→∃ r,R0 j=some r∧r'=renR τ r)∧g.loc (τ j)=g0.loc j
mutual
theorem SR_ren2 {τ:Nat→Nat} {g0 g:G} {w:World} {R R0:Nat→Option Res} (hK:g.K=g0.K) :
    ∀ (s:S) (u:Value),(∀ j,s.men j=true→Ren2 τ g0 g R0 R j)→SR g0 w R0 s u→SR g w R (renS τ s) u
  | .c x,u,_,hs=>by rw [SR] at hs;rw [renS,SR,hK];exact hs
  | .agg cs,u,_,hs=>by rw [SR] at hs;rw [renS,SR,hK];exact hs
  | .tup ss,u,h,hs=>by
    rw [SR] at hs
    obtain ⟨us,e,hs⟩:=hs
    rw [renS,SR]
    exact ⟨us,e,SRs_ren2 hK ss us (fun j hj=>h j (by rw [S.men];exact hj)) hs⟩
  | .fnp f ss,u,h,hs=>by
    rw [SR] at hs
    obtain ⟨us,e,hs⟩:=hs
    rw [renS,SR]
    exact ⟨us,e,SRs_ren2 hK ss us (fun j hj=>h j (by rw [S.men];exact hj)) hs⟩
  | .st ss,u,h,hs=>by
    rw [SR] at hs
    obtain ⟨us,e,hs,h3⟩:=hs
    rw [renS,SR]
    exact ⟨us,e,SRs_ren2 hK ss us (fun j hj=>h j (by rw [S.men];exact hj)) hs,h3⟩
  | .own i n,u,h,hs=>by
    rw [SR] at hs
    rw [renS,SR]
    intro nil sz xs fx e1 e2
    obtain ⟨h1,h2⟩:=h i (by simp [S.men])
    obtain ⟨r,e3,e4⟩:=h1 _ e1
    cases r with
    | arr a1 a2 a3 a4 =>
      simp [renR] at e4
      obtain ⟨rfl,rfl,rfl,rfl⟩:=e4
      rw [h2];exact hs _ _ _ _ e3 e2
    | _=>simp [renR] at e4
  | .ptr i o,u,h,hs=>by
    rw [SR] at hs
    rw [renS,SR]
    intro fz ss e1
    obtain ⟨h1,h2⟩:=h i (by simp [S.men])
    obtain ⟨r,e3,e4⟩:=h1 _ e1
    cases r with
    | box a1 a2 =>
      rw [h2];exact hs _ _ e3
    | _=>simp [renR] at e4
  | .ep i n j o,u,h,hs=>by
    rw [SR] at hs
    rw [renS,SR]
    intro nil sz xs fx e1 e2
    obtain ⟨h1,h2⟩:=h i (by simp [S.men])
    obtain ⟨r,e3,e4⟩:=h1 _ e1
    cases r with
    | arr a1 a2 a3 a4 =>
      simp [renR] at e4
      obtain ⟨rfl,rfl,rfl,rfl⟩:=e4
      rw [h2];exact hs _ _ _ _ e3 e2
    | _=>simp [renR] at e4
  | .suf i n j,u,h,hs=>by
    rw [SR] at hs
    rw [renS,SR]
    intro nil sz xs fx e1 e2
    obtain ⟨h1,h2⟩:=h i (by simp [S.men])
    obtain ⟨r,e3,e4⟩:=h1 _ e1
    cases r with
    | arr a1 a2 a3 a4 =>
      simp [renR] at e4
      obtain ⟨rfl,rfl,rfl,rfl⟩:=e4
      rw [h2];exact hs _ _ _ _ e3 e2
    | _=>simp [renR] at e4
  | .mp i,u,h,hs=>by
    rw [SR] at hs
    rw [renS,SR]
    intro kvs e1
    obtain ⟨h1,h2⟩:=h i (by simp [S.men])
    obtain ⟨r,e3,e4⟩:=h1 _ e1
    cases r with
    | map k0=>rw [h2];exact hs _ e3
    | _=>simp [renR] at e4
  | .pre i n m,u,h,hs=>by
    rw [SR] at hs
    rw [renS,SR]
    intro nil sz xs fx e1 e2
    obtain ⟨h1,h2⟩:=h i (by simp [S.men])
    obtain ⟨r,e3,e4⟩:=h1 _ e1
    cases r with
    | arr a1 a2 a3 a4 =>
      simp [renR] at e4
      obtain ⟨rfl,rfl,rfl,rfl⟩:=e4
      rw [h2];exact hs _ _ _ _ e3 e2
    | _=>simp [renR] at e4
  | .cut i n m,u,h,hs=>by
    rw [SR] at hs
    rw [renS,SR]
    intro nil sz xs fx e1 e2
    obtain ⟨h1,h2⟩:=h i (by simp [S.men])
    obtain ⟨r,e3,e4⟩:=h1 _ e1
    cases r with
    | arr a1 a2 a3 a4 =>
      simp [renR] at e4
      obtain ⟨rfl,rfl,rfl,rfl⟩:=e4
      rw [h2];exact hs _ _ _ _ e3 e2
    | _=>simp [renR] at e4
  | .me i j o,u,h,hs=>by
    rw [SR] at hs
    rw [renS,SR]
    intro nil sz xs e1 hj
    obtain ⟨h1,h2⟩:=h i (by simp [S.men])
    obtain ⟨r,e3,e4⟩:=h1 _ e1
    cases r with
    | map m =>
      cases m with
      | rows n0 z0 x0 =>
        simp only [renR,MB.map,Res.map.injEq,MB.rows.injEq] at e4
        obtain ⟨rfl,rfl,rfl⟩:=e4
        obtain ⟨b,cap,q1,q2⟩:=hs _ _ _ e3 (by simpa using hj)
        exact ⟨b,cap,by rw [h2];simpa using q1,q2⟩
      | _=>simp [renR,MB.map] at e4
    | _=>simp [renR] at e4
  | .g b s,u,h,hs=>by
    rw [SR] at hs
    rw [renS,SR]
    exact ⟨fun e=>SR_ren2 hK s u (fun j hj=>h j (by rw [S.men];exact hj)) (hs.1 e),hs.2⟩
  | .un,u,_,hs=>by rw [renS,SR];trivial
theorem SRs_ren2 {τ:Nat→Nat} {g0 g:G} {w:World} {R R0:Nat→Option Res} (hK:g.K=g0.K) :
    ∀ (ss:List S) (us:List Value),(∀ j,S.mens j ss=true→Ren2 τ g0 g R0 R j)→SRs g0 w R0 ss us→SRs g w R (renSs τ ss) us
  | [],us,_,hs=>by rw [SRs] at hs;rw [renSs,SRs];exact hs
  | s::r,us,h,hs=>by
    rw [SRs] at hs
    obtain ⟨u,us',e,h1,h2⟩:=hs
    rw [renSs,SRs]
    exact ⟨u,us',e,SR_ren2 hK s u (fun j hj=>h j (by simp [S.mens,hj])) h1,SRs_ren2 hK r us' (fun j hj=>h j (by simp [S.mens,hj])) h2⟩
end
theorem RR_ren1 {τ:Nat→Nat} {g:G} {w:World} {R R0:Nat→Option Res} {B B0:Nat→Prop} (h:∀ i r,R0 i=some r→R (τ i)=some (renR τ r)) {i:Nat} {r:Res} (hB:∀ b,blk (g.loc (τ i))=some b→B0 b)
    (hr:RR g w R B (τ i) (renR τ r)):RR ⟨g.K,fun i=>g.loc (τ i)⟩ w R0 B0 i r:=by
  cases r with
  | box fz ss =>
    obtain ⟨b,cur,E,h1,h2,h3,h4,h5,h6⟩:=hr
    rw [renSs_map] at h4 h5
    refine ⟨b,cur,E,h1,hB b (by rw [h1];rfl),h3,by simpa using h4,fun k s hs=>?_,h6⟩
    obtain ⟨u,e1,e2,e3⟩:=h5 k (renS τ s) (by simp [hs])
    exact ⟨u,e1,SR_ren1 h s u e2,e3⟩
  | arr nil sz xs fx =>
    rcases hr with hr | ⟨h0,b,cap,cur,E,h1,h2,h3⟩
    · exact .inl hr
    · exact .inr ⟨h0,b,cap,cur,E,h1,hB b (by rw [h1];rfl),h3⟩
  | pin v s=>exact ⟨hr.1,SR_ren1 h s v hr.2⟩
  | map m =>
    have:=MR.tr (g:=g) (R:=R) (w:=w) (g':=⟨g.K,fun i=>g.loc (τ i)⟩) (w':=w) (R':=R0) (B':=fun b=>B0 b) (i':=i) (f1:=renS τ) (f2:=fun s=>s) (m:=m) rfl (fun b e=>⟨rfl,fun _ k=>k,fun _=>hB b e⟩) (fun s _ u hu=>SR_ren1 h s u hu) hr
    rwa [MB.map_id] at this
def Res.ment (j:Nat):Res→Bool
  | .box _ ss=>S.mens j ss
  | .arr .. => false
  | .map m=>m.men j
  | .pin _ s=>s.men j
theorem mens_of {j:Nat} : ∀ {ss:List S} {s:S},s∈ss→s.men j=true→S.mens j ss=true
  | x::r,s,h,hm=>by
    rw [S.mens]
    rcases List.mem_cons.1 h with rfl | h
    · simp [hm]
    · simp [mens_of h hm]
theorem RR_ren2 {τ:Nat→Nat} {g0 g:G} {w:World} {R R0:Nat→Option Res} {B B0:Nat→Prop} (hK:g.K=g0.K) {i:Nat} {r:Res} (hm:∀ j,r.ment j=true→Ren2 τ g0 g R0 R j) (hi:g.loc (τ i)=g0.loc i)
    (hB:∀ b,blk (g0.loc i)=some b→B0 b→B b) (hr:RR g0 w R0 B0 i r):RR g w R B (τ i) (renR τ r):=by
  cases r with
  | box fz ss =>
    obtain ⟨b,cur,E,h1,h2,h3,h4,h5,h6⟩:=hr
    refine ⟨b,cur,E,by rw [hi];exact h1,hB b (by rw [h1];rfl) h2,h3,by rw [renSs_map];simpa using h4,fun k s hs=>?_,by rw [hK];exact h6⟩
    rw [renSs_map] at hs
    simp only [List.getElem?_map,Option.map_eq_some_iff] at hs
    obtain ⟨s0,hs0,rfl⟩:=hs
    obtain ⟨u,e1,e2,e3⟩:=h5 k s0 hs0
    exact ⟨u,e1,SR_ren2 hK s0 u (fun j hj=>hm j (mens_of (List.mem_of_getElem? hs0) hj)) e2,e3⟩
  | arr nil sz xs fx =>
    rcases hr with ⟨h1,h2,h3,h4⟩ | ⟨h0,b,cap,cur,E,h1,h2,h3⟩
    · exact .inl ⟨h1,h2,by rw [hi];exact h3,h4⟩
    · exact .inr ⟨h0,b,cap,cur,E,by rw [hi];exact h1,hB b (by rw [h1];rfl) h2,by rw [hK];exact h3⟩
  | pin v s=>exact ⟨by rw [hi];exact hr.1,SR_ren2 hK s v (fun j hj=>hm j hj) hr.2⟩
  | map m =>
    exact MR.tr (g:=g0) (R:=R0) (w:=w) (g':=g) (w':=w) (R':=R) (B':=B) (i':=τ i) (f1:=fun s=>s) (f2:=renS τ) (m:=m) hi (fun b e=>⟨rfl,fun o k=>by rw [hK] at k;exact k,fun hx=>hB b e hx⟩)
      (fun s hs u hu=>SR_ren2 hK s u (fun j hj=>hm j (MB.men_of hs hj)) hu) (by rw [MB.map_id];exact hr)
end Go.VL
