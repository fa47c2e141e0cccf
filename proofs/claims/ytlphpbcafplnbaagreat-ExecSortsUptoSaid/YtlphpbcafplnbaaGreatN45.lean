/- Contracts of functions of the seat, proved in a logic on data over the model (part N45). -/
import Derived.Test.YtlphpbcafplnbaaGreatN33
import Derived.Test.YtlphpbcafplnbaaGreatBY
import Derived.Test.YtlphpbcafplnbaaGreatS13
import Derived.Test.YtlphpbcafplnbaaGreatN31
import Derived.Test.YtlphpbcafplnbaaGreatE3
import Derived.Test.YtlphpbcafplnbaaGreatVN13
import Derived.Test.YtlphpbcafplnbaaGreatQS
import Derived.Test.YtlphpbcafplnbaaGreatD2
import Derived.Test.YtlphpbcafplnbaaGreatVN17
set_option linter.unusedSimpArgs false
set_option linter.unusedVariables false
namespace Go.Proofs.YtlphpbcafplnbaaGreat
open Go.VL Go.RowKit
theorem insR_up (r:List Val):∀ (l:List (List Val)),RUp l→RUp (insR r l)
  | [],_=>by simp [insR]
  | x::l,h=>by
    obtain ⟨h1,h2⟩:=List.pairwise_cons.1 h
    rw [insR]
    split
    · rename_i hb
      have hb:cmpR r x<0:=of_decide_eq_true hb
      refine List.pairwise_cons.2 ⟨fun y hy=>?_,h⟩
      rcases List.mem_cons.1 hy with rfl | hy
      · omega
      · exact Cmp.row.trans r x y (by omega) (h1 y hy)
    · rename_i hb
      have hb:¬ cmpR r x<0:=fun e=>hb (decide_eq_true e)
      refine List.pairwise_cons.2 ⟨fun y hy=>?_,insR_up r l h2⟩
      rcases List.mem_cons.1 ((insR_perm r l).mem_iff.1 hy) with rfl | hy
      · have:=Cmp.row.anti x y
        omega
      · exact h1 y hy
def putAll (l rs:List (List Val)):List (List Val):=rs.foldl (fun acc r=>insR r acc) l
theorem putAll_up:∀ (rs l:List (List Val)),RUp l→RUp (putAll l rs)
  | [],l,h=>h
  | r::rs,l,h=>putAll_up rs (insR r l) (insR_up r l h)
theorem putAll_perm:∀ (rs l:List (List Val)),(putAll l rs).Perm (rs++l)
  | [],l=>.refl _
  | r::rs,l=>(putAll_perm rs (insR r l)).trans ((List.Perm.append_left rs (insR_perm r l)).trans List.perm_middle)
def cellsOf (E:List Int) (NL:Nat→Bool) (G:Nat→List (List Val)):List CD:=(List.range (E.length-1)).map fun i=>⟨E[i]!,E[i+1]!,NL i,G i⟩
@[simp] theorem cellsOf_len (E:List Int) (NL:Nat→Bool) (G:Nat→List (List Val)):(cellsOf E NL G).length=E.length-1:=by simp [cellsOf]
def rowsIn (E:List Int) (G:Nat→List (List Val)) (t:Int):List (List Val) :=
  match (List.range (E.length-1)).find? fun i=>decide (E[i]! ≤ t) && decide (t<E[i+1]!) with
  | some i=>G i
  | none=>[]
theorem rowsIn_some {E:List Int} (hE:Rise E) {G:Nat→List (List Val)} {t:Int} {i:Nat} (hi:i+1<E.length) (h1:E[i]! ≤ t) (h2:t<E[i+1]!):rowsIn E G t=G i:=by
  unfold rowsIn
  split
  · rename_i j hj
    have h:=List.find?_some hj
    have hm:=List.mem_range.1 (List.mem_of_find?_eq_some hj)
    rw [Bool.and_eq_true,decide_eq_true_eq,decide_eq_true_eq] at h
    have:i=j:=by
      rcases Nat.lt_trichotomy i j with e | e | e
      · have:=rise_le hE (show i+1≤j by omega) (by omega);omega
      · exact e
      · have:=rise_le hE (show j+1≤i by omega) (by omega);omega
    rw [this]
  · rename_i hn
    have:=List.find?_eq_none.1 hn i (List.mem_range.2 (by omega))
    exfalso;apply this
    rw [Bool.and_eq_true,decide_eq_true_eq,decide_eq_true_eq];exact ⟨h1,h2⟩
theorem rowsIn_none {E:List Int} {G:Nat→List (List Val)} {t:Int} (h:∀ i,i+1<E.length→¬ (E[i]! ≤ t∧t<E[i+1]!)):rowsIn E G t=[]:=by
  unfold rowsIn
  split
  · rename_i j hj
    have h':=List.find?_some hj
    have hm:=List.mem_range.1 (List.mem_of_find?_eq_some hj)
    rw [Bool.and_eq_true,decide_eq_true_eq,decide_eq_true_eq] at h'
    exact absurd h' (h j (by omega))
  · rfl
theorem seenS_nodup {s:List (List Val)} (h:s.Nodup) (r:List Val):(seenS s r).Nodup:=by
  unfold seenS
  split
  · rename_i h0
    rw [List.nodup_append]
    refine ⟨h,by simp,fun a ha b hb=>?_⟩
    simp at hb
    subst hb
    intro e
    subst e
    exact List.count_eq_zero.1 h0 ha
  · exact h
theorem seenC_nodup:∀ (rs s:List (List Val)),s.Nodup→(seenC s rs).Nodup
  | [],s,h=>h
  | r::rs,s,h=>seenC_nodup rs (seenS s r) (seenS_nodup h r)
theorem seenL_nodup (cs:List CD):(seenL cs).Nodup:=by
  refine rev_ind (p:=fun cs=>(seenL cs).Nodup) ?_ ?_ cs
  · simp [seenL]
  · intro l c ih
    have e:seenL (l++[c])=seenC (seenL l) c.rows:=by unfold seenL;rw [List.foldl_append];rfl
    rw [e];exact seenC_nodup _ _ ih
theorem seenS_sub {s:List (List Val)} {r x:List Val} (h:x∈s):x∈seenS s r:=by unfold seenS;split <;> simp [h]
theorem seenS_self (s:List (List Val)) (r:List Val):r∈seenS s r:=by
  unfold seenS
  split
  · simp
  · rename_i h;exact List.count_pos_iff.1 (Nat.pos_of_ne_zero h)
theorem seenC_sub:∀ (rs:List (List Val)) {s:List (List Val)} {x:List Val},x∈s→x∈seenC s rs
  | [],_,_,h=>h
  | r::rs,_,_,h=>seenC_sub rs (seenS_sub h)
theorem seenC_in:∀ (rs s:List (List Val)) {x:List Val},x∈rs→x∈seenC s rs
  | r::rs,s,x,h=>by
    rcases List.mem_cons.1 h with rfl | h
    · exact seenC_sub rs (seenS_self s x)
    · exact seenC_in rs (seenS s r) h
theorem seenL_in (cs:List CD):∀ c∈cs,∀ r∈c.rows,r∈seenL cs:=by
  refine rev_ind (p:=fun cs=>∀ c∈cs,∀ r∈c.rows,r∈seenL cs) ?_ ?_ cs
  · intro c h;simp at h
  · intro l d ih c hc r hr
    have e:seenL (l++[d])=seenC (seenL l) d.rows:=by unfold seenL;rw [List.foldl_append];rfl
    rw [e]
    rcases List.mem_append.1 hc with h | h
    · exact seenC_sub _ (ih c h r hr)
    · simp at h;subst h;exact seenC_in _ _ hr
theorem nodup_len {α:Type} [DecidableEq α]:∀ {l m:List α},l.Nodup→(∀ x∈l,x∈m)→l.length≤m.length
  | [],_,_,_=>Nat.zero_le _
  | x::l,m,hn,h=>by
    obtain ⟨h1,h2⟩:=List.nodup_cons.1 hn
    have hx:=h x (by simp)
    have:=nodup_len (m:=m.erase x) h2 fun y hy=>by
      have hne:y≠x:=fun e=>h1 (e ▸ hy)
      exact (List.mem_erase_of_ne hne).2 (h y (by simp [hy]))
    rw [List.length_erase_of_mem hx] at this
    have hp:0<m.length:=List.length_pos_of_mem hx
    rw [List.length_cons];omega
def stC (cs:List CD) (r:List Val):List (Per × Int):=cs.map fun c=>(⟨c.f,c.t⟩,(cntC r c:Int))
theorem here_stC (cs:List CD) (r:List Val) (k:Nat):here (stC cs r) k=hereC cs r k:=by
  unfold here stC hereC
  rw [List.filter_map,List.map_map]
  congr 1
  refine List.filter_congr fun c _=>?_
  simp only [Function.comp]
  refine decide_eq_decide.2 ?_
  omega
theorem maxN_stC (cs:List CD) (r:List Val):maxN (stC cs r)=mostC cs r:=by
  unfold maxN stC mostC
  rw [List.foldl_map]
  congr 1
theorem layC_norm (sortP:List Per→List Per) (cs:List CD) (r:List Val):(layC sortP cs r (mostC cs r)).map norm=layersL sortP r (stC cs r):=by
  unfold layC layersL layersN
  rw [maxN_stC,List.map_flatMap]
  refine fm_congr fun k _=>?_
  rw [here_stC,List.map_map]
  rfl
theorem strips_norm (l:List Fact):strips (l.map norm)=strips l:=by unfold strips;rw [List.map_map];rfl
theorem stepsC {E:List Int} (hE:Rise E) (hr:∀ i,i+1<E.length→right ⟨E[i]!,E[i+1]!⟩=true) (NL:Nat→Bool) (G:Nat→List (List Val)) (r:List Val):StepsOf (stC (cellsOf E NL G) r) fun t=>((rowsIn E G t).count r:Int):=by
  refine ⟨fun t k hk=>?_⟩
  rw [here_stC,Bool.eq_iff_iff,decide_eq_true_eq]
  unfold someP hereC cellsOf
  rw [List.any_eq_true]
  constructor
  · rintro ⟨p,hp,hv⟩
    obtain ⟨c,hc,rfl⟩:=List.mem_map.1 hp
    obtain ⟨hc,hk2⟩:=List.mem_filter.1 hc
    obtain ⟨i,hi,rfl⟩:=List.mem_map.1 hc
    have hi:=List.mem_range.1 hi
    rw [Bool.and_eq_true,has_iff] at hv
    rw [rowsIn_some hE (by omega) hv.2.1 hv.2.2]
    have:=of_decide_eq_true hk2
    simp only [cntC] at this
    omega
  · intro h
    by_cases he:∃ i,i+1<E.length∧E[i]! ≤ t∧t<E[i+1]!
    · obtain ⟨i,hi,h1,h2⟩:=he
      rw [rowsIn_some hE hi h1 h2] at h
      refine ⟨⟨E[i]!,E[i+1]!⟩,List.mem_map.2 ⟨⟨E[i]!,E[i+1]!,NL i,G i⟩,List.mem_filter.2 ⟨List.mem_map.2 ⟨i,List.mem_range.2 (by omega),rfl⟩,?_⟩,rfl⟩,?_⟩
      · show decide (k≤(G i).count r)=true
        rw [decide_eq_true_eq];omega
      · rw [Bool.and_eq_true,has_iff];exact ⟨hr i hi,h1,h2⟩
    · rw [rowsIn_none fun i hi h=>he ⟨i,hi,h.1,h.2⟩] at h
      simp at h
      omega
theorem put_rsort {s:List (List Val)} (h:s.Nodup):RSort (putAll [] s):=by
  have hu:=putAll_up s [] (by simp)
  have hn:(putAll [] s).Nodup:=((putAll_perm s []).nodup_iff).2 (by simpa using h)
  have key:∀ l:List (List Val),RUp l→l.Nodup→RSort l:=by
    intro l
    induction l with
    | nil=>intro _ _;simp [RSort]
    | cons x l ih =>
      intro hu hn
      obtain ⟨a1,a2⟩:=List.pairwise_cons.1 hu
      obtain ⟨b1,b2⟩:=List.nodup_cons.1 hn
      refine List.pairwise_cons.2 ⟨fun y hy=>?_,ih a2 b2⟩
      rcases Int.lt_or_eq_of_le (a1 y hy) with h | h
      · exact h
      · exact absurd ((cmpR_0 x y).1 h ▸ hy) b1
  exact key _ hu hn
section
variable {sortP:List Per→List Per}
def refF (sortP:List Per→List Per) (E:List Int) (NL:Nat→Bool) (G:Nat→List (List Val)):List Fact:=sortF (factsP sortP (cellsOf E NL G))
theorem ref_form {E:List Int} (hE:Rise E) (hr:∀ i,i+1<E.length→right ⟨E[i]!,E[i+1]!⟩=true) (NL:Nat→Bool) (G:Nat→List (List Val)) :
    IsForm sortP ((refF sortP E NL G).map norm) (putAll [] (seenL (cellsOf E NL G))) (stC (cellsOf E NL G)) fun r t=>((rowsIn E G t).count r:Int):=by
  refine ⟨put_rsort (seenL_nodup _),fun r _=>stepsC hE hr NL G r,?_⟩
  unfold refF formL
  have hp:((sortF (factsP sortP (cellsOf E NL G))).map norm).Perm ((putAll [] (seenL (cellsOf E NL G))).flatMap fun r=>layersL sortP r (stC (cellsOf E NL G) r)):=by
    refine ((sortF_perm _).map norm).trans ?_
    unfold factsP outD
    rw [List.map_flatMap]
    have e:((seenL (cellsOf E NL G)).flatMap fun r=>(layC sortP (cellsOf E NL G) r (mostC (cellsOf E NL G) r)).map norm)=(seenL (cellsOf E NL G)).flatMap fun r=>layersL sortP r (stC (cellsOf E NL G) r):=fm_congr fun r _=>layC_norm sortP _ r
    rw [e]
    have:=(putAll_perm (seenL (cellsOf E NL G)) []).symm
    rw [List.append_nil] at this
    exact List.Perm.flatMap_right _ this
  refine sortF_uniq (fun f hf=>?_) hp ?_
  · obtain ⟨g,_,rfl⟩:=List.mem_map.1 (hp.mem_iff.2 hf)
    exact normed_norm g
  · exact List.pairwise_map.2 (sortF_sorted _)
theorem ref_cnt (hs:Sorts sortP) {E:List Int} (hE:Rise E) (hr:∀ i,i+1<E.length→right ⟨E[i]!,E[i+1]!⟩=true) (NL:Nat→Bool) (G:Nat→List (List Val)) (r:List Val) (t:Int) :
    cnt ((refF sortP E NL G).map norm) r t=(rowsIn E G t).count r:=by
  rw [(ref_form hE hr NL G).cnt hs]
  split
  · omega
  · rename_i h
    symm
    refine List.count_eq_zero.2 fun hm=>h ?_
    have:=putAll_perm (seenL (cellsOf E NL G)) []
    rw [List.append_nil] at this
    refine this.mem_iff.2 ?_
    by_cases he:∃ i,i+1<E.length∧E[i]! ≤ t∧t<E[i+1]!
    · obtain ⟨i,hi,h1,h2⟩:=he
      rw [rowsIn_some hE hi h1 h2] at hm
      exact seenL_in _ ⟨E[i]!,E[i+1]!,NL i,G i⟩ (List.mem_map.2 ⟨i,List.mem_range.2 (by omega),rfl⟩) r hm
    · rw [rowsIn_none fun i hi h=>he ⟨i,hi,h.1,h.2⟩] at hm
      simp at hm
theorem ref_eq (hs:Sorts sortP) {E:List Int} (hE:Rise E) (hr:∀ i,i+1<E.length→right ⟨E[i]!,E[i+1]!⟩=true) (NL:Nat→Bool) (G:Nat→List (List Val)) {m:List Fact} {rows:List (List Val)} {S:List Val→List (Per × Int)} {c:List Val→Int→Int}
    (h:IsForm sortP m rows S c) (e:∀ r t,cnt m r t=(rowsIn E G t).count r):(refF sortP E NL G).map norm=m :=
  (ref_form hE hr NL G).ext h hs fun r t=>by rw [ref_cnt hs hE hr,e]
theorem ref_seen (hs:Sorts sortP) {E:List Int} (hE:Rise E) (hr:∀ i,i+1<E.length→right ⟨E[i]!,E[i+1]!⟩=true) (NL:Nat→Bool) (G:Nat→List (List Val)):(seenL (cellsOf E NL G)).length≤(factsP sortP (cellsOf E NL G)).length:=by
  have h1:(factsP sortP (cellsOf E NL G)).length=(((refF sortP E NL G).map norm).map Fact.row).length:=by
    rw [List.length_map,List.length_map];exact (sortF_len _).symm
  rw [h1]
  refine nodup_len (seenL_nodup _) fun r hm=>?_
  obtain ⟨c,hc,hrc⟩:=seenL_mem _ r hm
  obtain ⟨i,hi,rfl⟩:=List.mem_map.1 hc
  have hi:=List.mem_range.1 hi
  have hlt:E[i]! < E[i+1]! := by
    have:=(right_iff _).1 (hr i (by omega))
    simp only at this;omega
  have h2:=ref_cnt hs hE hr NL G r E[i]!
  rw [rowsIn_some hE (by omega) (Int.le_refl _) hlt] at h2
  have h3:0<(G i).count r:=List.count_pos_iff.2 hrc
  rw [← h2] at h3
  unfold cnt at h3
  obtain ⟨f,hf⟩:=List.exists_mem_of_length_pos h3
  obtain ⟨hf,hv⟩:=List.mem_filter.1 hf
  rw [Bool.and_eq_true,decide_eq_true_eq] at hv
  exact List.mem_map.2 ⟨f,hf,hv.1⟩
end
theorem edges_ok (l:List Fact):Rise (edgesL (pers l))∧∀ i,i+1<(edgesL (pers l)).length→right ⟨(edgesL (pers l))[i]!,(edgesL (pers l))[i+1]!⟩=true :=
  ⟨(edgesL_ok _).1,fun i hi=>edge_right hi⟩
theorem facts_ref {sortP:List Per→List Per} (hs:Sorts sortP) {E:List Int} (hE:Rise E) (hr:∀ i,i+1<E.length→right ⟨E[i]!,E[i+1]!⟩=true) (NL:Nat→Bool) (G:Nat→List (List Val)) {m:List Fact} {rows:List (List Val)} {S:List Val→List (Per × Int)} {c:List Val→Int→Int}
    (h:IsForm sortP m rows S c) (e:∀ r t,cnt m r t=(rowsIn E G t).count r) (nl:Bool) (hl:E.length≤1000000000) (hG:∀ i,(G i).length≤4000000000000∧∀ r∈G i,r.length≤4294967296) (hm:m.length≤3518437208883) :
    Con Tryz.prog 51 [.c (.sl nl ((cellsOf E NL G).map CD.cells))] [.c (.sl (refF sortP E NL G).isEmpty (facts (refF sortP E NL G)))]:=by
  have heq:=ref_eq hs hE hr NL G h e
  have hlen:(factsP sortP (cellsOf E NL G)).length=m.length:=by
    rw [← heq,List.length_map];exact (sortF_len _).symm
  have hsn:=ref_seen hs hE hr NL G
  exact facts_spec hs nl (cellsOf E NL G) (by rw [cellsOf_len];omega) (fun c hc=>by
    obtain ⟨i,_,rfl⟩:=List.mem_map.1 hc
    exact hG i) (by omega) (by omega)
def mixC (E:List Int) (NL NL':Nat→Bool) (G G':Nat→List (List Val)) (i:Nat):List (List C) :=
  (List.range (E.length-1)).map fun j=>if j<i then [i64 (ge E j),i64 (ge E (j+1)),.sl (NL' j) (rowsW fF (G' j))] else [i64 (ge E j),i64 (ge E (j+1)),.sl (NL j) (rowsW fF (G j))]
@[simp] theorem mixC_len (E:List Int) (NL NL':Nat→Bool) (G G':Nat→List (List Val)) (i:Nat):(mixC E NL NL' G G' i).length=E.length-1:=by simp [mixC]
def nG (l:List Fact) (i:Nat):List (List Val):=rowsAt l (edgesL (pers l))[i]!
def nNL (l:List Fact) (i:Nat):Bool:=(nG l i).isEmpty
theorem cellsC_of (l:List Fact):cellsC l (edgesL (pers l)) ((edgesL (pers l)).length-1)=(cellsOf (edgesL (pers l)) (nNL l) (nG l)).map CD.cells:=by
  unfold cellsC cellsOf
  rw [List.map_map]
  rfl
theorem rows_in {l:List Fact} {ps:List Per} (h:∀ f∈l,f.p∈ps) {i:Nat} (hi:i+1<(edgesL ps).length) {t:Int} (h1:(edgesL ps)[i]! ≤ t) (h2:t<(edgesL ps)[i+1]!):(rowsAt l (edgesL ps)[i]!).Perm (atT l t):=by
  refine (rowsAt_perm l _).trans ?_
  refine List.perm_iff_count.2 fun r=>?_
  have e:=cnt_between h hi h1 h2 r
  rw [cnt_at,cnt_at] at e
  exact e
theorem rows_out {l:List Fact} {ps:List Per} (h:∀ f∈l,f.p∈ps) {t:Int} (ho:∀ i,i+1<(edgesL ps).length→¬ ((edgesL ps)[i]! ≤ t∧t<(edgesL ps)[i+1]!)):atT l t=[]:=by
  rw [List.eq_nil_iff_forall_not_mem]
  intro r hr
  have:0<cnt l r t:=by rw [cnt_at];exact List.count_pos_iff.2 hr
  obtain ⟨i,a,b,c⟩:=cnt_in h this
  exact ho i a ⟨b,c⟩
def refNormal (sortP:List Per→List Per) (l:List Fact):List Fact:=refF sortP (edgesL (pers l)) (nNL l) (nG l)
theorem pers_mem {l m:List Fact} (h:∀ f∈l,f∈m):∀ f∈l,f.p∈pers m:=fun f hf=>List.mem_map.2 ⟨f,h f hf,rfl⟩
theorem in_perm {ps:List Per} {t:Int} {F:Nat→List (List Val)} {m:List (List Val)} (hi:∀ i,i+1<(edgesL ps).length→(edgesL ps)[i]! ≤ t→t<(edgesL ps)[i+1]! → (F i).Perm m) (ho:(∀ i,i+1<(edgesL ps).length→¬ ((edgesL ps)[i]! ≤ t∧t<(edgesL ps)[i+1]!))→m=[]) :
    (rowsIn (edgesL ps) F t).Perm m:=by
  by_cases h:∃ i,i+1<(edgesL ps).length∧(edgesL ps)[i]! ≤ t∧t<(edgesL ps)[i+1]!
  · obtain ⟨i,h1,h2,h3⟩:=h
    rw [rowsIn_some (edgesL_ok ps).1 h1 h2 h3]
    exact hi i h1 h2 h3
  · have h':=fun i hi h2=>h ⟨i,hi,h2⟩
    rw [rowsIn_none h',ho h']
theorem nG_perm (l:List Fact) (t:Int):(rowsIn (edgesL (pers l)) (nG l) t).Perm (atT l t) :=
  in_perm (fun i h1 h2 h3=>rows_in (pers_mem fun f hf=>hf) h1 h2 h3) fun ho=>rows_out (pers_mem fun f hf=>hf) ho
theorem rowsAt_bound {l:List Fact} {t:Int} (hl:l.length≤4000000000000) (hr:Rows1 l):(rowsAt l t).length≤4000000000000∧∀ r∈rowsAt l t,r.length≤4294967296 :=
  ⟨Nat.le_trans (rowsAt_len l t) hl,fun r h=>by obtain ⟨f,hf,_,rfl⟩:=rowsAt_mem h;exact hr f hf⟩
theorem edges_le (l:List Fact):(edgesL (pers l)).length≤2*l.length:=by
  have:=edgesL_len (pers l)
  rw [List.length_map] at this;omega
theorem nnorm_cnt {sortP:List Per→List Per} (hs:Sorts sortP) (l:List Fact) (r:List Val) (t:Int):cnt (normalL sortP l) r t=(rowsIn (edgesL (pers l)) (nG l) t).count r:=by
  rw [normal_cnt hs,cnt_at];exact (List.perm_iff_count.1 (nG_perm l t) r).symm
set_option maxRecDepth 4000 in
set_option maxHeartbeats 8000000 in
theorem refNormal_spec {sortP:List Per→List Per} (hs:Sorts sortP) (nl:Bool) (l:List Fact) (hl:l.length≤400000000) (hr:Rows1 l) :
    Con Tryz.prog 17 [.c (.sl nl (facts l))] [.c (.sl (refNormal sortP l).isEmpty (facts (refNormal sortP l)))]:=by
  refine spec_of Tryz.func17 rfl (by kernel_rfl) (by simp [Tryz.f17]) (fun w0 K0=>vc_ok _ _ _ (by kernel_rfl) ?_)
  simp only [Tryz.f17]
  have kc:=cells_spec nl l (by omega) hr
  rw [cellsC_of] at kc
  have hE:=edges_ok l
  have hle:=edges_le l
  have hm:=normal_len hs l
  have kf:=facts_ref hs hE.1 hE.2 (nNL l) (nG l) (normal_form l) (nnorm_cnt hs l) (decide ((edgesL (pers l)).length≤1)) (by omega) (fun i=>rowsAt_bound (by omega) hr) (by omega)
  unfold refNormal
  simp -dsimp
  refine VC.mk _ kc ?_
  simp -dsimp
  refine VC.mk _ kf ?_
  simp -dsimp
theorem up_uniqN {cs:List Int} {a b:List Fact} (hp:(a.map Go.Proofs.YtlphpbcafplnbaaGreat.norm).Perm (b.map Go.Proofs.YtlphpbcafplnbaaGreat.norm)) (ha:UpS (cmpC cs) a) (hb:UpS (cmpC cs) b):a.map Go.Proofs.YtlphpbcafplnbaaGreat.norm=b.map Go.Proofs.YtlphpbcafplnbaaGreat.norm:=by
  refine uniq_sorted hp ha.norm hb.norm fun x hx y hy h1 h2=>?_
  obtain ⟨f,_,rfl⟩:=List.mem_map.1 hx
  obtain ⟨g,_,rfl⟩:=List.mem_map.1 hy
  have:=(Cmp.cols cs).anti (Go.Proofs.YtlphpbcafplnbaaGreat.norm f) (Go.Proofs.YtlphpbcafplnbaaGreat.norm g)
  exact Normed.ext rfl rfl (cmpC_0 cs _ _ (by omega))
theorem cpL_norm (l:List Fact):(cpL l).map Go.Proofs.YtlphpbcafplnbaaGreat.norm=l.map Go.Proofs.YtlphpbcafplnbaaGreat.norm:=by
  unfold cpL;rw [List.map_map];rfl
theorem cpL_len (l:List Fact):(cpL l).length=l.length:=by unfold cpL;rw [List.length_map]
theorem cpL_strips (l:List Fact):strips (cpL l)=strips l:=strips_of_norm (cpL_norm l)
theorem cpL_cnt (r:List Val) (t:Int):∀ l:List Fact,cnt (cpL l) r t=cnt l r t
  | []=>rfl
  | f::l=>by
    show cnt (cpF f::cpL l) r t=_
    rw [cnt_cons,cnt_cons,cpL_cnt r t l];rfl
theorem sorts_same (cs:List Int) (l:List Fact):strips (stab (cmpC cs) (cpL l))=strips (dSort (cmpC cs) l):=by
  refine strips_of_norm (up_uniqN ?_ (stab_up (Cmp.cols cs) _) (dSort_up (Cmp.cols cs) _))
  refine ((stab_perm _).map _).trans ?_
  rw [cpL_norm]
  exact ((dSort_perm l).map _).symm
theorem sorts_twice (cs:List Int) (m:List Fact):strips (stab (cmpC cs) (stab (cmpC cs) m))=strips (stab (cmpC cs) m) :=
  strips_of_norm (up_uniq (stab_perm _) (stab_up (Cmp.cols cs) _) (stab_up (Cmp.cols cs) _))
theorem refN_eq {sortP:List Per→List Per} (hs:Sorts sortP) {a l:List Fact} (h:∀ r t,cnt l r t=cnt a r t):(refNormal sortP a).map Go.Proofs.YtlphpbcafplnbaaGreat.norm=normalL sortP l:=by
  have hE:=edges_ok a
  refine ref_eq hs hE.1 hE.2 (nNL a) (nG a) (normal_form l) fun r t=>?_
  rw [normal_cnt hs,h,← normal_cnt hs,nnorm_cnt hs]
theorem refN_same {sortP:List Per→List Per} (hs:Sorts sortP) {a l:List Fact} (h:∀ r t,cnt l r t=cnt a r t):strips (refNormal sortP a)=strips (refNormal sortP l):=by
  have e1:=refN_eq hs h
  have e2:=refN_eq hs (a:=l) (l:=l) fun _ _=>rfl
  rw [← strips_norm (refNormal sortP a),← strips_norm (refNormal sortP l),e1,e2]
theorem refN_len {sortP:List Per→List Per} (hs:Sorts sortP) (l:List Fact):(refNormal sortP l).length=(normalL sortP l).length:=by
  rw [← refN_eq hs (a:=l) (l:=l) fun _ _=>rfl,List.length_map]
theorem refN_rows {sortP:List Per→List Per} (hs:Sorts sortP) {l:List Fact} (h:Rows1 l):Rows1 (refNormal sortP l):=fun f hf=>by
  have h1:Go.Proofs.YtlphpbcafplnbaaGreat.norm f∈normalL sortP l:=by
    rw [← refN_eq hs (a:=l) (l:=l) fun _ _=>rfl];exact List.mem_map.2 ⟨f,hf,rfl⟩
  exact normal_rows1 h (Go.Proofs.YtlphpbcafplnbaaGreat.norm f) h1
set_option maxRecDepth 8000 in
set_option maxHeartbeats 16000000 in
theorem sorts_spec {sortP:List Per→List Per} (hs:Sorts sortP) (hi:SortsI) (hf:SortsF) (nl nc:Bool) (l:List Fact) (cs:List Int) (hl:l.length≤134217728) (hr:Rows1 l) (hcs:cs.length≤1000000000) :
    Con Tryz.prog 6 [.c (.sl nl (facts l)),.c (.sl nc (ints cs))] [.c (bln true)]:=by
  refine spec_of Tryz.func6 rfl (by kernel_rfl) (by simp [Tryz.f6]) (fun w0 K0=>vc_ok _ _ _ (by kernel_rfl) ?_)
  simp only [Tryz.f6]
  have haw:=awake18_spec hs hi hf
  have hcp:=copy13_spec nl l (by omega) (fun f hf=>by have:=hr f hf;omega)
  have hcl:=cpL_len l
  have hcr:Rows1 (cpL l):=fun f hf=>by
    obtain ⟨g,hg,rfl⟩:=List.mem_map.1 hf
    exact hr g hg
  have hco:FOk (cpL l):=fun f hf=>by
    have h1:=hcr f hf
    obtain ⟨g,hg,rfl⟩:=List.mem_map.1 hf
    exact ⟨fun e=>(by cases e),by omega⟩
  have hso:=sort18_spec false nc cs (by omega) (cpL l) hco (by omega)
  have hrs:=refSort_spec nl nc cs (by omega) l (by omega) (fun f hf=>by have:=hr f hf;omega)
  have hAl:(stab (cmpC cs) (cpL l)).length=l.length:=by rw [stab_len,hcl]
  have hAr:Rows1 (stab (cmpC cs) (cpL l)):=fun f hf=>hcr f ((stab_perm _).mem_iff.1 hf)
  have hAo:FOk (stab (cmpC cs) (cpL l)):=fun f hf=>hco f ((stab_perm _).mem_iff.1 hf)
  have hs2:=sort18_spec (cpL l).isEmpty nc cs (by omega) (stab (cmpC cs) (cpL l)) hAo (by omega)
  have hBl:(stab (cmpC cs) (stab (cmpC cs) (cpL l))).length=l.length:=by rw [stab_len,hAl]
  have hBr:Rows1 (stab (cmpC cs) (stab (cmpC cs) (cpL l))):=fun f hf=>hAr f ((stab_perm _).mem_iff.1 hf)
  have hct:∀ r t,cnt l r t=cnt (stab (cmpC cs) (cpL l)) r t:=fun r t=>by rw [cnt_perm (stab_perm _),cpL_cnt]
  have q1:∀ x y,Con Tryz.prog 19 [.c (.sl x (facts (stab (cmpC cs) (cpL l)))),.c (.sl y (facts (dSort (cmpC cs) l)))] [.c (bln true)]:=fun x y=>by
    have:=sameF_spec x y (stab (cmpC cs) (cpL l)) (dSort (cmpC cs) l) (by omega) hAr
    rwa [decide_eq_true (sorts_same cs l)] at this
  have q2:∀ x y,Con Tryz.prog 19 [.c (.sl x (facts (stab (cmpC cs) (stab (cmpC cs) (cpL l))))),.c (.sl y (facts (stab (cmpC cs) (cpL l))))] [.c (bln true)]:=fun x y=>by
    have:=sameF_spec x y _ (stab (cmpC cs) (cpL l)) (by omega) hBr
    rwa [decide_eq_true (sorts_twice cs (cpL l))] at this
  have q3:∀ x y,Con Tryz.prog 19 [.c (.sl x (facts (cpL l))),.c (.sl y (facts l))] [.c (bln true)]:=fun x y=>by
    have:=sameF_spec x y (cpL l) l (by omega) hcr
    rwa [decide_eq_true (cpL_strips l)] at this
  have hn1:=fun x=>refNormal_spec hs x (stab (cmpC cs) (cpL l)) (by omega) hAr
  have hn2:=refNormal_spec hs nl l (by omega) hr
  have hm:=normal_len hs (stab (cmpC cs) (cpL l))
  have hm2:=refN_len hs (stab (cmpC cs) (cpL l))
  have hNr:=refN_rows hs hAr
  have q4:∀ x y,Con Tryz.prog 19 [.c (.sl x (facts (refNormal sortP (stab (cmpC cs) (cpL l))))),.c (.sl y (facts (refNormal sortP l)))] [.c (bln true)]:=fun x y=>by
    have:=sameF_spec x y _ (refNormal sortP l) (by omega) hNr
    rwa [decide_eq_true (refN_same hs hct)] at this
  clear hct hm hm2 hNr hBr hAo hAr hco hcr
  generalize refNormal sortP l=N2 at *
  generalize refNormal sortP (stab (cmpC cs) (cpL l))=N1 at *
  generalize stab (cmpC cs) (stab (cmpC cs) (cpL l))=B at *
  generalize stab (cmpC cs) (cpL l)=A at *
  generalize dSort (cmpC cs) l=D at *
  generalize cpL l=X at *
  simp -dsimp
  refine VC.mk _ haw ?_
  simp -dsimp
  refine VC.mk _ hcp ?_
  simp -dsimp
  refine VC.mk _ hso ?_
  simp -dsimp
  refine VC.mk _ hrs ?_
  simp -dsimp
  refine VC.mk _ (q1 _ _) ?_
  simp -dsimp
  refine VG.mk _ _ (fun _=>hs2) rfl ?_
  simp -dsimp
  refine VG.mk _ _ (fun _=>q2 _ _) rfl ?_
  simp -dsimp
  refine VG.mk _ _ (fun _=>q3 _ _) rfl ?_
  simp -dsimp
  refine VG.mk _ _ (fun _=>hn1 _) rfl ?_
  simp -dsimp
  refine VG.mk _ _ (fun _=>hn2) rfl ?_
  simp -dsimp
  refine VG.mk _ _ (fun _=>q4 _ _) rfl ?_
  simp -dsimp
end Go.Proofs.YtlphpbcafplnbaaGreat
namespace Go.VL
open Go.RowKit
section
variable {P:Program} {w0:World} {K0:K0T} {nt:Nat} {OPS:Array Oper}
end
end Go.VL
namespace Go.Proofs.YtlphpbcafplnbaaGreat
open Go.VL Go.RowKit
structure Qn where
  na:Bool
  A:List Fact
  nb:Bool
  B:List Fact
  two:Bool
  i0:Bool
  i1:Bool
  nc:Bool
  cs:List Ex
  nd:Bool
  du:List Per
  cols:Int
  s3:Bool
def Qn.cells (w:Qn):List C:=[.sl w.na (facts w.A),.sl w.nb (facts w.B),bln w.two,bln w.i0,bln w.i1,.sl w.nc (exprs w.cs),.sl w.nd (w.du.map Per.cells),i64 w.cols,bln w.s3]
structure Dry where
  q:Qry
  es:List Ex
  en:Bool
  sc:List SCol
def Dry.cells (d:Dry):List C:=[.sl d.q.sn (srcs d.q.src),.sl d.en (exprs d.es),.sl false (scols d.sc),.sl d.q.dn (d.q.du.map Per.cells)]
section
variable (sn:Bool) (sc:List SCol) (rn:Bool) (row:List Val)
end
section
variable (sn:Bool) (sc:List SCol) (rn:Bool) (row:List Val)
end
section
variable (sn:Bool) (sc:List SCol) (rn:Bool) (row:List Val)
end
section
variable (sn:Bool) (sc:List SCol) (rn:Bool) (row:List Val)
end
end Go.Proofs.YtlphpbcafplnbaaGreat
