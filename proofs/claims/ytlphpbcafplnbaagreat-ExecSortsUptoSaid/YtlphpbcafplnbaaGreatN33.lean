/- Contracts of functions of the seat, proved in a logic on data over the model (part N33). -/
import Derived.Test.YtlphpbcafplnbaaGreatN31
set_option linter.unusedSimpArgs false
set_option linter.unusedVariables false
namespace Go.Proofs.YtlphpbcafplnbaaGreat
open Go.VL Go.RowKit
set_option maxRecDepth 4000 in
set_option maxHeartbeats 8000000 in
theorem num13_spec (fl:List Val→Bool) (nl nr:Bool) (rs:List (List Val)) (r:List Val) (hl:rs.length≤140737488355328) (hr:∀ x∈rs,x.length≤140737488355328) :
    Con Tryz.prog 79 [.c (.sl nl (rowsW fl rs)),.c (.sl nr (vals r))] [.c (i64 (rs.count r))]:=by
  refine spec_of Tryz.func79 rfl (by kernel_rfl) (by simp [Tryz.f79]) (fun w0 K0=>vc_ok _ _ _ (by kernel_rfl) ?_)
  simp only [Tryz.f79]
  simp -dsimp
  refine VL.loop (fun k:Nat=>⟨[(6,.c (i64 k)),(5,.c (i64 ((rs.take k).count r))),(0,.c (.sl nl (rowsW fl rs))),(1,.c (.sl nr (vals r)))],[]⟩)
    (fun k=>k≤rs.length) (fun k=>rs.length-k) 0 (by kernel_rfl) (by simp) (by simp [St.le]) ?_
  intro k hk
  by_cases h1:k<rs.length
  · have hw:IntKind.i64.wrap ((k:Int)+1)=(k:Int)+1:=IntWalk.i64_in _ (by omega)
    have hc:=List.count_le_length (a:=r) (l:=rs.take k)
    rw [List.length_take] at hc
    have hw2:IntKind.i64.wrap (((rs.take k).count r:Int)+1)=((rs.take k).count r:Int)+1:=IntWalk.i64_in _ (by omega)
    have hsn:(rs.take (k+1)).count r=(rs.take k).count r+if rs[k]=r then 1 else 0:=by
      rw [take_snoc h1,List.count_append,List.count_singleton]
      simp
    simp -dsimp [h1]
    refine VC.mk _ (refSame_spec _ _ rs[k] r (hr _ (List.getElem_mem h1))) ?_
    simp -dsimp
    refine VIf.mk (fun h=>?_) (fun h=>?_)
    · rw [if_pos (of_decide_eq_true h)] at hsn
      simp -dsimp [hw,hw2]
      refine ⟨k+1,by omega,?_,by omega⟩
      simp [St.le,hsn]
    · rw [if_neg (of_decide_eq_false h),Nat.add_zero] at hsn
      simp -dsimp [hw]
      refine ⟨k+1,by omega,?_,by omega⟩
      simp [St.le,hsn]
  · obtain rfl:k=rs.length:=by omega
    rw [List.take_length]
    simp -dsimp
set_option maxRecDepth 4000 in
set_option maxHeartbeats 8000000 in
theorem before_spec (f g:Fact) (hr:f.row.length≤140737488355328):Con Tryz.prog 105 [.agg f.cells,.agg g.cells] [.c (bln (decide (ordF f g<0)))]:=by
  refine spec_of Tryz.func105 rfl (by kernel_rfl) (by simp [Tryz.f105]) (fun w0 K0=>vc_ok _ _ _ (by kernel_rfl) ?_)
  simp only [Tryz.f105]
  simp -dsimp [Fact.cells]
  refine VC.mk _ (refCompare_spec _ _ f.row g.row hr) ?_
  simp -dsimp
  refine VIf.mk (fun h=>?_) (fun h=>?_)
  · have h':¬ cmpR f.row g.row=0:=by simpa using h
    have e:ordF f g=cmpR f.row g.row:=by unfold ordF lexC;rw [if_neg h']
    simp -dsimp
    rw [e]
  · have h':cmpR f.row g.row=0:=by simpa using h
    have e:ordF f g=lexC (fun f g:Fact=>cmpI f.p.f g.p.f) (fun f g=>cmpI f.p.t g.p.t) f g:=by unfold ordF;rw [lexC,if_pos h']
    simp -dsimp
    refine ⟨fun h=>⟨h,fun h2=>⟨h,h2⟩⟩,?_⟩
    rw [e]
    unfold lexC cmpI
    rw [Bool.eq_iff_iff]
    simp only [Bool.or_eq_true,Bool.and_eq_true,decide_eq_true_eq,beq_iff_eq]
    repeat' split
    all_goals omega
def Plain (l:List Fact):Prop:=∀ f∈l,f.nl=false
theorem plain_uniq {l m:List Fact} (hl:Plain l) (hp:m.Perm l) (hs:m.Pairwise fun x y=>ordF x y≤0):m=sortF l:=by
  refine uniq_sorted (hp.trans (sortF_perm l).symm) hs (sortF_sorted l) fun a ha b hb h1 h2=>?_
  have:=Cmp.fact.anti a b
  have e:=ordF_0.1 (show ordF a b=0 by omega)
  have na:=hl a (hp.mem_iff.1 ha)
  have nb:=hl b (hp.mem_iff.1 hb)
  cases a;cases b
  simp at e na nb
  simp [e,na,nb]
theorem before_at (xs ys:List C) (f g:Fact) (h1:xs=f.cells) (h2:ys=g.cells) (hr:f.row.length≤140737488355328):Con Tryz.prog 105 [.agg xs,.agg ys] [.c (bln (decide (ordF f g<0)))]:=by rw [h1,h2];exact before_spec f g hr
structure SI where
  out:List Fact
  A:List Fact
  B:List Fact
def SI.Ok (l:List Fact) (i:SI):Prop:=(i.out++i.A++i.B).Perm l∧(i.out++i.A).Pairwise (fun x y=>ordF x y≤0)∧(i.out++i.B).Pairwise (fun x y=>ordF x y≤0)
theorem SI.takeA {l out A B:List Fact} {x:Fact} (h:SI.Ok l ⟨out,x::A,B⟩) (hb:∀ y∈B,ordF x y≤0):SI.Ok l ⟨out++[x],A,B⟩:=by
  obtain ⟨h1,h2,h3⟩:=h
  simp only at h1 h2 h3
  refine ⟨by simpa using h1,by simpa using h2,?_⟩
  show (out++[x]++B).Pairwise _
  rw [List.append_assoc,List.pairwise_append]
  obtain ⟨a1,a2,a3⟩:=List.pairwise_append.1 h2
  obtain ⟨b1,b2,b3⟩:=List.pairwise_append.1 h3
  refine ⟨a1,List.pairwise_cons.2 ⟨hb,b2⟩,fun u hu v hv=>?_⟩
  rcases List.mem_cons.1 hv with rfl | hv
  · exact a3 u hu _ (by simp)
  · exact b3 u hu v hv
theorem SI.takeB {l out A B:List Fact} {y:Fact} (h:SI.Ok l ⟨out,A,y::B⟩) (hb:∀ x∈A,ordF y x≤0):SI.Ok l ⟨out++[y],A,B⟩:=by
  obtain ⟨h1,h2,h3⟩:=h
  simp only at h1 h2 h3
  refine ⟨?_,?_,by simpa using h3⟩
  · refine List.Perm.trans ?_ h1
    show (out++[y]++A++B).Perm (out++A++(y::B))
    simp only [List.append_assoc]
    refine List.Perm.append_left _ ?_
    exact (List.perm_middle (l₁:=A) (l₂:=B) (a:=y)).symm
  · show (out++[y]++A).Pairwise _
    rw [List.append_assoc,List.pairwise_append]
    obtain ⟨a1,a2,a3⟩:=List.pairwise_append.1 h2
    obtain ⟨b1,b2,b3⟩:=List.pairwise_append.1 h3
    refine ⟨a1,List.pairwise_cons.2 ⟨hb,a2⟩,fun u hu v hv=>?_⟩
    rcases List.mem_cons.1 hv with rfl | hv
    · exact b3 u hu _ (by simp)
    · exact a3 u hu v hv
theorem SI.ge {l out A B:List Fact} {x y:Fact} (h:SI.Ok l ⟨out,x::A,y::B⟩) (hxy:ordF x y≤0):∀ z∈y::B,ordF x z≤0:=by
  obtain ⟨_,_,h3⟩:=h
  have h4:=(List.pairwise_append.1 h3).2.1
  intro z hz
  rcases List.mem_cons.1 hz with rfl | hz
  · exact hxy
  · exact Cmp.fact.trans x y z hxy ((List.pairwise_cons.1 h4).1 z hz)
theorem SI.ge2 {l out A B:List Fact} {x y:Fact} (h:SI.Ok l ⟨out,x::A,y::B⟩) (hxy:ordF y x≤0):∀ z∈x::A,ordF y z≤0:=by
  obtain ⟨_,h2,_⟩:=h
  have h4:=(List.pairwise_append.1 h2).2.1
  intro z hz
  rcases List.mem_cons.1 hz with rfl | hz
  · exact hxy
  · exact Cmp.fact.trans y x z hxy ((List.pairwise_cons.1 h4).1 z hz)
theorem sorted_step (n:Nat) (ih:∀ (m:Nat),m<n→∀ (nl:Bool) (l:List Fact),l.length=m→l.length≤3518437208883→Rows1 l→Plain l→Con Tryz.prog 81 [.c (.sl nl (facts l))] [.c (.sl (if l.length<2 then nl else false) (facts (sortF l)))])
    (nl:Bool) (l:List Fact) (hn:l.length=n) (hl:l.length≤3518437208883) (hr:Rows1 l) (hp:Plain l):Con Tryz.prog 81 [.c (.sl nl (facts l))] [.c (.sl (if l.length<2 then nl else false) (facts (sortF l)))]:=by
  by_cases h2:l.length<2
  · have e:sortF l=l:=by
      match l,h2 with
      | [],_=>exact (plain_uniq hp (.refl _) (by simp)).symm
      | [x],_=>exact (plain_uniq hp (.refl _) (by simp)).symm
    rw [if_pos h2,e]
    refine spec_of Tryz.func81 rfl (by kernel_rfl) (by simp [Tryz.f81]) (fun w0 K0=>vc_ok _ _ _ (by kernel_rfl) ?_)
    simp only [Tryz.f81]
    have h3:((l.length:Int)<2)=True:=eq_true (by omega)
    simp -dsimp [h3]
  · rw [if_neg h2]
    have mem1:∀ f∈l.take (l.length / 2),f∈l:=fun f hf=>List.mem_of_mem_take hf
    have mem2:∀ f∈l.drop (l.length / 2),f∈l:=fun f hf=>List.mem_of_mem_drop hf
    have k1:=ih (l.length / 2) (by omega) nl (l.take (l.length / 2)) (by rw [List.length_take];omega) (by rw [List.length_take];omega) (fun f hf=>hr f (mem1 f hf)) (fun f hf=>hp f (mem1 f hf))
    have k2:=ih (l.length-l.length / 2) (by omega) nl (l.drop (l.length / 2)) (by rw [List.length_drop]) (by rw [List.length_drop];omega) (fun f hf=>hr f (mem2 f hf)) (fun f hf=>hp f (mem2 f hf))
    refine Con.frz (rs:=[.fr false 3 (facts (sortF l)) 0]) ?_ 0 rfl
    refine spec_of Tryz.func81 rfl (by kernel_rfl) (by simp [Tryz.f81]) (fun w0 K0=>vc_ok _ _ _ (by kernel_rfl) ?_)
    simp only [Tryz.f81]
    have h3:((l.length:Int)<2)=False:=by simp;omega
    have h5:IntKind.i64.wrap ((l.length:Int) / 2)=((l.length / 2:Nat):Int):=by rw [IntWalk.i64_in _ (by omega)];omega
    rw [facts,List.map_take] at k1
    rw [facts,List.map_drop] at k2
    have hA:=sortF_sorted (l.take (l.length / 2))
    have hB:=sortF_sorted (l.drop (l.length / 2))
    have pA:=sortF_perm (l.take (l.length / 2))
    have pB:=sortF_perm (l.drop (l.length / 2))
    have h0:SI.Ok l ⟨[],sortF (l.take (l.length / 2)),sortF (l.drop (l.length / 2))⟩:=by
      refine ⟨?_,hA,hB⟩
      have:=pA.append pB
      rw [List.take_append_drop] at this
      exact this
    generalize sortF (l.take (l.length / 2))=A0 at *
    generalize sortF (l.drop (l.length / 2))=B0 at *
    generalize (if (l.take (l.length / 2)).length<2 then nl else false)=na at *
    generalize (if (l.drop (l.length / 2)).length<2 then nl else false)=nb at *
    have h6:(0≤(l.length:Int) / 2)=True:=eq_true (by omega)
    have h7:((l.length / 2:Nat):Int)≤(l.length:Int):=by omega
    simp -dsimp [h3,h5]
    refine ⟨by omega,VC.mk _ k1 ?_⟩
    have hT:List.take l.length (facts l)=facts l:=List.take_of_length_le (by rw [List.length_map];exact Nat.le_refl _)
    have hN:((l.length:Int) / 2).toNat=l.length / 2:=by omega
    simp -dsimp [h5,hT,hN]
    refine ⟨by omega,VC.mk _ k2 ?_⟩
    simp -dsimp
    refine ⟨by omega,?_⟩
    refine VL.loop (fun i:SI=>⟨[(3,.c (.sl na (facts i.A))),(4,.c (.sl nb (facts i.B))),(5,.own 1536 i.out.length)],[(1536,some (.arr false 3 (facts i.out) 0))]⟩)
      (SI.Ok l) (fun i=>i.A.length+i.B.length) ⟨[],A0,B0⟩ (by kernel_rfl) h0 (by simp [St.le]) ?_
    intro ⟨out,A,B⟩ hok
    have hlen:=hok.1.length_eq
    rw [List.length_append,List.length_append] at hlen
    simp only at hlen
    have hmem:∀ f∈A++B,f∈l:=fun f hf=>hok.1.mem_iff.1 (by simp only;rw [List.append_assoc];exact List.mem_append_right _ hf)
    have hwl:IntKind.i64.wrap ((A.length:Int)+B.length)=A.length+B.length:=IntWalk.i64_in _ (by omega)
    match A,B,hok,hlen,hmem,hwl with
    | [],[],hok,hlen,hmem,hwl =>
      simp -dsimp [hwl]
      have e:=plain_uniq hp (by simpa using hok.1) (by simpa using hok.2.1)
      rw [← e]
      exact ⟨rfl,rfl⟩
    | x::A,[],hok,hlen,hmem,hwl =>
      simp only [List.length_cons,List.length_nil] at hwl hlen
      have hw1:IntKind.i64.wrap ((A.length:Int)+1)=A.length+1:=IntWalk.i64_in _ (by omega)
      have hp1:(0<(A.length:Int)+1)=True:=eq_true (by omega)
      simp -dsimp [hw1,hp1]
      refine VL.draw (by kernel_rfl) [(0,true),(1,true),(3,true),(7,true),(15,true),(31,true),(63,true),(127,true),(255,false),(511,false),(1023,false),(255,false),(2303,false),(6399,false),(16383,true),(32767,true),(65535,true),(131071,true)] (by kernel_rfl) ?_
      simp -dsimp [hw1,hp1]
      refine VG.mk [.c (bln false)] _ (fun h=>Bool.noConfusion h) rfl ?_
      simp -dsimp [maxLen]
      refine ⟨by omega,by omega,⟨out++[x],A,[]⟩,SI.takeA hok (by simp),?_,by simp only [List.length_cons,List.length_nil];omega⟩
      simp [St.le]
      exact ⟨List.take_of_length_le (by rw [List.length_map];exact Nat.le_refl _),rfl⟩
    | [],y::B,hok,hlen,hmem,hwl =>
      simp only [List.length_cons,List.length_nil] at hwl hlen
      have hw1:IntKind.i64.wrap ((B.length:Int)+1)=B.length+1:=IntWalk.i64_in _ (by omega)
      have hp1:(0<(B.length:Int)+1)=True:=eq_true (by omega)
      have hp2:((B.length:Int)+1 == 0)=false:=by rw [beq_eq_false_iff_ne];omega
      simp -dsimp [hw1,hp1]
      refine VL.draw (by kernel_rfl) [(0,true),(1,true),(3,true),(7,true),(15,true),(31,true),(63,true),(127,true),(255,false),(511,false),(1023,false),(255,false),(2303,false),(6399,false),(16383,true),(32767,true),(65535,true),(131071,true)] (by kernel_rfl) ?_
      simp -dsimp [hw1,hp1,hp2]
      refine VG.mk [.c (bln false)] _ (fun h=>Bool.noConfusion h) rfl ?_
      simp -dsimp [maxLen]
      refine ⟨by omega,by omega,⟨out++[y],[],B⟩,SI.takeB hok (by simp),?_,by simp only [List.length_cons,List.length_nil];omega⟩
      simp [St.le]
      exact ⟨List.take_of_length_le (by rw [List.length_map];exact Nat.le_refl _),rfl⟩
    | x::A,y::B,hok,hlen,hmem,hwl =>
      simp only [List.length_cons] at hwl hlen
      have hw1:IntKind.i64.wrap ((A.length:Int)+1+(B.length+1))=A.length+1+(B.length+1):=IntWalk.i64_in _ (by omega)
      have hp1:(0<(A.length:Int)+1+(B.length+1))=True:=eq_true (by omega)
      have hp2:((B.length:Int)+1 == 0)=false:=by rw [beq_eq_false_iff_ne];omega
      have hp3:(0<(A.length:Int)+1)=True:=eq_true (by omega)
      simp -dsimp [hw1,hp1]
      refine VL.draw (by kernel_rfl) [(0,true),(1,true),(3,true),(7,true),(15,true),(31,true),(63,true),(127,true),(255,false),(511,false),(1023,false),(255,false),(2303,false),(6399,false),(16383,true),(32767,true),(65535,true),(131071,true)] (by kernel_rfl) ?_
      simp -dsimp [hp2,hp3]
      refine VG.mk [.c (bln (decide (ordF y x<0)))] _ (fun _=>before_at _ _ y x rfl rfl (by have:=hr y (hmem y (by simp));omega)) rfl ?_
      simp -dsimp
      have an:=Cmp.fact.anti x y
      refine VIf.mk (fun h=>?_) (fun h=>?_)
      · have h':¬ ordF y x<0:=by simpa using h
        simp -dsimp [maxLen]
        refine ⟨by omega,by omega,⟨out++[x],A,y::B⟩,SI.takeA hok (SI.ge hok (by omega)),?_,by simp only [List.length_cons];omega⟩
        simp [St.le]
        exact ⟨List.take_of_length_le (by rw [List.length_map];exact Nat.le_refl _),rfl⟩
      · have h':ordF y x<0:=by simpa using h
        simp -dsimp [maxLen]
        refine ⟨by omega,by omega,⟨out++[y],x::A,B⟩,SI.takeB hok (SI.ge2 hok (by omega)),?_,by simp only [List.length_cons];omega⟩
        simp [St.le]
        exact ⟨List.take_of_length_le (by rw [List.length_map];exact Nat.le_refl _),rfl⟩
theorem sorted_all:∀ (n:Nat) (nl:Bool) (l:List Fact),l.length=n→l.length≤3518437208883→Rows1 l→Plain l→Con Tryz.prog 81 [.c (.sl nl (facts l))] [.c (.sl (if l.length<2 then nl else false) (facts (sortF l)))]:=by
  intro n
  induction n using Nat.strongRecOn with
  | _ n ih=>exact fun nl l hn hl hr hp=>sorted_step n ih nl l hn hl hr hp
theorem sorted_spec (nl:Bool) (l:List Fact) (hl:l.length≤3518437208883) (hr:Rows1 l) (hp:Plain l):Con Tryz.prog 81 [.c (.sl nl (facts l))] [.c (.sl (if l.length<2 then nl else false) (facts (sortF l)))]:=sorted_all _ nl l rfl hl hr hp
abbrev fF:List Val→Bool:=fun _=>false
structure CD where
  f:Int
  t:Int
  nl:Bool
  rows:List (List Val)
instance:Inhabited CD:=⟨⟨0,0,true,[]⟩⟩
def CD.cells (c:CD):List C:=[i64 c.f,i64 c.t,.sl c.nl (rowsW fF c.rows)]
def seenS (seen:List (List Val)) (r:List Val):List (List Val):=if seen.count r=0 then seen++[r] else seen
def seenC (acc:List (List Val)) (rs:List (List Val)):List (List Val):=rs.foldl seenS acc
def seenL (cs:List CD):List (List Val):=cs.foldl (fun acc c=>seenC acc c.rows) []
theorem seenC_snoc (acc rs:List (List Val)) {k:Nat} (h:k<rs.length):seenC acc (rs.take (k+1))=seenS (seenC acc (rs.take k)) rs[k]:=by
  unfold seenC;rw [take_snoc h,List.foldl_append];rfl
theorem seenL_snoc (cs:List CD) {k:Nat} (h:k<cs.length):seenL (cs.take (k+1))=seenC (seenL (cs.take k)) cs[k].rows:=by
  unfold seenL;rw [take_snoc h,List.foldl_append];rfl
theorem seenS_len (s:List (List Val)) (r:List Val):s.length≤(seenS s r).length:=by unfold seenS;split <;> simp
theorem seenC_len:∀ (rs s:List (List Val)),s.length≤(seenC s rs).length
  | [],s=>Nat.le_refl _
  | r::rs,s=>Nat.le_trans (seenS_len s r) (seenC_len rs (seenS s r))
theorem seenC_mono (s rs:List (List Val)) (k:Nat):(seenC s (rs.take k)).length≤(seenC s rs).length:=by
  conv=>rhs;rw [← List.take_append_drop k rs]
  unfold seenC
  rw [List.foldl_append]
  exact seenC_len _ _
theorem seenF_len:∀ (ds:List CD) (s:List (List Val)),s.length≤(ds.foldl (fun acc c=>seenC acc c.rows) s).length
  | [],_=>Nat.le_refl _
  | c::ds,s=>Nat.le_trans (seenC_len c.rows s) (seenF_len ds _)
theorem seenL_mono (cs:List CD) (k:Nat):(seenL (cs.take k)).length≤(seenL cs).length:=by
  conv=>rhs;rw [← List.take_append_drop k cs]
  unfold seenL
  rw [List.foldl_append]
  exact seenF_len _ _
theorem seenC_mem:∀ (rs s:List (List Val)) (r:List Val),r∈seenC s rs→r∈s∨r∈rs
  | [],s,r,h=>.inl h
  | x::rs,s,r,h=>by
    rcases seenC_mem rs (seenS s x) r h with h | h
    · unfold seenS at h
      split at h
      · rcases List.mem_append.1 h with h | h
        · exact .inl h
        · simp at h;subst h;exact .inr (by simp)
      · exact .inl h
    · exact .inr (by simp [h])
theorem seenL_mem (cs:List CD):∀ r,r∈seenL cs→∃ c∈cs,r∈c.rows:=by
  refine rev_ind (p:=fun cs=>∀ r,r∈seenL cs→∃ c∈cs,r∈c.rows) ?_ ?_ cs
  · intro r h;simp [seenL] at h
  · intro l c ih r h
    have e:seenL (l++[c])=seenC (seenL l) c.rows:=by unfold seenL;rw [List.foldl_append];rfl
    rw [e] at h
    rcases seenC_mem _ _ r h with h | h
    · obtain ⟨c',h1,h2⟩:=ih r h
      exact ⟨c',by simp [h1],h2⟩
    · exact ⟨c,by simp,h⟩
def cntC (row:List Val) (c:CD):Nat:=c.rows.count row
def mostC (cs:List CD) (row:List Val):Nat:=cs.foldl (fun m c=>max m (cntC row c)) 0
theorem mostC_snoc (cs:List CD) (row:List Val) {k:Nat} (h:k<cs.length):mostC (cs.take (k+1)) row=max (mostC (cs.take k) row) (cntC row cs[k]):=by
  unfold mostC;rw [take_snoc h,List.foldl_append];rfl
def hereC (cs:List CD) (row:List Val) (k:Nat):List Per:=(cs.filter fun c=>decide (k≤cntC row c)).map fun c=>⟨c.f,c.t⟩
theorem most_le (cs:List CD) (row:List Val) (h:∀ c∈cs,c.rows.length≤4000000000000):mostC cs row≤4000000000000:=by
  unfold mostC
  have key:∀ (ds:List CD) (m:Nat),(∀ c∈ds,c.rows.length≤4000000000000)→m≤4000000000000→ds.foldl (fun m c=>max m (cntC row c)) m≤4000000000000:=by
    intro ds
    induction ds with
    | nil=>intro m _ hm;exact hm
    | cons c ds ih =>
      intro m hd hm
      have h1:=hd c (by simp)
      have h2:cntC row c≤c.rows.length:=List.count_le_length
      exact ih _ (fun d hd'=>hd d (by simp [hd'])) (by show max m (cntC row c)≤_;omega)
  exact key cs 0 h (by omega)
theorem hereC_snoc (cs:List CD) (row:List Val) (n:Nat) {k:Nat} (h:k<cs.length):hereC (cs.take (k+1)) row n=hereC (cs.take k) row n++if n≤cntC row cs[k] then [⟨cs[k].f,cs[k].t⟩] else []:=by
  unfold hereC
  rw [take_snoc h,List.filter_append,List.map_append]
  by_cases e:n≤cntC row cs[k] <;> simp [e]
theorem hereC_len (cs:List CD) (row:List Val) (n:Nat):(hereC cs row n).length≤cs.length:=by unfold hereC;rw [List.length_map];exact List.length_filter_le _ _
def plainF (row:List Val) (p:Per):Fact:=⟨false,row,p⟩
section
variable (sortP:List Per→List Per)
def layC (cs:List CD) (row:List Val) (N:Nat):List Fact:=(List.range N).flatMap fun k=>(unionL sortP (hereC cs row (k+1))).map (plainF row)
def outD (cs:List CD) (rows:List (List Val)):List Fact:=rows.flatMap fun r=>layC sortP cs r (mostC cs r)
def factsP (cs:List CD):List Fact:=outD sortP cs (seenL cs)
end
theorem layC_succ (sortP:List Per→List Per) (cs:List CD) (row:List Val) (N:Nat):layC sortP cs row (N+1)=layC sortP cs row N++(unionL sortP (hereC cs row (N+1))).map (plainF row):=by
  unfold layC;rw [List.range_succ,List.flatMap_append];simp
theorem layC_mono (sortP:List Per→List Per) (cs:List CD) (row:List Val) (N d:Nat):(layC sortP cs row N).length≤(layC sortP cs row (N+d)).length:=by
  induction d with
  | zero=>exact Nat.le_refl _
  | succ d ih=>rw [← Nat.add_assoc,layC_succ,List.length_append];omega
theorem outD_snoc (sortP:List Per→List Per) (cs:List CD) (rows:List (List Val)) {k:Nat} (h:k<rows.length):outD sortP cs (rows.take (k+1))=outD sortP cs (rows.take k)++layC sortP cs rows[k] (mostC cs rows[k]):=by
  unfold outD;rw [take_snoc h,List.flatMap_append];simp
theorem outD_mono (sortP:List Per→List Per) (cs:List CD) (rows:List (List Val)) (k:Nat):(outD sortP cs (rows.take k)).length≤(outD sortP cs rows).length:=by
  conv=>rhs;rw [← List.take_append_drop k rows]
  unfold outD
  rw [List.flatMap_append,List.length_append];omega
theorem outD_mem {sortP:List Per→List Per} {cs:List CD} {rows:List (List Val)} {f:Fact} (h:f∈outD sortP cs rows):f.nl=false∧f.row∈rows:=by
  unfold outD at h
  obtain ⟨r,hr,h⟩:=List.mem_flatMap.1 h
  unfold layC at h
  obtain ⟨k,_,h⟩:=List.mem_flatMap.1 h
  obtain ⟨p,_,rfl⟩:=List.mem_map.1 h
  exact ⟨rfl,hr⟩
def nRow (cs:List CD) (row:List Val) (i:Nat):List (List C):=(List.range cs.length).map fun j=>[i64 (if j<i then (cntC row cs[j]! : Int) else 0)]
@[simp] theorem nRow_len (cs:List CD) (row:List Val) (i:Nat):(nRow cs row i).length=cs.length:=by simp [nRow]
theorem nRow_0 (cs:List CD) (row:List Val):List.replicate cs.length [C.v (.int .i64 0)]=nRow cs row 0:=by
  refine List.ext_getElem (by simp) fun j h1 h2=>?_
  simp [nRow]
theorem nRow_el (cs:List CD) (row:List Val) (i j:Nat) (h:j<(nRow cs row i).length):(nRow cs row i)[j]=[i64 (if j<i then (cntC row (cs[j]'(by simpa using h)):Int) else 0)]:=by
  have h':j<cs.length:=by simpa using h
  simp only [nRow,List.getElem_map,List.getElem_range,getElem!_pos cs j h']
theorem nRow_set (cs:List CD) (row:List Val) {i:Nat} (h:i<cs.length):(nRow cs row i).set i [i64 (cntC row cs[i])]=nRow cs row (i+1):=by
  refine List.ext_getElem (by simp) fun j h1 h2=>?_
  rw [List.getElem_set,nRow_el cs row (i+1) j h2]
  by_cases e:i=j
  · subst e
    rw [if_pos rfl,if_pos (by omega)]
  · rw [if_neg e,nRow_el]
    by_cases e2:j<i
    · rw [if_pos e2,if_pos (by omega)]
    · rw [if_neg e2,if_neg (by omega)]
theorem nRow_get (cs:List CD) (row:List Val) (i:Nat) {j:Nat} (h:j<(nRow cs row i).length) (hj:j<i):(nRow cs row i)[j]=[i64 (cntC row (cs[j]'(by simpa using h)))]:=by
  have h':j<cs.length:=by simpa using h
  simp only [nRow,List.getElem_map,List.getElem_range,if_pos hj,getElem!_pos cs j h']
theorem number_plain (fl:List Val→Bool) (nl nr:Bool) (rs:List (List Val)) (r:List Val) (hl:rs.length≤140737488355328) (hr:∀ x∈rs,x.length≤140737488355328) :
    Con Tryz.prog 79 (.c (.sl nl (rowsW fl rs))::[C.sl nr (vals r)].map S.c) (plainRts [.int .i64 (rs.count r)]):=num13_spec fl nl nr rs r hl hr
theorem refUnion_frz {sortP:List Per→List Per} (hs:Sorts sortP) (nl:Bool) (l:List Per) (hl:l.length≤8796093022206) :
    Con Tryz.prog 80 [.c (.sl nl (l.map Per.cells))] [.c (.sl (unionL sortP l).isEmpty ((unionL sortP l).map Per.cells))]:=(refUnion_spec hs nl l hl).frz 0 rfl
set_option maxRecDepth 8000 in
set_option maxHeartbeats 64000000 in
theorem facts_spec {sortP:List Per→List Per} (hs:Sorts sortP) (nl:Bool) (cs:List CD) (hl:cs.length≤1000000000) (hc:∀ c∈cs,c.rows.length≤4000000000000∧∀ r∈c.rows,r.length≤4294967296)
    (hseen:(seenL cs).length≤4000000000000) (hout:(factsP sortP cs).length≤3518437208883) :
    Con Tryz.prog 51 [.c (.sl nl (cs.map CD.cells))] [.c (.sl (sortF (factsP sortP cs)).isEmpty (facts (sortF (factsP sortP cs))))]:=by
  refine spec_of Tryz.func51 rfl (by kernel_rfl) (by simp [Tryz.f51]) (fun w0 K0=>vc_ok _ _ _ (by kernel_rfl) ?_)
  simp only [Tryz.f51]
  have hsr:∀ r∈seenL cs,r.length≤4294967296:=fun r hr=>by
    obtain ⟨c,h1,h2⟩:=seenL_mem cs r hr
    exact (hc c h1).2 r h2
  simp -dsimp
  refine VL.loop (fun i:KI=>⟨[(4,.c (i64 i.k)),(3,.own 192 (seenL (cs.take i.k)).length),(0,.c (.sl nl (cs.map CD.cells)))],[(192,some (.arr i.nl i.sz (rowsW fF (seenL (cs.take i.k))) 0))]⟩)
    (fun i=>i.k≤cs.length∧RI i (seenL (cs.take i.k))) (fun i=>cs.length-i.k) ⟨0,true,0⟩ (by kernel_rfl) ⟨by simp,rfl,rfl⟩ (by simp [St.le,seenL,rowsW]) ?_
  intro ⟨k,z,sz⟩ ⟨hk,hz,hsz⟩
  simp only at hk hz hsz
  by_cases h1:k<cs.length
  · have hw:IntKind.i64.wrap ((k:Int)+1)=(k:Int)+1:=IntWalk.i64_in _ (by omega)
    have hsn:=seenL_snoc cs h1
    have hsm:=seenL_mono cs (k+1)
    rw [hsn] at hsm
    obtain ⟨hc1,hc2⟩:=hc _ (List.getElem_mem h1)
    have hpre:∀ r∈seenL (cs.take k),r.length≤4294967296:=fun r hr=>by
      obtain ⟨c,h1,h2⟩:=seenL_mem _ r hr
      exact (hc c (List.mem_of_mem_take h1)).2 r h2
    simp -dsimp [h1,CD.cells]
    generalize hP:seenL (cs.take k)=P at *
    refine VL.loop (fun j:KI=>⟨[(5,.c (i64 j.k)),(4,.c (i64 k)),(3,.own 192 (seenC P (cs[k].rows.take j.k)).length),(0,.c (.sl nl (cs.map CD.cells)))],[(192,some (.arr j.nl j.sz (rowsW fF (seenC P (cs[k].rows.take j.k))) 0))]⟩)
      (fun j=>j.k≤cs[k].rows.length∧RI j (seenC P (cs[k].rows.take j.k))) (fun j=>cs[k].rows.length-j.k) ⟨0,z,sz⟩ (by kernel_rfl) ⟨by simp,hz,hsz⟩ (by simp [St.le,seenC]) ?_
    intro ⟨j,y,sy⟩ ⟨hj,hy,hsy⟩
    simp only at hj hy hsy
    by_cases j1:j<cs[k].rows.length
    · have hwj:IntKind.i64.wrap ((j:Int)+1)=(j:Int)+1:=IntWalk.i64_in _ (by omega)
      have hsj:=seenC_snoc P cs[k].rows j1
      have hmj:=seenC_mono P cs[k].rows (j+1)
      have hmj0:=seenC_mono P cs[k].rows j
      have hpj:∀ r∈seenC P (cs[k].rows.take j),r.length≤140737488355328:=fun r hr=>by
        rcases seenC_mem _ _ r hr with h | h
        · have:=hpre r h;omega
        · have:=hc2 r (List.mem_of_mem_take h);omega
      simp -dsimp [h1,j1,CD.cells]
      have hno:=number_plain fF y false (seenC P (cs[k].rows.take j)) cs[k].rows[j] (by omega) hpj
      generalize hS:seenC P (cs[k].rows.take j)=S0 at *
      refine VCL.seen (cs:=[C.sl (fF cs[k].rows[j]) (vals cs[k].rows[j])]) y sy (rowsW fF S0) 0 _ (by kernel_rfl) hno (by simp) rfl ?_
      simp -dsimp [retS,renSs,renS,plainSs]
      refine VIf.mk (fun h=>?_) (fun h=>?_)
      · have h0:S0.count cs[k].rows[j]=0:=by simpa using h
        unfold seenS at hsj
        rw [if_pos h0] at hsj
        rw [hsj,List.length_append,List.length_singleton] at hmj
        simp -dsimp [h1,j1,hwj,maxLen,CD.cells]
        refine ⟨fun e=>by rw [hsy,e];rfl,by omega,⟨j+1,false,1⟩,⟨by simp only;omega,by rw [hsj];exact RI.next⟩,?_,by simp only;omega⟩
        simp [St.le,hsj,rowsW_snoc]
      · have h0:¬ S0.count cs[k].rows[j]=0:=by simpa using h
        unfold seenS at hsj
        rw [if_neg h0] at hsj
        simp -dsimp [hwj]
        refine ⟨⟨j+1,y,sy⟩,⟨by simp only;omega,by rw [hsj];exact ⟨hy,hsy⟩⟩,?_,by simp only;omega⟩
        simp [St.le,hsj]
    · obtain rfl:j=cs[k].rows.length:=by omega
      rw [List.take_length,← hsn] at *
      simp -dsimp [h1,hw,CD.cells]
      refine ⟨⟨k+1,y,sy⟩,⟨by simp only;omega,hy,hsy⟩,?_,by simp only;omega⟩
      simp [St.le]
  · obtain rfl:k=cs.length:=by omega
    rw [List.take_length] at *
    unfold factsP at hout ⊢
    have hsz0:z=(seenL cs).isEmpty:=hz
    clear hz
    generalize seenL cs=R at *
    simp -dsimp
    refine VL.loop (fun i:KI=>⟨[(7,.c (i64 i.k)),(6,.own 384 (outD sortP cs (R.take i.k)).length),(3,.own 192 R.length),(0,.c (.sl nl (cs.map CD.cells)))],
        [(384,some (.arr i.nl i.sz (facts (outD sortP cs (R.take i.k))) 0)),(192,some (.arr z sz (rowsW fF R) 0))]⟩)
      (fun i=>i.k≤R.length∧i.nl=(outD sortP cs (R.take i.k)).isEmpty∧i.sz=if i.nl then 0 else 3) (fun i=>R.length-i.k) ⟨0,true,0⟩ (by kernel_rfl) ⟨by simp,rfl,rfl⟩ (by simp [St.le,outD]) ?_
    intro ⟨s,y,sy⟩ ⟨hs0,hy,hsy⟩
    simp only at hs0 hy hsy
    by_cases s1:s<R.length
    · have hw:IntKind.i64.wrap ((s:Int)+1)=(s:Int)+1:=IntWalk.i64_in _ (by omega)
      have hzf:z=false:=by rw [hsz0];cases R with | nil=>simp at s1 | cons=>rfl
      have hsz1:sz=1:=by rw [hsz,hzf];rfl
      subst hzf
      subst hsz1
      have hsn:=outD_snoc sortP cs R s1
      have hmo:=outD_mono sortP cs R (s+1)
      have hrs:=hsr _ (List.getElem_mem s1)
      rw [hsn,List.length_append] at hmo
      generalize hOP:outD sortP cs (R.take s)=P at *
      simp -dsimp [s1]
      refine ⟨by omega,?_⟩
      refine VL.loop (fun i:Nat=>⟨[(10,.c (i64 i)),(9,.c (i64 (mostC (cs.take i) R[s]))),(8,.own 3968 cs.length),(7,.c (i64 s)),(6,.own 384 P.length),(3,.own 192 R.length),(0,.c (.sl nl (cs.map CD.cells)))],
          [(3968,some (.arr false 1 (nRow cs R[s] i) 0)),(384,some (.arr y sy (facts P) 0)),(192,some (.arr false 1 (rowsW fF R) 0))]⟩)
        (fun i=>i≤cs.length) (fun i=>cs.length-i) 0 (by kernel_rfl) (by simp) (by simp [St.le,mostC];exact nRow_0 cs R[s]) ?_
      intro i hi
      by_cases i1:i<cs.length
      · have hwi:IntKind.i64.wrap ((i:Int)+1)=(i:Int)+1:=IntWalk.i64_in _ (by omega)
        have hms:=mostC_snoc cs R[s] i1
        obtain ⟨hc1,hc2⟩:=hc _ (List.getElem_mem i1)
        simp -dsimp [i1,s1]
        refine VL.draw (by kernel_rfl) [(0,false),(0,false),(0,false),(0,false),(12,false),(28,false),(60,false),(0,false),(0,false),(384,false),(896,false),(2044,false),(4095,true),(8191,true)] (by kernel_rfl) ?_
        simp -dsimp [i1,s1,CD.cells]
        refine VCE.mk _ (num13_spec fF cs[i].nl (fF R[s]) cs[i].rows R[s] (by omega) (fun r hr=>by have:=hc2 r hr;omega)) ?_
        have hset:=nRow_set cs R[s] i1
        have hget:=nRow_get cs R[s] (i+1) (j:=i) (by simpa using i1) (by omega)
        have hcn:cs[i].rows.count R[s]=cntC R[s] cs[i]:=rfl
        rw [hcn]
        simp -dsimp [i1,hset,hget]
        refine VIf.mk (fun h=>?_) (fun h=>?_)
        · rw [decide_eq_true_eq] at h
          rw [Nat.max_eq_right (by omega)] at hms
          simp -dsimp [i1,hget,hwi]
          refine ⟨i+1,by omega,?_,by omega⟩
          simp [St.le,hms]
          rw [nRow_el]
          exact hset
        · rw [decide_eq_false_iff_not] at h
          rw [Nat.max_eq_left (by omega)] at hms
          simp -dsimp [hwi]
          refine ⟨i+1,by omega,?_,by omega⟩
          simp [St.le,hms]
          rw [nRow_el]
          exact hset
      · obtain rfl:i=cs.length:=by omega
        rw [List.take_length]
        simp -dsimp
        refine VL.loop (fun q:KI=>⟨[(11,.c (i64 ((q.k:Int)+1))),(9,.c (i64 (mostC cs R[s]))),(8,.own 3968 cs.length),(7,.c (i64 s)),(6,.own 384 (P++layC sortP cs R[s] q.k).length),(3,.own 192 R.length),(0,.c (.sl nl (cs.map CD.cells)))],
            [(3968,some (.arr false 1 (nRow cs R[s] cs.length) 0)),(384,some (.arr q.nl q.sz (facts (P++layC sortP cs R[s] q.k)) 0)),(192,some (.arr false 1 (rowsW fF R) 0))]⟩)
          (fun q=>q.k≤mostC cs R[s]∧q.nl=(P++layC sortP cs R[s] q.k).isEmpty∧q.sz=if q.nl then 0 else 3) (fun q=>mostC cs R[s] - q.k) ⟨0,y,sy⟩ (by kernel_rfl) ⟨by simp,by simpa [layC] using hy,hsy⟩ (by simp [St.le,layC]) ?_
        intro ⟨q,x,sx⟩ ⟨hq,hx,hsx⟩
        simp only at hq hx hsx
        by_cases q1:q<mostC cs R[s]
        · have hq1:((q:Int)+1≤(mostC cs R[s]:Nat))=True:=eq_true (by omega)
          have hmb:=most_le cs R[s] fun c hc'=>(hc c hc').1
          have hwq:IntKind.i64.wrap ((q:Int)+1+1)=(q:Int)+1+1:=IntWalk.i64_in _ (by omega)
          have hly:=layC_succ sortP cs R[s] q
          have hlm:(layC sortP cs R[s] (q+1)).length≤(layC sortP cs R[s] (mostC cs R[s])).length:=by
            have:=layC_mono sortP cs R[s] (q+1) (mostC cs R[s] - (q+1))
            rwa [show q+1+(mostC cs R[s] - (q+1))=mostC cs R[s] by omega] at this
          rw [hly,List.length_append,List.length_map] at hlm
          generalize hL0:layC sortP cs R[s] q=L0 at *
          simp -dsimp [hq1]
          refine VL.loop (fun i:KI=>⟨[(13,.c (i64 i.k)),(12,.own 768 (hereC (cs.take i.k) R[s] (q+1)).length),(11,.c (i64 ((q:Int)+1))),(9,.c (i64 (mostC cs R[s]))),(8,.own 3968 cs.length),(7,.c (i64 s)),(6,.own 384 (P++L0).length),(3,.own 192 R.length),(0,.c (.sl nl (cs.map CD.cells)))],
              [(768,some (.arr i.nl i.sz ((hereC (cs.take i.k) R[s] (q+1)).map Per.cells) 0)),(3968,some (.arr false 1 (nRow cs R[s] cs.length) 0)),(384,some (.arr x sx (facts (P++L0)) 0)),(192,some (.arr false 1 (rowsW fF R) 0))]⟩)
            (fun i=>i.k≤cs.length∧i.nl=(hereC (cs.take i.k) R[s] (q+1)).isEmpty∧i.sz=if i.nl then 0 else 2) (fun i=>cs.length-i.k) ⟨0,true,0⟩ (by kernel_rfl) ⟨by simp,rfl,rfl⟩ (by simp [St.le,hereC]) ?_
          intro ⟨i,v,sv⟩ ⟨hi,hv,hsv⟩
          simp only at hi hv hsv
          by_cases i1:i<cs.length
          · have hwi:IntKind.i64.wrap ((i:Int)+1)=(i:Int)+1:=IntWalk.i64_in _ (by omega)
            have hsi:=hereC_snoc cs R[s] (q+1) i1
            have hle:=hereC_len (cs.take i) R[s] (q+1)
            rw [List.length_take] at hle
            have hget:=nRow_get cs R[s] cs.length (j:=i) (by simpa using i1) i1
            simp -dsimp [i1,hget]
            refine VIf.mk (fun h=>?_) (fun h=>?_)
            · rw [decide_eq_true_eq] at h
              rw [if_pos (by omega)] at hsi
              simp -dsimp
              refine VL.draw (by kernel_rfl) [(0,false),(0,false),(0,false),(6,false),(14,false),(30,false),(0,false),(0,false),(192,false),(448,false),(960,false),(2046,false),(4094,false),(8191,true),(16383,true)] (by kernel_rfl) ?_
              simp -dsimp [i1,hwi,maxLen,CD.cells]
              refine ⟨fun e=>by rw [hsv,e];rfl,by omega,⟨i+1,false,2⟩,⟨by simp only;omega,by rw [hsi];simp,rfl⟩,?_,by simp only;omega⟩
              simp [St.le,hsi,Per.cells]
            · rw [decide_eq_false_iff_not] at h
              rw [if_neg (by omega),List.append_nil] at hsi
              simp -dsimp [hwi]
              refine ⟨⟨i+1,v,sv⟩,⟨by simp only;omega,by rw [hsi];exact hv,hsv⟩,?_,by simp only;omega⟩
              simp [St.le,hsi]
          · obtain rfl:i=cs.length:=by omega
            rw [List.take_length] at *
            have hhl:=hereC_len cs R[s] (q+1)
            have hun:=refUnion_frz hs v (hereC cs R[s] (q+1)) (by omega)
            generalize hereC cs R[s] (q+1)=H0 at *
            generalize unionL sortP H0=U at *
            simp -dsimp
            refine VCL.snap ?_
            simp -dsimp
            refine VC.mk _ hun ?_
            simp -dsimp
            refine VL.loop (fun u:KI=>⟨[(15,.c (i64 u.k)),(14,.c (.sl U.isEmpty (U.map Per.cells))),(11,.c (i64 ((q:Int)+1))),(9,.c (i64 (mostC cs R[s]))),(8,.own 3968 cs.length),(7,.c (i64 s)),(6,.own 384 (P++L0++(U.take u.k).map (plainF R[s])).length),(3,.own 192 R.length),(0,.c (.sl nl (cs.map CD.cells)))],
                [(3968,some (.arr false 1 (nRow cs R[s] cs.length) 0)),(384,some (.arr u.nl u.sz (facts (P++L0++(U.take u.k).map (plainF R[s]))) 0)),(192,some (.arr false 1 (rowsW fF R) 0))]⟩)
              (fun u=>u.k≤U.length∧u.nl=(P++L0++(U.take u.k).map (plainF R[s])).isEmpty∧u.sz=if u.nl then 0 else 3) (fun u=>U.length-u.k) ⟨0,x,sx⟩ (by kernel_rfl) ⟨by simp,by simpa using hx,hsx⟩ (by simp [St.le]) ?_
            intro ⟨u,o,so⟩ ⟨hu,ho,hso⟩
            simp only at hu ho hso
            by_cases u1:u<U.length
            · have hwu:IntKind.i64.wrap ((u:Int)+1)=(u:Int)+1:=IntWalk.i64_in _ (by omega)
              have hsu:P++L0++(U.take (u+1)).map (plainF R[s])=P++L0++(U.take u).map (plainF R[s])++[plainF R[s] U[u]]:=by
                rw [take_snoc u1,List.map_append,List.append_assoc,List.append_assoc,List.append_assoc];rfl
              have hlu:(P++L0++(U.take u).map (plainF R[s])).length=P.length+L0.length+u:=by simp;omega
              generalize hQ:P++L0++(U.take u).map (plainF R[s])=Q at *
              have hsc:=congrArg (List.map Fact.cells) hsu
              rw [List.map_append,List.map_append,List.map_append,List.map_map,List.map_take,List.append_assoc] at hsc
              have hsc2:=hsu
              rw [List.map_take,List.append_assoc] at hsc2
              simp -dsimp [u1]
              refine VL.draw (by kernel_rfl) [(0,false),(0,false),(0,false),(6,false),(14,false),(30,false),(0,false),(0,false),(192,false),(448,false),(1022,false),(2046,false),(4095,true),(8191,true)] (by kernel_rfl) ?_
              simp -dsimp [u1,s1]
              refine VCE.mk _ (copy_frz (fF R[s]) R[s] (Nat.le_trans hrs (by decide))) ?_
              simp -dsimp [u1,hwu,maxLen]
              refine ⟨fun e=>by rw [hso,e];rfl,by omega,⟨u+1,false,3⟩,⟨by simp only;omega,by rw [hsc2];simp,rfl⟩,?_,by simp only;omega⟩
              simp [St.le]
              exact ⟨by omega,by rw [hsc];rfl⟩
            · obtain rfl:u=U.length:=by omega
              rw [List.take_length] at *
              simp -dsimp [hwq]
              refine ⟨⟨q+1,o,so⟩,⟨by simp only;omega,by rw [hly,← List.append_assoc];exact ho,hso⟩,?_,by simp only;omega⟩
              simp [St.le,hly,Function.comp]
        · obtain rfl:q=mostC cs R[s]:=by omega
          have hq1:(((mostC cs R[s]:Nat):Int)+1≤(mostC cs R[s]:Nat))=False:=eq_false (by omega)
          rw [← hsn] at *
          simp -dsimp [hq1,hw]
          refine ⟨⟨s+1,x,sx⟩,⟨by simp only;omega,hx,hsx⟩,?_,by simp only;omega⟩
          simp [St.le]
    · obtain rfl:s=R.length:=by omega
      rw [List.take_length] at *
      have hpl:Plain (outD sortP cs R):=fun f hf=>(outD_mem hf).1
      have hro:Rows1 (outD sortP cs R):=fun f hf=>hsr _ (outD_mem hf).2
      have hso:=sorted_spec y (outD sortP cs R) hout hro hpl
      have hsl:=sortF_len (outD sortP cs R)
      have hfl:(if (outD sortP cs R).length<2 then y else false)=(sortF (outD sortP cs R)).isEmpty:=by
        rw [hy]
        generalize hO:outD sortP cs R=O at *
        match O with
        | []=>rw [List.length_nil] at hsl;rw [List.length_eq_zero_iff.1 hsl];rfl
        | f::l =>
          have hne:(sortF (f::l)).isEmpty=false:=by
            rw [List.isEmpty_eq_false_iff];intro e;rw [e] at hsl;simp at hsl
          rw [hne];simp
      rw [hfl] at hso
      generalize outD sortP cs R=O at *
      simp -dsimp
      refine VCL.snap ?_
      simp -dsimp
      refine VC.mk _ hso ?_
      simp -dsimp
end Go.Proofs.YtlphpbcafplnbaaGreat
