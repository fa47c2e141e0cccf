/- Contracts of functions of the seat, proved in a logic on data over the model (part VN14). -/
import Derived.Test.YtlphpbcafplnbaaGreatN34
import Derived.Test.YtlphpbcafplnbaaGreatBP4
import Derived.Test.YtlphpbcafplnbaaGreatR4
import Derived.Test.YtlphpbcafplnbaaGreatP10
import Derived.Test.YtlphpbcafplnbaaGreatV24
set_option linter.unusedSimpArgs false
set_option linter.unusedVariables false
namespace Go.Proofs.YtlphpbcafplnbaaGreat
open Go.VL Go.RowKit
theorem edges_ok (l:List Fact):Rise (edgesL (pers l))∧∀ i,i+1<(edgesL (pers l)).length→right ⟨(edgesL (pers l))[i]!,(edgesL (pers l))[i+1]!⟩=true :=
  ⟨(edgesL_ok _).1,fun i hi=>edge_right hi⟩
theorem facts_ref {sortP:List Per→List Per} (hs:Sorts sortP) {E:List Int} (hE:Rise E) (hr:∀ i,i+1<E.length→right ⟨E[i]!,E[i+1]!⟩=true) (NL:Nat→Bool) (G:Nat→List (List Val)) {m:List Fact} {rows:List (List Val)} {S:List Val→List (Per × Int)} {c:List Val→Int→Int}
    (h:IsForm sortP m rows S c) (e:∀ r t,cnt m r t=(rowsIn E G t).count r) (nl:Bool) (hl:E.length≤1000000000) (hG:∀ i,(G i).length≤4000000000000∧∀ r∈G i,r.length≤4294967296) (hm:m.length≤3518437208883) :
    Con Tryz.prog 51 [.c (.sl nl ((cellsOf E NL G).map CD.cells))] [.c (.sl (refF sortP E NL G).isEmpty (facts (refF sortP E NL G)))]:=by
  have heq:=ref_eq hs hE hr NL G h e
  have hlen:(factsP sortP (cellsOf E NL G)).length=m.length:=by
    rw [← heq,List.length_map];exact (sortF_len _).symm
  have hsn:=ref_seen hs hE hr NL G
  exact facts_spec hs nl (cellsOf E NL G) (by rw [cellsOf_len];omega) (fun c hc=>by
    obtain ⟨i,_,rfl⟩:=List.mem_map.1 hc
    exact hG i) (by omega) (by omega)
theorem same_ref {sortP:List Per→List Per} (hs:Sorts sortP) {E:List Int} (hE:Rise E) (hr:∀ i,i+1<E.length→right ⟨E[i]!,E[i+1]!⟩=true) (NL:Nat→Bool) (G:Nat→List (List Val)) {m:List Fact} {rows:List (List Val)} {S:List Val→List (Per × Int)} {c:List Val→Int→Int}
    (h:IsForm sortP m rows S c) (e:∀ r t,cnt m r t=(rowsIn E G t).count r) (na nb:Bool) (hm:m.length≤140737488355328) (hr1:Rows1 m):Con Tryz.prog 19 [.c (.sl na (facts m)),.c (.sl nb (facts (refF sortP E NL G)))] [.c (bln true)]:=by
  have heq:=ref_eq hs hE hr NL G h e
  have:=sameF_spec na nb m (refF sortP E NL G) hm hr1
  rw [show strips m=strips (refF sortP E NL G) by rw [← heq,strips_norm],decide_eq_true rfl] at this
  exact this
def mixC (E:List Int) (NL NL':Nat→Bool) (G G':Nat→List (List Val)) (i:Nat):List (List C) :=
  (List.range (E.length-1)).map fun j=>if j<i then [i64 (ge E j),i64 (ge E (j+1)),.sl (NL' j) (rowsW fF (G' j))] else [i64 (ge E j),i64 (ge E (j+1)),.sl (NL j) (rowsW fF (G j))]
@[simp] theorem mixC_len (E:List Int) (NL NL':Nat→Bool) (G G':Nat→List (List Val)) (i:Nat):(mixC E NL NL' G G' i).length=E.length-1:=by simp [mixC]
theorem mixC_0 (E:List Int) (NL NL':Nat→Bool) (G G':Nat→List (List Val)):mixC E NL NL' G G' 0=(cellsOf E NL G).map CD.cells:=by
  unfold mixC cellsOf
  rw [List.map_map]
  refine List.map_congr_left fun j _=>?_
  rw [if_neg (by omega)];rfl
theorem mixC_n (E:List Int) (NL NL':Nat→Bool) (G G':Nat→List (List Val)):mixC E NL NL' G G' (E.length-1)=(cellsOf E NL' G').map CD.cells:=by
  unfold mixC cellsOf
  rw [List.map_map]
  refine List.map_congr_left fun j hj=>?_
  rw [if_pos (by have:=List.mem_range.1 hj;omega)];rfl
theorem mixC_get (E:List Int) (NL NL':Nat→Bool) (G G':Nat→List (List Val)) (i:Nat) (h:i<(mixC E NL NL' G G' i).length):(mixC E NL NL' G G' i)[i]=[i64 (ge E i),i64 (ge E (i+1)),.sl (NL i) (rowsW fF (G i))]:=by
  simp only [mixC,List.getElem_map,List.getElem_range]
  rw [if_neg (by omega)]
theorem mixC_set (E:List Int) (NL NL':Nat→Bool) (G G':Nat→List (List Val)) {i:Nat} (h:i<E.length-1):(mixC E NL NL' G G' i).set i [i64 (ge E i),i64 (ge E (i+1)),.sl (NL' i) (rowsW fF (G' i))]=mixC E NL NL' G G' (i+1):=by
  refine List.ext_getElem (by simp) fun j h1 h2=>?_
  have hj:j<E.length-1:=by simpa using h2
  rw [List.getElem_set]
  simp only [mixC,List.getElem_map,List.getElem_range]
  by_cases e:i=j
  · subst e
    rw [if_pos rfl,if_pos (by omega)]
  · rw [if_neg e]
    by_cases e2:j<i
    · rw [if_pos e2,if_pos (by omega)]
    · rw [if_neg e2,if_neg (by omega)]
def nG (l:List Fact) (i:Nat):List (List Val):=rowsAt l (edgesL (pers l))[i]!
def nNL (l:List Fact) (i:Nat):Bool:=(nG l i).isEmpty
theorem cellsC_of (l:List Fact):cellsC l (edgesL (pers l)) ((edgesL (pers l)).length-1)=(cellsOf (edgesL (pers l)) (nNL l) (nG l)).map CD.cells:=by
  unfold cellsC cellsOf
  rw [List.map_map]
  rfl
theorem rows_in {l:List Fact} {ps:List Per} (h:∀ f∈l,f.p∈ps) {i:Nat} (hi:i+1<(edgesL ps).length) {t:Int} (h1:(edgesL ps)[i]! ≤ t) (h2:t<(edgesL ps)[i+1]!):(rowsAt l (edgesL ps)[i]!).Perm (atT l t):=by
  refine (rowsAt_perm l _).trans ?_
  refine List.perm_iff_count.2 fun r=>?_
  have e:=cnt_between h hi h1 h2 r
  rw [cnt_at,cnt_at] at e
  exact e
theorem rows_out {l:List Fact} {ps:List Per} (h:∀ f∈l,f.p∈ps) {t:Int} (ho:∀ i,i+1<(edgesL ps).length→¬ ((edgesL ps)[i]! ≤ t∧t<(edgesL ps)[i+1]!)):atT l t=[]:=by
  rw [List.eq_nil_iff_forall_not_mem]
  intro r hr
  have:0<cnt l r t:=by rw [cnt_at];exact List.count_pos_iff.2 hr
  obtain ⟨i,a,b,c⟩:=cnt_in h this
  exact ho i a ⟨b,c⟩
def refNormal (sortP:List Per→List Per) (l:List Fact):List Fact:=refF sortP (edgesL (pers l)) (nNL l) (nG l)
theorem pers_mem {l m:List Fact} (h:∀ f∈l,f∈m):∀ f∈l,f.p∈pers m:=fun f hf=>List.mem_map.2 ⟨f,h f hf,rfl⟩
theorem in_perm {ps:List Per} {t:Int} {F:Nat→List (List Val)} {m:List (List Val)} (hi:∀ i,i+1<(edgesL ps).length→(edgesL ps)[i]! ≤ t→t<(edgesL ps)[i+1]! → (F i).Perm m) (ho:(∀ i,i+1<(edgesL ps).length→¬ ((edgesL ps)[i]! ≤ t∧t<(edgesL ps)[i+1]!))→m=[]) :
    (rowsIn (edgesL ps) F t).Perm m:=by
  by_cases h:∃ i,i+1<(edgesL ps).length∧(edgesL ps)[i]! ≤ t∧t<(edgesL ps)[i+1]!
  · obtain ⟨i,h1,h2,h3⟩:=h
    rw [rowsIn_some (edgesL_ok ps).1 h1 h2 h3]
    exact hi i h1 h2 h3
  · have h':=fun i hi h2=>h ⟨i,hi,h2⟩
    rw [rowsIn_none h',ho h']
theorem nG_perm (l:List Fact) (t:Int):(rowsIn (edgesL (pers l)) (nG l) t).Perm (atT l t) :=
  in_perm (fun i h1 h2 h3=>rows_in (pers_mem fun f hf=>hf) h1 h2 h3) fun ho=>rows_out (pers_mem fun f hf=>hf) ho
theorem rowsAt_bound {l:List Fact} {t:Int} (hl:l.length≤4000000000000) (hr:Rows1 l):(rowsAt l t).length≤4000000000000∧∀ r∈rowsAt l t,r.length≤4294967296 :=
  ⟨Nat.le_trans (rowsAt_len l t) hl,fun r h=>by obtain ⟨f,hf,_,rfl⟩:=rowsAt_mem h;exact hr f hf⟩
theorem edges_le (l:List Fact):(edgesL (pers l)).length≤2*l.length:=by
  have:=edgesL_len (pers l)
  rw [List.length_map] at this;omega
theorem nnorm_cnt {sortP:List Per→List Per} (hs:Sorts sortP) (l:List Fact) (r:List Val) (t:Int):cnt (normalL sortP l) r t=(rowsIn (edgesL (pers l)) (nG l) t).count r:=by
  rw [normal_cnt hs,cnt_at];exact (List.perm_iff_count.1 (nG_perm l t) r).symm
set_option maxRecDepth 4000 in
set_option maxHeartbeats 8000000 in
theorem refNormal_spec {sortP:List Per→List Per} (hs:Sorts sortP) (nl:Bool) (l:List Fact) (hl:l.length≤400000000) (hr:Rows1 l) :
    Con Tryz.prog 17 [.c (.sl nl (facts l))] [.c (.sl (refNormal sortP l).isEmpty (facts (refNormal sortP l)))]:=by
  refine spec_of Tryz.func17 rfl (by kernel_rfl) (by simp [Tryz.f17]) (fun w0 K0=>vc_ok _ _ _ (by kernel_rfl) ?_)
  simp only [Tryz.f17]
  have kc:=cells_spec nl l (by omega) hr
  rw [cellsC_of] at kc
  have hE:=edges_ok l
  have hle:=edges_le l
  have hm:=normal_len hs l
  have kf:=facts_ref hs hE.1 hE.2 (nNL l) (nG l) (normal_form l) (nnorm_cnt hs l) (decide ((edgesL (pers l)).length≤1)) (by omega) (fun i=>rowsAt_bound (by omega) hr) (by omega)
  unfold refNormal
  simp -dsimp
  refine VC.mk _ kc ?_
  simp -dsimp
  refine VC.mk _ kf ?_
  simp -dsimp
theorem same_normal {sortP:List Per→List Per} (hs:Sorts sortP) (na nb:Bool) (l:List Fact) (hl:l.length≤400000000) (hr:Rows1 l) :
    Con Tryz.prog 19 [.c (.sl na (facts (normalL sortP l))),.c (.sl nb (facts (refNormal sortP l)))] [.c (bln true)]:=by
  have hE:=edges_ok l
  have hm:=normal_len hs l
  exact same_ref hs hE.1 hE.2 (nNL l) (nG l) (normal_form l) (nnorm_cnt hs l) na nb (by omega) (normal_rows1 hr)
def zeroF (p:Per):Fact:=⟨true,[],p⟩
def clE (l:List Fact) (p:Per):List Int:=edgesL (pers (l++[zeroF p]))
def clG (l:List Fact) (p:Per) (i:Nat):List (List Val):=if right p && has p (clE l p)[i]! then rowsAt l (clE l p)[i]! else []
def refClip (sortP:List Per→List Per) (l:List Fact) (p:Per):List Fact:=refF sortP (clE l p) (fun i=>(clG l p i).isEmpty) (clG l p)
theorem clip_in {sortP:List Per→List Per} (hs:Sorts sortP) (l:List Fact) (p:Per) (r:List Val) (t:Int):cnt (clipL sortP l p) r t=(rowsIn (clE l p) (clG l p) t).count r:=by
  unfold clipL
  rw [normal_cnt hs,clipP_cnt,cnt_at]
  have hl:∀ f∈l,f.p∈pers (l++[zeroF p]):=pers_mem fun f hf=>List.mem_append_left _ hf
  have hp:p∈pers (l++[zeroF p]):=List.mem_map.2 ⟨zeroF p,by simp,rfl⟩
  have key:(rowsIn (clE l p) (clG l p) t).Perm (if right p && has p t then atT l t else []):=by
    refine in_perm (ps:=pers (l++[zeroF p])) (fun i h1 h2 h3=>?_) (fun ho=>?_)
    · have h4:=rows_in hl h1 h2 h3
      unfold clG
      by_cases hr:right p=true
      · have h5:has p (clE l p)[i]! = has p t:=has_between hp hr h1 h2 h3
        rw [h5]
        split
        · exact h4
        · exact .refl _
      · simp only [Bool.not_eq_true] at hr
        rw [hr];exact .refl _
    · rw [rows_out hl ho];simp
  rw [List.perm_iff_count.1 key r]
  split <;> simp
theorem clG_bound {l:List Fact} (p:Per) (hl:l.length≤4000000000000) (hr:Rows1 l) (i:Nat):(clG l p i).length≤4000000000000∧∀ r∈clG l p i,r.length≤4294967296:=by
  unfold clG
  split
  · exact rowsAt_bound hl hr
  · exact ⟨by simp,fun r hr=>by simp at hr⟩
theorem same_clip {sortP:List Per→List Per} (hs:Sorts sortP) (na nb:Bool) (l:List Fact) (p:Per) (hl:l.length≤200000000) (hr:Rows1 l) :
    Con Tryz.prog 19 [.c (.sl na (facts (clipL sortP l p))),.c (.sl nb (facts (refClip sortP l p)))] [.c (bln true)]:=by
  have hE:=edges_ok (l++[zeroF p])
  have hm:=clip_len hs l p
  exact same_ref hs hE.1 hE.2 _ (clG l p) (normal_form (clipP p l)) (clip_in hs l p) na nb (by unfold clipL at hm;omega) (clip_rows1 p hr)
set_option maxRecDepth 4000 in
set_option maxHeartbeats 16000000 in
theorem refClip_spec {sortP:List Per→List Per} (hs:Sorts sortP) (na:Bool) (l:List Fact) (p:Per) (hl:l.length≤200000000) (hr:Rows1 l) :
    Con Tryz.prog 31 [.c (.sl na (facts l)),.agg p.cells] [.c (.sl (refClip sortP l p).isEmpty (facts (refClip sortP l p)))]:=by
  refine spec_of Tryz.func31 rfl (by kernel_rfl) (by simp [Tryz.f31]) (fun w0 K0=>vc_ok _ _ _ (by kernel_rfl) ?_)
  simp only [Tryz.f31]
  have hr0:Rows1 (l++[zeroF p]):=fun f hf=>by
    rcases List.mem_append.1 hf with h | h
    · exact hr f h
    · simp at h;subst h;show 0≤_;omega
  have hll:(l++[zeroF p]).length=l.length+1:=by simp
  have kc:=cells_spec0 false (l++[zeroF p]) (by omega) hr0
  rw [cellsC_of] at kc
  have hE:=edges_ok (l++[zeroF p])
  have hle:=edges_le (l++[zeroF p])
  have hm:=clip_len hs l p
  have kf:∀ z,Con Tryz.prog 51 [.c (.sl z ((cellsOf (clE l p) (fun i=>(clG l p i).isEmpty) (clG l p)).map CD.cells))] [.c (.sl (refClip sortP l p).isEmpty (facts (refClip sortP l p)))] :=
    fun z=>facts_ref hs hE.1 hE.2 _ (clG l p) (normal_form (clipP p l)) (clip_in hs l p) z (by omega) (clG_bound p (by omega) hr) (by unfold clipL at hm;omega)
  generalize refClip sortP l p=R at *
  rw [← mixC_0 _ _ (fun i=>(clG l p i).isEmpty) _ (clG l p)] at kc
  simp only [← mixC_n (clE l p) (nNL (l++[zeroF p])) (fun i=>(clG l p i).isEmpty) (nG (l++[zeroF p])) (clG l p)] at kf
  change Con Tryz.prog 52 _ [.fr (decide ((clE l p).length≤1)) (if (clE l p).length≤1 then 0 else 3) (mixC (clE l p) _ _ _ _ 0) 0] at kc
  have hset:=@mixC_set (clE l p) (nNL (l++[zeroF p])) (fun i=>(clG l p i).isEmpty) (nG (l++[zeroF p])) (clG l p)
  have hget:=@mixC_get (clE l p) (nNL (l++[zeroF p])) (fun i=>(clG l p i).isEmpty) (nG (l++[zeroF p])) (clG l p)
  have hcg:∀ i,clG l p i=if right p && has p (ge (clE l p) i) then rowsAt l (ge (clE l p) i) else []:=fun _=>rfl
  change (clE l p).length≤_ at hle
  generalize hM:mixC (clE l p) (nNL (l++[zeroF p])) (fun i=>(clG l p i).isEmpty) (nG (l++[zeroF p])) (clG l p)=M at *
  have hML:∀ i,(M i).length=(clE l p).length-1:=fun i=>by rw [← hM];exact mixC_len ..
  generalize clE l p=E at *
  rw [facts,List.map_append] at kc
  simp -dsimp [Per.cells]
  refine VL.draw (by kernel_rfl) [(0,false),(0,false),(3,false),(0,false),(8,false),(24,false),(63,true),(127,true),(255,true)] (by kernel_rfl) ?_
  simp -dsimp [maxLen]
  refine ⟨by omega,by omega,VCL.snap ?_⟩
  simp -dsimp
  refine VC.mk _ kc ?_
  simp -dsimp
  refine VL.loop (fun i:Nat=>⟨[(6,.c (i64 i)),(5,.own 896 (E.length-1)),(3,.ptr 192 0),(0,.c (.sl na (facts l)))],[(896,some (.arr (decide (E.length≤1)) (if E.length≤1 then 0 else 3) (M i) 0)),(192,some (.box false [.c (i64 p.f),.c (i64 p.t)]))]⟩)
    (fun i=>i≤E.length-1) (fun i=>E.length-1-i) 0 (by kernel_rfl) (by simp) (by simp [St.le,hML]) ?_
  intro i hi
  by_cases h1:i<E.length-1
  · have hw:IntKind.i64.wrap ((i:Int)+1)=(i:Int)+1:=IntWalk.i64_in _ (by omega)
    have hd:decide (E.length≤1)=false:=decide_eq_false (by omega)
    have hz:(if E.length≤1 then 0 else 3)=3:=if_neg (by omega)
    have hc1:((i:Int)<((E.length-1:Nat):Int))=True:=eq_true (by omega)
    have hgi:=hget i (by rw [hML];exact h1)
    have hsi:=hset h1
    simp -dsimp [hML,h1,hd,hz,hc1,hgi]
    refine VL.draw (by kernel_rfl) [(0,true),(1,true),(3,true),(7,false),(7,false),(7,false),(55,false),(119,false),(247,false),(511,true),(1023,true)] (by kernel_rfl) ?_
    simp -dsimp [hML,h1,hgi]
    refine VC.mk _ (refRight_at _ p rfl) ?_
    simp -dsimp [hML,h1,hgi]
    refine VG.mk [.c (bln (has p (ge E i)))] _ (fun _=>refHas_at _ p (ge E i) rfl) rfl ?_
    simp -dsimp
    have hci:=hcg i
    refine VIf.mk (fun h=>?_) (fun h=>?_)
    · rw [h,if_pos rfl] at hci
      rw [hci] at hsi
      simp -dsimp [hML,h1,hgi]
      refine VC.mk _ (rows_spec na l (ge E i) (by omega) hr) ?_
      simp -dsimp [hML,h1,hgi,hw]
      refine ⟨i+1,by omega,?_,by omega⟩
      simp [St.le,hd,hz]
      exact hsi
    · rw [h,if_neg (by simp)] at hci
      rw [hci] at hsi
      simp -dsimp [hML,hw]
      refine ⟨i+1,by omega,?_,by omega⟩
      simp [St.le,hd,hz]
      exact hsi
  · obtain rfl:i=E.length-1:=by omega
    simp -dsimp [hML]
    refine VCL.snap ?_
    simp -dsimp [hML]
    refine VC.mk _ (kf _) ?_
    simp -dsimp
theorem rightL_norm {l m:List Fact} (h:l.map norm=m.map norm):rightL l=rightL m:=by
  have e:∀ l:List Fact,(l.filter fun f=>right f.p).map norm=(l.map norm).filter fun f=>right f.p:=by
    intro l;rw [List.filter_map];rfl
  unfold rightL
  rw [e,e,h]
theorem normal_norm (sortP:List Per→List Per) {l m:List Fact} (h:l.map norm=m.map norm):normalL sortP l=normalL sortP m:=by
  unfold normalL;rw [rightL_norm h]
theorem dur_clip (sortP:List Per→List Per) (p:Per) (l:List Fact):normalL sortP (durK p l)=clipL sortP l p:=by
  unfold clipL
  refine normal_norm sortP ?_
  unfold durK clipP
  rw [List.map_map,List.map_map]
  rfl
theorem dur_filter (p:Per) (l:List Fact) (q:List Val→Bool):(durK p l).filter (fun x=>q x.row)=durK p (l.filter fun x=>q x.row):=by
  unfold durK
  rw [List.filter_map,List.filter_filter,List.filter_filter]
  congr 1
  refine List.filter_congr fun x _=>?_
  exact Bool.and_comm _ _
def shN (first:Int) (len:Nat):Nat:=(min (max first 0) len).toNat
def shR (first:Int) (r:List Val):List Val:=r.drop (shN first r.length)++r.take (shN first r.length)
def shiftK (first:Int) (l:List Fact):List Fact:=l.map fun x=>mkF (shR first x.row) x.p
def shiftD (first:Int) (l:List Fact):List Fact:=l.map fun x=>⟨false,shR first x.row,x.p⟩
theorem shN_le (first:Int) (len:Nat):shN first len≤len:=by unfold shN;omega
theorem shR_len (first:Int) (r:List Val):(shR first r).length=r.length:=by
  unfold shR
  have:=shN_le first r.length
  rw [List.length_append,List.length_drop,List.length_take];omega
theorem shift_normal (sortP:List Per→List Per) (first:Int) (l:List Fact):normalL sortP (shiftK first l)=normalL sortP (shiftD first l):=by
  refine normal_norm sortP ?_
  unfold shiftK shiftD
  rw [List.map_map,List.map_map]
  rfl
theorem shift_rows {first:Int} {l:List Fact} (h:Rows1 l):Rows1 (shiftD first l):=by
  intro f hf
  obtain ⟨g,hg,rfl⟩:=List.mem_map.1 hf
  show (shR first g.row).length≤_
  rw [shR_len]
  exact h g hg
theorem Bound.nil (sc:List SCol):Bound sc [] []:=⟨rfl,fun i h=>by simp at h⟩
theorem Bound.cons {sc:List SCol} {es:List Ex} {ts:List Tm} (h:Bound sc es ts) {e:Ex} {t:Tm} (hf:e.fit) (hb:bindE sc e = .ok t):Bound sc (e::es) (t::ts):=by
  refine ⟨by simp [h.1],fun i h1 h2=>?_⟩
  cases i with
  | zero=>exact ⟨hf,hb⟩
  | succ i=>exact h.2 i (by simpa using h1) (by simpa using h2)
theorem bound_taken (sc:List SCol):∀ (cs:List Ex),(∀ e∈cs,e.fit)→Bound sc (cs.filter (okE sc)) (cs.filterMap (termE sc))
  | [],_=>Bound.nil sc
  | e::cs,h=>by
    have ih:=bound_taken sc cs fun x hx=>h x (List.mem_cons_of_mem _ hx)
    cases hb:bindE sc e with
    | no c =>
      have e1:okE sc e=false:=by unfold okE;rw [hb]
      have e2:termE sc e=none:=by unfold termE;rw [hb]
      rw [List.filter_cons_of_neg (by rw [e1];decide),List.filterMap_cons_none e2]
      exact ih
    | ok t =>
      have e1:okE sc e=true:=by unfold okE;rw [hb]
      have e2:termE sc e=some t:=by unfold termE;rw [hb]
      rw [List.filter_cons_of_pos e1,List.filterMap_cons_some e2]
      exact ih.cons (h e List.mem_cons_self) hb
end Go.Proofs.YtlphpbcafplnbaaGreat
namespace Go.VL
open Go.RowKit
def flatC:C→Bool
  | .v _=>true
  | _=>false
theorem flat_CR {K K':Nat→Nat→Prop} {w w':World} {c:C} {u:Value} (hf:flatC c=true) (h:CR K w c u):CR K' w' c u:=by
  cases c with
  | v x=>rw [CR] at h ⊢;exact h
  | _=>cases hf
section
variable {P:Program} {w0:World} {K0:K0T} {nt:Nat} {OPS:Array Oper} {st:St}
theorem own_one {a:Act} {w:World} {g:G} (hT:T w0 K0 nt st a w g) {i n:Nat} {nil:Bool} {sz:Nat} {xs:List (List C)} {fx:Nat} {u:Value} (h:SR g w st.rs (.own i n) u) (hr:st.rs i=some (.arr nil sz xs fx)) (hn:xs.length=n):u.oneCell'=true:=by
  rw [SR] at h
  have hu:=h nil sz xs fx hr hn
  rcases hT.res i _ hr with ⟨_,_,q,_⟩ | ⟨_,b,cap,cur,E,q,_⟩ <;> rw [hu,q] <;> rfl
end
section
variable {P:Program} {w0:World} {K0:K0T} {nt:Nat} {st:St} {a:Act} {w:World} {g:G}
end
section
variable {P:Program} {w0:World} {K0:K0T} {nt:Nat} {OPS:Array Oper} {st:St}
end
section
variable {P:Program} {w0:World} {K0:K0T} {nt:Nat} {OPS:Array Oper} {st:St}
def oneS (st:St):S→Prop
  | .c _=>True
  | .own i n=>∃ nil sz xs fx,st.rs i=some (.arr nil sz xs fx)∧xs.length=n
  | .ptr i _=>∃ fz ss,st.rs i=some (.box fz ss)
  | .mp i=>∃ m,st.rs i=some (.map m)
  | _=>False
theorem oneS_ok {a:Act} {w:World} {g:G} (hT:T w0 K0 nt st a w g) {s:S} {u:Value} (h:SR g w st.rs s u) (ho:oneS st s):u.oneCell'=true:=by
  cases s with
  | c x=>rw [SR] at h;exact CR.one h
  | own i n=>obtain ⟨nil,sz,xs,fx,hr,hn⟩:=ho;exact own_one hT h hr hn
  | ptr i o =>
    obtain ⟨fz,ss,hr⟩:=ho
    rw [SR] at h
    obtain ⟨b,_,rfl⟩:=h fz ss hr
    rfl
  | mp i =>
    obtain ⟨m,hr⟩:=ho
    rw [SR] at h
    have hu:=h m hr
    have:=hT.res i _ hr
    rw [hu]
    cases m <;> (simp only [RR,MR] at this)
    · obtain ⟨b,es,q,_⟩:=this
      rw [q];rfl
    · obtain ⟨b,q,_⟩:=this
      rw [q];rfl
    · rcases this with ⟨_,_,q⟩ | ⟨_,b,cap,cur,E,q,_⟩ <;> rw [q] <;> rfl
  | _=>exact ho.elim
def patC (us:List Value):Nat ⊕ Value→C
  | .inl k=>.v (us.getD k undef)
  | .inr z=>.v z
def patS (ss:List S):Nat ⊕ Value→S
  | .inl k=>ss.getD k .un
  | .inr z=>.c (.v z)
def patV (us:List Value):Nat ⊕ Value→Value
  | .inl k=>us.getD k undef
  | .inr z=>z
theorem patC_VR {Kp:Nat→Nat→Prop} {w:World} {us:List Value} : ∀ {pat:List (Nat ⊕ Value)} {vs:List Value},VR Kp w (pat.map (patC us)) vs→vs=pat.map (patV us)∧∀ v∈vs,v.oneCell'=true
  | [],vs,h=>by simp only [List.map_nil,VR] at h;subst h;simp
  | q::r,vs,h=>by
    simp only [List.map_cons,VR] at h
    obtain ⟨u,us',rfl,h1,h2⟩:=h
    obtain ⟨rfl,h4⟩:=patC_VR h2
    have h5:u=patV us q∧u.oneCell'=true:=by
      cases q <;> (simp only [patC] at h1;rw [CR] at h1;exact ⟨h1.1,by rw [h1.1];exact h1.2⟩)
    refine ⟨by rw [List.map_cons,h5.1],fun v hv=>?_⟩
    rcases List.mem_cons.1 hv with rfl | hv
    · exact h5.2
    · exact h4 v hv
theorem parts_R {g:G} {w:World} {R:Nat→Option Res} (f:Operand→Value):∀ (ps:List (Nat × Operand)),(∀ q∈ps,(f q.2).oneCell'=true) →
    PartsR g w R ((ps.zip (ps.map fun q=>f q.2)).map fun q=>(q.1.1,S.c (.v q.2))) (ps.map fun q=>(q.1,f q.2))
  | [],_=>rfl
  | q::r,h=>by
    simp only [List.map_cons,List.zip_cons_cons,PartsR]
    exact ⟨_,_,rfl,by rw [SR,CR];exact ⟨rfl,h q (by simp)⟩,parts_R f r fun x hx=>h x (by simp [hx])⟩
theorem VRS.bldn {y:Nat} {t ty:TypeId} {ps:List (Nat × Operand)} {p:String} {af:Array Edge} {l:List Oper} {K:St→Prop} (pat:List (Nat ⊕ Value))
    (hp:∀ us:List Value,us.length=ps.length→pbuild P t ((ps.zip us).map fun q=>(q.1.1,S.c (.v q.2)))=(.agg (pat.map (patC us)),True))
    (hpat:∀ k,Sum.inl k∈pat→k<ps.length) (ho:∀ q∈ps,oneS st (st.ev q.2))
    (hk:VRS P w0 K0 nt OPS l (st.put y (.st (pat.map (patS (ps.map fun q=>st.ev q.2))))) K) :
    VRS P w0 K0 nt OPS (⟨some y,.build t ps.toArray,ty,p,af,none⟩::l) st K:=by
  refine VRS.step fun hok a w g hT next Q hn'=>wanted_step hT rfl ?_
  have hd:=opOk_dst hok
  have ho1:∀ q∈ps,(a.eval q.2).oneCell'=true:=fun q hq=>oneS_ok hT (hT.ev q.2) (ho q hq)
  have e:=hp (ps.map fun q=>a.eval q.2) (by simp)
  have hpr:PartsR g w st.rs ((ps.zip (ps.map fun q=>a.eval q.2)).map fun q=>(q.1.1,S.c (.v q.2))) (Array.map (fun q:Nat × Operand=>(q.1,a.eval q.2)) ps.toArray).toList:=by
    simp only [List.map_toArray]
    exact parts_R a.eval ps ho1
  obtain ⟨r,h1,h2⟩:=pbuild_ok (P:=P) (t:=t) hpr (by rw [e];trivial)
  rw [e,SR] at h2
  obtain ⟨us,rfl,h2⟩:=h2
  obtain ⟨rfl,h3⟩:=patC_VR h2
  have hrun:(execOp a.eval ⟨some y,.build t ps.toArray,ty,p,af,none⟩).run P w = .ok (.value (.agg (pat.map (patV (ps.map fun q=>a.eval q.2))).toArray)) w:=by
    simp only [execOp,Sem.run_bind,h1,Result.andThen_ok,Sem.run_pure]
  refine ow_value hrun (hn' _ _ w g hk ?_)
  refine hT.put (hd y rfl) ?_
  rw [SR]
  refine ⟨_,rfl,?_,h3⟩
  clear h1 h2 hrun e hk hp
  induction pat with
  | nil=>simp [SRs]
  | cons q r ih =>
    simp only [List.map_cons,SRs]
    refine ⟨_,_,rfl,?_,ih (fun k hk=>hpat k (by simp [hk])) fun v hv=>h3 v (by simp only [List.map_cons];exact List.mem_cons_of_mem _ hv)⟩
    cases q with
    | inr z =>
      simp only [patS,patV]
      rw [SR,CR]
      exact ⟨rfl,h3 z (by simp [patV])⟩
    | inl k =>
      have hkl:=hpat k (by simp)
      simp only [patS,patV]
      have:=hT.ev (ps[k]).2
      rw [List.getD_eq_getElem?_getD,List.getD_eq_getElem?_getD,List.getElem?_map,List.getElem?_map,List.getElem?_eq_getElem hkl]
      exact this
end
end Go.VL
namespace Go.Proofs.YtlphpbcafplnbaaGreat
open Go.VL Go.RowKit
abbrev nilP:S:=.c (.v (.pointer none))
def ps0:List (Nat × Res):=[(192,.box false [nilP,.mp 64]),(64,.map (.ents []))]
def psH:Nat→Bool:=fun i=>i == 1
set_option maxRecDepth 4000 in
set_option maxHeartbeats 4000000 in
theorem psNew_spec:ConB Tryz.prog 274 [] [] [.ptr 192 0] [] ps0:=by
  refine spec_ofB 1 Tryz.func274 rfl (by kernel_rfl) (by simp [Tryz.f274]) (by simp) rfl (fun w0 K0 uf=>vx_ok (H:=psH) _ _ _ (by kernel_rfl) ?_)
  simp only [Tryz.f274]
  simp -dsimp [initB,initEnv,pinsOf,psH]
  refine VL.hand (by kernel_rfl) ?_
  refine VRS.run 1 ?_
  simp -dsimp
  refine VRS.bldn (ps:=[(1,Operand.tmp 1)]) [.inr (.pointer none),.inl 0] (fun us hu=>by
    match us,hu with
    | [u],_=>simp [patC]) (by simp) (by simp [oneS]) ?_
  refine VRS.fin ?_
  simp -dsimp [patS]
  simp [ps0,resEnd]
theorem split_nil (p:List C) (hp:p.length=3):Con Tryz.prog 279 [nilP,.agg p] [.c (.v (.pointer none)),.c (.v (.pointer none))]:=by
  match p,hp with
  | [a,b,c],_ =>
    refine spec_of Tryz.func279 rfl (by kernel_rfl) (by simp [Tryz.f279]) (fun w0 K0=>vc_ok _ _ _ (by kernel_rfl) ?_)
    simp only [Tryz.f279]
    simp -dsimp
def psA:List (Nat × Res):=[(1,.box false [nilP,.mp 2]),(2,.map (.ents []))]
def psB (x y id:Int):List (Nat × Res):=[(1,.box false [.ptr 4928 0,.mp 2]),(2,.map (.ents [(.int .i64 id,[.c (i64 x),.c (i64 y),.c (i64 id)])])),(4928,.box false [.c (i64 x),.c (i64 y),.c (i64 id),nilP,nilP])]
set_option maxRecDepth 4000 in
set_option maxHeartbeats 4000000 in
theorem psAdd_spec (x y id:Int):ConB Tryz.prog 275 [.ptr 1 0,.agg [i64 x,i64 y,i64 id]] psA [.c (i64 0)] [.ptr 1 0,.agg [i64 x,i64 y,i64 id]] (psB x y id):=by
  refine spec_ofB 3 Tryz.func275 rfl (by kernel_rfl) (by simp [Tryz.f275]) (by simp [psA]) rfl (fun w0 K0 uf=>vc_ok _ _ _ (by kernel_rfl) ?_)
  simp only [Tryz.f275]
  simp -dsimp [initB,initEnv,pinsOf,psA]
  refine VL.draw (by kernel_rfl) [(0,false),(1,false),(3,false),(7,false),(0,false),(16,false),(63,false),(127,false),(255,false),(255,false),(0,false),(1535,false),(4095,true)] (by kernel_rfl) ?_
  simp -dsimp [findK,lkS]
  refine ⟨rfl,by kernel_rfl,⟨by simp [MB.cells,S.nms],rfl⟩,?_⟩
  refine VL.draw (by kernel_rfl) [(0,false),(1,false),(3,false),(7,false),(0,false),(16,false),(0,false),(127,true)] (by kernel_rfl) ?_
  simp -dsimp [vmuR_map (t:=377) (h1:=ft_mpT_377),putK,findK]
  refine ⟨rfl,?_⟩
  refine VL.rounds 1 (by kernel_rfl) ?_
  rw [vrounds]
  simp -dsimp
  refine VL.draw (by kernel_rfl) [(0,true),(1,true),(3,true),(7,true),(15,true),(31,false),(63,false),(127,false),(255,false),(511,false),(1023,false),(31,false),(4095,true),(8191,true)] (by kernel_rfl) ?_
  simp -dsimp
  refine VG.mk [.c (bln false)] _ (fun h=>Bool.noConfusion h) rfl ?_
  simp -dsimp
  refine VL.draw (by kernel_rfl) [(0,false),(1,false),(3,false),(0,false),(15,true),(31,true),(63,false),(63,false),(127,false),(511,true)] (by kernel_rfl) ?_
  simp -dsimp
  refine VC.mk _ (split_nil _ rfl) ?_
  simp -dsimp
  simp [psB,resEnd,pinsEnd]
  rfl
def psO (nl:Bool) (sz:Nat) (l:List (List C)):List (Nat × Res):=[(1,.box false [.own 2 l.length]),(2,.arr nl sz l 0)]
set_option maxRecDepth 4000 in
set_option maxHeartbeats 4000000 in
theorem psFind_nil (lo hi least:Int) (nl:Bool) (sz:Nat) (l:List (List C)) :
    ConB Tryz.prog 280 [nilP,.c (i64 lo),.c (i64 hi),.c (i64 least),.ptr 1 0] (psO nl sz l) [] [nilP,.c (i64 lo),.c (i64 hi),.c (i64 least),.ptr 1 0] (psO nl sz l):=by
  refine spec_ofB 3 Tryz.func280 rfl (by kernel_rfl) (by simp [Tryz.f280]) (by simp [psO]) rfl (fun w0 K0 uf=>vc_ok _ _ _ (by kernel_rfl) ?_)
  simp only [Tryz.f280]
  simp -dsimp [initB,initEnv,pinsOf,psO]
def psN (x y id:Int) (i:Nat) (nl:Bool) (sz:Nat) (l:List (List C)):List (Nat × Res):=[(1,.box false [.own i l.length]),(i,.arr nl sz l 0),(3,.box false [.c (i64 x),.c (i64 y),.c (i64 id),nilP,nilP])]
set_option maxRecDepth 4000 in
set_option maxHeartbeats 8000000 in
theorem psFind_one (x y id lo hi least:Int) (h1:¬ y<least) (h2:lo≤x) (h3:x≤hi) :
    ConB Tryz.prog 280 [.ptr 3 0,.c (i64 lo),.c (i64 hi),.c (i64 least),.ptr 1 0] (psN x y id 2 true 0 []) [] [.ptr 3 0,.c (i64 lo),.c (i64 hi),.c (i64 least),.ptr 1 0] (psN x y id 2 false 3 [[i64 x,i64 y,i64 id]]):=by
  refine ConB.swap 2 3968 (rs:=[]) (as1:=[.ptr 3 0,.c (i64 lo),.c (i64 hi),.c (i64 least),.ptr 1 0]) (b':=psN x y id 3968 false 3 [[i64 x,i64 y,i64 id]]) ?_ rfl (by simp [renSs,renS,swp]) (by simp [psN,resEnd,St.ren,someR,swp,St.rs,vlook,renR,renS,renSs])
  refine spec_ofB 4 Tryz.func280 rfl (by kernel_rfl) (by simp [Tryz.f280]) (by simp [psN]) rfl (fun w0 K0 uf=>vc_ok _ _ _ (by kernel_rfl) ?_)
  simp only [Tryz.f280]
  simp -dsimp [initB,initEnv,pinsOf,psN,h1,h2,h3]
  refine VCL.lend (psO true 0 []) (psO true 0 []) [nilP,.c (i64 lo),.c (i64 hi),.c (i64 least),.ptr 1 0] _ _ (fun i=>i) [2] ⟨psFind_nil lo hi least true 0 [],?_,?_,?_,?_,?_,?_,?_⟩ ?_
  · simp [renSs,renS]
  · simp [psO,renR]
  · simp [psO]
  · simp [psO]
  · simp [psO,Res.nam,S.nams,S.nam]
  · simp [S.nams,S.nam]
  · simp [psO,lk,keptP]
  simp -dsimp [psO,retS,renSs,h1,h2,h3]
  refine VL.draw (by kernel_rfl) [(0,false),(0,false),(2,false),(6,false),(0,false),(16,false),(48,false),(112,false),(240,false),(510,false),(1023,true),(2047,true)] (by kernel_rfl) ?_
  simp -dsimp [h1,h2,h3,maxLen]
  refine VCL.lend (psO false 3 [[i64 x,i64 y,i64 id]]) (psO false 3 [[i64 x,i64 y,i64 id]]) [nilP,.c (i64 lo),.c (i64 hi),.c (i64 least),.ptr 1 0] _ _ (fun i=>if i=1 then 1 else 3968) [3968] ⟨psFind_nil lo hi least false 3 [[i64 x,i64 y,i64 id]],?_,?_,?_,?_,?_,?_,?_⟩ ?_
  · simp [renSs,renS]
  · simp [psO,renR,renSs,renS]
  · simp [psO]
  · simp [psO]
  · simp [psO,Res.nam,S.nams,S.nam]
  · simp [S.nams,S.nam]
  · simp [psO,lk,keptP]
  simp -dsimp [psO,retS,renSs]
  simp [psN,resEnd,pinsEnd]
def psT (x y id:Int):List (Nat × Res):=[(1,.box false [.ptr 3 0,.mp 2]),(2,.map (.ents [(.int .i64 id,[.c (i64 x),.c (i64 y),.c (i64 id)])])),(3,.box false [.c (i64 x),.c (i64 y),.c (i64 id),nilP,nilP])]
set_option maxRecDepth 4000 in
set_option maxHeartbeats 8000000 in
theorem psFindT (x y id lo hi least:Int) (h1:¬ y<least) (h2:lo≤x) (h3:x≤hi) :
    ConB Tryz.prog 276 [.ptr 1 0,.c (i64 lo),.c (i64 hi),.c (i64 least)] (psT x y id) [.own 577 1] [.ptr 1 0,.c (i64 lo),.c (i64 hi),.c (i64 least)] (psT x y id++[(577,.arr false 3 [[i64 x,i64 y,i64 id]] 0)]):=by
  refine spec_ofB 4 Tryz.func276 rfl (by kernel_rfl) (by simp [Tryz.f276]) (by simp [psT]) rfl (fun w0 K0 uf=>vc_ok _ _ _ (by kernel_rfl) ?_)
  simp only [Tryz.f276]
  simp -dsimp [initB,initEnv,pinsOf,psT]
  refine VCL.lend (psN x y id 2 true 0 []) (psN x y id 2 false 3 [[i64 x,i64 y,i64 id]]) [.ptr 3 0,.c (i64 lo),.c (i64 hi),.c (i64 least),.ptr 1 0] _ _ (fun i=>if i=1 then 576 else if i=2 then 577 else 3) [577] ⟨psFind_one x y id lo hi least h1 h2 h3,?_,?_,?_,?_,?_,?_,?_⟩ ?_
  · simp [renSs,renS]
  · simp [psN,renR,renSs,renS]
  · simp [psN]
  · simp [psN]
  · simp [psN,Res.nam,S.nams,S.nam]
  · simp [S.nams,S.nam]
  · simp [psN,lk,keptP]
  simp -dsimp [psN,retS,renSs]
  simp [psT,resEnd,pinsEnd]
  rfl
end Go.Proofs.YtlphpbcafplnbaaGreat
namespace Go.VL
open Go.RowKit
section
variable {P:Program} {w0:World} {K0:K0T} {nt:Nat} {OPS:Array Oper} {st:St}
theorem VRS.bldA {y:Nat} {t ty:TypeId} {x0 x1:Operand} {f0 f1:Nat} {p:String} {af:Array Edge} {l:List Oper} {K:St→Prop} (c0:C) (pat:List (Nat ⊕ Value))
    (hp:∀ u0 u1:Value,pbuild P t [(f0,.agg [.v u0]),(f1,.c (.v u1))]=(.agg (pat.map (patC [u0,u1])),True))
    (hpat:∀ k,Sum.inl k∈pat→k<2) (h0:st.ev x0 = .agg [c0]) (h1:oneS st (st.ev x1))
    (hk:VRS P w0 K0 nt OPS l (st.put y (.st (pat.map (patS [.c c0,st.ev x1])))) K) :
    VRS P w0 K0 nt OPS (⟨some y,.build t #[(f0,x0),(f1,x1)],ty,p,af,none⟩::l) st K:=by
  refine VRS.step fun hok a w g hT next Q hn'=>wanted_step hT rfl ?_
  have hd:=opOk_dst hok
  have e0:=hT.ev x0
  rw [h0,SR] at e0
  obtain ⟨us0,q0,v0⟩:=e0
  simp only [VR] at v0
  obtain ⟨u0,us',rfl,c0',rfl⟩:=v0
  have o0:u0.oneCell'=true:=CR.one c0'
  have e1:=hT.ev x1
  have o1:(a.eval x1).oneCell'=true:=oneS_ok hT e1 h1
  have e:=hp u0 (a.eval x1)
  have hpr:PartsR g w st.rs [(f0,.agg [.v u0]),(f1,.c (.v (a.eval x1)))] (Array.map (fun q:Nat × Operand=>(q.1,a.eval q.2)) #[(f0,x0),(f1,x1)]).toList:=by
    simp only [List.map_toArray,List.map_cons,List.map_nil,PartsR]
    refine ⟨_,_,rfl,?_,_,_,rfl,by rw [SR,CR];exact ⟨rfl,o1⟩,rfl⟩
    rw [q0,SR]
    exact ⟨[u0],rfl,by simp only [VR];exact ⟨_,_,rfl,by rw [CR];exact ⟨rfl,o0⟩,rfl⟩⟩
  obtain ⟨r,h1',h2⟩:=pbuild_ok (P:=P) (t:=t) hpr (by rw [e];trivial)
  rw [e,SR] at h2
  obtain ⟨us,rfl,h2⟩:=h2
  obtain ⟨rfl,h3⟩:=patC_VR h2
  have hrun:(execOp a.eval ⟨some y,.build t #[(f0,x0),(f1,x1)],ty,p,af,none⟩).run P w = .ok (.value (.agg (pat.map (patV [u0,a.eval x1])).toArray)) w:=by
    simp only [execOp,Sem.run_bind,h1',Result.andThen_ok,Sem.run_pure]
  refine ow_value hrun (hn' _ _ w g hk ?_)
  refine hT.put (hd y rfl) ?_
  rw [SR]
  refine ⟨_,rfl,?_,h3⟩
  clear h1' h2 hrun e hk hp
  induction pat with
  | nil=>simp [SRs]
  | cons q r ih =>
    simp only [List.map_cons,SRs]
    refine ⟨_,_,rfl,?_,ih (fun k hk=>hpat k (by simp [hk])) fun v hv=>h3 v (by simp only [List.map_cons];exact List.mem_cons_of_mem _ hv)⟩
    cases q with
    | inr z =>
      simp only [patS,patV]
      rw [SR,CR]
      exact ⟨rfl,h3 z (by simp [patV])⟩
    | inl k =>
      have hkl:=hpat k (by simp)
      simp only [patS,patV]
      match k,hkl with
      | 0,_=>show SR g w st.rs (.c c0) u0;rw [SR];exact c0'
      | 1,_=>exact e1
end
end Go.VL
namespace Go.VL
open Go.RowKit
section
variable {P:Program} {w0:World} {K0:K0T} {nt:Nat} {OPS:Array Oper} {st:St}
theorem VRS.gf (X:S) {o:Oper} {l:List Oper} {y:Nat} {K:St→Prop} (hg:gflag OPS st o.guard=some false) (hd:o.dst=some y)
    (hk:VRS P w0 K0 nt OPS l (st.put y (.g false X)) K):VRS P w0 K0 nt OPS (o::l) st K:=by
  refine VRS.step fun hok a w g hT next Q hn'=>?_
  have hw:=gflag_ok hT hg o rfl
  unfold stepW
  rw [hw,if_neg (by decide),hd]
  refine hn' _ _ w g hk (hT.put (opOk_dst hok y hd) ?_)
  rw [SR]
  exact ⟨fun e=>Bool.noConfusion e,fun _=>rfl⟩
end
end Go.VL
