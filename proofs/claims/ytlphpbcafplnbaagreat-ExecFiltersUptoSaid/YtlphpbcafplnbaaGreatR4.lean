/- Contracts of functions of the seat, proved in a logic on data over the model (part R4). -/
import Derived.Test.YtlphpbcafplnbaaGreatBE
import Derived.Test.YtlphpbcafplnbaaGreatBC
import Derived.Test.YtlphpbcafplnbaaGreatP10
import Derived.Test.YtlphpbcafplnbaaGreatE3
import Derived.Test.YtlphpbcafplnbaaGreatQ5
import Derived.Test.YtlphpbcafplnbaaGreatV28
import Derived.Test.YtlphpbcafplnbaaGreatAE
import Derived.Test.YtlphpbcafplnbaaGreatV10
import Derived.Test.YtlphpbcafplnbaaGreatV26
set_option linter.unusedSimpArgs false
set_option linter.unusedVariables false
namespace Go.Proofs.YtlphpbcafplnbaaGreat
open Go.VL Go.RowKit
theorem len_of_count:∀ (S J:List Int),(∀ e,S.count e≤J.count e)→S.length≤J.length
  | [],_,_=>by simp
  | x::S,J,h=>by
    have hx:=h x
    rw [List.count_cons_self] at hx
    have hm:x∈J:=List.count_pos_iff.1 (by omega)
    have:=len_of_count S (J.erase x) fun e=>by
      have:=h e
      by_cases he:e=x
      · subst he
        rw [List.count_erase_self]
        rw [List.count_cons_self] at this
        omega
      · rw [List.count_erase_of_ne he]
        rwa [List.count_cons_of_ne (fun h=>he h.symm)] at this
    rw [List.length_erase_of_mem hm] at this
    have:=List.length_pos_of_mem hm
    simp only [List.length_cons]
    omega
theorem cntP_cons (p:Per) (ps:List Per) (t:Int):cntP (p::ps) t=(if has p t then 1 else 0)+cntP ps t:=by
  unfold cntP
  rw [List.filter_cons]
  by_cases h:has p t=true
  · rw [if_pos h,if_pos h,List.length_cons];omega
  · rw [if_neg h,if_neg h];omega
theorem cntP_up (e:Int):∀ (ps:List Per),cntP ps e≤cntP ps (e-1)+(ps.map Per.f).count e
  | []=>by simp [cntP]
  | p::ps=>by
    have ih:=cntP_up e ps
    rw [cntP_cons,cntP_cons,List.map_cons,List.count_cons]
    by_cases h:has p e=true
    · rw [if_pos h]
      by_cases h':has p (e-1)=true
      · rw [if_pos h'];omega
      · rw [if_neg h']
        have:p.f=e:=by
          rw [has_iff] at h h';omega
        rw [if_pos (by simp [this])];omega
    · rw [if_neg h];omega
theorem cntP_down (e:Int):∀ (ps:List Per),cntP ps (e-1)≤cntP ps e+(ps.map Per.t).count e
  | []=>by simp [cntP]
  | p::ps=>by
    have ih:=cntP_down e ps
    rw [cntP_cons,cntP_cons,List.map_cons,List.count_cons]
    by_cases h:has p (e-1)=true
    · rw [if_pos h]
      by_cases h':has p e=true
      · rw [if_pos h'];omega
      · rw [if_neg h']
        have:p.t=e:=by
          rw [has_iff] at h h';omega
        rw [if_pos (by simp [this])];omega
    · rw [if_neg h];omega
theorem canon_starts {u:List Per} (hu:Canon u) {e:Int} : (u.map Per.f).count e≤1∧(0<(u.map Per.f).count e→inL u e=true∧inL u (e-1)=false):=by
  have hn:(u.map Per.f).Nodup:=by
    rw [List.nodup_iff_pairwise_ne,List.pairwise_map]
    refine List.Pairwise.imp_of_mem (fun {p q} hp hq h=>?_) hu.apart
    have:=(right_iff p).1 (hu.ok p hp)
    omega
  refine ⟨List.nodup_iff_count.1 hn e,fun h=>?_⟩
  obtain ⟨p,hp,rfl⟩:=List.mem_map.1 (List.count_pos_iff.1 h)
  have hr:=(right_iff p).1 (hu.ok p hp)
  refine ⟨(inL_iff u _).2 ⟨p,hp,by omega,by omega⟩,?_⟩
  rw [Bool.eq_false_iff]
  intro hin
  obtain ⟨q,hq,h1,h2⟩:=(inL_iff u _).1 hin
  obtain ⟨i,hi,rfl⟩:=List.getElem_of_mem hp
  obtain ⟨j,hj,rfl⟩:=List.getElem_of_mem hq
  have hap:=List.pairwise_iff_getElem.1 hu.apart
  rcases Nat.lt_trichotomy i j with h | h | h
  · have:=hap i j hi hj h;omega
  · subst h;omega
  · have:=hap j i hj hi h;omega
section
variable {sortP:List Per→List Per}
theorem layers_count (hs:Sorts sortP) (row:List Val) {st:List (Per × Int)} {c:Int→Int} (h:StepsOf st c) (e:Int):∀ N,((layersN sortP row st N).map fun f=>f.p.f).count e≤min N (c e).toNat-(c (e-1)).toNat
  | 0=>by simp [layersN]
  | N+1=>by
    have ih:=layers_count hs row h e N
    obtain ⟨u1,u2⟩:=h.union hs N
    rw [layersN_succ,List.map_append,List.count_append,List.map_map]
    have e1:((fun f:Fact=>f.p.f) ∘ mkF row)=Per.f:=rfl
    rw [e1]
    obtain ⟨c1,c2⟩:=canon_starts u1 (e:=e)
    rcases Nat.eq_zero_or_pos (((unionL sortP (here st (N+1))).map Per.f).count e) with h0 | h0
    · rw [h0];omega
    · obtain ⟨d1,d2⟩:=c2 h0
      rw [u2] at d1 d2
      simp at d1 d2
      omega
theorem layers_len (hs:Sorts sortP) (row:List Val) {plus minus:List Per} (hp:∀ p∈plus,right p=true) (hm:∀ p∈minus,right p=true):(layersL sortP row (stepsL plus minus)).length≤plus.length+minus.length:=by
  have h:=stepsL_ok hp hm
  have:=len_of_count ((layersL sortP row (stepsL plus minus)).map fun f=>f.p.f) (plus.map Per.f++minus.map Per.t) fun e=>by
    have h1:=layers_count hs row h e (maxN (stepsL plus minus))
    have h2:=cntP_up e plus
    have h3:=cntP_down e minus
    rw [List.count_append]
    refine Nat.le_trans h1 ?_
    omega
  simpa using this
end
theorem groups_sum:∀ (n:Nat) (l:List Fact),l.length≤n→((groupsL l).map fun x=>x.2.length).sum=l.length
  | n,[],_=>by rw [groupsL_nil];rfl
  | 0,f::l,h=>by simp at h
  | n+1,f::l,h=>by
    have hsub:=List.dropWhile_sublist (alikeR f.row) (l:=l)
    have hlen:=hsub.length_le
    have ih:=groups_sum n (l.dropWhile (alikeR f.row)) (by simp at h;omega)
    rw [groupsL_cons,List.map_cons,List.sum_cons,ih]
    have:=congrArg List.length (List.takeWhile_append_dropWhile (p:=alikeR f.row) (l:=l))
    rw [List.length_append] at this
    simp
    omega
theorem catG_le (G:List Val × List Per→List Fact) (w:List Val × List Per→Nat):∀ (gs:List (List Val × List Per)),(∀ x∈gs,(G x).length≤w x)→(catG G gs).length≤(gs.map w).sum
  | [],_=>by simp
  | x::gs,h=>by
    have ih:=catG_le G w gs fun y hy=>h y (by simp [hy])
    have:=h x (by simp)
    unfold catG at *
    rw [List.flatMap_cons,List.length_append,List.map_cons,List.sum_cons]
    omega
section
variable {sortP:List Per→List Per}
theorem group_right {l:List Fact} {x:List Val × List Per} (h:x∈groupsL (rightL l)):∀ p∈x.2,right p=true:=by
  obtain ⟨_,h2,_⟩:=groups_ok _ (rightL l) (Nat.le_refl _) (sortF_up _)
  obtain ⟨e,_⟩:=h2 x h
  rw [e]
  exact perOf_right l x.1
theorem normal_pre (hs:Sorts sortP) (l:List Fact):(catG (gN sortP) (groupsL (rightL l))).length≤l.length:=by
  have h1:=catG_le (gN sortP) (fun x=>x.2.length) (groupsL (rightL l)) fun x hx=>by
    have:=layers_len hs x.1 (plus:=x.2) (minus:=[]) (group_right hx) (by simp)
    simpa [gN] using this
  rw [groups_sum _ _ (Nat.le_refl _)] at h1
  exact Nat.le_trans h1 (rightL_len l)
theorem normal_len (hs:Sorts sortP) (l:List Fact):(normalL sortP l).length≤l.length:=by
  rw [normalL_eq,sortF_len];exact normal_pre hs l
theorem normal_rows {l:List Fact} {f:Fact} (h:f∈normalL sortP l):∃ g∈l,g.row=f.row:=by
  rw [normalL_eq,(sortF_perm _).mem_iff] at h
  obtain ⟨x,hx,h⟩:=catG_in h
  obtain ⟨⟨g,hg,e⟩,_⟩:=group_in hx
  exact ⟨g,hg,by rw [e,(layers_row h).1]⟩
theorem normal_rows1 {l:List Fact} (h:Rows1 l):Rows1 (normalL sortP l):=fun f hf=>by
  obtain ⟨g,hg,e⟩:=normal_rows hf
  rw [← e];exact h g hg
end
section
variable {sortP:List Per→List Per}
theorem lap_valid (f:Fact) (p:Per) (t:Int):(lapOk f.p p=true∧validAt (mkF f.row (lap f.p p)) t=true)↔(validAt f t=true∧right p=true∧has p t=true):=by
  have hlo:lapOk f.p p=true↔right f.p=true∧right p=true∧right (lapP f.p p)=true:=by
    unfold lapOk;rw [Bool.and_eq_true,Bool.and_eq_true,and_assoc]
  have hlp:lapOk f.p p=true→lap f.p p=lapP f.p p:=fun h=>by unfold lap;rw [if_pos h]
  have e1:(lapP f.p p).f=max f.p.f p.f:=rfl
  have e2:(lapP f.p p).t=min f.p.t p.t:=rfl
  unfold validAt
  rw [Bool.and_eq_true,Bool.and_eq_true,has_iff,has_iff,has_iff]
  show lapOk f.p p=true∧right (lap f.p p)=true∧(lap f.p p).f≤t∧t<(lap f.p p).t↔_
  constructor
  · rintro ⟨h1,h2,h3,h4⟩
    rw [hlp h1] at h2 h3 h4
    obtain ⟨h5,h6,_⟩:=hlo.1 h1
    rw [e1] at h3
    rw [e2] at h4
    exact ⟨⟨h5,by omega,by omega⟩,h6,by omega,by omega⟩
  · rintro ⟨⟨h1,h2,h3⟩,h4,h5,h6⟩
    have a1:=(right_iff _).1 h1
    have a2:=(right_iff _).1 h4
    have h7:right (lapP f.p p)=true:=by rw [right_iff,e1,e2];omega
    have h8:=hlo.2 ⟨h1,h4,h7⟩
    rw [hlp h8,e1,e2]
    exact ⟨h8,h7,by omega,by omega⟩
theorem clipP_cnt (p:Per) (r:List Val) (t:Int):∀ (l:List Fact),cnt (clipP p l) r t=if right p && has p t then cnt l r t else 0
  | []=>by simp [clipP]
  | f::l=>by
    have ih:=clipP_cnt p r t l
    have hv:=lap_valid f p t
    rw [cnt_cons]
    unfold clipP at *
    rw [List.filter_cons]
    by_cases hl:lapOk f.p p=true
    · rw [if_pos hl,List.map_cons,cnt_cons,ih]
      simp only [hl,true_and] at hv
      by_cases hc:(right p && has p t)=true
      · rw [if_pos hc,if_pos hc]
        rw [Bool.and_eq_true] at hc
        congr 1
        by_cases h:f.row=r∧validAt f t=true
        · rw [if_pos h,if_pos ⟨h.1,hv.2 ⟨h.2,hc⟩⟩]
        · rw [if_neg h,if_neg (fun h'=>h ⟨h'.1,(hv.1 h'.2).1⟩)]
      · rw [if_neg hc,if_neg hc,if_neg]
        rintro ⟨_,h⟩
        exact hc (by rw [Bool.and_eq_true];exact (hv.1 h).2)
    · rw [if_neg hl,ih]
      by_cases hc:(right p && has p t)=true
      · rw [if_pos hc,if_pos hc,if_neg,Nat.zero_add]
        rintro ⟨_,h⟩
        rw [Bool.and_eq_true] at hc
        exact hl (hv.2 ⟨h,hc⟩).1
      · rw [if_neg hc,if_neg hc]
theorem clip_len (hs:Sorts sortP) (l:List Fact) (p:Per):(clipL sortP l p).length≤l.length:=Nat.le_trans (normal_len hs _) (clipP_len p l)
theorem clip_rows1 {l:List Fact} (p:Per) (h:Rows1 l):Rows1 (clipL sortP l p):=normal_rows1 (clipP_rows h)
end
theorem catG_leq {sortP:List Per→List Per} (hs:Sorts sortP) (l:List Fact):(catG (gN sortP) (groupsL (rightL l))).length≤l.length:=by
  have:=normal_len hs l
  rw [normalL_eq,sortF_len] at this
  exact this
set_option maxRecDepth 4000 in
set_option maxHeartbeats 4000000 in
theorem result_spec {sortP:List Per→List Per} (hs:Sorts sortP) (hi:SortsI) (hf:SortsF) (o:Opt) (ho:o.Ok) (hl:o.out.length≤3518437208883) (hr:Rows1 o.out) :
    Con Tryz.prog 20 [.c o.c] [.c (.sl (normalL sortP o.out).isEmpty (facts (normalL sortP o.out)))]:=by
  refine spec_of Tryz.func20 rfl (by kernel_rfl) (by simp [Tryz.f20]) (fun w0 K0=>vc_ok _ _ _ (by kernel_rfl) ?_)
  simp only [Tryz.f20]
  simp -dsimp [Opt.c]
  refine VI.mk0 (.agg o.tc.2) o.tc.1 o.fn _ rfl o.meth (run_spec o ho) ?_
  simp -dsimp
  have hcg:=catG_leq hs o.out
  refine ⟨by decide,VCL.snap ?_⟩
  simp -dsimp
  refine VC.mk _ (normal_one hs hi hf false o.nl _ o.out rfl hl hr (by omega)) ?_
  simp -dsimp
theorem normal_single {sortP:List Per→List Per} (hs:Sorts sortP) (f:Fact) (h:right f.p=true):∃ g,normalL sortP [f]=[g]∧g.row=f.row:=by
  have h1:=normal_len hs [f]
  have h2:=normal_cnt hs [f] f.row f.p.f
  match hn:normalL sortP [f] with
  | [] =>
    rw [hn] at h2
    exfalso
    have hb:=(right_iff f.p).1 h
    have hv:validAt f f.p.f=true:=by
      unfold validAt
      rw [h,Bool.true_and]
      unfold has
      simp
      omega
    have h3:cnt [f] f.row f.p.f=1:=by unfold cnt;simp [hv]
    rw [h3] at h2
    cases h2
  | [g] =>
    refine ⟨g,rfl,?_⟩
    obtain ⟨g',hg,e⟩:=normal_rows (sortP:=sortP) (l:=[f]) (f:=g) (by rw [hn];simp)
    simp at hg
    rw [← e,hg]
  | g::g2::r=>rw [hn] at h1;simp at h1
def colsOf (t:Tab) (j:Nat):List SCol:=(t.cols.take j).map fun c=>⟨t.name,c.name,c.kind⟩
def scopeK (l:List Tab):Nat→List SCol
  | 0=>[]
  | k+1=>scopeK l k++(match l[k]? with | some t=>colsOf t t.cols.length | none=>[])
def scopeOf (l:List Tab):List SCol:=scopeK l l.length
theorem scopeK_step {l:List Tab} {k:Nat} (h:k<l.length):scopeK l (k+1)=scopeK l k++colsOf l[k] l[k].cols.length:=by
  rw [scopeK,List.getElem?_eq_getElem h]
theorem colsOf_step {t:Tab} {j:Nat} (h:j<t.cols.length):colsOf t (j+1)=colsOf t j++[⟨t.name,t.cols[j].name,t.cols[j].kind⟩]:=by
  unfold colsOf;rw [take_snoc h,List.map_append];rfl
theorem colsOf_len (t:Tab) (j:Nat):(colsOf t j).length≤t.cols.length:=by
  unfold colsOf;rw [List.length_map,List.length_take];omega
theorem scopeK_len {l:List Tab} {n:Nat} (h:∀ t∈l,t.cols.length≤n):∀ k,k≤l.length→(scopeK l k).length≤k*n
  | 0,_=>by simp [scopeK]
  | k+1,hk=>by
    have h1:=scopeK_len h k (by omega)
    have h2:=h l[k] (List.getElem_mem hk)
    have h3:=colsOf_len l[k] l[k].cols.length
    rw [scopeK_step hk,List.length_append,Nat.add_mul]
    omega
abbrev tabs (l:List Tab):List (List C):=l.map Tab.cells
def RJ (sz:Nat) (nl:Bool) (s:Nat) {α:Type} (row:List α):Prop:=nl=row.isEmpty∧s=if nl then 0 else sz
theorem RJ.next {α:Type} {sz:Nat} {row:List α} {x:α} : RJ sz false sz (row++[x]):=⟨by cases row <;> rfl,rfl⟩
set_option maxRecDepth 4000 in
set_option maxHeartbeats 16000000 in
theorem scope_spec (nl:Bool) (l:List Tab) (hl:l.length≤1000) (hc:∀ t∈l,t.cols.length≤1000000) :
    Con Tryz.prog 29 [.c (.sl nl (tabs l))] [.c (.sl (scopeOf l).isEmpty (scols (scopeOf l)))]:=by
  refine Con.frz (rs:=[.fr (scopeOf l).isEmpty (if (scopeOf l).isEmpty then 0 else 3) (scols (scopeOf l)) 0]) ?_ 0 rfl
  refine spec_of Tryz.func29 rfl (by kernel_rfl) (by simp [Tryz.f29]) (fun w0 K0=>vc_ok _ _ _ (by kernel_rfl) ?_)
  simp only [Tryz.f29]
  simp -dsimp
  refine VL.loop (fun i:KI=>⟨[(10,.c (i64 i.k)),(9,.c (i64 l.length)),(8,.c (.sl nl (tabs l))),(3,.own 192 (scopeK l i.k).length)],
      [(192,some (.arr i.nl i.sz (scols (scopeK l i.k)) 0))]⟩)
    (fun i=>i.k≤l.length∧RJ 3 i.nl i.sz (scopeK l i.k)) (fun i=>l.length-i.k) ⟨0,true,0⟩ (by kernel_rfl) ⟨by simp,rfl,rfl⟩ (by simp [St.le,scopeK]) ?_
  intro ⟨k,z,sz⟩ ⟨hk,hz,hsz⟩
  simp only at hk hz hsz
  simp -dsimp
  refine VIf.mk (fun h=>?_) (fun h=>?_)
  · have hlt:k<l.length:=by simpa using h
    have hw:IntKind.i64.wrap ((k:Int)+1)=(k:Int)+1:=IntWalk.i64_in _ (by omega)
    have hck:=hc l[k] (List.getElem_mem hlt)
    have hkl:=scopeK_len hc k (by omega)
    have hkl':(scopeK l k).length≤1000000000:=Nat.le_trans hkl (Nat.le_trans (Nat.mul_le_mul_right _ (by omega:k≤1000)) (by decide))
    simp -dsimp [hlt,Tab.cells]
    generalize hL:scopeK l k=L at hkl' hz ⊢
    refine VL.loop (fun i:KI=>⟨[(17,.c (i64 i.k)),(16,.c (i64 l[k].cols.length)),(15,.c (.sl l[k].nc (l[k].cols.map Col.cells))),(5,.ptr 320 0),(10,.c (i64 k)),(9,.c (i64 l.length)),(8,.c (.sl nl (tabs l))),(3,.own 192 (L++colsOf l[k] i.k).length)],
        [(192,some (.arr i.nl i.sz (scols (L++colsOf l[k] i.k)) 0)),(320,some (.box false [.c (i64 l[k].id),.c (str l[k].name),.c (.sl l[k].nc (l[k].cols.map Col.cells)),.c (.sl l[k].nk (l[k].keys.map keyc)),.c (bln l[k].ix)]))]⟩)
      (fun i=>i.k≤l[k].cols.length∧RJ 3 i.nl i.sz (L++colsOf l[k] i.k)) (fun i=>l[k].cols.length-i.k) ⟨0,z,sz⟩ (by kernel_rfl) ⟨by simp,by simpa [colsOf] using hz,hsz⟩ (by simp [St.le,colsOf]) ?_
    intro ⟨j,z2,sz2⟩ ⟨hj,hz2,hsz2⟩
    simp only at hj hz2 hsz2
    have hcl:=colsOf_len l[k] j
    simp -dsimp
    refine VIf.mk (fun h2=>?_) (fun h2=>?_)
    · have hlt2:j<l[k].cols.length:=by simpa using h2
      have hw2:IntKind.i64.wrap ((j:Int)+1)=(j:Int)+1:=IntWalk.i64_in _ (by omega)
      have hcs:=colsOf_step hlt2
      simp -dsimp [hlt2,Col.cells]
      refine ⟨by decide,fun e=>by rw [hsz2,e];rfl,by omega,⟨j+1,false,3⟩,⟨by simp only;omega,?_⟩,?_,by simp only;omega⟩
      · rw [hcs,← List.append_assoc];exact RJ.next
      · simp only [hcs]
        simp [St.le,hw2,SCol.cells,Nat.add_assoc]
    · simp at h2
      obtain rfl:j=l[k].cols.length:=by omega
      simp -dsimp [hw]
      refine ⟨⟨k+1,z2,sz2⟩,⟨by simp only;omega,?_⟩,?_,by simp only;omega⟩
      · rw [scopeK_step hlt,hL];exact ⟨hz2,hsz2⟩
      · simp only [scopeK_step hlt,hL]
        simp [St.le]
  · simp at h
    obtain rfl:k=l.length:=by omega
    simp -dsimp
    exact ⟨⟨hz,by rw [hsz,hz];simp [scopeOf];rfl,rfl⟩,rfl⟩
end Go.Proofs.YtlphpbcafplnbaaGreat
namespace Go.VL
open Go.RowKit
section
variable {P:Program} {w0:World} {K0:K0T} {nt:Nat} {OPS:Array Oper}
def VRS (P:Program) (w0:World) (K0:K0T) (nt:Nat) (OPS:Array Oper) (l:List Oper) (st:St) (K:St→Prop):Prop :=
  (l.all (opOk nt))=true→∀ a w g,T w0 K0 nt st a w g→∀ Q:Exit→Act→World→Prop,(∀ st' a' w' g',K st'→T w0 K0 nt st' a' w' g'→Q .normal a' w')→wpList P OPS Q l a w
theorem VRS.fin {l:List Oper} {st:St} {K:St→Prop} (h:vr P OPS l st K):VRS P w0 K0 nt OPS l st K :=
  fun hok a w g hT Q hn=>vr_ok l st a w g K hT hok h hn
theorem VRS.step {o:Oper} {l:List Oper} {st:St} {K:St→Prop}
    (h:opOk nt o=true→∀ a w g,T w0 K0 nt st a w g→∀ (next:Act→World→Prop) (Q:Exit→Act→World→Prop),(∀ st' a' w' g',VRS P w0 K0 nt OPS l st' K→T w0 K0 nt st' a' w' g'→next a' w')→stepW P OPS o a w next Q) :
    VRS P w0 K0 nt OPS (o::l) st K:=by
  intro hok a w g hT Q hn
  simp only [List.all_cons,Bool.and_eq_true] at hok
  have:=h hok.1 a w g hT (wpList P OPS Q l) Q (fun st' a' w' g' h1 h2=>h1 hok.2 a' w' g' h2 Q hn)
  unfold stepW at this
  unfold wpList
  split
  · rename_i hw;rw [if_pos hw] at this;exact .inl this
  · rename_i hw;rw [if_neg hw] at this;exact this
def vrn (P:Program) (OPS:Array Oper):Nat→List Oper→St→(List Oper→St→Prop)→Prop
  | 0,l,st,X=>X l st
  | _+1,[],st,X=>X [] st
  | n+1,o::r,st,X=>vstepL P OPS st o fun st'=>vrn P OPS n r st' X
@[simp ↓] theorem vrn_zero (l:List Oper) (st:St) (X:List Oper→St→Prop):vrn P OPS 0 l st X=X l st:=rfl
@[simp ↓] theorem vrn_succ (n:Nat) (o:Oper) (l:List Oper) (st:St) (X:List Oper→St→Prop):vrn P OPS (n+1) (o::l) st X=force (tick st) fun st=>vstepL P OPS st o fun st'=>vrn P OPS n l st' X:=rfl
theorem VRS.run:∀ (n:Nat) {l:List Oper} {st:St} {K:St→Prop},vrn P OPS n l st (fun l st=>VRS P w0 K0 nt OPS l st K)→VRS P w0 K0 nt OPS l st K
  | 0,l,st,K,h=>h
  | n+1,[],st,K,h=>h
  | n+1,o::l,st,K,h=>by
    refine VRS.step fun hok a w g hT next Q hn=>?_
    refine vstepL_ok hT hok h next Q fun st' a' w' g' h1 h2=>hn st' a' w' g' ?_ h2
    exact VRS.run n h1
theorem VL.hand {id:Nat} {ops:List Oper} {st:St} {Q:Exit→St→Prop} {m1:Keep (Code.region id ops.toArray false)} {m2:Keep Q} (hok:(ops.all (opOk nt))=true)
    (h:VRS P w0 K0 nt ops.toArray ops st (Q .normal)):VL P w0 K0 nt (.region id ops.toArray false) st Q m1 m2:=fun a w g hT =>
  wp_region_list (h hok a w g hT _ fun st' a' w' g' h1 h2=>⟨st',g',h1,h2⟩)
theorem wanted_step {st:St} {a:Act} {w:World} {g:G} (hT:T w0 K0 nt st a w g) {o:Oper} (hg:gflag OPS st o.guard=some true) {next:Act→World→Prop} {Q:Exit→Act→World→Prop} (h:o.wp P a w next Q):stepW P OPS o a w next Q:=by
  unfold stepW
  rw [gflag_ok hT hg o rfl,if_pos rfl]
  exact h
end
section
variable {P:Program} {w0:World} {K0:K0T} {nt:Nat} {OPS:Array Oper}
end
section
variable {P:Program} {w0:World} {K0:K0T} {nt:Nat} {OPS:Array Oper} {st:St} {a:Act} {w:World} {g:G}
theorem T.newrows (h:T w0 K0 nt st a w g) (i sz:Nat) (xs:List (List S)) (cur:Array Value) (E:TypeId) (cap:Nat) (w':World) (hw:w'=w.alloc (.cells cur E)∨w'=w.drew.alloc (.cells cur E))
    (hh:HoldsS g w st.rs sz xs cur) (hm:∀ e∈xs,S.mens i e=false) (h1:xs.length≤cap) (h2:cap≤maxLen) (h3:cur.size=cap*sz) :
    ∃ g',T w0 K0 nt ((st.clr i).setR i (some (.map (.rows false sz xs)))) a w' g'∧g'.loc i = .slice (some ⟨w.heap.size,0,none⟩) xs.length cap∧(∀ j,j≠i→g'.loc j=g.loc j)∧g'.K=g.K:=by
  refine ⟨{ g with loc:=fun j=>if j=i then .slice (some ⟨w.heap.size,0,none⟩) xs.length cap else g.loc j },?_,by simp,fun j hj=>by simp [hj],rfl⟩
  have hB:w0.heap.size≤w.heap.size:=h.below.size
  have fBel:Bel w0 K0 w w':=by
    rcases hw with rfl | rfl
    · exact Bel.of ((BelowD.refl _ _).alloc hB _)
    · exact Bel.of (((BelowD.refl _ w).drew).alloc hB _)
  have fCell:∀ b o,b<w.heap.size→w'.cell? ⟨b,o,none⟩=w.cell? ⟨b,o,none⟩:=fun b o hb=>by
    rcases hw with rfl | rfl
    · exact World.cell?_alloc_lt _ _ _ hb
    · exact World.cell?_alloc_lt w.drew _ _ hb
  have fHeap:∀ k,k<w.heap.size→w'.heap[k]? = w.heap[k]? := fun k hk=>by
    rcases hw with rfl | rfl
    · exact Below.heap_alloc _ _ _ hk
    · exact Below.heap_alloc w.drew _ _ hk
  have fNew:w'.heap[w.heap.size]? = some (.cells cur E (0,0)):=by
    rcases hw with rfl | rfl
    · exact heap_alloc_new w _
    · exact heap_alloc_new w.drew _
  have fSize:w.heap.size<w'.heap.size:=(Array.getElem?_eq_some_iff.1 fNew).1
  have hk:Keeps g.K w g.K w':=⟨fun _ _ k=>k,fun b o k=>fCell b o (h.klt b o k)⟩
  have hc:∀ j,(∃ e∈xs,S.mens j e=true)→Cmp g st.rs { g with loc:=fun j=>if j=i then .slice (some ⟨w.heap.size,0,none⟩) xs.length cap else g.loc j } ((st.clr i).setR i (some (.map (.rows false sz xs)))).rs j:=by
    intro j hj
    obtain ⟨e0,he0,hj⟩:=hj
    have hji:j≠i:=fun e=>by rw [e] at hj;rw [hm e0 he0] at hj;cases hj
    have hR:((st.clr i).setR i (some (.map (.rows false sz xs)))).rs j=(st.rs j).map (Res.clr i):=by rw [St.rs_setR,if_neg (Ne.symm hji),St.rs_clr]
    refine ⟨fun fz ss' e=>?_,fun nil sz xs fx e=>?_,fun kvs e=>?_⟩
    · rw [hR] at e
      cases hs:st.rs j with
      | none=>simp [hs] at e
      | some r=>cases r with
        | box fz0 ss0=>exact ⟨⟨fz0,ss0,rfl⟩,by simp [hji]⟩
        | arr _ _ _ _=>simp [hs,Res.clr] at e
        | pin _ _=>simp [hs,Res.clr] at e
        | map _=>simp [hs,Res.clr] at e
    · rw [hR] at e
      cases hs:st.rs j with
      | none=>simp [hs] at e
      | some r=>cases r with
        | box fz0 ss0=>simp [hs,Res.clr] at e
        | arr nil0 sz0 xs0 fx0 =>
          simp [hs,Res.clr] at e
          obtain ⟨rfl,rfl,rfl,rfl⟩:=e
          exact ⟨⟨_,_,_,rfl,rfl⟩,by simp [hji]⟩
        | pin _ _=>simp [hs,Res.clr] at e
        | map _=>simp [hs,Res.clr] at e
    · rw [hR] at e
      cases hs:st.rs j with
      | none=>simp [hs] at e
      | some r=>cases r with
        | box fz0 ss0=>simp [hs,Res.clr] at e
        | arr _ _ _ _=>simp [hs,Res.clr] at e
        | pin _ _=>simp [hs,Res.clr] at e
        | map k0 =>
          simp [hs,Res.clr] at e
          exact ⟨⟨k0,rfl,by rw [← e,MB.sh_clr]⟩,by simp [hji]⟩
  refine T.make h (g':={ g with loc:=fun j=>if j=i then .slice (some ⟨w.heap.size,0,none⟩) xs.length cap else g.loc j }) fBel hk h.kold (fun b o k=>by
      have:=h.klt b o k;omega) (fun j hj=>by simp [hj]) (fun j r b hj hr hb=>⟨fHeap b ((h.res j r hr).lt hb),fun _ k=>k⟩) (fun j r hj hr b hb hb2=>?_) ?_
  · simp [blk] at hb
    have:=(h.res j r hr).lt hb2
    omega
  · refine .inr ⟨rfl,w.heap.size,cap,cur,E,by simp,(fun e=>absurd e.1 (by omega)),fNew,h1,h2,h3,fun j e hj=>?_,fun o k=>?_⟩
    · obtain ⟨q1,q2⟩:=hh j e hj
      refine ⟨q1,fun k s hs=>?_⟩
      obtain ⟨u,e1,e2,e3⟩:=q2 k s hs
      refine ⟨u,e1,SR.mono (g:=g) (g':={ g with loc:=fun j=>if j=i then .slice (some ⟨w.heap.size,0,none⟩) xs.length cap else g.loc j }) hk s u (fun x hx=>hc x ⟨e,List.mem_of_getElem? hj,?_⟩) e2,e3⟩
      exact mens_of (List.mem_of_getElem? hs) hx
    · have:=h.klt _ _ k
      omega
theorem VRS.ixM {y:Nat} {t ty:TypeId} {x h:Operand} {p:String} {af:Array Edge} {l:List Oper} {K:St→Prop} (i j sz:Nat) (xs:List (List S))
    (hx:st.ev x = .mp i) (hh:sint (peel (st.ev h))=some (j:Int)) (hfh:flagOf (st.ev h)=true) (hr:st.rs i=some (.map (.rows false sz xs))) (hj:j<xs.length) (he:esz P t=some sz)
    (hk:VRS P w0 K0 nt OPS l (st.put y (.me i j 0)) K):VRS P w0 K0 nt OPS (⟨some y,.indexAddr t x h,ty,p,af,none⟩::l) st K:=by
  refine VRS.step fun hok a w g hT next Q hn'=>wanted_step hT rfl ?_
  have hd:=opOk_dst hok
  have hex:=hT.ev x
  rw [hx,SR] at hex
  have hu:=hex _ hr
  have heh:=peel_ok (hT.ev h) hfh
  obtain ⟨k,hki⟩:=sint_eq hh heh
  rcases hT.res i _ hr with ⟨q,_⟩ | ⟨_,b,cap,cur,E,hl,_⟩
  · cases q
  rw [hl] at hu
  have hrun:(execOp a.eval ⟨some y,.indexAddr t x h,ty,p,af,none⟩).run P w = .ok (.value (.pointer (some ⟨b,j*sz,none⟩))) w:=by
    have:=run_indexAt_sl (P:=P) (w:=w) (b:=b) (o:=0) (cap:=cap) (k:=k) he (Int.natCast_nonneg j) (show (j:Int).toNat<xs.length by simpa using hj)
    simp only [Int.toNat_natCast,Nat.zero_add] at this
    simp [execOp,hu,hki,this]
  refine ow_value hrun (hn' _ _ w g hk ?_)
  refine hT.put (hd y rfl) ?_
  rw [SR]
  intro nil' sz' xs' e _
  rw [hr] at e
  cases e
  exact ⟨b,cap,hl,rfl⟩
theorem VRS.ldM {y n:Nat} {t ty:TypeId} {x:Operand} {p:String} {af:Array Edge} {l:List Oper} {K:St→Prop} (i j o sz:Nat) (xs:List (List S)) (e:List S) (s:S)
    (hx:st.ev x = .me i j o) (hr:st.rs i=some (.map (.rows false sz xs))) (hj:xs[j]? = some e) (ho:e[o]? = some s) (ht:tySz P t=some (false,n))
    (hk:VRS P w0 K0 nt OPS l (st.put y s) K):VRS P w0 K0 nt OPS (⟨some y,.load t x,ty,p,af,none⟩::l) st K:=by
  refine VRS.step fun hok a w g hT next Q hn'=>wanted_step hT rfl ?_
  have hd:=opOk_dst hok
  have hex:=hT.ev x
  rw [hx,SR] at hex
  obtain ⟨b,cap,hl,hu⟩:=hex _ _ _ hr (List.getElem?_eq_some_iff.1 hj).1
  rcases hT.res i _ hr with ⟨q,_⟩ | ⟨_,b',cap',cur,E,hl',hB,hheap,_,_,_,hH,_⟩
  · cases q
  rw [hl] at hl'
  cases hl'
  obtain ⟨_,h2⟩:=hH j e hj
  obtain ⟨u,e1,e2,e3⟩:=h2 o s ho
  have hc:w.cell? ⟨b,j*sz+o,none⟩=some u:=by rw [cell_of_heap hheap];exact e1
  have hrun:(execOp a.eval ⟨some y,.load t x,ty,p,af,none⟩).run P w = .ok (.value u) w:=by
    have:=run_loadVar_one (P:=P) ht hc
    simp [execOp,hu,Instr.loadAt,Instr.sureAddr,this]
  refine ow_value hrun (hn' _ _ w g hk ?_)
  exact hT.put (hd y rfl) e2
end
section
variable {P:Program} {w0:World} {K0:K0T} {nt:Nat} {OPS:Array Oper} {st:St}
end
section
variable {P:Program} {w0:World} {K0:K0T} {nt:Nat} {OPS:Array Oper} {st:St} {a:Act} {w:World} {g:G}
end
section
variable {P:Program}
end
section
variable {P:Program} {w0:World} {K0:K0T} {nt:Nat} {OPS:Array Oper}
end
section
variable {P:Program} {w0:World} {K0:K0T} {nt:Nat} {OPS:Array Oper}
end
end Go.VL
namespace Go.Proofs.YtlphpbcafplnbaaGreat
open Go.VL Go.RowKit
set_option maxRecDepth 4000 in
set_option maxHeartbeats 16000000 in
theorem refScope_spec (nl:Bool) (l:List Tab) (hl:l.length≤1000) (hc:∀ t∈l,t.cols.length≤1000000) :
    Con Tryz.prog 67 [.c (.sl nl (tabs l))] [.c (.sl (scopeOf l).isEmpty (scols (scopeOf l)))]:=by
  refine Con.frz (rs:=[.fr (scopeOf l).isEmpty (if (scopeOf l).isEmpty then 0 else 3) (scols (scopeOf l)) 0]) ?_ 0 rfl
  refine spec_of Tryz.func67 rfl (by kernel_rfl) (by simp [Tryz.f67]) (fun w0 K0=>vc_ok _ _ _ (by kernel_rfl) ?_)
  simp only [Tryz.f67]
  simp -dsimp
  refine VL.loop (fun i:KI=>⟨[(4,.c (i64 i.k)),(0,.c (.sl nl (tabs l))),(3,.own 192 (scopeK l i.k).length)],
      [(192,some (.arr i.nl i.sz (scols (scopeK l i.k)) 0))]⟩)
    (fun i=>i.k≤l.length∧RJ 3 i.nl i.sz (scopeK l i.k)) (fun i=>l.length-i.k) ⟨0,true,0⟩ (by kernel_rfl) ⟨by simp,rfl,rfl⟩ (by simp [St.le,scopeK]) ?_
  intro ⟨k,z,sz⟩ ⟨hk,hz,hsz⟩
  simp only at hk hz hsz
  simp -dsimp
  refine VIf.mk (fun h=>?_) (fun h=>?_)
  · have hlt:k<l.length:=by simpa using h
    have hw:IntKind.i64.wrap ((k:Int)+1)=(k:Int)+1:=IntWalk.i64_in _ (by omega)
    have hck:=hc l[k] (List.getElem_mem hlt)
    have hkl:=scopeK_len hc k (by omega)
    have hkl':(scopeK l k).length≤1000000000:=Nat.le_trans hkl (Nat.le_trans (Nat.mul_le_mul_right _ (by omega:k≤1000)) (by decide))
    simp -dsimp
    generalize hL:scopeK l k=L at hkl' hz ⊢
    refine VL.loop (fun i:KI=>⟨[(5,.c (i64 i.k)),(4,.c (i64 k)),(0,.c (.sl nl (tabs l))),(3,.own 192 (L++colsOf l[k] i.k).length)],
        [(192,some (.arr i.nl i.sz (scols (L++colsOf l[k] i.k)) 0))]⟩)
      (fun i=>i.k≤l[k].cols.length∧RJ 3 i.nl i.sz (L++colsOf l[k] i.k)) (fun i=>l[k].cols.length-i.k) ⟨0,z,sz⟩ (by kernel_rfl) ⟨by simp,by simpa [colsOf] using hz,hsz⟩ (by simp [St.le,colsOf]) ?_
    intro ⟨j,z2,sz2⟩ ⟨hj,hz2,hsz2⟩
    simp only at hj hz2 hsz2
    have hcl:=colsOf_len l[k] j
    simp -dsimp [hlt,Tab.cells]
    refine VIf.mk (fun h2=>?_) (fun h2=>?_)
    · have hlt2:j<l[k].cols.length:=by simpa using h2
      have hw2:IntKind.i64.wrap ((j:Int)+1)=(j:Int)+1:=IntWalk.i64_in _ (by omega)
      have hcs:=colsOf_step hlt2
      simp -dsimp [hlt,hlt2,Tab.cells,Col.cells]
      refine VL.draw (by kernel_rfl) [(0,false),(0,false),(0,false),(6,false),(14,false),(30,false),(0,false),(64,false),(0,false),(256,false),(1022,false),(2046,false),(4095,true),(8191,true)] (by kernel_rfl) ?_
      simp -dsimp [hlt,hlt2,Tab.cells,Col.cells,maxLen]
      refine ⟨fun e=>by rw [hsz2,e];rfl,by omega,⟨j+1,false,3⟩,⟨by simp only;omega,?_⟩,?_,by simp only;omega⟩
      · rw [hcs,← List.append_assoc];exact RJ.next
      · simp only [hcs]
        simp [St.le,hw2,SCol.cells,Nat.add_assoc]
    · simp at h2
      obtain rfl:j=l[k].cols.length:=by omega
      simp -dsimp [hw]
      refine ⟨⟨k+1,z2,sz2⟩,⟨by simp only;omega,?_⟩,?_,by simp only;omega⟩
      · rw [scopeK_step hlt,hL];exact ⟨hz2,hsz2⟩
      · simp only [scopeK_step hlt,hL]
        simp [St.le]
  · simp at h
    obtain rfl:k=l.length:=by omega
    simp -dsimp
    exact ⟨⟨hz,by rw [hsz,hz];simp [scopeOf];rfl,rfl⟩,rfl⟩
structure Qn where
  na:Bool
  A:List Fact
  nb:Bool
  B:List Fact
  two:Bool
  i0:Bool
  i1:Bool
  nc:Bool
  cs:List Ex
  nd:Bool
  du:List Per
  cols:Int
  s3:Bool
def Qn.cells (w:Qn):List C:=[.sl w.na (facts w.A),.sl w.nb (facts w.B),bln w.two,bln w.i0,bln w.i1,.sl w.nc (exprs w.cs),.sl w.nd (w.du.map Per.cells),i64 w.cols,bln w.s3]
def okE (sc:List SCol) (e:Ex):Bool:=match bindE sc e with | .ok _=>true | .no _=>false
def termE (sc:List SCol) (e:Ex):Option Tm:=match bindE sc e with | .ok t=>some t | .no _=>none
structure QI where
  k:Nat
  n1:Bool
  z1:Nat
  n2:Bool
  z2:Nat
structure Dry where
  q:Qry
  es:List Ex
  en:Bool
  sc:List SCol
def Dry.cells (d:Dry):List C:=[.sl d.q.sn (srcs d.q.src),.sl d.en (exprs d.es),.sl false (scols d.sc),.sl d.q.dn (d.q.du.map Per.cells)]
def refAt (sc:List SCol) (of name:List UInt8) (k:Nat):Int:=if hitsN sc of name k=0 then 0 else hitAt sc of name k
def refTab (sc:List SCol) (of:List UInt8) (k:Nat):Bool:=decide (of=[]) || decide (tabsN sc of k≠0)
set_option maxRecDepth 4000 in
set_option maxHeartbeats 16000000 in
theorem refFind_spec (nl:Bool) (sc:List SCol) (of name:List UInt8) (hl:sc.length≤1000000000000) :
    Con Tryz.prog 122 [.c (.sl nl (scols sc)),.c (str of),.c (str name)] [.c (i64 (fdI (findC sc of name))),.c (i64 (fdC (findC sc of name)))]:=by
  refine spec_of Tryz.func122 rfl (by kernel_rfl) (by simp [Tryz.f122]) (fun w0 K0=>vc_ok _ _ _ (by kernel_rfl) ?_)
  simp only [Tryz.f122]
  simp -dsimp
  refine VL.loop (fun k:Nat=>⟨[(11,.c (i64 k)),(0,.c (.sl nl (scols sc))),(1,.c (str of)),(2,.c (str name)),(8,.c (bln (refTab sc of k))),(9,.c (i64 (hitsN sc of name k))),(10,.c (i64 (refAt sc of name k)))],[]⟩)
    (fun k=>k≤sc.length) (fun k=>sc.length-k) 0 (by kernel_rfl) (by simp) (by simp [St.le,refTab,refAt,hitsN,tabsN]) ?_
  intro k hk
  have hhl:hitsN sc of name k≤k:=by
    unfold hitsN;refine Nat.le_trans List.countP_le_length ?_;rw [List.length_take];omega
  simp -dsimp
  refine VIf.mk (fun h=>?_) (fun h=>?_)
  · have hlt:k<sc.length:=by simpa using h
    have hw:IntKind.i64.wrap ((k:Int)+1)=(k:Int)+1:=IntWalk.i64_in _ (by omega)
    have hw2:IntKind.i64.wrap ((hitsN sc of name k:Int)+1)=(hitsN sc of name k:Int)+1:=IntWalk.i64_in _ (by omega)
    have s1:tabsN sc of (k+1)=tabsN sc of k+(if tabOk of sc[k]=true then 1 else 0):=countP_step hlt
    have s2:hitsN sc of name (k+1)=hitsN sc of name k+(if hit of name sc[k]=true then 1 else 0):=countP_step hlt
    simp -dsimp [hlt,SCol.cells]
    refine VIf.mk (fun h2=>?_) (fun h2=>?_)
    · have ht:tabOk of sc[k]=true:=by simp at h2;simp [tabOk,h2]
      have t1:refTab sc of (k+1)=true:=by simp [refTab,s1,ht]
      simp -dsimp [hlt,SCol.cells]
      refine VIf.mk (fun h3=>?_) (fun h3=>?_)
      · have hh:hit of name sc[k]=true:=by simp at h3;simp [hit,ht,h3]
        simp -dsimp
        refine VIf.mk (fun h4=>?_) (fun h4=>?_)
        · have h5:hitsN sc of name k=0:=by simp at h4;omega
          have h6:refAt sc of name (k+1)=k:=by
            unfold refAt hitAt
            rw [if_neg (by rw [s2,if_pos hh];omega)]
            exact idxI_snoc hlt h5 hh
          simp -dsimp [hw,hw2]
          refine ⟨k+1,by omega,?_,by omega⟩
          simp [St.le,t1,h6,s2,hh]
        · have h5:¬ hitsN sc of name k=0:=by simp at h4;omega
          have h6:refAt sc of name (k+1)=refAt sc of name k:=by
            unfold refAt hitAt
            rw [if_neg (by rw [s2,if_pos hh];omega),if_neg h5]
            rw [take_snoc hlt]
            unfold idxI
            rw [List.findIdx?_append]
            have hne:(sc.take k).findIdx? (hit of name)≠none:=by
              intro e
              rw [List.findIdx?_eq_none_iff] at e
              exact h5 (by unfold hitsN;rw [List.countP_eq_zero];intro x hx;simp [e x hx])
            cases hf:(sc.take k).findIdx? (hit of name) with
            | none=>exact absurd hf hne
            | some i=>rfl
          simp -dsimp [hw,hw2]
          refine ⟨k+1,by omega,?_,by omega⟩
          simp [St.le,t1,h6,s2,hh]
      · have hh:hit of name sc[k]=false:=by simp at h3;simp [hit,h3]
        have h6:refAt sc of name (k+1)=refAt sc of name k:=by
          unfold refAt hitAt
          rw [idxI_snoc_no hlt hh,s2,hh];simp
        simp -dsimp [hw]
        refine ⟨k+1,by omega,?_,by omega⟩
        simp [St.le,t1,h6,s2,hh]
    · have ht:tabOk of sc[k]=false:=by simp at h2;simp [tabOk,h2]
      have hh:hit of name sc[k]=false:=by simp [hit,ht]
      have t1:refTab sc of (k+1)=refTab sc of k:=by simp [refTab,s1,ht]
      have h6:refAt sc of name (k+1)=refAt sc of name k:=by
        unfold refAt hitAt
        rw [idxI_snoc_no hlt hh,s2,hh];simp
      simp -dsimp [hw]
      refine ⟨k+1,by omega,?_,by omega⟩
      simp [St.le,t1,h6,s2,hh]
  · simp at h
    obtain rfl:k=sc.length:=by omega
    have e1:tabsN sc of sc.length=sc.countP (tabOk of):=by simp [tabsN]
    have e2:hitsN sc of name sc.length=sc.countP (hit of name):=by simp [hitsN]
    simp -dsimp
    refine VIf.mk (fun h2=>?_) (fun h2=>?_)
    · have h3:2≤sc.countP (hit of name):=by have h2':=of_decide_eq_true h2;rw [e2] at h2';omega
      rw [findC_twice h3]
      simp -dsimp
      simp [fdI,fdC]
    · have h3:sc.countP (hit of name)≤1:=by have h2':=of_decide_eq_false h2;rw [e2] at h2';omega
      rw [findC_end h3]
      simp -dsimp
      refine VIf.mk (fun h4=>?_) (fun h4=>?_)
      · have h5:of≠[]∧sc.countP (tabOk of)=0:=by simpa [refTab,e1] using h4
        rw [if_pos h5]
        simp -dsimp
        simp [fdI,fdC]
      · have h5:¬ (of≠[]∧sc.countP (tabOk of)=0):=by
          intro e;simp [refTab,e1,e.1,e.2] at h4
        rw [if_neg h5]
        simp -dsimp
        refine VIf.mk (fun h6=>?_) (fun h6=>?_)
        · have h7:sc.countP (hit of name)=0:=by have h6':=beq_iff_eq.1 h6;rw [e2] at h6';omega
          rw [if_pos h7]
          simp -dsimp
          simp [fdI,fdC]
        · have h7:¬ sc.countP (hit of name)=0:=by have h6':=beq_eq_false_iff_ne.1 h6;rw [e2] at h6';omega
          rw [if_neg h7]
          have h8:¬ idxI (hit of name) sc<0:=fun e=>h7 (idxI_lt.1 e)
          have h9:refAt sc of name sc.length=idxI (hit of name) sc:=by unfold refAt hitAt;rw [e2,if_neg h7,List.take_length]
          simp -dsimp [h9]
          simp [fdI,fdC]
          omega
end Go.Proofs.YtlphpbcafplnbaaGreat
