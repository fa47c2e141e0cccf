/- Contracts of functions of the seat, proved in a logic on data over the model (part E3). -/
import Derived.Test.YtlphpbcafplnbaaGreatB1
import Derived.Test.YtlphpbcafplnbaaGreatD2
import Derived.Test.YtlphpbcafplnbaaGreatVN17
set_option linter.unusedSimpArgs false
set_option linter.unusedVariables false
namespace Go.Proofs.YtlphpbcafplnbaaGreat
open Go.VL Go.RowKit
theorem compareR_at (na nb:Bool) (xs ys:List (List C)) (l m:List Val) (h1:xs=vals l) (h2:ys=vals m) (hl:l.length≤140737488355328) (hm:m.length≤140737488355328):Con Tryz.prog 59 [.c (.sl na xs),.c (.sl nb ys)] [.c (i64 (cmpR l m))]:=by
  subst h1 h2;exact compareR_spec na nb l m hl hm
abbrev srtFn (nc:Bool) (cs:List Int):S:=.c (.fn 57 [.dp [.sl nc (ints cs)]])
theorem cmpC_cons (c:Int) (r:List Int) (f g:Fact):cmpC (c::r) f g=if colC c f g=0 then cmpC r f g else colC c f g:=rfl
theorem colC_neg {c:Int} (h:c<0) (f g:Fact):colC c f g=cmpI f.p.f g.p.f:=by unfold colC;rw [if_pos h]
theorem colC_nat (n:Nat) (f g:Fact):colC (n:Int) f g=cmpR ((f.row.drop n).take 1) ((g.row.drop n).take 1):=by unfold colC;rw [if_neg (by omega)];rfl
theorem cut1 {l:List Val} (n:Nat):(l.take (n+1)).drop n=(l.drop n).take 1:=by rw [List.drop_take];congr 1;omega
theorem cut_nil {l:List Val} {n:Nat} (h:¬ n<l.length):(l.drop n).take 1=[]:=by rw [List.drop_eq_nil_of_le (by omega)];rfl
theorem cut_one {l:List Val} {n:Nat} (h:n<l.length):(l.drop n).take 1=[l[n]]:=by
  rw [List.drop_eq_getElem_cons h];rfl
set_option maxRecDepth 4000 in
set_option maxHeartbeats 16000000 in
theorem srt_spec (nc:Bool) (cs:List Int) (hcs:cs.length≤1000000000000) (f g:Fact) (hl:f.row.length≤140737488355328) (hm:g.row.length≤140737488355328) :
    Con Tryz.prog 57 [.agg f.cells,.agg g.cells,.c (.dp [.sl nc (ints cs)])] [.c (i64 (cmpC cs f g))]:=by
  refine spec_of Tryz.func57 rfl (by kernel_rfl) (by simp [Tryz.f57]) (fun w0 K0=>vc_ok _ _ _ (by kernel_rfl) ?_)
  simp only [Tryz.f57]
  simp -dsimp [Fact.cells]
  refine VL.loop (fun i:Nat=>⟨[(11,.c (i64 i)),(10,.c (i64 cs.length)),(9,.c (.sl nc (ints cs))),(3,.ptr 192 0),(4,.ptr 256 0)],[(192,some (.box false [.c (.sl f.nl (vals f.row)),.c (i64 f.p.f),.c (i64 f.p.t)])),(256,some (.box false [.c (.sl g.nl (vals g.row)),.c (i64 g.p.f),.c (i64 g.p.t)]))]⟩)
    (fun i=>i≤cs.length∧cmpC cs f g=cmpC (cs.drop i) f g) (fun i=>cs.length-i) 0 (by kernel_rfl) ⟨by omega,by simp⟩ (by simp [St.le]) ?_
  intro k ⟨hk,he⟩
  by_cases h1:k<cs.length
  · have hw:IntKind.i64.wrap ((k:Int)+1)=(k:Int)+1:=IntWalk.i64_in _ (by omega)
    have hdr:cs.drop k=cs[k]::cs.drop (k+1):=List.drop_eq_getElem_cons h1
    rw [hdr,cmpC_cons] at he
    have hcell:(ints cs)[k]'(by simpa [ints] using h1)=[i64 cs[k]]:=by simp [ints]
    have hlen:(ints cs).length=cs.length:=by simp [ints]
    generalize cs[k]=c at *
    by_cases hc:c<0
    · rw [colC_neg hc] at he
      have hc':decide (c<0)=true:=by simpa using hc
      simp -dsimp [h1,hcell,hlen,hc']
      refine VC.mk _ (compare_spec f.p.f g.p.f) ?_
      simp -dsimp
      refine VIf.mk (fun h=>?_) (fun h=>?_)
      · have h':¬ cmpI f.p.f g.p.f=0:=by simpa using h
        rw [if_neg h'] at he
        simp -dsimp [he]
      · have h':cmpI f.p.f g.p.f=0:=by simpa using h
        rw [if_pos h'] at he
        simp -dsimp [hw]
        exact ⟨k+1,⟨by omega,he⟩,by simp [St.le],by omega⟩
    · obtain ⟨n,rfl⟩:=Int.eq_ofNat_of_zero_le (by omega:0≤c)
      rw [colC_nat] at he
      have hc':decide ((n:Int)<0)=false:=by simp
      by_cases hf:n<f.row.length
      · by_cases hg:n<g.row.length
        · rw [cut_one hf,cut_one hg] at he
          have hwn:IntKind.i64.wrap ((n:Int)+1)=(n:Int)+1:=IntWalk.i64_in _ (by omega)
          simp -dsimp [h1,hcell,hlen,hc',hf,hg]
          refine VL.draw (by kernel_rfl) [(0,false),(1,false),(0,false),(0,false),(8,false),(31,false),(0,false),(64,false),(0,false),(0,false),(512,false),(1984,false),(4095,true),(8191,true)] (by kernel_rfl) ?_
          simp -dsimp [hwn,hf,hg]
          refine ⟨⟨by omega,by omega⟩,⟨by omega,by omega⟩,VC.mk _ (compareR_at f.nl g.nl _ _ [f.row[n]] [g.row[n]] ?_ ?_ (by simp) (by simp)) ?_⟩
          · rw [← List.map_take,← List.map_drop,cut1,cut_one hf]
          · rw [← List.map_take,← List.map_drop,cut1,cut_one hg]
          simp -dsimp
          refine VIf.mk (fun h=>?_) (fun h=>?_)
          · have h':¬ cmpR [f.row[n]] [g.row[n]]=0:=by simpa using h
            rw [if_neg h'] at he
            simp -dsimp [he]
          · have h':cmpR [f.row[n]] [g.row[n]]=0:=by simpa using h
            rw [if_pos h'] at he
            simp -dsimp [hw]
            exact ⟨k+1,⟨by omega,he⟩,by simp [St.le],by omega⟩
        · rw [cut_one hf,cut_nil hg] at he
          have he:cmpC cs f g=1:=he
          simp -dsimp [h1,hcell,hlen,hc',hf,hg]
          exact he.symm
      · by_cases hg:n<g.row.length
        · rw [cut_nil hf,cut_one hg] at he
          have he:cmpC cs f g = -1:=he
          simp -dsimp [h1,hcell,hlen,hc',hf,hg]
          exact he.symm
        · rw [cut_nil hf,cut_nil hg] at he
          have he:cmpC cs f g=cmpC (cs.drop (k+1)) f g:=he
          simp -dsimp [h1,hcell,hlen,hc',hf,hg,hw]
          exact ⟨k+1,⟨by omega,he⟩,by simp [St.le],by omega⟩
  · obtain rfl:k=cs.length:=by omega
    rw [List.drop_length] at he
    have he:cmpC cs f g=ordF f g:=he
    simp -dsimp
    refine VL.draw (by kernel_rfl) [(0,false),(1,false),(0,false),(4,false),(15,false),(0,false),(32,false),(96,false),(0,false),(256,false),(768,false),(2047,false),(0,false),(4096,false),(12288,false),(0,false),(32768,false),(98304,false),(262143,true),(524287,true),(1048575,true),(2097151,true)] (by kernel_rfl) ?_
    simp -dsimp
    refine VCE.mk _ (compareR_spec _ _ f.row g.row hl hm) ?_
    simp -dsimp
    refine VCE.mk _ (compare_spec f.p.f g.p.f) ?_
    simp -dsimp
    refine VC.mk _ (compare_spec f.p.t g.p.t) ?_
    simp -dsimp
    refine ⟨by decide,VCL.snap ?_⟩
    simp -dsimp
    refine VC.mk _ (or_at false _ (cmpR f.row g.row) (cmpI f.p.f g.p.f) (cmpI f.p.t g.p.t) rfl) ?_
    simp -dsimp [he]
    rfl
def keep (g:Nat→Bool) (l:List Fact):Nat→List Fact
  | 0=>[]
  | k+1=>keep g l k++(if g k then [] else match l[k]? with | some f=>[f] | none=>[])
def goneE (ended:List Int) (i:Nat):Bool:=ended.any fun e=>e == (i:Int)
structure Col where
  name:List UInt8
  kind:Int
def Col.cells (c:Col):List C:=[str c.name,i64 c.kind]
def keyc (k:List UInt8):List C:=[str k]
structure Tab where
  id:Int
  name:List UInt8
  nc:Bool
  cols:List Col
  nk:Bool
  keys:List (List UInt8)
  ix:Bool
def Tab.cells (t:Tab):List C:=[i64 t.id,str t.name,.sl t.nc (t.cols.map Col.cells),.sl t.nk (t.keys.map keyc),bln t.ix]
def kindsK (r:List Val) (c:List Col) (k:Nat):Prop:=∀ j,(h:j<r.length)→(h':j<c.length)→j<k→r[j].kind=c[j].kind
noncomputable instance (r:List Val) (c:List Col) (k:Nat):Decidable (kindsK r c k):=Classical.propDecidable _
def icell (k:Int):List C:=[i64 k]
theorem lapOk_eq (a b:Per):lapOk a b=(right a && (right b && (decide (a.f<b.t) && decide (b.f<a.t)))):=by
  rw [Bool.eq_iff_iff]
  unfold lapOk right lapP
  simp
  omega
def goneRow (n:Nat) (e:List Int):List (List C):=(List.range n).map fun i=>[bln (goneE e i)]
@[simp] theorem goneRow_len (n:Nat) (e:List Int):(goneRow n e).length=n:=by simp [goneRow]
@[simp] theorem goneRow_get (n:Nat) (e:List Int) (i:Nat) (h:i<(goneRow n e).length):(goneRow n e)[i]=[bln (goneE e i)]:=by simp [goneRow]
structure KI where
  k:Nat
  nl:Bool
  sz:Nat
def KI.Ok (i:KI) (row:List Fact):Prop:=i.nl=row.isEmpty∧i.sz=if i.nl then 0 else 3
abbrev rowV (x:Bool × List Val):List C:=[.sl x.1 (vals x.2)]
def catR (rows:List (Bool × List Val)):List Val:=rows.flatMap Prod.snd
theorem catR_snoc (rows:List (Bool × List Val)) {k:Nat} (h:k<rows.length):catR (rows.take (k+1))=catR (rows.take k)++rows[k].2:=by
  unfold catR;rw [take_snoc h,List.flatMap_append];simp
theorem catR_mono (rows:List (Bool × List Val)) (k:Nat):(catR (rows.take k)).length≤(catR rows).length:=by
  conv=>rhs;rw [← List.take_append_drop k rows]
  unfold catR
  rw [List.flatMap_append,List.length_append]
  omega
set_option maxRecDepth 4000 in
set_option maxHeartbeats 8000000 in
theorem bcopied_spec (nl:Bool) (rows:List (Bool × List Val)) (hl:rows.length≤2) (hR:(catR rows).length≤4398046511104) :
    Con Tryz.prog 109 [.c (.sl nl (rows.map rowV))] [.c (.sl (catR rows).isEmpty (vals (catR rows)))]:=by
  refine Con.frz (rs:=[.fr (catR rows).isEmpty (if rows.length=0 then 0 else 3) (vals (catR rows)) 0]) ?_ 0 rfl
  refine spec_of Tryz.func109 rfl (by kernel_rfl) (by simp [Tryz.f109]) (fun w0 K0=>vc_ok _ _ _ (by kernel_rfl) ?_)
  simp only [Tryz.f109]
  simp -dsimp
  refine VL.loop (fun i:KI=>⟨[(8,.c (i64 i.k)),(7,.c (i64 rows.length)),(6,.c (.sl nl (rows.map rowV))),(3,.own 192 (catR (rows.take i.k)).length)],[(192,some (.arr i.nl i.sz (vals (catR (rows.take i.k))) 0))]⟩)
    (fun i=>i.k≤rows.length∧i.nl=(catR (rows.take i.k)).isEmpty∧i.sz=if i.k=0 then 0 else 3) (fun i=>rows.length-i.k) ⟨0,true,0⟩ (by kernel_rfl) ⟨by simp,rfl,rfl⟩ (by simp [St.le,catR]) ?_
  intro ⟨k,z,sz⟩ ⟨hk,hz,hsz⟩
  simp only at hk hz hsz
  have hlen:=catR_mono rows (k+1)
  by_cases h1:k<rows.length
  · have hw:IntKind.i64.wrap ((k:Int)+1)=(k:Int)+1:=IntWalk.i64_in _ (by omega)
    have hsn:=catR_snoc rows h1
    have hsl:=congrArg List.length hsn
    rw [List.length_append] at hsl
    simp -dsimp [h1,hw,maxLen]
    refine ⟨fun e=>?_,by omega,⟨k+1,z && rows[k].2.isEmpty,3⟩,⟨by simp only;omega,?_,by simp⟩,?_,by simp only;omega⟩
    · rw [hsz,if_neg]
      rintro rfl
      rw [e] at hz
      simp [catR] at hz
    · simp only
      rw [hsn,hz]
      cases catR (rows.take k) <;> simp
    · simp [St.le,hsn]
  · obtain rfl:k=rows.length:=by omega
    rw [List.take_length] at hz ⊢
    simp -dsimp
    refine ⟨hz,?_⟩
    rw [hsz]
    cases rows <;> simp
def alikeR (r:List Val) (f:Fact):Bool:=decide (f.row=r)
def groupsL:List Fact→List (List Val × List Per)
  | []=>[]
  | f::l=>(f.row,f.p::(l.takeWhile (alikeR f.row)).map Fact.p)::groupsL (l.dropWhile (alikeR f.row))
termination_by l=>l.length
decreasing_by
  have:=(List.dropWhile_sublist (alikeR f.row) (l:=l)).length_le
  simp;omega
theorem groupsL_nil:groupsL []=[]:=by rw [groupsL]
theorem groupsL_cons (f:Fact) (l:List Fact):groupsL (f::l)=(f.row,f.p::(l.takeWhile (alikeR f.row)).map Fact.p)::groupsL (l.dropWhile (alikeR f.row)):=by rw [groupsL]
theorem mem_tw {α:Type} {p:α→Bool} {x:α} : ∀ {l:List α},x∈l.takeWhile p→p x=true
  | [],h=>by simp at h
  | y::l,h=>by
    rw [List.takeWhile_cons] at h
    split at h
    · rename_i hp
      rcases List.mem_cons.1 h with rfl | h
      · exact hp
      · exact mem_tw h
    · simp at h
def RowsUp (l:List Fact):Prop:=l.Pairwise fun f g=>cmpR f.row g.row≤0
theorem sortF_up (l:List Fact):RowsUp (sortF l):=by
  refine (sortF_sorted l).imp fun {f g} h=>?_
  simp only [ordF,lexC] at h
  split at h <;> omega
theorem groups_ok:∀ (n:Nat) (l:List Fact),l.length≤n→RowsUp l →
    (groupsL l).Pairwise (fun x y=>cmpR x.1 y.1<0)∧(∀ x∈groupsL l,x.2=(l.filter (alikeR x.1)).map Fact.p∧∃ f∈l,f.row=x.1)∧∀ f∈l,∃ x∈groupsL l,x.1=f.row
  | n,[],_,_=>by rw [groupsL_nil];simp
  | 0,f::l,h,_=>by simp at h
  | n+1,f::l,h,hu=>by
    obtain ⟨u1,u2⟩:=List.pairwise_cons.1 hu
    have hsub:=List.dropWhile_sublist (alikeR f.row) (l:=l)
    have hlen:=hsub.length_le
    obtain ⟨i1,i2,i3⟩:=groups_ok n (l.dropWhile (alikeR f.row)) (by simp at h;omega) (u2.sublist hsub)
    rw [groupsL_cons]
    have hlater:∀ g∈l.dropWhile (alikeR f.row),cmpR f.row g.row<0:=by
      intro g hg
      have key:∀ m:List Fact,(∀ g∈m,cmpR f.row g.row≤0)→RowsUp m→∀ g∈m.dropWhile (alikeR f.row),cmpR f.row g.row<0:=by
        intro m
        induction m with
        | nil=>intro _ _ g hg;simp at hg
        | cons x m ih =>
          intro hm hup g hg
          obtain ⟨p1,p2⟩:=List.pairwise_cons.1 hup
          rw [List.dropWhile_cons] at hg
          split at hg
          · exact ih (fun y hy=>hm y (by simp [hy])) p2 g hg
          · rename_i hx
            have hx':¬ cmpR f.row x.row=0:=by
              intro e;rw [cmpR_0] at e
              exact hx (by simp [alikeR,e])
            have h1:=hm x (by simp)
            rcases List.mem_cons.1 hg with rfl | hg
            · omega
            · exact Cmp.row.lt (b:=x.row) (by omega) (p1 g hg)
      exact key l u1 u2 g hg
    have hsplit:∀ r,cmpR f.row r<0→(f::l).filter (alikeR r)=(l.dropWhile (alikeR f.row)).filter (alikeR r):=by
      intro r hr
      have hne:f.row≠r:=by rintro rfl;rw [Cmp.row.self] at hr;omega
      conv=>lhs;rw [← List.takeWhile_append_dropWhile (p:=alikeR f.row) (l:=l)]
      rw [List.filter_cons,if_neg (by simp [alikeR,hne]),List.filter_append]
      have:(l.takeWhile (alikeR f.row)).filter (alikeR r)=[]:=by
        rw [List.filter_eq_nil_iff]
        intro x hx
        have:=mem_tw hx
        simp only [alikeR,decide_eq_true_eq] at this ⊢
        rw [this];exact hne
      rw [this,List.nil_append]
    have hself:(f::l).filter (alikeR f.row)=f::l.takeWhile (alikeR f.row):=by
      rw [List.filter_cons,if_pos (by simp [alikeR])]
      congr 1
      conv=>lhs;rw [← List.takeWhile_append_dropWhile (p:=alikeR f.row) (l:=l)]
      rw [List.filter_append]
      have e1:(l.takeWhile (alikeR f.row)).filter (alikeR f.row)=l.takeWhile (alikeR f.row):=by
        rw [List.filter_eq_self]
        intro x hx;exact mem_tw hx
      have e2:(l.dropWhile (alikeR f.row)).filter (alikeR f.row)=[]:=by
        rw [List.filter_eq_nil_iff]
        intro x hx
        have:=hlater x hx
        simp only [alikeR,decide_eq_true_eq]
        intro e;rw [e,Cmp.row.self] at this;omega
      rw [e1,e2,List.append_nil]
    refine ⟨?_,?_,?_⟩
    · rw [List.pairwise_cons]
      refine ⟨fun x hx=>?_,i1⟩
      obtain ⟨_,g,hg,e⟩:=i2 x hx
      rw [← e];exact hlater g hg
    · intro x hx
      rcases List.mem_cons.1 hx with rfl | hx
      · exact ⟨by rw [hself];rfl,f,by simp,rfl⟩
      · obtain ⟨j1,g,hg,e⟩:=i2 x hx
        refine ⟨?_,g,?_,e⟩
        · rw [hsplit x.1 (by rw [← e];exact hlater g hg)];exact j1
        · exact List.mem_cons_of_mem _ (hsub.subset hg)
    · intro g hg
      rcases List.mem_cons.1 hg with rfl | hg
      · exact ⟨_,List.mem_cons_self,rfl⟩
      · rw [← List.takeWhile_append_dropWhile (p:=alikeR f.row) (l:=l)] at hg
        rcases List.mem_append.1 hg with hg | hg
        · have:=mem_tw hg
          simp only [alikeR,decide_eq_true_eq] at this
          exact ⟨_,List.mem_cons_self,this.symm⟩
        · obtain ⟨x,hx,e⟩:=i3 g hg
          exact ⟨x,by simp [hx],e⟩
def cntP (ps:List Per) (t:Int):Nat:=(ps.filter fun p=>has p t).length
def stepsL (plus minus:List Per):List (Per × Int) :=
  (List.range ((edgesL (plus++minus)).length-1)).map fun i=>(⟨(edgesL (plus++minus))[i]!,(edgesL (plus++minus))[i+1]!⟩,(cntP plus (edgesL (plus++minus))[i]! : Int)-cntP minus (edgesL (plus++minus))[i]!)
def here (st:List (Per × Int)) (k:Nat):List Per:=(st.filter fun s=>decide ((k:Int)≤s.2)).map Prod.fst
def maxN (st:List (Per × Int)):Nat:=st.foldl (fun m s=>max m s.2.toNat) 0
def mkF (row:List Val) (p:Per):Fact:=⟨row.isEmpty,row,p⟩
structure Part where
  at_:Nat
  p:Per
  rests:List Fact
def Part.cells (x:Part):List C:=[i64 x.at_,i64 x.p.f,i64 x.p.t,.sl x.rests.isEmpty (facts x.rests)]
def partCs (l:List Part):List (List C):=l.map Part.cells
@[simp] theorem partCs_len (l:List Part):(partCs l).length=l.length:=by simp [partCs]
def rowC (r:List Val):List C:=[.sl false (vals r)]
def rowsC (rs:List (List Val)):List (List C):=rs.map rowC
@[simp] theorem rowsC_len (rs:List (List Val)):(rowsC rs).length=rs.length:=by simp [rowsC]
@[simp] theorem rowsC_get (rs:List (List Val)) (k:Nat) (h:k<(rowsC rs).length):(rowsC rs)[k]=[.sl false (vals (rs[k]'(by simpa using h)))]:=by simp [rowsC,rowC]
theorem rowsC_snoc (rs:List (List Val)) (r:List Val):rowsC (rs++[r])=rowsC rs++[[.sl false (vals r)]]:=by simp [rowsC,rowC]
def before (r x:List Val):Bool:=decide (cmpR r x<0)
def insR (r:List Val):List (List Val)→List (List Val)
  | []=>[r]
  | x::l=>if before r x then r::x::l else x::insR r l
theorem insR_perm (r:List Val):∀ l,(insR r l).Perm (r::l)
  | []=>List.Perm.refl _
  | x::l=>by
    rw [insR]
    split
    · exact List.Perm.refl _
    · exact ((insR_perm r l).cons x).trans (List.Perm.swap r x l)
theorem insR_len (r:List Val) (l:List (List Val)):(insR r l).length=l.length+1:=by rw [(insR_perm r l).length_eq];rfl
theorem insR_no (r:List Val):∀ (l m:List (List Val)),l.any (before r)=false→insR r (l++m)=l++insR r m
  | [],m,_=>rfl
  | x::l,m,h=>by
    simp only [List.any_cons,Bool.or_eq_false_iff] at h
    rw [List.cons_append,insR,h.1,insR_no r l m h.2];rfl
theorem insR_yes (r:List Val):∀ (l m:List (List Val)),l.any (before r)=true→insR r (l++m)=insR r l++m
  | [],m,h=>by simp at h
  | x::l,m,h=>by
    rw [List.cons_append,insR,insR]
    by_cases h1:before r x=true
    · rw [if_pos h1,if_pos h1];rfl
    · rw [if_neg h1,if_neg h1]
      have h2:l.any (before r)=true:=by simpa [h1] using h
      rw [insR_yes r l m h2];rfl
def insK (r:List Val) (rs:List (List Val)) (k:Nat):List (List Val):=if (rs.take k).any (before r) then insR r (rs.take k) else rs.take k
theorem insK_done {r:List Val} {rs:List (List Val)} {k:Nat} (h:k<rs.length) (hd:(rs.take k).any (before r)=true):(rs.take (k+1)).any (before r)=true∧insK r rs (k+1)=insK r rs k++[rs[k]]:=by
  have e:(rs.take (k+1)).any (before r)=true:=by rw [take_snoc h,List.any_append,hd];rfl
  refine ⟨e,?_⟩
  unfold insK
  rw [if_pos e,if_pos hd,take_snoc h,insR_yes r _ _ hd]
theorem insK_now {r:List Val} {rs:List (List Val)} {k:Nat} (h:k<rs.length) (hd:(rs.take k).any (before r)=false) (hb:before r rs[k]=true):(rs.take (k+1)).any (before r)=true∧insK r rs (k+1)=insK r rs k++[r]++[rs[k]]:=by
  have e:(rs.take (k+1)).any (before r)=true:=by rw [take_snoc h,List.any_append];simp [hb]
  refine ⟨e,?_⟩
  unfold insK
  rw [if_pos e,if_neg (by simp [hd]),take_snoc h,insR_no r _ _ hd,insR,if_pos hb]
  simp
theorem insK_not {r:List Val} {rs:List (List Val)} {k:Nat} (h:k<rs.length) (hd:(rs.take k).any (before r)=false) (hb:before r rs[k]=false):(rs.take (k+1)).any (before r)=false∧insK r rs (k+1)=insK r rs k++[rs[k]]:=by
  have e:(rs.take (k+1)).any (before r)=false:=by rw [take_snoc h,List.any_append,hd];simp [hb]
  refine ⟨e,?_⟩
  unfold insK
  rw [if_neg (by simp [e]),if_neg (by simp [hd]),take_snoc h]
theorem insK_len (r:List Val) (rs:List (List Val)) (k:Nat):(insK r rs k).length≤rs.length+1:=by
  unfold insK;split
  · rw [insR_len,List.length_take];omega
  · rw [List.length_take];omega
def RI (i:KI) (row:List (List Val)):Prop:=i.nl=row.isEmpty∧i.sz=if i.nl then 0 else 1
theorem RI.next {k:Nat} {row:List (List Val)} {f:List Val} : RI ⟨k,false,1⟩ (row++[f]):=⟨by cases row <;> rfl,rfl⟩
theorem insR_ne (r:List Val) (rs:List (List Val)):(insR r rs).isEmpty=false:=by
  have:=insR_len r rs
  cases hx:insR r rs with
  | nil=>rw [hx] at this;simp at this
  | cons=>rfl
def validAt (f:Fact) (t:Int):Bool:=right f.p && has f.p t
def rowsAt (l:List Fact) (t:Int):List (List Val):=l.foldl (fun acc f=>if validAt f t then insR f.row acc else acc) []
theorem rowsAt_snoc (l:List Fact) (t:Int) {k:Nat} (h:k<l.length):rowsAt (l.take (k+1)) t=if validAt l[k] t then insR l[k].row (rowsAt (l.take k) t) else rowsAt (l.take k) t:=by
  unfold rowsAt;rw [take_snoc h,List.foldl_append];rfl
theorem rowsAt_perm (l:List Fact) (t:Int):(rowsAt l t).Perm ((l.filter fun f=>validAt f t).map Fact.row):=by
  refine rev_ind (p:=fun l=>(rowsAt l t).Perm ((l.filter fun f=>validAt f t).map Fact.row)) ?_ ?_ l
  · exact List.Perm.refl _
  · intro l f ih
    unfold rowsAt at ih ⊢
    rw [List.foldl_append,List.filter_append,List.map_append]
    by_cases hv:validAt f t=true
    · simp only [List.foldl_cons,List.foldl_nil,hv,if_true,List.filter_cons,List.filter_nil,List.map_cons,List.map_nil]
      exact (insR_perm _ _).trans ((ih.cons _).trans (List.perm_append_singleton _ _).symm)
    · simp only [Bool.not_eq_true] at hv
      simp only [List.foldl_cons,List.foldl_nil,hv,List.filter_cons,List.filter_nil,List.map_nil,List.append_nil]
      simpa using ih
theorem rowsAt_len (l:List Fact) (t:Int):(rowsAt l t).length≤l.length:=by
  rw [(rowsAt_perm l t).length_eq,List.length_map];exact List.length_filter_le _ _
theorem rowsAt_mem {l:List Fact} {t:Int} {r:List Val} (h:r∈rowsAt l t):∃ f∈l,validAt f t=true∧f.row=r:=by
  have:=(rowsAt_perm l t).mem_iff.1 h
  obtain ⟨f,hf,e⟩:=List.mem_map.1 this
  obtain ⟨h1,h2⟩:=List.mem_filter.1 hf
  exact ⟨f,h1,h2,e⟩
end Go.Proofs.YtlphpbcafplnbaaGreat
