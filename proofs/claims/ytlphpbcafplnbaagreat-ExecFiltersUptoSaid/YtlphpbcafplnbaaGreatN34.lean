/- Contracts of functions of the seat, proved in a logic on data over the model (part N34). -/
import Derived.Test.YtlphpbcafplnbaaGreatN32
set_option linter.unusedSimpArgs false
set_option linter.unusedVariables false
namespace Go.Proofs.YtlphpbcafplnbaaGreat
open Go.VL Go.RowKit
abbrev fF:List Val→Bool:=fun _=>false
structure CD where
  f:Int
  t:Int
  nl:Bool
  rows:List (List Val)
instance:Inhabited CD:=⟨⟨0,0,true,[]⟩⟩
def CD.cells (c:CD):List C:=[i64 c.f,i64 c.t,.sl c.nl (rowsW fF c.rows)]
def seenS (seen:List (List Val)) (r:List Val):List (List Val):=if seen.count r=0 then seen++[r] else seen
def seenC (acc:List (List Val)) (rs:List (List Val)):List (List Val):=rs.foldl seenS acc
def seenL (cs:List CD):List (List Val):=cs.foldl (fun acc c=>seenC acc c.rows) []
theorem seenC_snoc (acc rs:List (List Val)) {k:Nat} (h:k<rs.length):seenC acc (rs.take (k+1))=seenS (seenC acc (rs.take k)) rs[k]:=by
  unfold seenC;rw [take_snoc h,List.foldl_append];rfl
theorem seenL_snoc (cs:List CD) {k:Nat} (h:k<cs.length):seenL (cs.take (k+1))=seenC (seenL (cs.take k)) cs[k].rows:=by
  unfold seenL;rw [take_snoc h,List.foldl_append];rfl
theorem seenS_len (s:List (List Val)) (r:List Val):s.length≤(seenS s r).length:=by unfold seenS;split <;> simp
theorem seenC_len:∀ (rs s:List (List Val)),s.length≤(seenC s rs).length
  | [],s=>Nat.le_refl _
  | r::rs,s=>Nat.le_trans (seenS_len s r) (seenC_len rs (seenS s r))
theorem seenC_mono (s rs:List (List Val)) (k:Nat):(seenC s (rs.take k)).length≤(seenC s rs).length:=by
  conv=>rhs;rw [← List.take_append_drop k rs]
  unfold seenC
  rw [List.foldl_append]
  exact seenC_len _ _
theorem seenF_len:∀ (ds:List CD) (s:List (List Val)),s.length≤(ds.foldl (fun acc c=>seenC acc c.rows) s).length
  | [],_=>Nat.le_refl _
  | c::ds,s=>Nat.le_trans (seenC_len c.rows s) (seenF_len ds _)
theorem seenL_mono (cs:List CD) (k:Nat):(seenL (cs.take k)).length≤(seenL cs).length:=by
  conv=>rhs;rw [← List.take_append_drop k cs]
  unfold seenL
  rw [List.foldl_append]
  exact seenF_len _ _
theorem seenC_mem:∀ (rs s:List (List Val)) (r:List Val),r∈seenC s rs→r∈s∨r∈rs
  | [],s,r,h=>.inl h
  | x::rs,s,r,h=>by
    rcases seenC_mem rs (seenS s x) r h with h | h
    · unfold seenS at h
      split at h
      · rcases List.mem_append.1 h with h | h
        · exact .inl h
        · simp at h;subst h;exact .inr (by simp)
      · exact .inl h
    · exact .inr (by simp [h])
theorem seenL_mem (cs:List CD):∀ r,r∈seenL cs→∃ c∈cs,r∈c.rows:=by
  refine rev_ind (p:=fun cs=>∀ r,r∈seenL cs→∃ c∈cs,r∈c.rows) ?_ ?_ cs
  · intro r h;simp [seenL] at h
  · intro l c ih r h
    have e:seenL (l++[c])=seenC (seenL l) c.rows:=by unfold seenL;rw [List.foldl_append];rfl
    rw [e] at h
    rcases seenC_mem _ _ r h with h | h
    · obtain ⟨c',h1,h2⟩:=ih r h
      exact ⟨c',by simp [h1],h2⟩
    · exact ⟨c,by simp,h⟩
def cntC (row:List Val) (c:CD):Nat:=c.rows.count row
def mostC (cs:List CD) (row:List Val):Nat:=cs.foldl (fun m c=>max m (cntC row c)) 0
theorem mostC_snoc (cs:List CD) (row:List Val) {k:Nat} (h:k<cs.length):mostC (cs.take (k+1)) row=max (mostC (cs.take k) row) (cntC row cs[k]):=by
  unfold mostC;rw [take_snoc h,List.foldl_append];rfl
def hereC (cs:List CD) (row:List Val) (k:Nat):List Per:=(cs.filter fun c=>decide (k≤cntC row c)).map fun c=>⟨c.f,c.t⟩
theorem most_le (cs:List CD) (row:List Val) (h:∀ c∈cs,c.rows.length≤4000000000000):mostC cs row≤4000000000000:=by
  unfold mostC
  have key:∀ (ds:List CD) (m:Nat),(∀ c∈ds,c.rows.length≤4000000000000)→m≤4000000000000→ds.foldl (fun m c=>max m (cntC row c)) m≤4000000000000:=by
    intro ds
    induction ds with
    | nil=>intro m _ hm;exact hm
    | cons c ds ih =>
      intro m hd hm
      have h1:=hd c (by simp)
      have h2:cntC row c≤c.rows.length:=List.count_le_length
      exact ih _ (fun d hd'=>hd d (by simp [hd'])) (by show max m (cntC row c)≤_;omega)
  exact key cs 0 h (by omega)
theorem hereC_snoc (cs:List CD) (row:List Val) (n:Nat) {k:Nat} (h:k<cs.length):hereC (cs.take (k+1)) row n=hereC (cs.take k) row n++if n≤cntC row cs[k] then [⟨cs[k].f,cs[k].t⟩] else []:=by
  unfold hereC
  rw [take_snoc h,List.filter_append,List.map_append]
  by_cases e:n≤cntC row cs[k] <;> simp [e]
theorem hereC_len (cs:List CD) (row:List Val) (n:Nat):(hereC cs row n).length≤cs.length:=by unfold hereC;rw [List.length_map];exact List.length_filter_le _ _
def plainF (row:List Val) (p:Per):Fact:=⟨false,row,p⟩
section
variable (sortP:List Per→List Per)
def layC (cs:List CD) (row:List Val) (N:Nat):List Fact:=(List.range N).flatMap fun k=>(unionL sortP (hereC cs row (k+1))).map (plainF row)
def outD (cs:List CD) (rows:List (List Val)):List Fact:=rows.flatMap fun r=>layC sortP cs r (mostC cs r)
def factsP (cs:List CD):List Fact:=outD sortP cs (seenL cs)
end
theorem layC_succ (sortP:List Per→List Per) (cs:List CD) (row:List Val) (N:Nat):layC sortP cs row (N+1)=layC sortP cs row N++(unionL sortP (hereC cs row (N+1))).map (plainF row):=by
  unfold layC;rw [List.range_succ,List.flatMap_append];simp
theorem layC_mono (sortP:List Per→List Per) (cs:List CD) (row:List Val) (N d:Nat):(layC sortP cs row N).length≤(layC sortP cs row (N+d)).length:=by
  induction d with
  | zero=>exact Nat.le_refl _
  | succ d ih=>rw [← Nat.add_assoc,layC_succ,List.length_append];omega
theorem outD_snoc (sortP:List Per→List Per) (cs:List CD) (rows:List (List Val)) {k:Nat} (h:k<rows.length):outD sortP cs (rows.take (k+1))=outD sortP cs (rows.take k)++layC sortP cs rows[k] (mostC cs rows[k]):=by
  unfold outD;rw [take_snoc h,List.flatMap_append];simp
theorem outD_mono (sortP:List Per→List Per) (cs:List CD) (rows:List (List Val)) (k:Nat):(outD sortP cs (rows.take k)).length≤(outD sortP cs rows).length:=by
  conv=>rhs;rw [← List.take_append_drop k rows]
  unfold outD
  rw [List.flatMap_append,List.length_append];omega
theorem outD_mem {sortP:List Per→List Per} {cs:List CD} {rows:List (List Val)} {f:Fact} (h:f∈outD sortP cs rows):f.nl=false∧f.row∈rows:=by
  unfold outD at h
  obtain ⟨r,hr,h⟩:=List.mem_flatMap.1 h
  unfold layC at h
  obtain ⟨k,_,h⟩:=List.mem_flatMap.1 h
  obtain ⟨p,_,rfl⟩:=List.mem_map.1 h
  exact ⟨rfl,hr⟩
def nRow (cs:List CD) (row:List Val) (i:Nat):List (List C):=(List.range cs.length).map fun j=>[i64 (if j<i then (cntC row cs[j]! : Int) else 0)]
@[simp] theorem nRow_len (cs:List CD) (row:List Val) (i:Nat):(nRow cs row i).length=cs.length:=by simp [nRow]
theorem nRow_0 (cs:List CD) (row:List Val):List.replicate cs.length [C.v (.int .i64 0)]=nRow cs row 0:=by
  refine List.ext_getElem (by simp) fun j h1 h2=>?_
  simp [nRow]
theorem nRow_el (cs:List CD) (row:List Val) (i j:Nat) (h:j<(nRow cs row i).length):(nRow cs row i)[j]=[i64 (if j<i then (cntC row (cs[j]'(by simpa using h)):Int) else 0)]:=by
  have h':j<cs.length:=by simpa using h
  simp only [nRow,List.getElem_map,List.getElem_range,getElem!_pos cs j h']
theorem nRow_set (cs:List CD) (row:List Val) {i:Nat} (h:i<cs.length):(nRow cs row i).set i [i64 (cntC row cs[i])]=nRow cs row (i+1):=by
  refine List.ext_getElem (by simp) fun j h1 h2=>?_
  rw [List.getElem_set,nRow_el cs row (i+1) j h2]
  by_cases e:i=j
  · subst e
    rw [if_pos rfl,if_pos (by omega)]
  · rw [if_neg e,nRow_el]
    by_cases e2:j<i
    · rw [if_pos e2,if_pos (by omega)]
    · rw [if_neg e2,if_neg (by omega)]
theorem nRow_get (cs:List CD) (row:List Val) (i:Nat) {j:Nat} (h:j<(nRow cs row i).length) (hj:j<i):(nRow cs row i)[j]=[i64 (cntC row (cs[j]'(by simpa using h)))]:=by
  have h':j<cs.length:=by simpa using h
  simp only [nRow,List.getElem_map,List.getElem_range,if_pos hj,getElem!_pos cs j h']
theorem number_plain (fl:List Val→Bool) (nl nr:Bool) (rs:List (List Val)) (r:List Val) (hl:rs.length≤140737488355328) (hr:∀ x∈rs,x.length≤140737488355328) :
    Con Tryz.prog 79 (.c (.sl nl (rowsW fl rs))::[C.sl nr (vals r)].map S.c) (plainRts [.int .i64 (rs.count r)]):=num13_spec fl nl nr rs r hl hr
theorem refUnion_frz {sortP:List Per→List Per} (hs:Sorts sortP) (nl:Bool) (l:List Per) (hl:l.length≤8796093022206) :
    Con Tryz.prog 80 [.c (.sl nl (l.map Per.cells))] [.c (.sl (unionL sortP l).isEmpty ((unionL sortP l).map Per.cells))]:=(refUnion_spec hs nl l hl).frz 0 rfl
set_option maxRecDepth 8000 in
set_option maxHeartbeats 64000000 in
theorem facts_spec {sortP:List Per→List Per} (hs:Sorts sortP) (nl:Bool) (cs:List CD) (hl:cs.length≤1000000000) (hc:∀ c∈cs,c.rows.length≤4000000000000∧∀ r∈c.rows,r.length≤4294967296)
    (hseen:(seenL cs).length≤4000000000000) (hout:(factsP sortP cs).length≤3518437208883) :
    Con Tryz.prog 51 [.c (.sl nl (cs.map CD.cells))] [.c (.sl (sortF (factsP sortP cs)).isEmpty (facts (sortF (factsP sortP cs))))]:=by
  refine spec_of Tryz.func51 rfl (by kernel_rfl) (by simp [Tryz.f51]) (fun w0 K0=>vc_ok _ _ _ (by kernel_rfl) ?_)
  simp only [Tryz.f51]
  have hsr:∀ r∈seenL cs,r.length≤4294967296:=fun r hr=>by
    obtain ⟨c,h1,h2⟩:=seenL_mem cs r hr
    exact (hc c h1).2 r h2
  simp -dsimp
  refine VL.loop (fun i:KI=>⟨[(4,.c (i64 i.k)),(3,.own 192 (seenL (cs.take i.k)).length),(0,.c (.sl nl (cs.map CD.cells)))],[(192,some (.arr i.nl i.sz (rowsW fF (seenL (cs.take i.k))) 0))]⟩)
    (fun i=>i.k≤cs.length∧RI i (seenL (cs.take i.k))) (fun i=>cs.length-i.k) ⟨0,true,0⟩ (by kernel_rfl) ⟨by simp,rfl,rfl⟩ (by simp [St.le,seenL,rowsW]) ?_
  intro ⟨k,z,sz⟩ ⟨hk,hz,hsz⟩
  simp only at hk hz hsz
  by_cases h1:k<cs.length
  · have hw:IntKind.i64.wrap ((k:Int)+1)=(k:Int)+1:=IntWalk.i64_in _ (by omega)
    have hsn:=seenL_snoc cs h1
    have hsm:=seenL_mono cs (k+1)
    rw [hsn] at hsm
    obtain ⟨hc1,hc2⟩:=hc _ (List.getElem_mem h1)
    have hpre:∀ r∈seenL (cs.take k),r.length≤4294967296:=fun r hr=>by
      obtain ⟨c,h1,h2⟩:=seenL_mem _ r hr
      exact (hc c (List.mem_of_mem_take h1)).2 r h2
    simp -dsimp [h1,CD.cells]
    generalize hP:seenL (cs.take k)=P at *
    refine VL.loop (fun j:KI=>⟨[(5,.c (i64 j.k)),(4,.c (i64 k)),(3,.own 192 (seenC P (cs[k].rows.take j.k)).length),(0,.c (.sl nl (cs.map CD.cells)))],[(192,some (.arr j.nl j.sz (rowsW fF (seenC P (cs[k].rows.take j.k))) 0))]⟩)
      (fun j=>j.k≤cs[k].rows.length∧RI j (seenC P (cs[k].rows.take j.k))) (fun j=>cs[k].rows.length-j.k) ⟨0,z,sz⟩ (by kernel_rfl) ⟨by simp,hz,hsz⟩ (by simp [St.le,seenC]) ?_
    intro ⟨j,y,sy⟩ ⟨hj,hy,hsy⟩
    simp only at hj hy hsy
    by_cases j1:j<cs[k].rows.length
    · have hwj:IntKind.i64.wrap ((j:Int)+1)=(j:Int)+1:=IntWalk.i64_in _ (by omega)
      have hsj:=seenC_snoc P cs[k].rows j1
      have hmj:=seenC_mono P cs[k].rows (j+1)
      have hmj0:=seenC_mono P cs[k].rows j
      have hpj:∀ r∈seenC P (cs[k].rows.take j),r.length≤140737488355328:=fun r hr=>by
        rcases seenC_mem _ _ r hr with h | h
        · have:=hpre r h;omega
        · have:=hc2 r (List.mem_of_mem_take h);omega
      simp -dsimp [h1,j1,CD.cells]
      have hno:=number_plain fF y false (seenC P (cs[k].rows.take j)) cs[k].rows[j] (by omega) hpj
      generalize hS:seenC P (cs[k].rows.take j)=S0 at *
      refine VCL.seen (cs:=[C.sl (fF cs[k].rows[j]) (vals cs[k].rows[j])]) y sy (rowsW fF S0) 0 _ (by kernel_rfl) hno (by simp) rfl ?_
      simp -dsimp [retS,renSs,renS,plainSs]
      refine VIf.mk (fun h=>?_) (fun h=>?_)
      · have h0:S0.count cs[k].rows[j]=0:=by simpa using h
        unfold seenS at hsj
        rw [if_pos h0] at hsj
        rw [hsj,List.length_append,List.length_singleton] at hmj
        simp -dsimp [h1,j1,hwj,maxLen,CD.cells]
        refine ⟨fun e=>by rw [hsy,e];rfl,by omega,⟨j+1,false,1⟩,⟨by simp only;omega,by rw [hsj];exact RI.next⟩,?_,by simp only;omega⟩
        simp [St.le,hsj,rowsW_snoc]
      · have h0:¬ S0.count cs[k].rows[j]=0:=by simpa using h
        unfold seenS at hsj
        rw [if_neg h0] at hsj
        simp -dsimp [hwj]
        refine ⟨⟨j+1,y,sy⟩,⟨by simp only;omega,by rw [hsj];exact ⟨hy,hsy⟩⟩,?_,by simp only;omega⟩
        simp [St.le,hsj]
    · obtain rfl:j=cs[k].rows.length:=by omega
      rw [List.take_length,← hsn] at *
      simp -dsimp [h1,hw,CD.cells]
      refine ⟨⟨k+1,y,sy⟩,⟨by simp only;omega,hy,hsy⟩,?_,by simp only;omega⟩
      simp [St.le]
  · obtain rfl:k=cs.length:=by omega
    rw [List.take_length] at *
    unfold factsP at hout ⊢
    have hsz0:z=(seenL cs).isEmpty:=hz
    clear hz
    generalize seenL cs=R at *
    simp -dsimp
    refine VL.loop (fun i:KI=>⟨[(7,.c (i64 i.k)),(6,.own 384 (outD sortP cs (R.take i.k)).length),(3,.own 192 R.length),(0,.c (.sl nl (cs.map CD.cells)))],
        [(384,some (.arr i.nl i.sz (facts (outD sortP cs (R.take i.k))) 0)),(192,some (.arr z sz (rowsW fF R) 0))]⟩)
      (fun i=>i.k≤R.length∧i.nl=(outD sortP cs (R.take i.k)).isEmpty∧i.sz=if i.nl then 0 else 3) (fun i=>R.length-i.k) ⟨0,true,0⟩ (by kernel_rfl) ⟨by simp,rfl,rfl⟩ (by simp [St.le,outD]) ?_
    intro ⟨s,y,sy⟩ ⟨hs0,hy,hsy⟩
    simp only at hs0 hy hsy
    by_cases s1:s<R.length
    · have hw:IntKind.i64.wrap ((s:Int)+1)=(s:Int)+1:=IntWalk.i64_in _ (by omega)
      have hzf:z=false:=by rw [hsz0];cases R with | nil=>simp at s1 | cons=>rfl
      have hsz1:sz=1:=by rw [hsz,hzf];rfl
      subst hzf
      subst hsz1
      have hsn:=outD_snoc sortP cs R s1
      have hmo:=outD_mono sortP cs R (s+1)
      have hrs:=hsr _ (List.getElem_mem s1)
      rw [hsn,List.length_append] at hmo
      generalize hOP:outD sortP cs (R.take s)=P at *
      simp -dsimp [s1]
      refine ⟨by omega,?_⟩
      refine VL.loop (fun i:Nat=>⟨[(10,.c (i64 i)),(9,.c (i64 (mostC (cs.take i) R[s]))),(8,.own 3968 cs.length),(7,.c (i64 s)),(6,.own 384 P.length),(3,.own 192 R.length),(0,.c (.sl nl (cs.map CD.cells)))],
          [(3968,some (.arr false 1 (nRow cs R[s] i) 0)),(384,some (.arr y sy (facts P) 0)),(192,some (.arr false 1 (rowsW fF R) 0))]⟩)
        (fun i=>i≤cs.length) (fun i=>cs.length-i) 0 (by kernel_rfl) (by simp) (by simp [St.le,mostC];exact nRow_0 cs R[s]) ?_
      intro i hi
      by_cases i1:i<cs.length
      · have hwi:IntKind.i64.wrap ((i:Int)+1)=(i:Int)+1:=IntWalk.i64_in _ (by omega)
        have hms:=mostC_snoc cs R[s] i1
        obtain ⟨hc1,hc2⟩:=hc _ (List.getElem_mem i1)
        simp -dsimp [i1,s1]
        refine VL.draw (by kernel_rfl) [(0,false),(0,false),(0,false),(0,false),(12,false),(28,false),(60,false),(0,false),(0,false),(384,false),(896,false),(2044,false),(4095,true),(8191,true)] (by kernel_rfl) ?_
        simp -dsimp [i1,s1,CD.cells]
        refine VCE.mk _ (num13_spec fF cs[i].nl (fF R[s]) cs[i].rows R[s] (by omega) (fun r hr=>by have:=hc2 r hr;omega)) ?_
        have hset:=nRow_set cs R[s] i1
        have hget:=nRow_get cs R[s] (i+1) (j:=i) (by simpa using i1) (by omega)
        have hcn:cs[i].rows.count R[s]=cntC R[s] cs[i]:=rfl
        rw [hcn]
        simp -dsimp [i1,hset,hget]
        refine VIf.mk (fun h=>?_) (fun h=>?_)
        · rw [decide_eq_true_eq] at h
          rw [Nat.max_eq_right (by omega)] at hms
          simp -dsimp [i1,hget,hwi]
          refine ⟨i+1,by omega,?_,by omega⟩
          simp [St.le,hms]
          rw [nRow_el]
          exact hset
        · rw [decide_eq_false_iff_not] at h
          rw [Nat.max_eq_left (by omega)] at hms
          simp -dsimp [hwi]
          refine ⟨i+1,by omega,?_,by omega⟩
          simp [St.le,hms]
          rw [nRow_el]
          exact hset
      · obtain rfl:i=cs.length:=by omega
        rw [List.take_length]
        simp -dsimp
        refine VL.loop (fun q:KI=>⟨[(11,.c (i64 ((q.k:Int)+1))),(9,.c (i64 (mostC cs R[s]))),(8,.own 3968 cs.length),(7,.c (i64 s)),(6,.own 384 (P++layC sortP cs R[s] q.k).length),(3,.own 192 R.length),(0,.c (.sl nl (cs.map CD.cells)))],
            [(3968,some (.arr false 1 (nRow cs R[s] cs.length) 0)),(384,some (.arr q.nl q.sz (facts (P++layC sortP cs R[s] q.k)) 0)),(192,some (.arr false 1 (rowsW fF R) 0))]⟩)
          (fun q=>q.k≤mostC cs R[s]∧q.nl=(P++layC sortP cs R[s] q.k).isEmpty∧q.sz=if q.nl then 0 else 3) (fun q=>mostC cs R[s] - q.k) ⟨0,y,sy⟩ (by kernel_rfl) ⟨by simp,by simpa [layC] using hy,hsy⟩ (by simp [St.le,layC]) ?_
        intro ⟨q,x,sx⟩ ⟨hq,hx,hsx⟩
        simp only at hq hx hsx
        by_cases q1:q<mostC cs R[s]
        · have hq1:((q:Int)+1≤(mostC cs R[s]:Nat))=True:=eq_true (by omega)
          have hmb:=most_le cs R[s] fun c hc'=>(hc c hc').1
          have hwq:IntKind.i64.wrap ((q:Int)+1+1)=(q:Int)+1+1:=IntWalk.i64_in _ (by omega)
          have hly:=layC_succ sortP cs R[s] q
          have hlm:(layC sortP cs R[s] (q+1)).length≤(layC sortP cs R[s] (mostC cs R[s])).length:=by
            have:=layC_mono sortP cs R[s] (q+1) (mostC cs R[s] - (q+1))
            rwa [show q+1+(mostC cs R[s] - (q+1))=mostC cs R[s] by omega] at this
          rw [hly,List.length_append,List.length_map] at hlm
          generalize hL0:layC sortP cs R[s] q=L0 at *
          simp -dsimp [hq1]
          refine VL.loop (fun i:KI=>⟨[(13,.c (i64 i.k)),(12,.own 768 (hereC (cs.take i.k) R[s] (q+1)).length),(11,.c (i64 ((q:Int)+1))),(9,.c (i64 (mostC cs R[s]))),(8,.own 3968 cs.length),(7,.c (i64 s)),(6,.own 384 (P++L0).length),(3,.own 192 R.length),(0,.c (.sl nl (cs.map CD.cells)))],
              [(768,some (.arr i.nl i.sz ((hereC (cs.take i.k) R[s] (q+1)).map Per.cells) 0)),(3968,some (.arr false 1 (nRow cs R[s] cs.length) 0)),(384,some (.arr x sx (facts (P++L0)) 0)),(192,some (.arr false 1 (rowsW fF R) 0))]⟩)
            (fun i=>i.k≤cs.length∧i.nl=(hereC (cs.take i.k) R[s] (q+1)).isEmpty∧i.sz=if i.nl then 0 else 2) (fun i=>cs.length-i.k) ⟨0,true,0⟩ (by kernel_rfl) ⟨by simp,rfl,rfl⟩ (by simp [St.le,hereC]) ?_
          intro ⟨i,v,sv⟩ ⟨hi,hv,hsv⟩
          simp only at hi hv hsv
          by_cases i1:i<cs.length
          · have hwi:IntKind.i64.wrap ((i:Int)+1)=(i:Int)+1:=IntWalk.i64_in _ (by omega)
            have hsi:=hereC_snoc cs R[s] (q+1) i1
            have hle:=hereC_len (cs.take i) R[s] (q+1)
            rw [List.length_take] at hle
            have hget:=nRow_get cs R[s] cs.length (j:=i) (by simpa using i1) i1
            simp -dsimp [i1,hget]
            refine VIf.mk (fun h=>?_) (fun h=>?_)
            · rw [decide_eq_true_eq] at h
              rw [if_pos (by omega)] at hsi
              simp -dsimp
              refine VL.draw (by kernel_rfl) [(0,false),(0,false),(0,false),(6,false),(14,false),(30,false),(0,false),(0,false),(192,false),(448,false),(960,false),(2046,false),(4094,false),(8191,true),(16383,true)] (by kernel_rfl) ?_
              simp -dsimp [i1,hwi,maxLen,CD.cells]
              refine ⟨fun e=>by rw [hsv,e];rfl,by omega,⟨i+1,false,2⟩,⟨by simp only;omega,by rw [hsi];simp,rfl⟩,?_,by simp only;omega⟩
              simp [St.le,hsi,Per.cells]
            · rw [decide_eq_false_iff_not] at h
              rw [if_neg (by omega),List.append_nil] at hsi
              simp -dsimp [hwi]
              refine ⟨⟨i+1,v,sv⟩,⟨by simp only;omega,by rw [hsi];exact hv,hsv⟩,?_,by simp only;omega⟩
              simp [St.le,hsi]
          · obtain rfl:i=cs.length:=by omega
            rw [List.take_length] at *
            have hhl:=hereC_len cs R[s] (q+1)
            have hun:=refUnion_frz hs v (hereC cs R[s] (q+1)) (by omega)
            generalize hereC cs R[s] (q+1)=H0 at *
            generalize unionL sortP H0=U at *
            simp -dsimp
            refine VCL.snap ?_
            simp -dsimp
            refine VC.mk _ hun ?_
            simp -dsimp
            refine VL.loop (fun u:KI=>⟨[(15,.c (i64 u.k)),(14,.c (.sl U.isEmpty (U.map Per.cells))),(11,.c (i64 ((q:Int)+1))),(9,.c (i64 (mostC cs R[s]))),(8,.own 3968 cs.length),(7,.c (i64 s)),(6,.own 384 (P++L0++(U.take u.k).map (plainF R[s])).length),(3,.own 192 R.length),(0,.c (.sl nl (cs.map CD.cells)))],
                [(3968,some (.arr false 1 (nRow cs R[s] cs.length) 0)),(384,some (.arr u.nl u.sz (facts (P++L0++(U.take u.k).map (plainF R[s]))) 0)),(192,some (.arr false 1 (rowsW fF R) 0))]⟩)
              (fun u=>u.k≤U.length∧u.nl=(P++L0++(U.take u.k).map (plainF R[s])).isEmpty∧u.sz=if u.nl then 0 else 3) (fun u=>U.length-u.k) ⟨0,x,sx⟩ (by kernel_rfl) ⟨by simp,by simpa using hx,hsx⟩ (by simp [St.le]) ?_
            intro ⟨u,o,so⟩ ⟨hu,ho,hso⟩
            simp only at hu ho hso
            by_cases u1:u<U.length
            · have hwu:IntKind.i64.wrap ((u:Int)+1)=(u:Int)+1:=IntWalk.i64_in _ (by omega)
              have hsu:P++L0++(U.take (u+1)).map (plainF R[s])=P++L0++(U.take u).map (plainF R[s])++[plainF R[s] U[u]]:=by
                rw [take_snoc u1,List.map_append,List.append_assoc,List.append_assoc,List.append_assoc];rfl
              have hlu:(P++L0++(U.take u).map (plainF R[s])).length=P.length+L0.length+u:=by simp;omega
              generalize hQ:P++L0++(U.take u).map (plainF R[s])=Q at *
              have hsc:=congrArg (List.map Fact.cells) hsu
              rw [List.map_append,List.map_append,List.map_append,List.map_map,List.map_take,List.append_assoc] at hsc
              have hsc2:=hsu
              rw [List.map_take,List.append_assoc] at hsc2
              simp -dsimp [u1]
              refine VL.draw (by kernel_rfl) [(0,false),(0,false),(0,false),(6,false),(14,false),(30,false),(0,false),(0,false),(192,false),(448,false),(1022,false),(2046,false),(4095,true),(8191,true)] (by kernel_rfl) ?_
              simp -dsimp [u1,s1]
              refine VCE.mk _ (copy_frz (fF R[s]) R[s] (Nat.le_trans hrs (by decide))) ?_
              simp -dsimp [u1,hwu,maxLen]
              refine ⟨fun e=>by rw [hso,e];rfl,by omega,⟨u+1,false,3⟩,⟨by simp only;omega,by rw [hsc2];simp,rfl⟩,?_,by simp only;omega⟩
              simp [St.le]
              exact ⟨by omega,by rw [hsc];rfl⟩
            · obtain rfl:u=U.length:=by omega
              rw [List.take_length] at *
              simp -dsimp [hwq]
              refine ⟨⟨q+1,o,so⟩,⟨by simp only;omega,by rw [hly,← List.append_assoc];exact ho,hso⟩,?_,by simp only;omega⟩
              simp [St.le,hly,Function.comp]
        · obtain rfl:q=mostC cs R[s]:=by omega
          have hq1:(((mostC cs R[s]:Nat):Int)+1≤(mostC cs R[s]:Nat))=False:=eq_false (by omega)
          rw [← hsn] at *
          simp -dsimp [hq1,hw]
          refine ⟨⟨s+1,x,sx⟩,⟨by simp only;omega,hx,hsx⟩,?_,by simp only;omega⟩
          simp [St.le]
    · obtain rfl:s=R.length:=by omega
      rw [List.take_length] at *
      have hpl:Plain (outD sortP cs R):=fun f hf=>(outD_mem hf).1
      have hro:Rows1 (outD sortP cs R):=fun f hf=>hsr _ (outD_mem hf).2
      have hso:=sorted_spec y (outD sortP cs R) hout hro hpl
      have hsl:=sortF_len (outD sortP cs R)
      have hfl:(if (outD sortP cs R).length<2 then y else false)=(sortF (outD sortP cs R)).isEmpty:=by
        rw [hy]
        generalize hO:outD sortP cs R=O at *
        match O with
        | []=>rw [List.length_nil] at hsl;rw [List.length_eq_zero_iff.1 hsl];rfl
        | f::l =>
          have hne:(sortF (f::l)).isEmpty=false:=by
            rw [List.isEmpty_eq_false_iff];intro e;rw [e] at hsl;simp at hsl
          rw [hne];simp
      rw [hfl] at hso
      generalize outD sortP cs R=O at *
      simp -dsimp
      refine VCL.snap ?_
      simp -dsimp
      refine VC.mk _ hso ?_
      simp -dsimp
theorem insR_up (r:List Val):∀ (l:List (List Val)),RUp l→RUp (insR r l)
  | [],_=>by simp [insR]
  | x::l,h=>by
    obtain ⟨h1,h2⟩:=List.pairwise_cons.1 h
    rw [insR]
    split
    · rename_i hb
      have hb:cmpR r x<0:=of_decide_eq_true hb
      refine List.pairwise_cons.2 ⟨fun y hy=>?_,h⟩
      rcases List.mem_cons.1 hy with rfl | hy
      · omega
      · exact Cmp.row.trans r x y (by omega) (h1 y hy)
    · rename_i hb
      have hb:¬ cmpR r x<0:=fun e=>hb (decide_eq_true e)
      refine List.pairwise_cons.2 ⟨fun y hy=>?_,insR_up r l h2⟩
      rcases List.mem_cons.1 ((insR_perm r l).mem_iff.1 hy) with rfl | hy
      · have:=Cmp.row.anti x y
        omega
      · exact h1 y hy
def putAll (l rs:List (List Val)):List (List Val):=rs.foldl (fun acc r=>insR r acc) l
theorem putAll_up:∀ (rs l:List (List Val)),RUp l→RUp (putAll l rs)
  | [],l,h=>h
  | r::rs,l,h=>putAll_up rs (insR r l) (insR_up r l h)
theorem putAll_perm:∀ (rs l:List (List Val)),(putAll l rs).Perm (rs++l)
  | [],l=>.refl _
  | r::rs,l=>(putAll_perm rs (insR r l)).trans ((List.Perm.append_left rs (insR_perm r l)).trans List.perm_middle)
def cellsOf (E:List Int) (NL:Nat→Bool) (G:Nat→List (List Val)):List CD:=(List.range (E.length-1)).map fun i=>⟨E[i]!,E[i+1]!,NL i,G i⟩
@[simp] theorem cellsOf_len (E:List Int) (NL:Nat→Bool) (G:Nat→List (List Val)):(cellsOf E NL G).length=E.length-1:=by simp [cellsOf]
def rowsIn (E:List Int) (G:Nat→List (List Val)) (t:Int):List (List Val) :=
  match (List.range (E.length-1)).find? fun i=>decide (E[i]! ≤ t) && decide (t<E[i+1]!) with
  | some i=>G i
  | none=>[]
theorem rowsIn_some {E:List Int} (hE:Rise E) {G:Nat→List (List Val)} {t:Int} {i:Nat} (hi:i+1<E.length) (h1:E[i]! ≤ t) (h2:t<E[i+1]!):rowsIn E G t=G i:=by
  unfold rowsIn
  split
  · rename_i j hj
    have h:=List.find?_some hj
    have hm:=List.mem_range.1 (List.mem_of_find?_eq_some hj)
    rw [Bool.and_eq_true,decide_eq_true_eq,decide_eq_true_eq] at h
    have:i=j:=by
      rcases Nat.lt_trichotomy i j with e | e | e
      · have:=rise_le hE (show i+1≤j by omega) (by omega);omega
      · exact e
      · have:=rise_le hE (show j+1≤i by omega) (by omega);omega
    rw [this]
  · rename_i hn
    have:=List.find?_eq_none.1 hn i (List.mem_range.2 (by omega))
    exfalso;apply this
    rw [Bool.and_eq_true,decide_eq_true_eq,decide_eq_true_eq];exact ⟨h1,h2⟩
theorem rowsIn_none {E:List Int} {G:Nat→List (List Val)} {t:Int} (h:∀ i,i+1<E.length→¬ (E[i]! ≤ t∧t<E[i+1]!)):rowsIn E G t=[]:=by
  unfold rowsIn
  split
  · rename_i j hj
    have h':=List.find?_some hj
    have hm:=List.mem_range.1 (List.mem_of_find?_eq_some hj)
    rw [Bool.and_eq_true,decide_eq_true_eq,decide_eq_true_eq] at h'
    exact absurd h' (h j (by omega))
  · rfl
theorem seenS_nodup {s:List (List Val)} (h:s.Nodup) (r:List Val):(seenS s r).Nodup:=by
  unfold seenS
  split
  · rename_i h0
    rw [List.nodup_append]
    refine ⟨h,by simp,fun a ha b hb=>?_⟩
    simp at hb
    subst hb
    intro e
    subst e
    exact List.count_eq_zero.1 h0 ha
  · exact h
theorem seenC_nodup:∀ (rs s:List (List Val)),s.Nodup→(seenC s rs).Nodup
  | [],s,h=>h
  | r::rs,s,h=>seenC_nodup rs (seenS s r) (seenS_nodup h r)
theorem seenL_nodup (cs:List CD):(seenL cs).Nodup:=by
  refine rev_ind (p:=fun cs=>(seenL cs).Nodup) ?_ ?_ cs
  · simp [seenL]
  · intro l c ih
    have e:seenL (l++[c])=seenC (seenL l) c.rows:=by unfold seenL;rw [List.foldl_append];rfl
    rw [e];exact seenC_nodup _ _ ih
theorem seenS_sub {s:List (List Val)} {r x:List Val} (h:x∈s):x∈seenS s r:=by unfold seenS;split <;> simp [h]
theorem seenS_self (s:List (List Val)) (r:List Val):r∈seenS s r:=by
  unfold seenS
  split
  · simp
  · rename_i h;exact List.count_pos_iff.1 (Nat.pos_of_ne_zero h)
theorem seenC_sub:∀ (rs:List (List Val)) {s:List (List Val)} {x:List Val},x∈s→x∈seenC s rs
  | [],_,_,h=>h
  | r::rs,_,_,h=>seenC_sub rs (seenS_sub h)
theorem seenC_in:∀ (rs s:List (List Val)) {x:List Val},x∈rs→x∈seenC s rs
  | r::rs,s,x,h=>by
    rcases List.mem_cons.1 h with rfl | h
    · exact seenC_sub rs (seenS_self s x)
    · exact seenC_in rs (seenS s r) h
theorem seenL_in (cs:List CD):∀ c∈cs,∀ r∈c.rows,r∈seenL cs:=by
  refine rev_ind (p:=fun cs=>∀ c∈cs,∀ r∈c.rows,r∈seenL cs) ?_ ?_ cs
  · intro c h;simp at h
  · intro l d ih c hc r hr
    have e:seenL (l++[d])=seenC (seenL l) d.rows:=by unfold seenL;rw [List.foldl_append];rfl
    rw [e]
    rcases List.mem_append.1 hc with h | h
    · exact seenC_sub _ (ih c h r hr)
    · simp at h;subst h;exact seenC_in _ _ hr
theorem nodup_len {α:Type} [DecidableEq α]:∀ {l m:List α},l.Nodup→(∀ x∈l,x∈m)→l.length≤m.length
  | [],_,_,_=>Nat.zero_le _
  | x::l,m,hn,h=>by
    obtain ⟨h1,h2⟩:=List.nodup_cons.1 hn
    have hx:=h x (by simp)
    have:=nodup_len (m:=m.erase x) h2 fun y hy=>by
      have hne:y≠x:=fun e=>h1 (e ▸ hy)
      exact (List.mem_erase_of_ne hne).2 (h y (by simp [hy]))
    rw [List.length_erase_of_mem hx] at this
    have hp:0<m.length:=List.length_pos_of_mem hx
    rw [List.length_cons];omega
def stC (cs:List CD) (r:List Val):List (Per × Int):=cs.map fun c=>(⟨c.f,c.t⟩,(cntC r c:Int))
theorem here_stC (cs:List CD) (r:List Val) (k:Nat):here (stC cs r) k=hereC cs r k:=by
  unfold here stC hereC
  rw [List.filter_map,List.map_map]
  congr 1
  refine List.filter_congr fun c _=>?_
  simp only [Function.comp]
  refine decide_eq_decide.2 ?_
  omega
theorem maxN_stC (cs:List CD) (r:List Val):maxN (stC cs r)=mostC cs r:=by
  unfold maxN stC mostC
  rw [List.foldl_map]
  congr 1
theorem layC_norm (sortP:List Per→List Per) (cs:List CD) (r:List Val):(layC sortP cs r (mostC cs r)).map norm=layersL sortP r (stC cs r):=by
  unfold layC layersL layersN
  rw [maxN_stC,List.map_flatMap]
  refine fm_congr fun k _=>?_
  rw [here_stC,List.map_map]
  rfl
theorem strips_norm (l:List Fact):strips (l.map norm)=strips l:=by unfold strips;rw [List.map_map];rfl
theorem stepsC {E:List Int} (hE:Rise E) (hr:∀ i,i+1<E.length→right ⟨E[i]!,E[i+1]!⟩=true) (NL:Nat→Bool) (G:Nat→List (List Val)) (r:List Val):StepsOf (stC (cellsOf E NL G) r) fun t=>((rowsIn E G t).count r:Int):=by
  refine ⟨fun t k hk=>?_⟩
  rw [here_stC,Bool.eq_iff_iff,decide_eq_true_eq]
  unfold someP hereC cellsOf
  rw [List.any_eq_true]
  constructor
  · rintro ⟨p,hp,hv⟩
    obtain ⟨c,hc,rfl⟩:=List.mem_map.1 hp
    obtain ⟨hc,hk2⟩:=List.mem_filter.1 hc
    obtain ⟨i,hi,rfl⟩:=List.mem_map.1 hc
    have hi:=List.mem_range.1 hi
    rw [Bool.and_eq_true,has_iff] at hv
    rw [rowsIn_some hE (by omega) hv.2.1 hv.2.2]
    have:=of_decide_eq_true hk2
    simp only [cntC] at this
    omega
  · intro h
    by_cases he:∃ i,i+1<E.length∧E[i]! ≤ t∧t<E[i+1]!
    · obtain ⟨i,hi,h1,h2⟩:=he
      rw [rowsIn_some hE hi h1 h2] at h
      refine ⟨⟨E[i]!,E[i+1]!⟩,List.mem_map.2 ⟨⟨E[i]!,E[i+1]!,NL i,G i⟩,List.mem_filter.2 ⟨List.mem_map.2 ⟨i,List.mem_range.2 (by omega),rfl⟩,?_⟩,rfl⟩,?_⟩
      · show decide (k≤(G i).count r)=true
        rw [decide_eq_true_eq];omega
      · rw [Bool.and_eq_true,has_iff];exact ⟨hr i hi,h1,h2⟩
    · rw [rowsIn_none fun i hi h=>he ⟨i,hi,h.1,h.2⟩] at h
      simp at h
      omega
theorem put_rsort {s:List (List Val)} (h:s.Nodup):RSort (putAll [] s):=by
  have hu:=putAll_up s [] (by simp)
  have hn:(putAll [] s).Nodup:=((putAll_perm s []).nodup_iff).2 (by simpa using h)
  have key:∀ l:List (List Val),RUp l→l.Nodup→RSort l:=by
    intro l
    induction l with
    | nil=>intro _ _;simp [RSort]
    | cons x l ih =>
      intro hu hn
      obtain ⟨a1,a2⟩:=List.pairwise_cons.1 hu
      obtain ⟨b1,b2⟩:=List.nodup_cons.1 hn
      refine List.pairwise_cons.2 ⟨fun y hy=>?_,ih a2 b2⟩
      rcases Int.lt_or_eq_of_le (a1 y hy) with h | h
      · exact h
      · exact absurd ((cmpR_0 x y).1 h ▸ hy) b1
  exact key _ hu hn
section
variable {sortP:List Per→List Per}
def refF (sortP:List Per→List Per) (E:List Int) (NL:Nat→Bool) (G:Nat→List (List Val)):List Fact:=sortF (factsP sortP (cellsOf E NL G))
theorem ref_form {E:List Int} (hE:Rise E) (hr:∀ i,i+1<E.length→right ⟨E[i]!,E[i+1]!⟩=true) (NL:Nat→Bool) (G:Nat→List (List Val)) :
    IsForm sortP ((refF sortP E NL G).map norm) (putAll [] (seenL (cellsOf E NL G))) (stC (cellsOf E NL G)) fun r t=>((rowsIn E G t).count r:Int):=by
  refine ⟨put_rsort (seenL_nodup _),fun r _=>stepsC hE hr NL G r,?_⟩
  unfold refF formL
  have hp:((sortF (factsP sortP (cellsOf E NL G))).map norm).Perm ((putAll [] (seenL (cellsOf E NL G))).flatMap fun r=>layersL sortP r (stC (cellsOf E NL G) r)):=by
    refine ((sortF_perm _).map norm).trans ?_
    unfold factsP outD
    rw [List.map_flatMap]
    have e:((seenL (cellsOf E NL G)).flatMap fun r=>(layC sortP (cellsOf E NL G) r (mostC (cellsOf E NL G) r)).map norm)=(seenL (cellsOf E NL G)).flatMap fun r=>layersL sortP r (stC (cellsOf E NL G) r):=fm_congr fun r _=>layC_norm sortP _ r
    rw [e]
    have:=(putAll_perm (seenL (cellsOf E NL G)) []).symm
    rw [List.append_nil] at this
    exact List.Perm.flatMap_right _ this
  refine sortF_uniq (fun f hf=>?_) hp ?_
  · obtain ⟨g,_,rfl⟩:=List.mem_map.1 (hp.mem_iff.2 hf)
    exact normed_norm g
  · exact List.pairwise_map.2 (sortF_sorted _)
theorem ref_cnt (hs:Sorts sortP) {E:List Int} (hE:Rise E) (hr:∀ i,i+1<E.length→right ⟨E[i]!,E[i+1]!⟩=true) (NL:Nat→Bool) (G:Nat→List (List Val)) (r:List Val) (t:Int) :
    cnt ((refF sortP E NL G).map norm) r t=(rowsIn E G t).count r:=by
  rw [(ref_form hE hr NL G).cnt hs]
  split
  · omega
  · rename_i h
    symm
    refine List.count_eq_zero.2 fun hm=>h ?_
    have:=putAll_perm (seenL (cellsOf E NL G)) []
    rw [List.append_nil] at this
    refine this.mem_iff.2 ?_
    by_cases he:∃ i,i+1<E.length∧E[i]! ≤ t∧t<E[i+1]!
    · obtain ⟨i,hi,h1,h2⟩:=he
      rw [rowsIn_some hE hi h1 h2] at hm
      exact seenL_in _ ⟨E[i]!,E[i+1]!,NL i,G i⟩ (List.mem_map.2 ⟨i,List.mem_range.2 (by omega),rfl⟩) r hm
    · rw [rowsIn_none fun i hi h=>he ⟨i,hi,h.1,h.2⟩] at hm
      simp at hm
theorem ref_eq (hs:Sorts sortP) {E:List Int} (hE:Rise E) (hr:∀ i,i+1<E.length→right ⟨E[i]!,E[i+1]!⟩=true) (NL:Nat→Bool) (G:Nat→List (List Val)) {m:List Fact} {rows:List (List Val)} {S:List Val→List (Per × Int)} {c:List Val→Int→Int}
    (h:IsForm sortP m rows S c) (e:∀ r t,cnt m r t=(rowsIn E G t).count r):(refF sortP E NL G).map norm=m :=
  (ref_form hE hr NL G).ext h hs fun r t=>by rw [ref_cnt hs hE hr,e]
theorem ref_seen (hs:Sorts sortP) {E:List Int} (hE:Rise E) (hr:∀ i,i+1<E.length→right ⟨E[i]!,E[i+1]!⟩=true) (NL:Nat→Bool) (G:Nat→List (List Val)):(seenL (cellsOf E NL G)).length≤(factsP sortP (cellsOf E NL G)).length:=by
  have h1:(factsP sortP (cellsOf E NL G)).length=(((refF sortP E NL G).map norm).map Fact.row).length:=by
    rw [List.length_map,List.length_map];exact (sortF_len _).symm
  rw [h1]
  refine nodup_len (seenL_nodup _) fun r hm=>?_
  obtain ⟨c,hc,hrc⟩:=seenL_mem _ r hm
  obtain ⟨i,hi,rfl⟩:=List.mem_map.1 hc
  have hi:=List.mem_range.1 hi
  have hlt:E[i]! < E[i+1]! := by
    have:=(right_iff _).1 (hr i (by omega))
    simp only at this;omega
  have h2:=ref_cnt hs hE hr NL G r E[i]!
  rw [rowsIn_some hE (by omega) (Int.le_refl _) hlt] at h2
  have h3:0<(G i).count r:=List.count_pos_iff.2 hrc
  rw [← h2] at h3
  unfold cnt at h3
  obtain ⟨f,hf⟩:=List.exists_mem_of_length_pos h3
  obtain ⟨hf,hv⟩:=List.mem_filter.1 hf
  rw [Bool.and_eq_true,decide_eq_true_eq] at hv
  exact List.mem_map.2 ⟨f,hf,hv.1⟩
end
end Go.Proofs.YtlphpbcafplnbaaGreat
