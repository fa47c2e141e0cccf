/- Contracts of functions of the seat, proved in a logic on data over the model (part Q7). -/
import Derived.Test.YtlphpbcafplnbaaGreatAD
set_option linter.unusedSimpArgs false
set_option linter.unusedVariables false
namespace Go.Proofs.YtlphpbcafplnbaaGreat
open Go.VL Go.RowKit
structure Per where
  f:Int
  t:Int
deriving DecidableEq
instance:Inhabited Per:=⟨⟨0,0⟩⟩
def Per.cells (p:Per):List C:=[i64 p.f,i64 p.t]
@[simp] theorem Per.len (p:Per):p.cells.length=2:=rfl
def right (p:Per):Bool:=decide (0≤p.f) && decide (p.f<p.t) && decide (p.t≤1099511627776)
def has (p:Per) (t:Int):Bool:=decide (p.f≤t) && decide (t<p.t)
def checkOf (p:Per):Int:=if right p then 0 else 40
theorem right_iff (p:Per):right p=true↔0≤p.f∧p.f<p.t∧p.t≤1099511627776:=by
  unfold right;simp [and_assoc]
theorem has_iff (p:Per) (t:Int):has p t=true↔p.f≤t∧t<p.t:=by
  unfold has;simp
@[simp] theorem checkOf_ok (p:Per):checkOf p=0↔right p=true:=by unfold checkOf;split <;> simp_all
set_option maxRecDepth 4000 in
set_option maxHeartbeats 4000000 in
theorem check_spec (p:Per):Con Tryz.prog 108 [.agg p.cells] [.c (i64 (checkOf p))]:=by
  refine spec_of Tryz.func108 rfl (by kernel_rfl) (by simp [Tryz.f108]) (fun w0 K0=>vc_ok _ _ _ (by kernel_rfl) ?_)
  simp only [Tryz.f108]
  simp -dsimp [Per.cells]
  refine VIf.mk (fun h=>?_) (fun h=>?_)
  · simp -dsimp
    have:right p=false:=by
      rw [Bool.eq_false_iff,ne_eq,right_iff];simp at h;omega
    simp [checkOf,this]
  · simp -dsimp
    have:right p=true:=by
      rw [right_iff];simp at h;omega
    simp [checkOf,this]
set_option maxRecDepth 4000 in
set_option maxHeartbeats 4000000 in
theorem has_spec (p:Per) (t:Int):Con Tryz.prog 114 [.agg p.cells,.c (i64 t)] [.c (bln (has p t))]:=by
  refine spec_of Tryz.func114 rfl (by kernel_rfl) (by simp [Tryz.f114]) (fun w0 K0=>vc_ok _ _ _ (by kernel_rfl) ?_)
  simp only [Tryz.f114]
  simp -dsimp [Per.cells]
  rfl
set_option maxRecDepth 4000 in
set_option maxHeartbeats 4000000 in
theorem refRight_spec (p:Per):Con Tryz.prog 53 [.agg p.cells] [.c (bln (right p))]:=by
  refine spec_of Tryz.func53 rfl (by kernel_rfl) (by simp [Tryz.f53]) (fun w0 K0=>vc_ok _ _ _ (by kernel_rfl) ?_)
  simp only [Tryz.f53]
  simp -dsimp [Per.cells]
  rfl
set_option maxRecDepth 4000 in
set_option maxHeartbeats 4000000 in
theorem isNaN_spec (x:Int):Con Tryz.prog 93 [.c (i64 x)] [.c (bln false)]:=by
  refine spec_of Tryz.func93 rfl (by kernel_rfl) (by simp [Tryz.f93]) (fun w0 K0=>vc_ok _ _ _ (by kernel_rfl) ?_)
  simp only [Tryz.f93]
  simp -dsimp
def cmpI (x y:Int):Int:=if x<y then -1 else if y<x then 1 else 0
set_option maxRecDepth 4000 in
set_option maxHeartbeats 4000000 in
theorem compare_spec (x y:Int):Con Tryz.prog 58 [.c (i64 x),.c (i64 y)] [.c (i64 (cmpI x y))]:=by
  refine spec_of Tryz.func58 rfl (by kernel_rfl) (by simp [Tryz.f58]) (fun w0 K0=>vc_ok _ _ _ (by kernel_rfl) ?_)
  simp only [Tryz.f58]
  simp -dsimp
  refine VC.mk _ (isNaN_spec x) ?_
  simp -dsimp
  refine VC.mk _ (isNaN_spec y) ?_
  simp -dsimp
  refine VIf.mk (fun h=>?_) (fun h=>?_)
  · simp -dsimp
    simp at h
    simp [cmpI,h]
  · simp -dsimp
    simp at h
    refine VIf.mk (fun h2=>?_) (fun h2=>?_)
    · simp -dsimp
      simp at h2
      simp [cmpI,h2];omega
    · simp -dsimp
      simp at h2
      simp [cmpI];omega
set_option maxRecDepth 4000 in
set_option maxHeartbeats 4000000 in
theorem bad_spec (p:Per):Con Tryz.prog 130 [.agg p.cells] [.c (bln (!right p))]:=by
  refine spec_of Tryz.func130 rfl (by kernel_rfl) (by simp [Tryz.f130]) (fun w0 K0=>vc_ok _ _ _ (by kernel_rfl) ?_)
  simp only [Tryz.f130]
  simp -dsimp [Per.cells]
  refine VC.mk _ (check_spec p) ?_
  simp -dsimp
  simp only [checkOf]
  cases right p <;> simp
theorem take_snoc {α:Type} {l:List α} {k:Nat} (h:k<l.length):l.take (k+1)=l.take k++[l[k]]:=by
  rw [List.take_add_one,List.getElem?_eq_getElem h];rfl
theorem any_snoc {α:Type} (p:α→Bool) {l:List α} {k:Nat} (h:k<l.length):(l.take (k+1)).any p=((l.take k).any p || p l[k]):=by
  rw [take_snoc h,List.any_append];simp
def someP (l:List Per) (t:Int):Bool:=l.any fun p=>right p && has p t
theorem check_at (cs:List C) (p:Per) (h:cs=p.cells):Con Tryz.prog 108 [.agg cs] [.c (i64 (checkOf p))]:=by rw [h];exact check_spec p
theorem has_at (cs:List C) (p:Per) (t:Int) (h:cs=p.cells):Con Tryz.prog 114 [.agg cs,.c (i64 t)] [.c (bln (has p t))]:=by rw [h];exact has_spec p t
theorem refRight_at (cs:List C) (p:Per) (h:cs=p.cells):Con Tryz.prog 53 [.agg cs] [.c (bln (right p))]:=by rw [h];exact refRight_spec p
def lapP (a b:Per):Per:=⟨max a.f b.f,min a.t b.t⟩
def lapOk (a b:Per):Bool:=right a && right b && right (lapP a b)
def lap (a b:Per):Per:=if lapOk a b then lapP a b else ⟨0,0⟩
set_option maxRecDepth 4000 in
set_option maxHeartbeats 4000000 in
theorem overlap_spec (a b:Per):Con Tryz.prog 217 [.agg a.cells,.agg b.cells] [.ag (lap a b).cells,.c (bln (lapOk a b))]:=by
  refine spec_of Tryz.func217 rfl (by kernel_rfl) (by simp [Tryz.f217]) (fun w0 K0=>vc_ok _ _ _ (by kernel_rfl) ?_)
  simp only [Tryz.f217]
  simp -dsimp [Per.cells]
  refine VC.mk _ (check_at _ a rfl) ?_
  simp -dsimp
  refine VG.mk [.c (i64 (checkOf b))] _ (fun _=>check_at _ b rfl) rfl ?_
  simp -dsimp
  refine VG.mk [.c (i64 (checkOf (lapP a b)))] _ (fun _=>check_at _ (lapP a b) rfl) rfl ?_
  simp -dsimp
  refine VIf.mk (fun h=>?_) (fun h=>?_)
  · simp -dsimp
    have ho:lapOk a b=false:=by
      unfold lapOk
      simp at h
      cases ha:right a <;> cases hb:right b <;> simp_all
    simp [lap,ho,Per.cells]
  · simp -dsimp
    have ho:lapOk a b=true:=by
      unfold lapOk
      simp at h
      simp [h]
    simp [lap,ho,Per.cells,lapP]
@[simp] theorem wr0:IntKind.i64.wrap 0=0:=by decide
@[simp] theorem wr1:IntKind.i64.wrap 1=1:=by decide
@[simp] theorem wr2:IntKind.i64.wrap 2=2:=by decide
structure Val where
  kind:Int
  int:Int
  text:List UInt8
deriving DecidableEq
instance:Inhabited Val:=⟨⟨0,0,[]⟩⟩
def Val.cells (v:Val):List C:=[i64 v.kind,i64 v.int,str v.text]
@[simp] theorem Val.len (v:Val):v.cells.length=3:=rfl
abbrev vals (l:List Val):List (List C):=l.map Val.cells
structure Fact where
  nl:Bool
  row:List Val
  p:Per
deriving DecidableEq
instance:Inhabited Fact:=⟨⟨false,[],⟨0,0⟩⟩⟩
def Fact.cells (f:Fact):List C:=[.sl f.nl (vals f.row),i64 f.p.f,i64 f.p.t]
@[simp] theorem Fact.len (f:Fact):f.cells.length=3:=rfl
abbrev facts (l:List Fact):List (List C):=l.map Fact.cells
def Fact.strip (f:Fact):List Val × Per:=(f.row,f.p)
def strips (l:List Fact):List (List Val × Per):=l.map Fact.strip
def ltV (a b:Val):Bool:=decide (a.kind<b.kind) || (decide (a.kind=b.kind) && (decide (a.int<b.int) || (decide (a.int=b.int) && Op.bytesLess a.text b.text)))
theorem bl_irr:∀ (a:List UInt8),Op.bytesLess a a=false
  | []=>rfl
  | x::a=>by simp [Op.bytesLess,bl_irr a]
theorem ltV_irr (a:Val):ltV a a=false:=by simp [ltV,bl_irr]
def cmpV (a b:Val):Int:=if ltV a b then -1 else if a=b then 0 else 1
theorem cmpV_0 (a b:Val):cmpV a b=0↔a=b:=by
  unfold cmpV
  constructor
  · intro h
    split at h
    · cases h
    · split at h
      · assumption
      · cases h
  · rintro rfl;simp [ltV_irr]
def cmpR:List Val→List Val→Int
  | [],[]=>0
  | [],_::_=>-1
  | _::_,[]=>1
  | a::l,b::m=>if cmpV a b=0 then cmpR l m else cmpV a b
theorem cmpR_0:∀ (l m:List Val),cmpR l m=0↔l=m
  | [],[]=>by simp [cmpR]
  | [],_::_=>by simp [cmpR]
  | _::_,[]=>by simp [cmpR]
  | a::l,b::m=>by
    rw [cmpR]
    by_cases h:cmpV a b=0
    · rw [if_pos h,cmpR_0 l m]
      rw [cmpV_0] at h
      simp [h]
    · rw [if_neg h]
      rw [cmpV_0] at h
      simp [cmpV_0,h]
theorem cmpR_take:∀ (k:Nat) (l m:List Val),l.take k=m.take k→k≤l.length→k≤m.length→cmpR l m=cmpR (l.drop k) (m.drop k)
  | 0,l,m,_,_,_=>by simp
  | k+1,[],m,_,h,_=>by simp at h
  | k+1,_::_,[],_,_,h=>by simp at h
  | k+1,a::l,b::m,h,h1,h2=>by
    simp at h
    rw [cmpR,if_pos ((cmpV_0 a b).2 h.1)]
    simp only [List.drop_succ_cons]
    exact cmpR_take k l m h.2 (by simpa using h1) (by simpa using h2)
theorem cmpR_at {l m:List Val} {k:Nat} (h:l.take k=m.take k) (h1:k<l.length) (h2:k<m.length) (hne:cmpV l[k] m[k]≠0):cmpR l m=cmpV l[k] m[k]:=by
  rw [cmpR_take k l m h (by omega) (by omega),List.drop_eq_getElem_cons h1,List.drop_eq_getElem_cons h2,cmpR,if_neg hne]
theorem cmpR_end {l m:List Val} {k:Nat} (h:l.take k=m.take k) (h1:k≤l.length) (h2:k≤m.length) (he:k=l.length∨k=m.length):cmpR l m=if l.length<m.length then -1 else if m.length<l.length then 1 else 0:=by
  rw [cmpR_take k l m h h1 h2]
  rcases he with rfl | rfl
  · rw [List.drop_length]
    rcases Nat.lt_or_ge l.length m.length with hlt | hge
    · rw [if_pos hlt,List.drop_eq_getElem_cons hlt];rfl
    · rw [if_neg (by omega),if_neg (by omega),List.drop_of_length_le (by omega)];rfl
  · rw [show m.drop m.length=[] from List.drop_length]
    rcases Nat.lt_or_ge m.length l.length with hlt | hge
    · rw [if_neg (by omega),if_pos hlt,List.drop_eq_getElem_cons hlt];rfl
    · rw [if_neg (by omega),if_neg (by omega),List.drop_of_length_le (by omega)];rfl
theorem take_step {α:Type} {l m:List α} {k:Nat} (h:k<l.length) (h':k<m.length) (e:l.take k=m.take k) (e':l[k]=m[k]):l.take (k+1)=m.take (k+1):=by
  rw [take_snoc h,take_snoc h',e,e']
inductive Ex where
  | mk (op:List UInt8) (int:Int) (text of:List UInt8) (nl:Bool) (args:List Ex)
instance:Inhabited Ex:=⟨.mk [] 0 [] [] true []⟩
mutual
def Ex.cells:Ex→List C
  | .mk op int text of nl args=>[str op,i64 int,str text,str of,.sl nl (Ex.cellss args)]
def Ex.cellss:List Ex→List (List C)
  | []=>[]
  | e::r=>e.cells::Ex.cellss r
end
@[simp] theorem Ex.len (e:Ex):e.cells.length=5:=by cases e;rw [Ex.cells];rfl
@[simp] theorem Ex.take5 (e:Ex):List.take 5 e.cells=e.cells:=List.take_of_length_le (by simp)
inductive Tm where
  | mk (op:List UInt8) (kind:Int) (value:Val) (place:Int) (nl:Bool) (args:List Tm)
instance:Inhabited Tm:=⟨.mk [] 0 ⟨0,0,[]⟩ 0 true []⟩
mutual
def Tm.cells:Tm→List C
  | .mk op kind v place nl args=>[str op,i64 kind,i64 v.kind,i64 v.int,str v.text,i64 place,.sl nl (Tm.cellss args)]
def Tm.cellss:List Tm→List (List C)
  | []=>[]
  | e::r=>e.cells::Tm.cellss r
end
@[simp] theorem Tm.len (e:Tm):e.cells.length=7:=by cases e;rw [Tm.cells];rfl
@[simp] theorem Tm.take7 (e:Tm):List.take 7 e.cells=e.cells:=List.take_of_length_le (by simp)
def Tm.op:Tm→List UInt8 | .mk op _ _ _ _ _=>op
def Tm.kind:Tm→Int | .mk _ k _ _ _ _=>k
def Tm.args:Tm→List Tm | .mk _ _ _ _ _ args=>args
abbrev wOR:List UInt8:=[79,82]
abbrev wAND:List UInt8:=[65,78,68]
abbrev wNOT:List UInt8:=[78,79,84]
abbrev wEQ:List UInt8:=[61]
abbrev wNE:List UInt8:=[60,62]
abbrev wLE:List UInt8:=[60,61]
abbrev wGE:List UInt8:=[62,61]
abbrev wLT:List UInt8:=[60]
abbrev wGT:List UInt8:=[62]
abbrev wADD:List UInt8:=[43]
abbrev wSUB:List UInt8:=[45]
abbrev wMUL:List UInt8:=[42]
abbrev wValue:List UInt8:=[118,97,108,117,101]
abbrev wColumn:List UInt8:=[99,111,108,117,109,110]
abbrev wNumber:List UInt8:=[110,117,109,98,101,114]
abbrev wText:List UInt8:=[116,101,120,116]
abbrev wName:List UInt8:=[110,97,109,101]
def truthV (b:Bool):Val:=⟨3,bif b then 1 else 0,[]⟩
def numV (n:Int):Val:=⟨1,n,[]⟩
def fits64 (n:Int):Bool:=decide (-9223372036854775808≤n) && decide (n≤9223372036854775807)
def arithI (op:List UInt8) (a b:Int):Int:=if op=wADD then a+b else if op=wSUB then a-b else a*b
inductive Ev where
  | ok (v:Val)
  | no (code:Int)
deriving DecidableEq
instance:Inhabited Ev:=⟨.no 0⟩
def arithV (op:List UInt8) (a b:Int):Ev:=if fits64 (arithI op a b)=true then .ok (numV (arithI op a b)) else .no 171
def cmpB (a b:List UInt8):Int:=if Op.bytesLess a b then -1 else if a=b then 0 else 1
def ordV (a b:Val):Int:=if cmpI a.int b.int=0 then cmpB a.text b.text else cmpI a.int b.int
def reckonV (op:List UInt8) (a b:Val):Ev :=
  if op=wOR then .ok (truthV (decide (a.int=1) || decide (b.int=1)))
  else if op=wAND then .ok (truthV (decide (a.int=1) && decide (b.int=1)))
  else if op=wEQ then .ok (truthV (decide (ordV a b=0)))
  else if op=wNE then .ok (truthV (!decide (ordV a b=0)))
  else if op=wLE then .ok (truthV (decide (ordV a b≤0)))
  else if op=wGE then .ok (truthV (decide (0≤ordV a b)))
  else if op=wLT then .ok (truthV (decide (ordV a b<0)))
  else if op=wGT then .ok (truthV (decide (0<ordV a b)))
  else arithV op a.int b.int
def oneV (op:List UInt8) (a:Val):Ev:=if op=wNOT then .ok (truthV (decide (a.int=0))) else arithV wSUB 0 a.int
def opV (op:List UInt8):List Ev→Ev
  | []=>.no 0
  | .no c::_=>.no c
  | [.ok a]=>oneV op a
  | .ok a :: .no c::_=>if op=wNOT then oneV op a else .no c
  | .ok a :: .ok b::_=>if op=wNOT then oneV op a else reckonV op a b
def colV (kind place:Int) (row:List Val):Ev:=if 0≤place∧place<row.length∧(row.getD place.toNat default).kind=kind then .ok (row.getD place.toNat default) else .no 161
mutual
def evalT (row:List Val):Tm→Ev
  | .mk op kind v place _ args=>if op=wValue then .ok v else if op=wColumn then colV kind place row else opV op (evalTs row args)
def evalTs (row:List Val):List Tm→List Ev
  | []=>[]
  | t::r=>evalT row t::evalTs row r
end
def two2:List (List UInt8):=[wOR,wAND,wEQ,wNE,wLE,wGE,wLT,wGT,wADD,wSUB,wMUL]
inductive Tm.Ok:Tm→Prop where
  | value (kind:Int) (v:Val) (place:Int) (nl:Bool) (args:List Tm):fits64 v.int=true→Tm.Ok (.mk wValue kind v place nl args)
  | column (kind:Int) (v:Val) (place:Int) (nl:Bool) (args:List Tm):Tm.Ok (.mk wColumn kind v place nl args)
  | one (op:List UInt8) (kind:Int) (v:Val) (place:Int) (nl:Bool) (x:Tm):op=wNOT∨op=wSUB→x.Ok→Tm.Ok (.mk op kind v place nl [x])
  | two (op:List UInt8) (kind:Int) (v:Val) (place:Int) (nl:Bool) (x y:Tm):op∈two2→x.Ok→y.Ok→Tm.Ok (.mk op kind v place nl [x,y])
structure SCol where
  table:List UInt8
  name:List UInt8
  kind:Int
deriving DecidableEq
instance:Inhabited SCol:=⟨⟨[],[],0⟩⟩
def SCol.cells (c:SCol):List C:=[str c.table,str c.name,i64 c.kind]
def tabOk (of:List UInt8) (c:SCol):Bool:=decide (of=[]) || decide (c.table=of)
def hit (of name:List UInt8) (c:SCol):Bool:=tabOk of c && decide (c.name=name)
inductive Fd where
  | ok (i:Nat)
  | no (code:Int)
deriving DecidableEq
def findC (sc:List SCol) (of name:List UInt8):Fd :=
  if 2≤sc.countP (hit of name) then .no 173
  else if of≠[]∧sc.any (tabOk of)=false then .no 160
  else if sc.any (hit of name)=false then .no 161
  else .ok (sc.findIdx (hit of name))
def allK (k:Int) (ks:List Int):Bool:=ks.all fun x=>decide (x=k)
def kindK (op:List UInt8) (ks:List Int):Int × Bool :=
  if op=wOR∨op=wAND then (3,decide (ks.length=2) && allK 3 ks)
  else if op=wNOT then (3,decide (ks.length=1) && allK 3 ks)
  else if op=wEQ∨op=wNE∨op=wLE∨op=wGE∨op=wLT∨op=wGT then (3,decide (ks.length=2) && (allK 1 ks || allK 2 ks))
  else if op=wSUB then (1,(decide (ks.length=1) || decide (ks.length=2)) && allK 1 ks)
  else if op=wADD∨op=wMUL then (1,decide (ks.length=2) && allK 1 ks)
  else (0,false)
inductive Bd where
  | ok (t:Tm)
  | no (code:Int)
inductive Bds where
  | ok (ts:List Tm)
  | no (code:Int)
mutual
def bindE (sc:List SCol):Ex→Bd
  | .mk op int text of _ args =>
    if op=wNumber then .ok (.mk wValue 1 ⟨1,int,[]⟩ 0 true [])
    else if op=wText then (if 64<text.length then .no 2 else .ok (.mk wValue 2 ⟨2,0,text⟩ 0 true []))
    else if op=wName then
      match findC sc of text with
      | .ok i=>.ok (.mk wColumn (sc.getD i default).kind ⟨0,0,[]⟩ i true [])
      | .no c=>.no c
    else
      match bindEs sc args with
      | .no c=>.no c
      | .ok ts=>if (kindK op (ts.map Tm.kind)).2=true then .ok (.mk op (kindK op (ts.map Tm.kind)).1 ⟨0,0,[]⟩ 0 ts.isEmpty ts) else .no 170
def bindEs (sc:List SCol):List Ex→Bds
  | []=>.ok []
  | e::r =>
    match bindE sc e with
    | .no c=>.no c
    | .ok t =>
      match bindEs sc r with
      | .no c=>.no c
      | .ok ts=>.ok (t::ts)
end
set_option maxRecDepth 4000 in
set_option maxHeartbeats 4000000 in
theorem idx_spec (nil:Bool) (l:List Per) (hl:l.length≤140737488355328) :
    Con Tryz.prog 148 [.c (.sl nil (l.map Per.cells)),.c (.fn 130 [])] [.c (i64 (match l.findIdx? (fun p=>!right p) with | some k=>(k:Int) | none=>-1))]:=by
  refine spec_of Tryz.func148 rfl (by kernel_rfl) (by simp [Tryz.f148]) (fun w0 K0=>vc_ok _ _ _ (by kernel_rfl) ?_)
  simp only [Tryz.f148]
  simp -dsimp
  refine VL.loop (fun k:Nat=>⟨[(8,.c (i64 k)),(7,.c (i64 l.length)),(0,.c (.sl nil (l.map Per.cells))),(1,.c (.fn 130 []))],[]⟩) (fun k=>k≤l.length∧∀ j,(hj:j<k)→(hl:j<l.length)→right l[j]=true) (fun k=>l.length-k) 0 (by kernel_rfl) (by simp) (by simp [St.le]) ?_
  intro k ⟨hk,hbef⟩
  simp -dsimp
  refine VIf.mk (fun h=>?_) (fun h=>?_)
  · have hlt:k<l.length:=by simpa using h
    have hw:IntKind.i64.wrap ((k:Int)+1)=(k:Int)+1:=IntWalk.i64_in _ (by omega)
    simp -dsimp [hlt,Per.cells]
    refine VC.mk _ (bad_spec l[k]) ?_
    simp -dsimp
    refine VIf.mk (fun h2=>?_) (fun h2=>?_)
    · simp -dsimp
      have:l.findIdx? (fun p=>!right p)=some k:=by
        rw [List.findIdx?_eq_some_iff_getElem]
        exact ⟨hlt,h2,fun j hj=>by rw [hbef j hj (by omega)];simp⟩
      rw [this]
    · simp -dsimp [hw]
      refine ⟨k+1,⟨by omega,fun j hj hl=>?_⟩,?_,by omega⟩
      · by_cases e:j=k
        · subst e;simpa using h2
        · exact hbef j (by omega) hl
      · simp [St.le]
  · simp at h
    simp -dsimp
    have:l.findIdx? (fun p=>!right p)=none:=by
      rw [List.findIdx?_eq_none_iff]
      intro p hp
      obtain ⟨j,hj,rfl⟩:=List.getElem_of_mem hp
      simp [hbef j (by omega) hj]
    rw [this]
def idxBad (l:List Per):Int:=match l.findIdx? (fun p=>!right p) with | some k=>(k:Int) | none=>-1
def rowB (i:Nat) (l:List Per):List (Nat × Res):=[(i,.arr false 2 (l.map Per.cells) 0)]
set_option maxRecDepth 4000 in
set_option maxHeartbeats 4000000 in
theorem idxB_spec (l:List Per) (hl:l.length≤140737488355328) :
    ConB Tryz.prog 148 [.own 1 l.length,.c (.fn 130 [])] (rowB 1 l) [.c (i64 (idxBad l))] [.own 1 l.length,.c (.fn 130 [])] (rowB 1 l):=by
  refine spec_ofB 2 Tryz.func148 rfl (by kernel_rfl) (by simp [Tryz.f148]) (by simp [rowB]) rfl (fun w0 K0 uf=>vc_ok _ _ _ (by kernel_rfl) ?_)
  simp only [Tryz.f148]
  simp -dsimp [initB,initEnv,pinsOf,rowB]
  refine VL.loop (fun k:Nat=>⟨[(8,.c (i64 k)),(7,.c (i64 l.length)),(0,.own 1 l.length),(1,.c (.fn 130 []))],[(1,some (.arr false 2 (l.map Per.cells) 0)),(2,some (.pin (uf 0) (.own 1 l.length))),(3,some (.pin (uf 1) (.c (.fn 130 []))))]⟩) (fun k=>k≤l.length∧∀ j,(hj:j<k)→(hl:j<l.length)→right l[j]=true) (fun k=>l.length-k) 0 (by kernel_rfl) (by simp) (by simp [St.le]) ?_
  intro k ⟨hk,hbef⟩
  simp -dsimp
  refine VIf.mk (fun h=>?_) (fun h=>?_)
  · have hlt:k<l.length:=by simpa using h
    have hw:IntKind.i64.wrap ((k:Int)+1)=(k:Int)+1:=IntWalk.i64_in _ (by omega)
    simp -dsimp [hlt,Per.cells]
    refine VC.mk _ (bad_spec l[k]) ?_
    simp -dsimp
    refine VIf.mk (fun h2=>?_) (fun h2=>?_)
    · simp -dsimp
      have:l.findIdx? (fun p=>!right p)=some k:=by
        rw [List.findIdx?_eq_some_iff_getElem]
        exact ⟨hlt,h2,fun j hj=>by rw [hbef j hj (by omega)];simp⟩
      simp [resEnd,idxBad,this,rowB]
    · simp -dsimp [hw]
      refine ⟨k+1,⟨by omega,fun j hj hl=>?_⟩,?_,by omega⟩
      · by_cases e:j=k
        · subst e;simpa using h2
        · exact hbef j (by omega) hl
      · simp [St.le]
  · simp at h
    simp -dsimp
    have:l.findIdx? (fun p=>!right p)=none:=by
      rw [List.findIdx?_eq_none_iff]
      intro p hp
      obtain ⟨j,hj,rfl⟩:=List.getElem_of_mem hp
      simp [hbef j (by omega) hj]
    simp [resEnd,idxBad,this,rowB]
structure DS where
  i:Nat
  j:Nat
  row:List Per
structure DS.Ok (l:List Per) (s:DS):Prop where
  len:s.row.length=l.length
  le:s.i<s.j
  lj:s.j≤l.length
  pre:s.row.take s.i=(l.take s.j).filter right
  rest:∀ k,s.j≤k→s.row[k]? = l[k]?
theorem DS.skip {l:List Per} {i j:Nat} {row:List Per} (h:DS.Ok l ⟨i,j,row⟩) (hj:j<l.length) (hb:right l[j]=false):DS.Ok l ⟨i,j+1,row⟩:=by
  obtain ⟨h1,h2,h3,h4,h5⟩:=h
  simp only at h1 h2 h3 h4 h5
  refine ⟨h1,by simp only;omega,hj,?_,fun k hk=>h5 k (by simp only at hk;omega)⟩
  simp only
  rw [take_snoc hj,List.filter_append,h4]
  simp [hb]
theorem DS.keep {l:List Per} {i j:Nat} {row:List Per} (h:DS.Ok l ⟨i,j,row⟩) (hj:j<l.length) (hb:right l[j]=true):DS.Ok l ⟨i+1,j+1,row.set i l[j]⟩:=by
  obtain ⟨h1,h2,h3,h4,h5⟩:=h
  simp only at h1 h2 h3 h4 h5
  refine ⟨by simp [h1],by simp only;omega,hj,?_,fun k hk=>?_⟩
  · simp only
    rw [take_snoc hj,List.filter_append,← h4,take_snoc (by simp;omega)]
    simp [hb,List.take_set]
    exact List.set_eq_of_length_le (by simp;omega)
  · simp only at hk
    simp only
    rw [List.getElem?_set_ne (by omega)]
    exact h5 k (by omega)
set_option maxRecDepth 4000 in
set_option maxHeartbeats 8000000 in
theorem del_spec (l:List Per) (hl:l.length≤140737488355328) :
    ConB Tryz.prog 129 [.own 1 l.length,.c (.fn 130 [])] (rowB 1 l) [.own 1 (l.filter right).length] [if l.findIdx? (fun p=>!right p)=none then .own 1 l.length else .un,.c (.fn 130 [])] (rowB 1 (l.filter right)):=by
  refine spec_ofB 2 Tryz.func129 rfl (by kernel_rfl) (by simp [Tryz.f129]) (by simp [rowB]) rfl (fun w0 K0 uf=>vc_ok _ _ _ (by kernel_rfl) ?_)
  simp only [Tryz.f129]
  simp -dsimp [initB,initEnv,pinsOf,rowB]
  refine VCL.lend (rowB 1 l) (rowB 1 l) [.own 1 l.length,.c (.fn 130 [])] _ _ id [] ⟨idxB_spec l hl,?_,?_,?_,?_,?_,?_,?_⟩ ?_
  · simp [renSs,renS]
  · simp [rowB,renR]
  · simp [rowB]
  · simp [rowB]
  · simp [rowB,Res.nam,S.nams,S.nam]
  · simp [rowB,S.nams,S.nam]
  · simp [rowB,lk,keptP]
    exact ⟨2,_,⟨rfl,rfl⟩,_,⟨rfl,rfl⟩,by simp,by simp⟩
  simp -dsimp [rowB,retS,renSs,renS]
  cases hf:l.findIdx? (fun p=>!right p) with
  | none =>
    have hall:l.filter right=l:=by
      rw [List.filter_eq_self]
      rw [List.findIdx?_eq_none_iff] at hf
      intro p hp
      simpa using hf p hp
    simp -dsimp [idxBad,hf]
    simp [resEnd,rowB,hall]
  | some k0 =>
    rw [List.findIdx?_eq_some_iff_getElem] at hf
    obtain ⟨hk0,hb0,hg0⟩:=hf
    have e1:idxBad l=k0:=by
      unfold idxBad
      have:l.findIdx? (fun p=>!right p)=some k0:=List.findIdx?_eq_some_iff_getElem.2 ⟨hk0,hb0,hg0⟩
      rw [this]
    have hw0:IntKind.i64.wrap ((k0:Int)+1)=(k0:Int)+1:=IntWalk.i64_in _ (by omega)
    have hneg:((k0:Int) == -1)=false:=by simp
    simp -dsimp [e1,hneg,hw0]
    refine VL.loop (fun s:DS=>⟨[(5,.c (i64 s.i)),(6,.c (i64 s.j)),(0,.own 1 l.length),(1,.c (.fn 130 []))],[(1,some (.arr false 2 (s.row.map Per.cells) 0)),(2,some (.pin (uf 0) (.own 1 l.length))),(3,some (.pin (uf 1) (.c (.fn 130 []))))]⟩) (DS.Ok l) (fun s=>l.length-s.j) ⟨k0,k0+1,l⟩ (by kernel_rfl) ?_ (by simp [St.le]) ?_
    · refine ⟨rfl,by simp,hk0,?_,fun _ _=>rfl⟩
      simp only
      rw [take_snoc hk0,List.filter_append]
      have:List.filter right [l[k0]]=[]:=by simp at hb0;simp [hb0]
      rw [this,List.append_nil,eq_comm,List.filter_eq_self]
      intro p hp
      obtain ⟨j,hj,rfl⟩:=List.getElem_of_mem hp
      simp at hj
      have:=hg0 j (by omega)
      simpa using this
    intro ⟨i,j,row⟩ hs
    obtain ⟨h1,h2,h3,h4,h5⟩:=hs
    simp only at h1 h2 h3 h4 h5
    simp -dsimp [h1]
    refine VIf.mk (fun h=>?_) (fun h=>?_)
    · have hlt:j<l.length:=by simpa using h
      have hltr:j<row.length:=by omega
      have hw:IntKind.i64.wrap ((j:Int)+1)=(j:Int)+1:=IntWalk.i64_in _ (by omega)
      have hwi:IntKind.i64.wrap ((i:Int)+1)=(i:Int)+1:=IntWalk.i64_in _ (by omega)
      have hrj:row[j]=l[j]:=by
        have:=h5 j (Nat.le_refl _)
        rw [List.getElem?_eq_getElem hltr,List.getElem?_eq_getElem hlt] at this
        exact Option.some.inj this
      simp -dsimp [hlt,hltr,hrj,Per.cells]
      refine ⟨h1,VC.mk _ (bad_spec l[j]) ?_⟩
      simp -dsimp
      refine VIf.mk (fun h6=>?_) (fun h6=>?_)
      · simp -dsimp [hw,hwi]
        refine ⟨⟨by omega,h1⟩,h1,by omega,⟨i+1,j+1,row.set i l[j]⟩,DS.keep ⟨h1,h2,h3,h4,h5⟩ hlt h6,?_,by simp;omega⟩
        have hir:i<row.length:=by omega
        simp [St.le,List.map_set,Per.cells,List.getElem?_eq_getElem hir]
      · simp -dsimp [hw]
        refine ⟨⟨i,j+1,row⟩,?_,?_,by simp;omega⟩
        · exact DS.skip ⟨h1,h2,h3,h4,h5⟩ hlt h6
        · simp [St.le]
    · simp at h
      simp -dsimp
      refine VSL.own ?_
      simp -dsimp
      refine ⟨by omega,h1,by omega,VSL.own ?_⟩
      simp -dsimp
      obtain rfl:j=l.length:=by omega
      rw [List.take_length] at h4
      have hi:i=(l.filter right).length:=by rw [← h4,List.length_take];omega
      refine ⟨by omega,by omega,hi,?_⟩
      have hm:min i row.length=i:=by omega
      simp [resEnd,rowB,hm,← h4,List.take_take,← List.map_take]
      trace_state
set_option maxRecDepth 4000 in
set_option maxHeartbeats 4000000 in
theorem clone_spec (l:List Per) (hl:l.length≤8796093022208):Con Tryz.prog 113 [.c (.sl false (l.map Per.cells))] [.fr false 2 (l.map Per.cells) 0]:=by
  refine spec_of Tryz.func113 rfl (by kernel_rfl) (by simp [Tryz.f113]) (fun w0 K0=>vc_ok _ _ _ (by kernel_rfl) ?_)
  simp only [Tryz.f113]
  simp -dsimp
  omega
set_option maxRecDepth 4000 in
set_option maxHeartbeats 4000000 in
theorem clone_nil:Con Tryz.prog 113 [.c (.sl true [])] [.fr true 0 [] 0]:=by
  refine spec_of Tryz.func113 rfl (by kernel_rfl) (by simp [Tryz.f113]) (fun w0 K0=>vc_ok _ _ _ (by kernel_rfl) ?_)
  simp only [Tryz.f113]
  simp -dsimp
set_option maxRecDepth 4000 in
set_option maxHeartbeats 4000000 in
theorem del_nil:Con Tryz.prog 129 [.c (.sl true []),.c (.fn 130 [])] [.c (.sl true [])]:=by
  refine spec_of Tryz.func129 rfl (by kernel_rfl) (by simp [Tryz.f129]) (fun w0 K0=>vc_ok _ _ _ (by kernel_rfl) ?_)
  simp only [Tryz.f129]
  simp -dsimp
  refine VC.mk _ (idx_spec true [] (by simp)) ?_
  simp -dsimp
def addP (out:List Per) (p:Per):List Per :=
  if 0<out.length∧p.f≤(out[out.length-1]!).t then out.set (out.length-1) ⟨(out[out.length-1]!).f,max (out[out.length-1]!).t p.t⟩ else out++[p]
def sumP (s:List Per):List Per:=s.foldl addP []
theorem sumP_snoc (s:List Per) {k:Nat} (h:k<s.length):sumP (s.take (k+1))=addP (sumP (s.take k)) s[k]:=by
  unfold sumP;rw [take_snoc h,List.foldl_append];rfl
theorem addP_len (out:List Per) (p:Per):(addP out p).length≤out.length+1:=by
  unfold addP;split <;> simp
theorem sumP_len (s:List Per):∀ k,k≤s.length→(sumP (s.take k)).length≤k
  | 0,_=>by simp [sumP]
  | k+1,h=>by
    rw [sumP_snoc s h]
    have:=addP_len (sumP (s.take k)) s[k]
    have:=sumP_len s k (by omega)
    omega
structure Sorts (sortP:List Per→List Per):Prop where
  len:∀ l,(sortP l).length=l.length
  perm:∀ l,(sortP l).Perm l
  sorted:∀ l,(sortP l).Pairwise fun x y=>x.f≤y.f
  con:∀ l,l.length≤140737488355328→ConB Tryz.prog 131 [.own 1 l.length,.c (.fn 132 [])] (rowB 1 l) [] [.own 1 l.length,.c (.fn 132 [])] (rowB 1 (sortP l))
  nil:Con Tryz.prog 131 [.c (.sl true []),.c (.fn 132 [])] []
theorem defC:(default:C)=i64 0:=rfl
structure UI where
  k:Nat
  nl:Bool
  sz:Nat
set_option maxRecDepth 4000 in
set_option maxHeartbeats 8000000 in
theorem union_nil {sortP:List Per→List Per} (hs:Sorts sortP):Con Tryz.prog 111 [.c (.sl true [])] [.fr true 0 [] 0]:=by
  refine spec_of Tryz.func111 rfl (by kernel_rfl) (by simp [Tryz.f111]) (fun w0 K0=>vc_ok _ _ _ (by kernel_rfl) ?_)
  simp only [Tryz.f111]
  simp -dsimp
  refine VC.mk _ clone_nil ?_
  simp -dsimp
  refine VCL.snap ?_
  simp -dsimp
  refine VC.mk _ del_nil ?_
  simp -dsimp
  refine VC.mk _ hs.nil ?_
  simp -dsimp
  refine VL.loop (fun _:Unit=>⟨[(15,.c (i64 0)),(14,.c (i64 0)),(4,.own 256 0)],[(256,some (.arr true 0 [] 0))]⟩) (fun _=>True) (fun _=>0) () (by kernel_rfl) trivial (by simp [St.le]) ?_
  intro _ _
  simp -dsimp
set_option maxRecDepth 4000 in
set_option maxHeartbeats 8000000 in
theorem union_some {sortP:List Per→List Per} (hs:Sorts sortP) (l:List Per) (hl:l.length≤8796093021952):Con Tryz.prog 111 [.c (.sl false (l.map Per.cells))] [.fr (sumP (sortP (l.filter right))).isEmpty (if (sumP (sortP (l.filter right))).isEmpty then 0 else 2) ((sumP (sortP (l.filter right))).map Per.cells) 0]:=by
  refine spec_of Tryz.func111 rfl (by kernel_rfl) (by simp [Tryz.f111]) (fun w0 K0=>vc_ok _ _ _ (by kernel_rfl) ?_)
  simp only [Tryz.f111]
  simp -dsimp
  refine VC.mk _ (clone_spec l (by omega)) ?_
  simp -dsimp
  refine VCL.lend (rowB 1 l) (rowB 1 (l.filter right)) [.own 1 l.length,.c (.fn 130 [])] _ _ (fun _=>576) [576] ⟨del_spec l (by omega),?_,?_,?_,?_,?_,?_,?_⟩ ?_
  · simp [renSs,renS]
  · simp [rowB,renR]
  · simp [rowB]
  · simp [rowB]
  · simp [rowB,Res.nam]
  · simp [rowB,S.nams,S.nam]
  · simp [rowB]
  simp -dsimp [rowB,retS,renSs,renS]
  have hfl:(l.filter right).length≤l.length:=List.length_filter_le _ _
  have hcs:=hs.con (l.filter right) (by omega)
  have hlen:=hs.len (l.filter right)
  generalize l.filter right=fl at *
  generalize sortP fl=s at *
  refine VCL.lend (rowB 1 fl) (rowB 1 s) [.own 1 fl.length,.c (.fn 132 [])] _ _ (fun _=>576) [] ⟨hcs,?_,?_,?_,?_,?_,?_,?_⟩ ?_
  · simp [renSs,renS]
  · simp [rowB,renR]
  · simp [rowB]
  · simp [rowB]
  · simp [rowB,Res.nam]
  · simp [S.nams]
  · simp [rowB,lk,keptP]
    exact ⟨2,_,⟨rfl,rfl⟩,_,⟨rfl,rfl⟩,by simp,by simp [hlen]⟩
  simp -dsimp [rowB,retS,renSs]
  refine ⟨hlen,?_⟩
  have hsl:s.length≤8796093021952:=by omega
  rw [← hlen]
  clear hcs hfl hlen
  refine VL.loop (fun i:UI=>⟨[(15,.c (i64 i.k)),(14,.c (i64 s.length)),(13,.own 576 s.length),(4,.own 256 (sumP (s.take i.k)).length)],
      [(256,some (.arr i.nl i.sz ((sumP (s.take i.k)).map Per.cells) 0)),(576,some (.arr false 2 (s.map Per.cells) 0))]⟩)
    (fun i=>i.k≤s.length∧i.nl=(sumP (s.take i.k)).isEmpty∧i.sz=if i.nl then 0 else 2) (fun i=>s.length-i.k) ⟨0,true,0⟩ (by kernel_rfl) (by simp [sumP]) (by simp [St.le,sumP]) ?_
  intro ⟨k,nl,sz⟩ ⟨hk,hnl,hsz⟩
  simp only at hk hnl hsz
  have hol:=sumP_len s k hk
  have hsu:=fun h:k<s.length=>sumP_snoc s h
  have hsu2:=fun h:k<s.length=>addP_len (sumP (s.take k)) s[k]
  generalize ho:sumP (s.take k)=out at *
  simp -dsimp
  refine VIf.mk (fun h=>?_) (fun h=>?_)
  · have hlt:k<s.length:=by simpa using h
    have hw:IntKind.i64.wrap ((k:Int)+1)=(k:Int)+1:=IntWalk.i64_in _ (by omega)
    simp -dsimp [hlt,Per.cells]
    refine VL.draw (by kernel_rfl) [(0,true),(1,true),(3,true),(7,false),(15,false),(7,false),(7,false),(71,false),(231,false),(487,false),(999,false),(2047,true),(4095,true)] (by kernel_rfl) ?_
    match out,hnl,hol,hsu hlt with
    | [],hnl,hol,hsu =>
      obtain rfl:nl=true:=hnl
      obtain rfl:sz=0:=hsz
      simp -dsimp [hw,maxLen,defC]
      refine ⟨⟨k+1,false,2⟩,⟨hlt,?_,rfl⟩,?_,by simp;omega⟩
      · simp [hsu,addP]
      · simp [St.le,hsu,addP,Per.cells]
    | x::r,hnl,hol,hsu =>
      obtain rfl:nl=false:=hnl
      obtain rfl:sz=2:=hsz
      generalize hout:x::r=out at *
      have hne:0<out.length:=by rw [← hout];simp
      have hT:IntKind.i64.wrap ((out.length:Int)-1)=((out.length-1:Nat):Int):=by rw [IntWalk.i64_in _ (by omega)];omega
      have hl1:out.length-1<out.length:=by omega
      have hg:(Option.map Per.cells out[out.length-1]?).getD []=out[out.length-1].cells:=by rw [List.getElem?_eq_getElem hl1];rfl
      have hlast:out[out.length-1]! = out[out.length-1]:=getElem!_pos out _ hl1
      simp -dsimp [hw,hne,hl1,hT,Per.cells]
      refine VIf.mk (fun hle=>?_) (fun hle=>?_)
      · have hle':s[k].f≤out[out.length-1].t:=by simpa using hle
        simp -dsimp
        refine VL.draw (by kernel_rfl) [(0,false),(0,false),(2,false),(0,false),(0,false),(16,false),(56,false),(120,false),(248,false),(0,false),(512,false),(2040,false),(4095,true),(8191,true),(16383,true)] (by kernel_rfl) ?_
        simp -dsimp [hw,hne,hl1,hT,Per.cells]
        have e:addP out s[k]=out.set (out.length-1) ⟨out[out.length-1].f,max out[out.length-1].t s[k].t⟩:=by
          unfold addP;rw [hlast,if_pos ⟨hne,hle'⟩]
        rw [e] at hsu
        refine ⟨⟨k+1,false,2⟩,⟨hlt,?_,rfl⟩,?_,by simp;omega⟩
        · rw [hsu];rw [eq_comm,List.isEmpty_eq_false_iff];intro e2
          have:=congrArg List.length e2
          rw [List.length_set] at this
          simp at this
          simp [this] at hne
        · simp [St.le,hsu,List.map_set,Per.cells]
      · have hle':¬ s[k].f≤out[out.length-1].t:=by simpa using hle
        simp -dsimp [hw,maxLen]
        have e:addP out s[k]=out++[s[k]]:=by
          unfold addP;rw [hlast,if_neg (fun h=>hle' h.2)]
        rw [e] at hsu
        refine ⟨by omega,⟨k+1,false,2⟩,⟨hlt,?_,rfl⟩,?_,by simp;omega⟩
        · rw [hsu];simp
        · simp [St.le,hsu,Per.cells]
  · simp at h
    obtain rfl:k=s.length:=by omega
    rw [List.take_length] at ho
    subst ho
    simp -dsimp
    refine ⟨hnl,?_⟩
    rw [hsz,hnl]
    cases sumP s <;> simp
def unionL (sortP:List Per→List Per) (l:List Per):List Per:=sumP (sortP (l.filter right))
def esz (m:List Per):Nat:=if m.isEmpty then 0 else 2
theorem union_spec {sortP:List Per→List Per} (hs:Sorts sortP) (nl:Bool) (l:List Per) (hn:nl=true→l=[]) (hl:l.length≤8796093021952) :
    Con Tryz.prog 111 [.c (.sl nl (l.map Per.cells))] [.fr (unionL sortP l).isEmpty (esz (unionL sortP l)) ((unionL sortP l).map Per.cells) 0]:=by
  cases nl with
  | false=>exact union_some hs l hl
  | true =>
    obtain rfl:=hn rfl
    have h:=union_nil hs
    have e:unionL sortP []=[]:=by
      unfold unionL
      have:(sortP ([].filter right))=[]:=by
        have:=hs.len []
        simpa using this
      rw [this];rfl
    rw [e]
    exact h
theorem takeWhile_at {α:Type} (q:α→Bool):∀ (u:List α) (k:Nat),k≤u.length→(∀ j,(h:j<u.length)→j<k→q u[j]=true)→(∀ h:k<u.length,q u[k]=false)→u.takeWhile q=u.take k
  | [],k,_,_,_=>by simp
  | x::u,0,_,_,h=>by
    have:=h (by simp)
    simp at this
    simp [this]
  | x::u,k+1,hk,h1,h2=>by
    have:=h1 0 (by simp) (by omega)
    simp at this
    rw [List.takeWhile_cons,this]
    simp only [if_true,List.take_succ_cons]
    rw [takeWhile_at q u k (by simp at hk;omega) (fun j h hj=>by have:=h1 (j+1) (by simp;omega) (by omega);simpa using this) (fun h=>by have:=h2 (by simp;omega);simpa using this)]
end Go.Proofs.YtlphpbcafplnbaaGreat
