/- Contracts of functions of the seat, proved in a logic on data over the model (part X6). -/
import Derived.Test.YtlphpbcafplnbaaGreatAD
import Derived.Test.YtlphpbcafplnbaaGreatV28
import Derived.Lib.Mul64
import Derived.Shelf.Bits.Mul64
set_option linter.unusedSimpArgs false
set_option linter.unusedVariables false
namespace Go.Proofs.YtlphpbcafplnbaaGreat
open Go.VL Go.RowKit
structure Per where
  f:Int
  t:Int
deriving DecidableEq
instance:Inhabited Per:=⟨⟨0,0⟩⟩
def Per.cells (p:Per):List C:=[i64 p.f,i64 p.t]
@[simp] theorem Per.len (p:Per):p.cells.length=2:=rfl
def right (p:Per):Bool:=decide (0≤p.f) && decide (p.f<p.t) && decide (p.t≤1099511627776)
def has (p:Per) (t:Int):Bool:=decide (p.f≤t) && decide (t<p.t)
def checkOf (p:Per):Int:=if right p then 0 else 40
theorem right_iff (p:Per):right p=true↔0≤p.f∧p.f<p.t∧p.t≤1099511627776:=by
  unfold right;simp [and_assoc]
theorem has_iff (p:Per) (t:Int):has p t=true↔p.f≤t∧t<p.t:=by
  unfold has;simp
@[simp] theorem checkOf_ok (p:Per):checkOf p=0↔right p=true:=by unfold checkOf;split <;> simp_all
set_option maxRecDepth 4000 in
set_option maxHeartbeats 4000000 in
theorem check_spec (p:Per):Con Tryz.prog 108 [.agg p.cells] [.c (i64 (checkOf p))]:=by
  refine spec_of Tryz.func108 rfl (by kernel_rfl) (by simp [Tryz.f108]) (fun w0 K0=>vc_ok _ _ _ (by kernel_rfl) ?_)
  simp only [Tryz.f108]
  simp -dsimp [Per.cells]
  refine VIf.mk (fun h=>?_) (fun h=>?_)
  · simp -dsimp
    have:right p=false:=by
      rw [Bool.eq_false_iff,ne_eq,right_iff];simp at h;omega
    simp [checkOf,this]
  · simp -dsimp
    have:right p=true:=by
      rw [right_iff];simp at h;omega
    simp [checkOf,this]
set_option maxRecDepth 4000 in
set_option maxHeartbeats 4000000 in
theorem has_spec (p:Per) (t:Int):Con Tryz.prog 114 [.agg p.cells,.c (i64 t)] [.c (bln (has p t))]:=by
  refine spec_of Tryz.func114 rfl (by kernel_rfl) (by simp [Tryz.f114]) (fun w0 K0=>vc_ok _ _ _ (by kernel_rfl) ?_)
  simp only [Tryz.f114]
  simp -dsimp [Per.cells]
  rfl
set_option maxRecDepth 4000 in
set_option maxHeartbeats 4000000 in
theorem refRight_spec (p:Per):Con Tryz.prog 53 [.agg p.cells] [.c (bln (right p))]:=by
  refine spec_of Tryz.func53 rfl (by kernel_rfl) (by simp [Tryz.f53]) (fun w0 K0=>vc_ok _ _ _ (by kernel_rfl) ?_)
  simp only [Tryz.f53]
  simp -dsimp [Per.cells]
  rfl
set_option maxRecDepth 4000 in
set_option maxHeartbeats 4000000 in
theorem isNaN_spec (x:Int):Con Tryz.prog 93 [.c (i64 x)] [.c (bln false)]:=by
  refine spec_of Tryz.func93 rfl (by kernel_rfl) (by simp [Tryz.f93]) (fun w0 K0=>vc_ok _ _ _ (by kernel_rfl) ?_)
  simp only [Tryz.f93]
  simp -dsimp
def cmpI (x y:Int):Int:=if x<y then -1 else if y<x then 1 else 0
set_option maxRecDepth 4000 in
set_option maxHeartbeats 4000000 in
theorem compare_spec (x y:Int):Con Tryz.prog 58 [.c (i64 x),.c (i64 y)] [.c (i64 (cmpI x y))]:=by
  refine spec_of Tryz.func58 rfl (by kernel_rfl) (by simp [Tryz.f58]) (fun w0 K0=>vc_ok _ _ _ (by kernel_rfl) ?_)
  simp only [Tryz.f58]
  simp -dsimp
  refine VC.mk _ (isNaN_spec x) ?_
  simp -dsimp
  refine VC.mk _ (isNaN_spec y) ?_
  simp -dsimp
  refine VIf.mk (fun h=>?_) (fun h=>?_)
  · simp -dsimp
    simp at h
    simp [cmpI,h]
  · simp -dsimp
    simp at h
    refine VIf.mk (fun h2=>?_) (fun h2=>?_)
    · simp -dsimp
      simp at h2
      simp [cmpI,h2];omega
    · simp -dsimp
      simp at h2
      simp [cmpI];omega
set_option maxRecDepth 4000 in
set_option maxHeartbeats 4000000 in
theorem bad_spec (p:Per):Con Tryz.prog 130 [.agg p.cells] [.c (bln (!right p))]:=by
  refine spec_of Tryz.func130 rfl (by kernel_rfl) (by simp [Tryz.f130]) (fun w0 K0=>vc_ok _ _ _ (by kernel_rfl) ?_)
  simp only [Tryz.f130]
  simp -dsimp [Per.cells]
  refine VC.mk _ (check_spec p) ?_
  simp -dsimp
  simp only [checkOf]
  cases right p <;> simp
theorem take_snoc {α:Type} {l:List α} {k:Nat} (h:k<l.length):l.take (k+1)=l.take k++[l[k]]:=by
  rw [List.take_add_one,List.getElem?_eq_getElem h];rfl
theorem any_snoc {α:Type} (p:α→Bool) {l:List α} {k:Nat} (h:k<l.length):(l.take (k+1)).any p=((l.take k).any p || p l[k]):=by
  rw [take_snoc h,List.any_append];simp
def someP (l:List Per) (t:Int):Bool:=l.any fun p=>right p && has p t
theorem check_at (cs:List C) (p:Per) (h:cs=p.cells):Con Tryz.prog 108 [.agg cs] [.c (i64 (checkOf p))]:=by rw [h];exact check_spec p
theorem has_at (cs:List C) (p:Per) (t:Int) (h:cs=p.cells):Con Tryz.prog 114 [.agg cs,.c (i64 t)] [.c (bln (has p t))]:=by rw [h];exact has_spec p t
theorem refRight_at (cs:List C) (p:Per) (h:cs=p.cells):Con Tryz.prog 53 [.agg cs] [.c (bln (right p))]:=by rw [h];exact refRight_spec p
def lapP (a b:Per):Per:=⟨max a.f b.f,min a.t b.t⟩
def lapOk (a b:Per):Bool:=right a && right b && right (lapP a b)
def lap (a b:Per):Per:=if lapOk a b then lapP a b else ⟨0,0⟩
set_option maxRecDepth 4000 in
set_option maxHeartbeats 4000000 in
theorem overlap_spec (a b:Per):Con Tryz.prog 217 [.agg a.cells,.agg b.cells] [.ag (lap a b).cells,.c (bln (lapOk a b))]:=by
  refine spec_of Tryz.func217 rfl (by kernel_rfl) (by simp [Tryz.f217]) (fun w0 K0=>vc_ok _ _ _ (by kernel_rfl) ?_)
  simp only [Tryz.f217]
  simp -dsimp [Per.cells]
  refine VC.mk _ (check_at _ a rfl) ?_
  simp -dsimp
  refine VG.mk [.c (i64 (checkOf b))] _ (fun _=>check_at _ b rfl) rfl ?_
  simp -dsimp
  refine VG.mk [.c (i64 (checkOf (lapP a b)))] _ (fun _=>check_at _ (lapP a b) rfl) rfl ?_
  simp -dsimp
  refine VIf.mk (fun h=>?_) (fun h=>?_)
  · simp -dsimp
    have ho:lapOk a b=false:=by
      unfold lapOk
      simp at h
      cases ha:right a <;> cases hb:right b <;> simp_all
    simp [lap,ho,Per.cells]
  · simp -dsimp
    have ho:lapOk a b=true:=by
      unfold lapOk
      simp at h
      simp [h]
    simp [lap,ho,Per.cells,lapP]
@[simp] theorem wr0:IntKind.i64.wrap 0=0:=by decide
@[simp] theorem wr1:IntKind.i64.wrap 1=1:=by decide
@[simp] theorem wr2:IntKind.i64.wrap 2=2:=by decide
structure Val where
  kind:Int
  int:Int
  text:List UInt8
deriving DecidableEq
instance:Inhabited Val:=⟨⟨0,0,[]⟩⟩
def Val.cells (v:Val):List C:=[i64 v.kind,i64 v.int,str v.text]
@[simp] theorem Val.len (v:Val):v.cells.length=3:=rfl
abbrev vals (l:List Val):List (List C):=l.map Val.cells
structure Fact where
  nl:Bool
  row:List Val
  p:Per
deriving DecidableEq
instance:Inhabited Fact:=⟨⟨false,[],⟨0,0⟩⟩⟩
def Fact.cells (f:Fact):List C:=[.sl f.nl (vals f.row),i64 f.p.f,i64 f.p.t]
@[simp] theorem Fact.len (f:Fact):f.cells.length=3:=rfl
abbrev facts (l:List Fact):List (List C):=l.map Fact.cells
def Fact.strip (f:Fact):List Val × Per:=(f.row,f.p)
def strips (l:List Fact):List (List Val × Per):=l.map Fact.strip
def ltV (a b:Val):Bool:=decide (a.kind<b.kind) || (decide (a.kind=b.kind) && (decide (a.int<b.int) || (decide (a.int=b.int) && Op.bytesLess a.text b.text)))
theorem bl_irr:∀ (a:List UInt8),Op.bytesLess a a=false
  | []=>rfl
  | x::a=>by simp [Op.bytesLess,bl_irr a]
theorem ltV_irr (a:Val):ltV a a=false:=by simp [ltV,bl_irr]
def cmpV (a b:Val):Int:=if ltV a b then -1 else if a=b then 0 else 1
theorem cmpV_0 (a b:Val):cmpV a b=0↔a=b:=by
  unfold cmpV
  constructor
  · intro h
    split at h
    · cases h
    · split at h
      · assumption
      · cases h
  · rintro rfl;simp [ltV_irr]
def cmpR:List Val→List Val→Int
  | [],[]=>0
  | [],_::_=>-1
  | _::_,[]=>1
  | a::l,b::m=>if cmpV a b=0 then cmpR l m else cmpV a b
theorem cmpR_0:∀ (l m:List Val),cmpR l m=0↔l=m
  | [],[]=>by simp [cmpR]
  | [],_::_=>by simp [cmpR]
  | _::_,[]=>by simp [cmpR]
  | a::l,b::m=>by
    rw [cmpR]
    by_cases h:cmpV a b=0
    · rw [if_pos h,cmpR_0 l m]
      rw [cmpV_0] at h
      simp [h]
    · rw [if_neg h]
      rw [cmpV_0] at h
      simp [cmpV_0,h]
theorem cmpR_take:∀ (k:Nat) (l m:List Val),l.take k=m.take k→k≤l.length→k≤m.length→cmpR l m=cmpR (l.drop k) (m.drop k)
  | 0,l,m,_,_,_=>by simp
  | k+1,[],m,_,h,_=>by simp at h
  | k+1,_::_,[],_,_,h=>by simp at h
  | k+1,a::l,b::m,h,h1,h2=>by
    simp at h
    rw [cmpR,if_pos ((cmpV_0 a b).2 h.1)]
    simp only [List.drop_succ_cons]
    exact cmpR_take k l m h.2 (by simpa using h1) (by simpa using h2)
theorem cmpR_at {l m:List Val} {k:Nat} (h:l.take k=m.take k) (h1:k<l.length) (h2:k<m.length) (hne:cmpV l[k] m[k]≠0):cmpR l m=cmpV l[k] m[k]:=by
  rw [cmpR_take k l m h (by omega) (by omega),List.drop_eq_getElem_cons h1,List.drop_eq_getElem_cons h2,cmpR,if_neg hne]
theorem cmpR_end {l m:List Val} {k:Nat} (h:l.take k=m.take k) (h1:k≤l.length) (h2:k≤m.length) (he:k=l.length∨k=m.length):cmpR l m=if l.length<m.length then -1 else if m.length<l.length then 1 else 0:=by
  rw [cmpR_take k l m h h1 h2]
  rcases he with rfl | rfl
  · rw [List.drop_length]
    rcases Nat.lt_or_ge l.length m.length with hlt | hge
    · rw [if_pos hlt,List.drop_eq_getElem_cons hlt];rfl
    · rw [if_neg (by omega),if_neg (by omega),List.drop_of_length_le (by omega)];rfl
  · rw [show m.drop m.length=[] from List.drop_length]
    rcases Nat.lt_or_ge m.length l.length with hlt | hge
    · rw [if_neg (by omega),if_pos hlt,List.drop_eq_getElem_cons hlt];rfl
    · rw [if_neg (by omega),if_neg (by omega),List.drop_of_length_le (by omega)];rfl
theorem take_step {α:Type} {l m:List α} {k:Nat} (h:k<l.length) (h':k<m.length) (e:l.take k=m.take k) (e':l[k]=m[k]):l.take (k+1)=m.take (k+1):=by
  rw [take_snoc h,take_snoc h',e,e']
inductive Ex where
  | mk (op:List UInt8) (int:Int) (text of:List UInt8) (nl:Bool) (args:List Ex)
instance:Inhabited Ex:=⟨.mk [] 0 [] [] true []⟩
mutual
def Ex.cells:Ex→List C
  | .mk op int text of nl args=>[str op,i64 int,str text,str of,.sl nl (Ex.cellss args)]
def Ex.cellss:List Ex→List (List C)
  | []=>[]
  | e::r=>e.cells::Ex.cellss r
end
theorem Ex.cellss_map:∀ l:List Ex,Ex.cellss l=l.map Ex.cells
  | []=>by rw [Ex.cellss];rfl
  | e::r=>by rw [Ex.cellss,Ex.cellss_map r];rfl
theorem Ex.cells_mk (op:List UInt8) (int:Int) (text of:List UInt8) (nl:Bool) (args:List Ex):(Ex.mk op int text of nl args).cells=[str op,i64 int,str text,str of,.sl nl (args.map Ex.cells)]:=by
  rw [Ex.cells,Ex.cellss_map]
@[simp] theorem Ex.len (e:Ex):e.cells.length=5:=by cases e;rw [Ex.cells];rfl
@[simp] theorem Ex.take5 (e:Ex):List.take 5 e.cells=e.cells:=List.take_of_length_le (by simp)
inductive Tm where
  | mk (op:List UInt8) (kind:Int) (value:Val) (place:Int) (nl:Bool) (args:List Tm)
instance:Inhabited Tm:=⟨.mk [] 0 ⟨0,0,[]⟩ 0 true []⟩
mutual
def Tm.cells:Tm→List C
  | .mk op kind v place nl args=>[str op,i64 kind,i64 v.kind,i64 v.int,str v.text,i64 place,.sl nl (Tm.cellss args)]
def Tm.cellss:List Tm→List (List C)
  | []=>[]
  | e::r=>e.cells::Tm.cellss r
end
theorem Tm.cellss_map:∀ l:List Tm,Tm.cellss l=l.map Tm.cells
  | []=>by rw [Tm.cellss];rfl
  | e::r=>by rw [Tm.cellss,Tm.cellss_map r];rfl
theorem Tm.cells_mk (op:List UInt8) (kind:Int) (v:Val) (place:Int) (nl:Bool) (args:List Tm) :
    (Tm.mk op kind v place nl args).cells=[str op,i64 kind,i64 v.kind,i64 v.int,str v.text,i64 place,.sl nl (args.map Tm.cells)]:=by
  rw [Tm.cells,Tm.cellss_map]
@[simp] theorem Tm.len (e:Tm):e.cells.length=7:=by cases e;rw [Tm.cells];rfl
@[simp] theorem Tm.take7 (e:Tm):List.take 7 e.cells=e.cells:=List.take_of_length_le (by simp)
def Tm.op:Tm→List UInt8 | .mk op _ _ _ _ _=>op
def Tm.kind:Tm→Int | .mk _ k _ _ _ _=>k
def Tm.args:Tm→List Tm | .mk _ _ _ _ _ args=>args
abbrev wOR:List UInt8:=[79,82]
abbrev wAND:List UInt8:=[65,78,68]
abbrev wNOT:List UInt8:=[78,79,84]
abbrev wEQ:List UInt8:=[61]
abbrev wNE:List UInt8:=[60,62]
abbrev wLE:List UInt8:=[60,61]
abbrev wGE:List UInt8:=[62,61]
abbrev wLT:List UInt8:=[60]
abbrev wGT:List UInt8:=[62]
abbrev wADD:List UInt8:=[43]
abbrev wSUB:List UInt8:=[45]
abbrev wMUL:List UInt8:=[42]
abbrev wValue:List UInt8:=[118,97,108,117,101]
abbrev wColumn:List UInt8:=[99,111,108,117,109,110]
abbrev wNumber:List UInt8:=[110,117,109,98,101,114]
abbrev wText:List UInt8:=[116,101,120,116]
abbrev wName:List UInt8:=[110,97,109,101]
def truthV (b:Bool):Val:=⟨3,bif b then 1 else 0,[]⟩
def numV (n:Int):Val:=⟨1,n,[]⟩
def fits64 (n:Int):Bool:=decide (-9223372036854775808≤n) && decide (n≤9223372036854775807)
def arithI (op:List UInt8) (a b:Int):Int:=if op=wADD then a+b else if op=wSUB then a-b else a*b
inductive Ev where
  | ok (v:Val)
  | no (code:Int)
deriving DecidableEq
instance:Inhabited Ev:=⟨.no 0⟩
def arithV (op:List UInt8) (a b:Int):Ev:=if fits64 (arithI op a b)=true then .ok (numV (arithI op a b)) else .no 171
def cmpB (a b:List UInt8):Int:=if Op.bytesLess a b then -1 else if a=b then 0 else 1
def ordV (a b:Val):Int:=if cmpI a.int b.int=0 then cmpB a.text b.text else cmpI a.int b.int
def reckonV (op:List UInt8) (a b:Val):Ev :=
  if op=wOR then .ok (truthV (decide (a.int=1) || decide (b.int=1)))
  else if op=wAND then .ok (truthV (decide (a.int=1) && decide (b.int=1)))
  else if op=wEQ then .ok (truthV (decide (ordV a b=0)))
  else if op=wNE then .ok (truthV (!decide (ordV a b=0)))
  else if op=wLE then .ok (truthV (decide (ordV a b≤0)))
  else if op=wGE then .ok (truthV (decide (0≤ordV a b)))
  else if op=wLT then .ok (truthV (decide (ordV a b<0)))
  else if op=wGT then .ok (truthV (decide (0<ordV a b)))
  else arithV op a.int b.int
def oneV (op:List UInt8) (a:Val):Ev:=if op=wNOT then .ok (truthV (decide (a.int=0))) else arithV wSUB 0 a.int
def opV (op:List UInt8):List Ev→Ev
  | []=>.no 0
  | .no c::_=>.no c
  | [.ok a]=>oneV op a
  | .ok a :: .no c::_=>if op=wNOT then oneV op a else .no c
  | .ok a :: .ok b::_=>if op=wNOT then oneV op a else reckonV op a b
def colV (kind place:Int) (row:List Val):Ev:=if 0≤place∧place<row.length∧(row.getD place.toNat default).kind=kind then .ok (row.getD place.toNat default) else .no 161
mutual
def evalT (row:List Val):Tm→Ev
  | .mk op kind v place _ args=>if op=wValue then .ok v else if op=wColumn then colV kind place row else opV op (evalTs row args)
def evalTs (row:List Val):List Tm→List Ev
  | []=>[]
  | t::r=>evalT row t::evalTs row r
end
theorem evalTs_map (row:List Val):∀ l:List Tm,evalTs row l=l.map (evalT row)
  | []=>by rw [evalTs];rfl
  | e::r=>by rw [evalTs,evalTs_map row r];rfl
def two2:List (List UInt8):=[wOR,wAND,wEQ,wNE,wLE,wGE,wLT,wGT,wADD,wSUB,wMUL]
inductive Tm.Ok:Tm→Prop where
  | value (kind:Int) (v:Val) (place:Int) (nl:Bool) (args:List Tm):fits64 v.int=true→Tm.Ok (.mk wValue kind v place nl args)
  | column (kind:Int) (v:Val) (place:Int) (nl:Bool) (args:List Tm):Tm.Ok (.mk wColumn kind v place nl args)
  | one (op:List UInt8) (kind:Int) (v:Val) (place:Int) (nl:Bool) (x:Tm):op=wNOT∨op=wSUB→x.Ok→Tm.Ok (.mk op kind v place nl [x])
  | two (op:List UInt8) (kind:Int) (v:Val) (place:Int) (nl:Bool) (x y:Tm):op∈two2→x.Ok→y.Ok→Tm.Ok (.mk op kind v place nl [x,y])
structure SCol where
  table:List UInt8
  name:List UInt8
  kind:Int
deriving DecidableEq
instance:Inhabited SCol:=⟨⟨[],[],0⟩⟩
def SCol.cells (c:SCol):List C:=[str c.table,str c.name,i64 c.kind]
def tabOk (of:List UInt8) (c:SCol):Bool:=decide (of=[]) || decide (c.table=of)
def hit (of name:List UInt8) (c:SCol):Bool:=tabOk of c && decide (c.name=name)
inductive Fd where
  | ok (i:Nat)
  | no (code:Int)
deriving DecidableEq
def findC (sc:List SCol) (of name:List UInt8):Fd :=
  if 2≤sc.countP (hit of name) then .no 173
  else if of≠[]∧sc.any (tabOk of)=false then .no 160
  else if sc.any (hit of name)=false then .no 161
  else .ok (sc.findIdx (hit of name))
def allK (k:Int) (ks:List Int):Bool:=ks.all fun x=>decide (x=k)
def kindK (op:List UInt8) (ks:List Int):Int × Bool :=
  if op=wOR∨op=wAND then (3,decide (ks.length=2) && allK 3 ks)
  else if op=wNOT then (3,decide (ks.length=1) && allK 3 ks)
  else if op=wEQ∨op=wNE∨op=wLE∨op=wGE∨op=wLT∨op=wGT then (3,decide (ks.length=2) && (allK 1 ks || allK 2 ks))
  else if op=wSUB then (1,(decide (ks.length=1) || decide (ks.length=2)) && allK 1 ks)
  else if op=wADD∨op=wMUL then (1,decide (ks.length=2) && allK 1 ks)
  else (0,false)
inductive Bd where
  | ok (t:Tm)
  | no (code:Int)
inductive Bds where
  | ok (ts:List Tm)
  | no (code:Int)
mutual
def bindE (sc:List SCol):Ex→Bd
  | .mk op int text of _ args =>
    if op=wNumber then .ok (.mk wValue 1 ⟨1,int,[]⟩ 0 true [])
    else if op=wText then (if 64<text.length then .no 2 else .ok (.mk wValue 2 ⟨2,0,text⟩ 0 true []))
    else if op=wName then
      match findC sc of text with
      | .ok i=>.ok (.mk wColumn (sc.getD i default).kind ⟨0,0,[]⟩ i true [])
      | .no c=>.no c
    else
      match bindEs sc args with
      | .no c=>.no c
      | .ok ts=>if (kindK op (ts.map Tm.kind)).2=true then .ok (.mk op (kindK op (ts.map Tm.kind)).1 ⟨0,0,[]⟩ 0 ts.isEmpty ts) else .no 170
def bindEs (sc:List SCol):List Ex→Bds
  | []=>.ok []
  | e::r =>
    match bindE sc e with
    | .no c=>.no c
    | .ok t =>
      match bindEs sc r with
      | .no c=>.no c
      | .ok ts=>.ok (t::ts)
end
theorem kindK_len {op:List UInt8} {ks:List Int} (h:(kindK op ks).2=true):ks.length=1∧(op=wNOT∨op=wSUB)∨ks.length=2∧op∈two2:=by
  unfold kindK at h
  split at h
  · rename_i e;simp at h;rcases e with rfl | rfl <;> simp [h.1,two2]
  · split at h
    · rename_i e;subst e;simp at h;simp [h.1]
    · split at h
      · rename_i e;simp at h;rcases e with rfl | rfl | rfl | rfl | rfl | rfl <;> simp [h.1,two2]
      · split at h
        · rename_i e;subst e;simp at h;rcases h.1 with h | h <;> simp [h,two2]
        · split at h
          · rename_i e;simp at h;rcases e with rfl | rfl <;> simp [h.1,two2]
          · simp at h
mutual
def Ex.fit:Ex→Prop
  | .mk _ int _ _ _ args=>fits64 int=true∧args.length≤1000000000∧Ex.fits args
def Ex.fits:List Ex→Prop
  | []=>True
  | e::r=>e.fit∧Ex.fits r
end
theorem Ex.fits_iff:∀ l:List Ex,Ex.fits l↔∀ e∈l,e.fit
  | []=>by simp [Ex.fits]
  | e::r=>by rw [Ex.fits,Ex.fits_iff r];simp
mutual
theorem bindE_ok (sc:List SCol):∀ (e:Ex) (t:Tm),e.fit→bindE sc e = .ok t→t.Ok
  | .mk op int text of nl args,t,hf,h=>by
    rw [Ex.fit] at hf
    rw [bindE] at h
    split at h
    · cases h;exact .value _ _ _ _ _ hf.1
    · split at h
      · split at h
        · cases h
        · cases h;exact .value _ _ _ _ _ (by rfl)
      · split at h
        · split at h
          · cases h;exact .column ..
          · cases h
        · split at h
          · cases h
          · rename_i ts hts
            split at h
            · rename_i hk
              cases h
              have k3:=kindK_len hk
              have hall:=bindEs_ok sc args ts hf.2.2 hts
              rw [List.length_map] at k3
              match ts,hall,k3 with
              | [],_,k3=>simp at k3
              | [x],hall,k3=>exact .one _ _ _ _ _ _ (by simpa using k3) (hall x (by simp))
              | [x,y],hall,k3=>exact .two _ _ _ _ _ _ _ (by simpa using k3) (hall x (by simp)) (hall y (by simp))
              | _::_::_::_,_,k3=>simp at k3
            · cases h
theorem bindEs_ok (sc:List SCol):∀ (es:List Ex) (ts:List Tm),Ex.fits es→bindEs sc es = .ok ts→∀ t∈ts,t.Ok
  | [],ts,_,h=>by rw [bindEs] at h;cases h;simp
  | e::r,ts,hf,h=>by
    rw [Ex.fits] at hf
    rw [bindEs] at h
    split at h
    · cases h
    · rename_i t ht
      split at h
      · cases h
      · rename_i ts' hts
        cases h
        intro x hx
        rcases List.mem_cons.1 hx with rfl | hx
        · exact bindE_ok sc e _ hf.1 ht
        · exact bindEs_ok sc r ts' hf.2 hts x hx
end
set_option maxRecDepth 4000 in
set_option maxHeartbeats 4000000 in
theorem truth_spec (b:Bool):Con Tryz.prog 289 [.c (bln b)] [.ag (truthV b).cells]:=by
  refine spec_of Tryz.func289 rfl (by kernel_rfl) (by simp [Tryz.f289]) (fun w0 K0=>vc_ok _ _ _ (by kernel_rfl) ?_)
  simp only [Tryz.f289]
  simp -dsimp
  refine VIf.mk (fun h=>?_) (fun h=>?_)
  · subst h;simp -dsimp [truthV,Val.cells]
  · subst h;simp -dsimp [truthV,Val.cells]
set_option maxRecDepth 4000 in
set_option maxHeartbeats 4000000 in
theorem number_spec (n:Int):Con Tryz.prog 293 [.c (i64 n)] [.ag (numV n).cells]:=by
  refine spec_of Tryz.func293 rfl (by kernel_rfl) (by simp [Tryz.f293]) (fun w0 K0=>vc_ok _ _ _ (by kernel_rfl) ?_)
  simp only [Tryz.f293]
  simp -dsimp [numV,Val.cells]
set_option maxRecDepth 4000 in
set_option maxHeartbeats 4000000 in
theorem isNaNS_spec (x:List UInt8):Con Tryz.prog 269 [.c (str x)] [.c (bln false)]:=by
  refine spec_of Tryz.func269 rfl (by kernel_rfl) (by simp [Tryz.f269]) (fun w0 K0=>vc_ok _ _ _ (by kernel_rfl) ?_)
  simp only [Tryz.f269]
  simp -dsimp
set_option maxRecDepth 4000 in
set_option maxHeartbeats 4000000 in
theorem compareS_spec (x y:List UInt8):Con Tryz.prog 294 [.c (str x),.c (str y)] [.c (i64 (cmpB x y))]:=by
  refine spec_of Tryz.func294 rfl (by kernel_rfl) (by simp [Tryz.f294]) (fun w0 K0=>vc_ok _ _ _ (by kernel_rfl) ?_)
  simp only [Tryz.f294]
  simp -dsimp
  refine VC.mk _ (isNaNS_spec x) ?_
  simp -dsimp
  refine VC.mk _ (isNaNS_spec y) ?_
  simp -dsimp
  refine VIf.mk (fun h=>?_) (fun h=>?_)
  · simp -dsimp
    simp [cmpB,h]
  · simp -dsimp
    try simp at h
    refine VIf.mk (fun h2=>?_) (fun h2=>?_)
    · simp -dsimp
      try simp at h2
      simp [cmpB,h2,h]
    · simp -dsimp
      simp at h h2
      have:=h2 h
      subst this
      simp [cmpB,h]
def firstNZ:List Int→Int
  | []=>0
  | x::r=>if x=0 then firstNZ r else x
set_option maxRecDepth 4000 in
set_option maxHeartbeats 4000000 in
theorem or_spec (nl:Bool) (l:List Int) (hl:l.length≤140737488355328):Con Tryz.prog 60 [.c (.sl nl (l.map fun x=>[i64 x]))] [.c (i64 (firstNZ l))]:=by
  refine spec_of Tryz.func60 rfl (by kernel_rfl) (by simp [Tryz.f60]) (fun w0 K0=>vc_ok _ _ _ (by kernel_rfl) ?_)
  simp only [Tryz.f60]
  simp -dsimp
  refine VL.loop (fun k:Nat=>⟨[(8,.c (i64 k)),(7,.c (i64 l.length)),(6,.c (.sl nl (l.map fun x=>[i64 x]))),(3,.c (i64 0)),(2,.c (i64 0))],[]⟩) (fun k=>k≤l.length∧firstNZ l=firstNZ (l.drop k)) (fun k=>l.length-k) 0 (by kernel_rfl) (by simp) (by simp [St.le]) ?_
  intro k ⟨h1,h2⟩
  simp -dsimp
  refine VIf.mk (fun h=>?_) (fun h=>?_)
  · have hk:k<l.length:=by simpa using h
    simp -dsimp [hk]
    have hd:l.drop k=l[k]::l.drop (k+1):=by rw [List.drop_eq_getElem_cons hk]
    rw [hd,firstNZ] at h2
    refine VIf.mk (fun hz=>?_) (fun hz=>?_)
    · simp at hz
      rw [if_neg hz] at h2
      simp -dsimp
      simp [h2]
    · simp at hz
      rw [if_pos hz] at h2
      simp -dsimp
      refine ⟨k+1,⟨by omega,h2⟩,by simp [St.le,show IntKind.i64.wrap ((k:Int)+1)=(k:Int)+1 from IntWalk.i64_in _ (by omega)],by omega⟩
  · have hk:k=l.length:=by simp at h;omega
    simp -dsimp
    subst hk
    simp [firstNZ] at h2
    simp [h2]
def noneV (code:Int):Value:=.iface 395 (.agg [Value.int .i64 code].toArray)
@[simp] theorem isIface_138:isIface Tryz.prog 207=false:=by kernel_rfl
theorem fits64_iff (n:Int):fits64 n=true↔-9223372036854775808≤n∧n≤9223372036854775807:=by simp [fits64]
theorem wrap_cases (n:Int) (h0:-18446744073709551616≤n) (h1:n<18446744073709551616):IntKind.i64.wrap n=if n < -9223372036854775808 then n+18446744073709551616 else if 9223372036854775807<n then n-18446744073709551616 else n:=by
  simp only [IntKind.wrap,IntKind.signed,IntKind.bits]
  simp
  omega
theorem add_fits (a b:Int) (ha:fits64 a=true) (hb:fits64 b=true):((decide (a<IntKind.i64.wrap (a+b)) == decide (0<b)) || (b == 0))=fits64 (a+b):=by
  rw [fits64_iff] at ha hb
  rw [wrap_cases _ (by omega) (by omega),Bool.eq_iff_iff,fits64_iff]
  simp only [Bool.or_eq_true,beq_iff_eq,decide_eq_decide]
  split
  · omega
  · split <;> omega
theorem sub_fits (a b:Int) (ha:fits64 a=true) (hb:fits64 b=true):((decide (IntKind.i64.wrap (a-b)<a) == decide (0<b)) || (b == 0))=fits64 (a-b):=by
  rw [fits64_iff] at ha hb
  rw [wrap_cases _ (by omega) (by omega),Bool.eq_iff_iff,fits64_iff]
  simp only [Bool.or_eq_true,beq_iff_eq,decide_eq_decide]
  split
  · omega
  · split <;> omega
theorem wrap_fits {n:Int} (h:fits64 n=true):IntKind.i64.wrap n=n:=by
  rw [fits64_iff] at h
  exact IntWalk.i64_in n (by omega)
set_option maxRecDepth 4000 in
set_option maxHeartbeats 4000000 in
theorem arith_ok1 (op:List UInt8) (a b:Int) (ha:fits64 a=true) (hb:fits64 b=true) (hop:op=wADD∨op=wSUB) (h:fits64 (arithI op a b)=true):Con Tryz.prog 290 [.c (str op),.c (i64 a),.c (i64 b)] [.ag (numV (arithI op a b)).cells]:=by
  refine spec_of Tryz.func290 rfl (by kernel_rfl) (by simp [Tryz.f290]) (fun w0 K0=>vc_ok _ _ _ (by kernel_rfl) ?_)
  simp only [Tryz.f290]
  rcases hop with rfl | rfl
  · have h1:arithI wADD a b=a+b:=by simp [arithI]
    rw [h1] at h ⊢
    have e:=add_fits a b ha hb
    rw [h] at e
    simp -dsimp
    refine VIf.mk (fun hx=>?_) (fun hx=>?_)
    · exfalso;revert hx e;generalize (decide (a<IntKind.i64.wrap (a+b)) == decide (0<b))=p;generalize (b == 0)=q;cases p <;> cases q <;> simp
    · simp -dsimp
      refine VC.mk _ (number_spec _) ?_
      simp -dsimp [numV,Val.cells,wrap_fits h]
  · have h1:arithI wSUB a b=a-b:=by simp [arithI]
    rw [h1] at h ⊢
    have e:=sub_fits a b ha hb
    rw [h] at e
    simp -dsimp
    refine VIf.mk (fun hx=>?_) (fun hx=>?_)
    · exfalso;revert hx e;generalize (decide (IntKind.i64.wrap (a-b)<a) == decide (0<b))=p;generalize (b == 0)=q;cases p <;> cases q <;> simp
    · simp -dsimp
      refine VC.mk _ (number_spec _) ?_
      simp -dsimp [numV,Val.cells,wrap_fits h]
set_option maxRecDepth 4000 in
set_option maxHeartbeats 4000000 in
theorem arith_no1 (op:List UInt8) (a b:Int) (ha:fits64 a=true) (hb:fits64 b=true) (hop:op=wADD∨op=wSUB) (h:fits64 (arithI op a b)=false):ConP Tryz.prog 290 [.c (str op),.c (i64 a),.c (i64 b)] (noneV 171):=by
  refine spec_ofP Tryz.func290 rfl (by kernel_rfl) (by simp [Tryz.f290]) (fun w0 K0=>vx_ok (H:=fun n=>n == 17) _ _ _ (by kernel_rfl) ?_)
  simp only [Tryz.f290]
  rcases hop with rfl | rfl
  · have h1:arithI wADD a b=a+b:=by simp [arithI]
    rw [h1] at h
    have e:=add_fits a b ha hb
    rw [h] at e
    simp -dsimp
    refine VIf.mk (fun hx=>?_) (fun hx=>?_)
    · simp -dsimp
      refine VL.panicAt 1 (by kernel_rfl) ?_
      simp -dsimp
      refine VPN.raise (us:=[Value.int .i64 171]) rfl rfl isIface_138 ?_
      simp -dsimp [noneV]
    · exfalso;revert hx e;generalize (decide (a<IntKind.i64.wrap (a+b)) == decide (0<b))=p;generalize (b == 0)=q;cases p <;> cases q <;> simp
  · have h1:arithI wSUB a b=a-b:=by simp [arithI]
    rw [h1] at h
    have e:=sub_fits a b ha hb
    rw [h] at e
    simp -dsimp
    refine VIf.mk (fun hx=>?_) (fun hx=>?_)
    · simp -dsimp
      refine VL.panicAt 1 (by kernel_rfl) ?_
      simp -dsimp
      refine VPN.raise (us:=[Value.int .i64 171]) rfl rfl isIface_138 ?_
      simp -dsimp [noneV]
    · exfalso;revert hx e;generalize (decide (IntKind.i64.wrap (a-b)<a) == decide (0<b))=p;generalize (b == 0)=q;cases p <;> cases q <;> simp
theorem fd32 (a:Nat):(a:Int).fdiv (2 ^ min 32 IntKind.u64.bits)=((a / 4294967296:Nat):Int):=by
  have:((2:Int) ^ min 32 IntKind.u64.bits)=((4294967296:Nat):Int):=by decide
  rw [this]
  rw [Int.fdiv_eq_ediv_of_nonneg _ (by omega)]
  exact (Int.natCast_ediv a 4294967296).symm
def u64c (n:Nat):C:=.v (.int .u64 (n:Int))
set_option maxRecDepth 4000 in
set_option maxHeartbeats 4000000 in
theorem mul64_spec (x y:Nat) (hx:x<18446744073709551616) (hy:y<18446744073709551616):Con Tryz.prog 292 [.c (u64c x),.c (u64c y)] [.c (u64c (x*y / 18446744073709551616)),.c (u64c (x*y % 18446744073709551616))]:=by
  obtain ⟨bd,bt,bw,hhi⟩:=Lib.mul64_hi x y hx hy
  have ba:=Lib.half_mul_le (a:=x / 4294967296) (b:=y / 4294967296) (by omega) (by omega)
  have bb:=Lib.half_mul_le (a:=x / 4294967296) (b:=y % 4294967296) (by omega) (by omega)
  have bc:=Lib.half_mul_le (a:=x % 4294967296) (b:=y / 4294967296) (by omega) (by omega)
  have ba':x / 4294967296*(y / 4294967296)<18446744073709551616:=by omega
  have bb':x / 4294967296*(y % 4294967296)<18446744073709551616:=by omega
  have bc':x % 4294967296*(y / 4294967296)<18446744073709551616:=by omega
  have bh1:x / 4294967296*(y / 4294967296)+(x / 4294967296*(y % 4294967296)+x % 4294967296*(y % 4294967296) / 4294967296) / 4294967296<18446744073709551616:=by omega
  have bh:x / 4294967296*(y / 4294967296)+(x / 4294967296*(y % 4294967296)+x % 4294967296*(y % 4294967296) / 4294967296) / 4294967296 +
      ((x / 4294967296*(y % 4294967296)+x % 4294967296*(y % 4294967296) / 4294967296) % 4294967296+x % 4294967296*(y / 4294967296)) / 4294967296<18446744073709551616:=by omega
  refine spec_of Tryz.func292 rfl (by kernel_rfl) (by simp [Tryz.f292]) (fun w0 K0=>vc_ok _ _ _ (by kernel_rfl) ?_)
  simp only [Tryz.f292]
  simp -dsimp [u64c]
  simp only [Mul64.maskN x hx,Mul64.maskN y hy,fd32,Mul64.mulN,Mul64.addN,Mul64.wrapN _ bd,Mul64.wrapN _ bb',Mul64.wrapN _ bt,Mul64.maskN _ bt,Mul64.wrapN _ bc',Mul64.wrapN _ bw,Mul64.wrapN _ ba',Mul64.wrapN _ bh1,Mul64.wrapN _ bh,Mul64.wrapM]
  rw [hhi]
  exact ⟨by simp,by simp⟩
theorem prod_bound {a b:Int} (ha:fits64 a=true) (hb:fits64 b=true):-85070591730234615865843651857942052864≤a*b∧a*b≤85070591730234615865843651857942052864:=by
  rw [fits64_iff] at ha hb
  have h1:a.natAbs≤9223372036854775808:=by omega
  have h2:b.natAbs≤9223372036854775808:=by omega
  have h3:=Nat.mul_le_mul h1 h2
  rw [← Int.natAbs_mul] at h3
  generalize a*b=p at h3 ⊢
  omega
theorem xy_form (a b:Int) (x y:Nat) (ha:fits64 a=true) (hb:fits64 b=true) (hx:IntKind.u64.wrap a=x) (hy:IntKind.u64.wrap b=y) :
    (x:Int)*y % 18446744073709551616=a*b % 18446744073709551616 ∧
    (x:Int)*y / 18446744073709551616=a*b / 18446744073709551616+(if a<0 then b else 0)+(if b<0 then a else 0)+(if a<0∧b<0 then 18446744073709551616 else 0):=by
  rw [fits64_iff] at ha hb
  rw [IntKind.wrap_u64] at hx hy
  have ex:(x:Int)=if a<0 then a+18446744073709551616 else a:=by split <;> omega
  have ey:(y:Int)=if b<0 then b+18446744073709551616 else b:=by split <;> omega
  rw [ex,ey]
  by_cases h1:a<0 <;> by_cases h2:b<0
  · have:(a+18446744073709551616)*(b+18446744073709551616)=a*b+18446744073709551616*(a+b+18446744073709551616):=by
      rw [Int.add_mul,Int.mul_add,Int.mul_add];omega
    simp only [h1,h2,if_true,and_self]
    rw [this,Int.add_mul_emod_self_left,Int.add_mul_ediv_left _ _ (by omega)]
    omega
  · have:(a+18446744073709551616)*b=a*b+18446744073709551616*b:=by rw [Int.add_mul]
    simp only [h1,h2,if_true,if_false,and_false]
    rw [this,Int.add_mul_emod_self_left,Int.add_mul_ediv_left _ _ (by omega)]
    omega
  · have:a*(b+18446744073709551616)=a*b+18446744073709551616*a:=by rw [Int.mul_add];omega
    simp only [h1,h2,if_true,if_false,false_and]
    rw [this,Int.add_mul_emod_self_left,Int.add_mul_ediv_left _ _ (by omega)]
    omega
  · clear ex ey hx hy
    simp [h1,h2]
theorem lo_form {p:Int} (h:-85070591730234615865843651857942052864≤p∧p≤85070591730234615865843651857942052864):IntKind.i64.wrap (p % 18446744073709551616)=if 9223372036854775807<p % 18446744073709551616 then p % 18446744073709551616-18446744073709551616 else p % 18446744073709551616:=by
  rw [wrap_cases _ (by omega) (by omega)]
  rw [if_neg (by omega)]
theorem fits_half {p:Int} (h:-85070591730234615865843651857942052864≤p∧p≤85070591730234615865843651857942052864) :
    fits64 p=true↔(p / 18446744073709551616) % 18446744073709551616=(if 9223372036854775807<p % 18446744073709551616 then 18446744073709551615 else 0):=by
  rw [fits64_iff]
  split <;> omega
theorem lo_fits {p:Int} (h:fits64 p=true):IntKind.i64.wrap (p % 18446744073709551616)=p:=by
  rw [fits64_iff] at h
  rw [lo_form (by omega)]
  split <;> omega
theorem sh63 (n:Int):n.fdiv (2 ^ min 63 IntKind.i64.bits)=n / 9223372036854775808:=by
  have:((2:Int) ^ min 63 IntKind.i64.bits)=9223372036854775808:=by decide
  rw [this,Int.fdiv_eq_ediv_of_nonneg _ (by omega)]
theorem half_test {p h:Int} (pb:-85070591730234615865843651857942052864≤p∧p≤85070591730234615865843651857942052864) (hh:h=p / 18446744073709551616 % 18446744073709551616) :
    (h == IntKind.u64.wrap ((IntKind.i64.wrap (p % 18446744073709551616)).fdiv (2 ^ min 63 IntKind.i64.bits)))=fits64 p:=by
  rw [Bool.eq_iff_iff,fits_half pb,beq_iff_eq,sh63,lo_form pb,IntKind.wrap_u64,hh]
  split <;> omega
theorem half_pp {a b p:Int} : IntKind.u64.wrap (IntKind.u64.wrap (p+b+a+18446744073709551616-IntKind.u64.wrap b)-IntKind.u64.wrap a)=p % 18446744073709551616:=by
  simp only [IntKind.wrap_u64];omega
theorem half_p {b p:Int} : IntKind.u64.wrap (p+b-IntKind.u64.wrap b)=p % 18446744073709551616:=by
  simp only [IntKind.wrap_u64];omega
set_option maxRecDepth 4000 in
set_option maxHeartbeats 4000000 in
theorem arith_ok2 (a b:Int) (ha:fits64 a=true) (hb:fits64 b=true) (h:fits64 (a*b)=true):Con Tryz.prog 290 [.c (str wMUL),.c (i64 a),.c (i64 b)] [.ag (numV (a*b)).cells]:=by
  obtain ⟨x,hx⟩:∃ x:Nat,IntKind.u64.wrap a=x∧x<18446744073709551616:=⟨(IntKind.u64.wrap a).toNat,by rw [IntKind.wrap_u64];omega⟩
  obtain ⟨y,hy⟩:∃ y:Nat,IntKind.u64.wrap b=y∧y<18446744073709551616:=⟨(IntKind.u64.wrap b).toNat,by rw [IntKind.wrap_u64];omega⟩
  obtain ⟨e1,e2⟩:=xy_form a b x y ha hb hx.1 hy.1
  have pb:=prod_bound ha hb
  have ht:=fun hi=>half_test (h:=hi) pb
  rw [h] at ht
  have lf:=lo_fits h
  refine spec_of Tryz.func290 rfl (by kernel_rfl) (by simp [Tryz.f290]) (fun w0 K0=>vc_ok _ _ _ (by kernel_rfl) ?_)
  simp only [Tryz.f290]
  simp -dsimp [hx.1,hy.1]
  refine VC.mk _ (mul64_spec x y hx.2 hy.2) ?_
  simp -dsimp [u64c]
  rw [e1,e2]
  refine VIf.mk (fun h1=>?_) (fun h1=>?_)
  · simp at h1
    simp -dsimp [h1]
    refine VIf.mk (fun h2=>?_) (fun h2=>?_)
    · simp at h2
      simp -dsimp [h1,h2]
      rw [ht _ half_pp]
      simp -dsimp
      refine VC.mk _ (number_spec _) ?_
      simp -dsimp [numV,Val.cells,lf]
    · simp at h2
      have h2':¬ b<0:=by omega
      simp -dsimp [h1,h2,h2']
      rw [ht _ half_p]
      simp -dsimp
      refine VC.mk _ (number_spec _) ?_
      simp -dsimp [numV,Val.cells,lf]
  · simp at h1
    have h1':¬ a<0:=by omega
    simp -dsimp [h1,h1']
    refine VIf.mk (fun h2=>?_) (fun h2=>?_)
    · simp at h2
      simp -dsimp [h1,h1',h2]
      rw [ht _ half_p]
      simp -dsimp
      refine VC.mk _ (number_spec _) ?_
      simp -dsimp [numV,Val.cells,lf]
    · simp at h2
      have h2':¬ b<0:=by omega
      simp -dsimp [h1,h1',h2,h2']
      have hp:=Int.mul_nonneg h1 h2
      rw [ht _ (by omega)]
      simp -dsimp
      refine VC.mk _ (number_spec _) ?_
      simp -dsimp [numV,Val.cells,lf]
set_option maxRecDepth 4000 in
set_option maxHeartbeats 4000000 in
theorem arith_no2 (op:List UInt8) (a b:Int) (ha:fits64 a=true) (hb:fits64 b=true) (hop:op=wMUL) (h:fits64 (a*b)=false):ConP Tryz.prog 290 [.c (str op),.c (i64 a),.c (i64 b)] (noneV 171):=by
  subst hop
  obtain ⟨x,hx⟩:∃ x:Nat,IntKind.u64.wrap a=x∧x<18446744073709551616:=⟨(IntKind.u64.wrap a).toNat,by rw [IntKind.wrap_u64];omega⟩
  obtain ⟨y,hy⟩:∃ y:Nat,IntKind.u64.wrap b=y∧y<18446744073709551616:=⟨(IntKind.u64.wrap b).toNat,by rw [IntKind.wrap_u64];omega⟩
  obtain ⟨e1,e2⟩:=xy_form a b x y ha hb hx.1 hy.1
  have pb:=prod_bound ha hb
  have ht:=fun hi=>half_test (h:=hi) pb
  rw [h] at ht
  refine spec_ofP Tryz.func290 rfl (by kernel_rfl) (by simp [Tryz.f290]) (fun w0 K0=>vx_ok (H:=fun n=>n == 17) _ _ _ (by kernel_rfl) ?_)
  simp only [Tryz.f290]
  simp -dsimp [hx.1,hy.1]
  refine VC.mk _ (mul64_spec x y hx.2 hy.2) ?_
  simp -dsimp [u64c]
  rw [e1,e2]
  refine VIf.mk (fun h1=>?_) (fun h1=>?_)
  · simp at h1
    simp -dsimp [h1]
    refine VIf.mk (fun h2=>?_) (fun h2=>?_)
    · simp at h2
      simp -dsimp [h1,h2]
      rw [ht _ half_pp]
      simp -dsimp
      refine VL.panicAt 1 (by kernel_rfl) ?_
      simp -dsimp
      refine VPN.raise (us:=[Value.int .i64 171]) rfl rfl isIface_138 ?_
      simp -dsimp [noneV]
    · simp at h2
      have h2':¬ b<0:=by omega
      simp -dsimp [h1,h2,h2']
      rw [ht _ half_p]
      simp -dsimp
      refine VL.panicAt 1 (by kernel_rfl) ?_
      simp -dsimp
      refine VPN.raise (us:=[Value.int .i64 171]) rfl rfl isIface_138 ?_
      simp -dsimp [noneV]
  · simp at h1
    have h1':¬ a<0:=by omega
    simp -dsimp [h1,h1']
    refine VIf.mk (fun h2=>?_) (fun h2=>?_)
    · simp at h2
      simp -dsimp [h1,h1',h2]
      rw [ht _ half_p]
      simp -dsimp
      refine VL.panicAt 1 (by kernel_rfl) ?_
      simp -dsimp
      refine VPN.raise (us:=[Value.int .i64 171]) rfl rfl isIface_138 ?_
      simp -dsimp [noneV]
    · simp at h2
      have h2':¬ b<0:=by omega
      simp -dsimp [h1,h1',h2,h2']
      have hp:=Int.mul_nonneg h1 h2
      rw [ht _ (by omega)]
      simp -dsimp
      refine VL.panicAt 1 (by kernel_rfl) ?_
      simp -dsimp
      refine VPN.raise (us:=[Value.int .i64 171]) rfl rfl isIface_138 ?_
      simp -dsimp [noneV]
theorem arith_ok (op:List UInt8) (a b:Int) (ha:fits64 a=true) (hb:fits64 b=true) (hop:op=wADD∨op=wSUB∨op=wMUL) {v:Val} (h:arithV op a b = .ok v):Con Tryz.prog 290 [.c (str op),.c (i64 a),.c (i64 b)] [.ag v.cells]:=by
  unfold arithV at h
  split at h
  · rename_i hf
    cases h
    rcases hop with rfl | rfl | rfl
    · exact arith_ok1 _ a b ha hb (.inl rfl) hf
    · exact arith_ok1 _ a b ha hb (.inr rfl) hf
    · have e:arithI wMUL a b=a*b:=by simp [arithI]
      rw [e] at hf ⊢
      exact arith_ok2 a b ha hb hf
  · cases h
theorem arith_no (op:List UInt8) (a b:Int) (ha:fits64 a=true) (hb:fits64 b=true) (hop:op=wADD∨op=wSUB∨op=wMUL) {c:Int} (h:arithV op a b = .no c):ConP Tryz.prog 290 [.c (str op),.c (i64 a),.c (i64 b)] (noneV c):=by
  unfold arithV at h
  split at h
  · cases h
  · rename_i hf
    have hf:fits64 (arithI op a b)=false:=by simpa using hf
    cases h
    rcases hop with rfl | rfl | rfl
    · exact arith_no1 _ a b ha hb (.inl rfl) hf
    · exact arith_no1 _ a b ha hb (.inr rfl) hf
    · have e:arithI wMUL a b=a*b:=by simp [arithI]
      rw [e] at hf
      exact arith_no2 _ a b ha hb rfl hf
end Go.Proofs.YtlphpbcafplnbaaGreat
