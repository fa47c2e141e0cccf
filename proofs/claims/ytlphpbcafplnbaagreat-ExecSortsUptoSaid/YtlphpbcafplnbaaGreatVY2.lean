/- Contracts of functions of the seat, proved in a logic on data over the model (part VY2). -/
import Derived.Test.YtlphpbcafplnbaaGreatQS
import Derived.Test.YtlphpbcafplnbaaGreatV24
import Derived.Test.YtlphpbcafplnbaaGreatVN17
import Derived.Test.YtlphpbcafplnbaaGreatVN13
import Derived.Test.YtlphpbcafplnbaaGreatBY
import Derived.RangeFuncIn
import Derived.RangeFuncRecord
import Derived.RangeFuncCalls
import Derived.TacticsIn
set_option linter.unusedSimpArgs false
set_option linter.unusedVariables false
namespace Go.Proofs.YtlphpbcafplnbaaGreat
open Go.VL Go.RowKit
abbrev nilP:S:=.c (.v (.pointer none))
def ps0:List (Nat × Res):=[(192,.box false [nilP,.mp 64]),(64,.map (.ents []))]
def psH:Nat→Bool:=fun i=>i == 1
set_option maxRecDepth 4000 in
set_option maxHeartbeats 4000000 in
theorem psNew_spec:ConB Tryz.prog 274 [] [] [.ptr 192 0] [] ps0:=by
  refine spec_ofB 1 Tryz.func274 rfl (by kernel_rfl) (by simp [Tryz.f274]) (by simp) rfl (fun w0 K0 uf=>vx_ok (H:=psH) _ _ _ (by kernel_rfl) ?_)
  simp only [Tryz.f274]
  simp -dsimp [initB,initEnv,pinsOf,psH]
  refine VL.hand (by kernel_rfl) ?_
  refine VRS.run 1 ?_
  simp -dsimp
  refine VRS.bldn (ps:=[(1,Operand.tmp 1)]) [.inr (.pointer none),.inl 0] (fun us hu=>by
    match us,hu with
    | [u],_=>simp [patC]) (by simp) (by simp [oneS]) ?_
  refine VRS.fin ?_
  simp -dsimp [patS]
  simp [ps0,resEnd]
theorem split_nil (p:List C) (hp:p.length=3):Con Tryz.prog 279 [nilP,.agg p] [.c (.v (.pointer none)),.c (.v (.pointer none))]:=by
  match p,hp with
  | [a,b,c],_ =>
    refine spec_of Tryz.func279 rfl (by kernel_rfl) (by simp [Tryz.f279]) (fun w0 K0=>vc_ok _ _ _ (by kernel_rfl) ?_)
    simp only [Tryz.f279]
    simp -dsimp
def psA:List (Nat × Res):=[(1,.box false [nilP,.mp 2]),(2,.map (.ents []))]
def psB (x y id:Int):List (Nat × Res):=[(1,.box false [.ptr 4928 0,.mp 2]),(2,.map (.ents [(.int .i64 id,[.c (i64 x),.c (i64 y),.c (i64 id)])])),(4928,.box false [.c (i64 x),.c (i64 y),.c (i64 id),nilP,nilP])]
set_option maxRecDepth 4000 in
set_option maxHeartbeats 4000000 in
theorem psAdd_spec (x y id:Int):ConB Tryz.prog 275 [.ptr 1 0,.agg [i64 x,i64 y,i64 id]] psA [.c (i64 0)] [.ptr 1 0,.agg [i64 x,i64 y,i64 id]] (psB x y id):=by
  refine spec_ofB 3 Tryz.func275 rfl (by kernel_rfl) (by simp [Tryz.f275]) (by simp [psA]) rfl (fun w0 K0 uf=>vc_ok _ _ _ (by kernel_rfl) ?_)
  simp only [Tryz.f275]
  simp -dsimp [initB,initEnv,pinsOf,psA]
  refine VL.draw (by kernel_rfl) [(0,false),(1,false),(3,false),(7,false),(0,false),(16,false),(63,false),(127,false),(255,false),(255,false),(0,false),(1535,false),(4095,true)] (by kernel_rfl) ?_
  simp -dsimp [findK,lkS]
  refine ⟨rfl,by kernel_rfl,⟨by simp [MB.cells,S.nms],rfl⟩,?_⟩
  refine VL.draw (by kernel_rfl) [(0,false),(1,false),(3,false),(7,false),(0,false),(16,false),(0,false),(127,true)] (by kernel_rfl) ?_
  simp -dsimp [vmuR_map (t:=377) (h1:=ft_mpT_377),putK,findK]
  refine ⟨rfl,?_⟩
  refine VL.rounds 1 (by kernel_rfl) ?_
  rw [vrounds]
  simp -dsimp
  refine VL.draw (by kernel_rfl) [(0,true),(1,true),(3,true),(7,true),(15,true),(31,false),(63,false),(127,false),(255,false),(511,false),(1023,false),(31,false),(4095,true),(8191,true)] (by kernel_rfl) ?_
  simp -dsimp
  refine VG.mk [.c (bln false)] _ (fun h=>Bool.noConfusion h) rfl ?_
  simp -dsimp
  refine VL.draw (by kernel_rfl) [(0,false),(1,false),(3,false),(0,false),(15,true),(31,true),(63,false),(63,false),(127,false),(511,true)] (by kernel_rfl) ?_
  simp -dsimp
  refine VC.mk _ (split_nil _ rfl) ?_
  simp -dsimp
  simp [psB,resEnd,pinsEnd]
  rfl
def psO (nl:Bool) (sz:Nat) (l:List (List C)):List (Nat × Res):=[(1,.box false [.own 2 l.length]),(2,.arr nl sz l 0)]
set_option maxRecDepth 4000 in
set_option maxHeartbeats 4000000 in
theorem psFind_nil (lo hi least:Int) (nl:Bool) (sz:Nat) (l:List (List C)) :
    ConB Tryz.prog 280 [nilP,.c (i64 lo),.c (i64 hi),.c (i64 least),.ptr 1 0] (psO nl sz l) [] [nilP,.c (i64 lo),.c (i64 hi),.c (i64 least),.ptr 1 0] (psO nl sz l):=by
  refine spec_ofB 3 Tryz.func280 rfl (by kernel_rfl) (by simp [Tryz.f280]) (by simp [psO]) rfl (fun w0 K0 uf=>vc_ok _ _ _ (by kernel_rfl) ?_)
  simp only [Tryz.f280]
  simp -dsimp [initB,initEnv,pinsOf,psO]
def psN (x y id:Int) (i:Nat) (nl:Bool) (sz:Nat) (l:List (List C)):List (Nat × Res):=[(1,.box false [.own i l.length]),(i,.arr nl sz l 0),(3,.box false [.c (i64 x),.c (i64 y),.c (i64 id),nilP,nilP])]
set_option maxRecDepth 4000 in
set_option maxHeartbeats 8000000 in
theorem psFind_one (x y id lo hi least:Int) (h1:¬ y<least) (h2:lo≤x) (h3:x≤hi) :
    ConB Tryz.prog 280 [.ptr 3 0,.c (i64 lo),.c (i64 hi),.c (i64 least),.ptr 1 0] (psN x y id 2 true 0 []) [] [.ptr 3 0,.c (i64 lo),.c (i64 hi),.c (i64 least),.ptr 1 0] (psN x y id 2 false 3 [[i64 x,i64 y,i64 id]]):=by
  refine ConB.swap 2 3968 (rs:=[]) (as1:=[.ptr 3 0,.c (i64 lo),.c (i64 hi),.c (i64 least),.ptr 1 0]) (b':=psN x y id 3968 false 3 [[i64 x,i64 y,i64 id]]) ?_ rfl (by simp [renSs,renS,swp]) (by simp [psN,resEnd,St.ren,someR,swp,St.rs,vlook,renR,renS,renSs])
  refine spec_ofB 4 Tryz.func280 rfl (by kernel_rfl) (by simp [Tryz.f280]) (by simp [psN]) rfl (fun w0 K0 uf=>vc_ok _ _ _ (by kernel_rfl) ?_)
  simp only [Tryz.f280]
  simp -dsimp [initB,initEnv,pinsOf,psN,h1,h2,h3]
  refine VCL.lend (psO true 0 []) (psO true 0 []) [nilP,.c (i64 lo),.c (i64 hi),.c (i64 least),.ptr 1 0] _ _ (fun i=>i) [2] ⟨psFind_nil lo hi least true 0 [],?_,?_,?_,?_,?_,?_,?_⟩ ?_
  · simp [renSs,renS]
  · simp [psO,renR]
  · simp [psO]
  · simp [psO]
  · simp [psO,Res.nam,S.nams,S.nam]
  · simp [S.nams,S.nam]
  · simp [psO,lk,keptP]
  simp -dsimp [psO,retS,renSs,h1,h2,h3]
  refine VL.draw (by kernel_rfl) [(0,false),(0,false),(2,false),(6,false),(0,false),(16,false),(48,false),(112,false),(240,false),(510,false),(1023,true),(2047,true)] (by kernel_rfl) ?_
  simp -dsimp [h1,h2,h3,maxLen]
  refine VCL.lend (psO false 3 [[i64 x,i64 y,i64 id]]) (psO false 3 [[i64 x,i64 y,i64 id]]) [nilP,.c (i64 lo),.c (i64 hi),.c (i64 least),.ptr 1 0] _ _ (fun i=>if i=1 then 1 else 3968) [3968] ⟨psFind_nil lo hi least false 3 [[i64 x,i64 y,i64 id]],?_,?_,?_,?_,?_,?_,?_⟩ ?_
  · simp [renSs,renS]
  · simp [psO,renR,renSs,renS]
  · simp [psO]
  · simp [psO]
  · simp [psO,Res.nam,S.nams,S.nam]
  · simp [S.nams,S.nam]
  · simp [psO,lk,keptP]
  simp -dsimp [psO,retS,renSs]
  simp [psN,resEnd,pinsEnd]
def psT (x y id:Int):List (Nat × Res):=[(1,.box false [.ptr 3 0,.mp 2]),(2,.map (.ents [(.int .i64 id,[.c (i64 x),.c (i64 y),.c (i64 id)])])),(3,.box false [.c (i64 x),.c (i64 y),.c (i64 id),nilP,nilP])]
set_option maxRecDepth 4000 in
set_option maxHeartbeats 8000000 in
theorem psFindT (x y id lo hi least:Int) (h1:¬ y<least) (h2:lo≤x) (h3:x≤hi) :
    ConB Tryz.prog 276 [.ptr 1 0,.c (i64 lo),.c (i64 hi),.c (i64 least)] (psT x y id) [.own 577 1] [.ptr 1 0,.c (i64 lo),.c (i64 hi),.c (i64 least)] (psT x y id++[(577,.arr false 3 [[i64 x,i64 y,i64 id]] 0)]):=by
  refine spec_ofB 4 Tryz.func276 rfl (by kernel_rfl) (by simp [Tryz.f276]) (by simp [psT]) rfl (fun w0 K0 uf=>vc_ok _ _ _ (by kernel_rfl) ?_)
  simp only [Tryz.f276]
  simp -dsimp [initB,initEnv,pinsOf,psT]
  refine VCL.lend (psN x y id 2 true 0 []) (psN x y id 2 false 3 [[i64 x,i64 y,i64 id]]) [.ptr 3 0,.c (i64 lo),.c (i64 hi),.c (i64 least),.ptr 1 0] _ _ (fun i=>if i=1 then 576 else if i=2 then 577 else 3) [577] ⟨psFind_one x y id lo hi least h1 h2 h3,?_,?_,?_,?_,?_,?_,?_⟩ ?_
  · simp [renSs,renS]
  · simp [psN,renR,renSs,renS]
  · simp [psN]
  · simp [psN]
  · simp [psN,Res.nam,S.nams,S.nam]
  · simp [S.nams,S.nam]
  · simp [psN,lk,keptP]
  simp -dsimp [psN,retS,renSs]
  simp [psT,resEnd,pinsEnd]
  rfl
abbrev u64 (n:Int):C:=.v (.int .u64 n)
def byteAt (n:Nat) (i:Nat):UInt8:=UInt8.ofNat (n >>> (8*i))
def putB (n:Nat):Nat→List UInt8
  | 0=>[]
  | k+1=>byteAt n k::putB n k
theorem len_putB (n k:Nat):(putB n k).length=k:=by
  induction k with
  | zero=>rfl
  | succ k ih=>simp [putB,ih]
theorem u8_at (n k:Nat):IntKind.u8.wrap ((n:Int).fdiv (2 ^ (8*k)))=((byteAt n k).toNat:Int):=by
  have e:((n:Int).fdiv (2 ^ (8*k)))=((n / 2 ^ (8*k):Nat):Int):=by
    rw [Int.natCast_ediv,Int.fdiv_eq_ediv_of_nonneg _ (Int.le_of_lt (Int.pow_pos (by decide)))]
    simp
  rw [e]
  simp [byteAt,IntKind.wrap,IntKind.bits,Nat.shiftRight_eq_div_pow]
  intro h;cases h
abbrev bys (l:List UInt8):List (List C):=l.map u8c
set_option maxRecDepth 4000 in
set_option maxHeartbeats 4000000 in
theorem put_spec (nil:Bool) (l:List UInt8) (n:Nat) (m:Nat) (hm:m≤8) (hl:l.length+8≤140737488355328):Con Tryz.prog 248 [.c (.sl nil (bys l)),.c (u64 n),.c (i64 m)] [.c (.sl false (bys (l++putB n m)))]:=by
  refine Con.frz (rs:=[.fr false 1 (bys (l++putB n m)) 0]) ?_ 0 rfl
  refine spec_of Tryz.func248 rfl (by kernel_rfl) (by simp [Tryz.f248]) (fun w0 K0=>vc_ok _ _ _ (by kernel_rfl) ?_)
  simp only [Tryz.f248]
  simp -dsimp
  refine ⟨by omega,?_⟩
  refine VL.loop (ι:=List UInt8 × Nat) (fun i=>⟨[(8,.c (i64 (i.2-1))),(7,.own 576 i.1.length),(1,.c (u64 n))],[(576,some (.arr false 1 (i.1.map u8c) 0))]⟩) (fun i=>i.1++putB n i.2=l++putB n m∧i.2≤8) (fun i=>i.2) (l,m) (by kernel_rfl) ⟨rfl,hm⟩ ?_ ?_
  · simp [St.le]
    rw [IntWalk.i64_in _ (by omega)];omega
  intro ⟨acc,k⟩ ⟨hk,hk8⟩
  simp -dsimp
  refine VIf.mk (fun h=>?_) (fun h=>?_)
  · obtain ⟨k,rfl⟩:∃ j,k=j+1:=⟨k-1,by simp at h;omega⟩
    simp at h hk8
    have e1:IntKind.i64.wrap (8*(k:Int))=8*(k:Int):=IntWalk.i64_in _ (by omega)
    have e2:IntKind.i64.wrap ((k:Int)-1)=(k:Int)-1:=IntWalk.i64_in _ (by omega)
    have e4:IntKind.u64.bits=64:=rfl
    have e5:min ((8:Int)*k).toNat 64=8*k:=by omega
    have e6:=u8_at n k
    have e7:acc.length+1≤l.length+8:=by
      have:=congrArg List.length hk
      simp [putB] at this
      have:=len_putB n m
      omega
    simp -dsimp [e1,e2,e4,e5,e6,maxLen]
    refine ⟨by omega,by omega,acc++[byteAt n k],k,⟨by simpa [putB] using hk,by omega⟩,?_,by omega⟩
    simp [St.le,u8c]
  · obtain rfl:k=0:=by simp at h;omega
    simp [putB] at hk
    simp -dsimp [hk,len_putB]
def keyS (n t i:Nat):List UInt8:=putB n 8++putB t 8++putB i 8
set_option maxRecDepth 4000 in
set_option maxHeartbeats 4000000 in
theorem key_spec (n t:Nat) (id:Int) (i:Nat) (hn:n≤9223372036854775807) (ht:t≤9223372036854775807) (hx:bits BinOp.xor IntKind.u64 (IntKind.u64.wrap id) 9223372036854775808=i):Con Tryz.prog 238 [.c (i64 n),.c (i64 t),.c (i64 id)] [.c (str (keyS n t i))]:=by
  refine spec_of Tryz.func238 rfl (by kernel_rfl) (by simp [Tryz.f238]) (fun w0 K0=>vc_ok _ _ _ (by kernel_rfl) ?_)
  simp only [Tryz.f238]
  have p1:=put_spec true [] n 8 (by decide) (by decide)
  have p2:=put_spec false (putB n 8) t 8 (by decide) (by rw [len_putB];decide)
  have p3:=put_spec false (putB n 8++putB t 8) i 8 (by decide) (by rw [List.length_append,len_putB,len_putB];decide)
  have w1:IntKind.u64.wrap (n:Int)=n:=by
    have e:IntKind.u64.wrap (n:Int)=(n:Int) % 18446744073709551616:=by first | rfl | simp [IntKind.wrap,IntKind.signed,IntKind.bits]
    rw [e];omega
  have w2:IntKind.u64.wrap (t:Int)=t:=by
    have e:IntKind.u64.wrap (t:Int)=(t:Int) % 18446744073709551616:=by first | rfl | simp [IntKind.wrap,IntKind.signed,IntKind.bits]
    rw [e];omega
  simp -dsimp [w1,w2]
  refine VC.mk _ p1 ?_
  simp -dsimp [w1,w2]
  refine VC.mk _ p2 ?_
  simp -dsimp [hx]
  rw [← List.map_append]
  refine VC.mk _ p3 ?_
  have hks:keyS n t i=putB n 8++putB t 8++putB i 8:=rfl
  rw [hks]
  have hb:bytesOf (bys (putB n 8++putB t 8++putB i 8))=some (putB n 8++putB t 8++putB i 8):=bytesOf_map _
  generalize putB n 8++putB t 8++putB i 8=kk at *
  simp -dsimp [hb]
theorem key0 (n t:Nat) (hn:n≤9223372036854775807) (ht:t≤9223372036854775807):Con Tryz.prog 238 [.c (i64 n),.c (i64 t),.c (i64 0)] [.c (str (keyS n t 9223372036854775808))]:=key_spec n t 0 _ hn ht (by decide)
theorem keyM (n t:Nat) (hn:n≤9223372036854775807) (ht:t≤9223372036854775807):Con Tryz.prog 238 [.c (i64 n),.c (i64 t),.c (i64 (-9223372036854775808))] [.c (str (keyS n t 0))]:=key_spec n t _ _ hn ht (by decide)
set_option maxRecDepth 4000 in
set_option maxHeartbeats 4000000 in
theorem fork_39:Con Tryz.prog 236 [.agg [i64 3,i64 9]] [.c (i64 8),.c (i64 0)]:=by
  refine spec_of Tryz.func236 rfl (by kernel_rfl) (by simp [Tryz.f236]) (fun w0 K0=>vc_ok _ _ _ (by kernel_rfl) ?_)
  simp only [Tryz.f236]
  have hc:checkOf ⟨3,9⟩=0:=by decide
  simp -dsimp
  refine VC.mk _ (check_at _ ⟨3,9⟩ rfl) ?_
  simp -dsimp [hc]
  refine VL.draw (by kernel_rfl) [(0,false),(1,false),(0,false),(4,false),(12,false),(3,false),(63,true)] (by kernel_rfl) ?_
  have w1:IntKind.i64.wrap (9-1)=8:=by decide
  have w2:IntKind.i64.wrap (3-1)=2:=by decide
  have w3:IntKind.u64.wrap 2=2:=by decide
  have w4:IntKind.u64.wrap 8=8:=by decide
  have w5:bits BinOp.xor IntKind.u64 2 8=10:=by decide
  have hl:dgI 10=4:=by decide +kernel
  simp -dsimp [w1,w2,w3,w4,w5]
  refine VC.mk _ (len64_at (n:=10) (by decide) (by decide)) ?_
  rw [hl]
  simp -dsimp
  decide
set_option maxRecDepth 4000 in
set_option maxHeartbeats 4000000 in
theorem find_nil (k:List UInt8):Con Tryz.prog 257 [.c (.sl true []),.c (str k)] [.c (i64 0),.c (bln false)]:=by
  refine spec_of Tryz.func257 rfl (by kernel_rfl) (by simp [Tryz.f257]) (fun w0 K0=>vx_ok (H:=fun i=>i == 8) _ _ _ (by kernel_rfl) ?_)
  simp only [Tryz.f257]
  simp -dsimp
  refine VL.rounds 1 (by kernel_rfl) ?_
  simp -dsimp
  refine VL.hand (by kernel_rfl) ?_
  refine VRS.run 10 ?_
  simp -dsimp
  refine VRS.gf (.c (.v (.bool false))) (by simp [gflag,gslot,St.get,vlook]) rfl ?_
  refine VRS.fin ?_
  simp -dsimp
  refine VG.mk [.c (bln false)] _ (fun h=>Bool.noConfusion h) rfl ?_
  simp -dsimp
  refine VG.mk [.c (bln false)] _ (fun h=>Bool.noConfusion h) rfl ?_
  simp -dsimp
theorem ins_str (k:List UInt8):Con Tryz.prog 246 [.c (.sl true []),.c (i64 0),.c (.sl false [[str k]])] [.c (.sl false [[str k]])]:=by
  refine Con.frz (rs:=[.fr false 1 [[str k]] 0]) ?_ 0 rfl
  refine spec_of Tryz.func246 rfl (by kernel_rfl) (by simp [Tryz.f246]) (fun w0 K0=>vc_ok _ _ _ (by kernel_rfl) ?_)
  simp only [Tryz.f246]
  simp -dsimp [maxLen]
theorem ins_int (k:Int):Con Tryz.prog 247 [.c (.sl true []),.c (i64 0),.c (.sl false [[i64 k]])] [.c (.sl false [[i64 k]])]:=by
  refine Con.frz (rs:=[.fr false 1 [[i64 k]] 0]) ?_ 0 rfl
  refine spec_of Tryz.func247 rfl (by kernel_rfl) (by simp [Tryz.f247]) (fun w0 K0=>vc_ok _ _ _ (by kernel_rfl) ?_)
  simp only [Tryz.f247]
  simp -dsimp [maxLen]
def bt0 (A B:Nat):List (Nat × Res):=[(A,.box false [.c (i64 8),.ptr B 0,.c (i64 0)]),(B,.box false [.c (.sl true []),.c (.sl true []),.c (.sl true [])])]
set_option maxRecDepth 4000 in
set_option maxHeartbeats 4000000 in
theorem btNew_spec:ConB Tryz.prog 235 [.c (i64 8)] [] [.ptr 960 0,.c (i64 0)] [.c (i64 8)] (bt0 960 832):=by
  refine spec_ofB 1 Tryz.func235 rfl (by kernel_rfl) (by simp [Tryz.f235]) (by simp) rfl (fun w0 K0 uf=>vx_ok (H:=fun i=>i == 3) _ _ _ (by kernel_rfl) ?_)
  simp only [Tryz.f235]
  simp -dsimp [initB,initEnv,pinsOf]
  refine VL.hand (by kernel_rfl) ?_
  refine VRS.run 4 ?_
  simp -dsimp
  refine VRS.bldA (i64 8) [.inl 0,.inl 1,.inr (.int .i64 0)] (fun u0 u1=>by simp [patC]) (by simp) (by simp) (by simp [oneS]) ?_
  refine VRS.fin ?_
  simp -dsimp [patS]
  simp [bt0,resEnd,pinsEnd]
theorem most_spec:Con Tryz.prog 242 [.agg [i64 8]] [.c (i64 15)]:=by
  refine spec_of Tryz.func242 rfl (by kernel_rfl) (by simp [Tryz.f242]) (fun w0 K0=>vc_ok _ _ _ (by kernel_rfl) ?_)
  simp only [Tryz.f242]
  have w1:IntKind.i64.wrap (2*8)=16:=by decide
  have w2:IntKind.i64.wrap (16-1)=15:=by decide
  simp -dsimp [w1,w2]
  decide
def nd (ks vs:S):List (Nat × Res):=[(1,.box false [ks,vs,.c (.sl true [])])]
abbrev nilS:S:=.c (.sl true [])
theorem ndFind_nil (k:List UInt8) (vs:C):ConB Tryz.prog 244 [.ptr 1 0,.c (str k)] (nd nilS (.c vs)) [.c (i64 0),.c (bln false)] [.ptr 1 0,.c (str k)] (nd nilS (.c vs)):=by
  refine spec_ofB 2 Tryz.func244 rfl (by kernel_rfl) (by simp [Tryz.f244]) (by simp [nd]) rfl (fun w0 K0 uf=>vc_ok _ _ _ (by kernel_rfl) ?_)
  simp only [Tryz.f244]
  simp -dsimp [initB,initEnv,pinsOf,nd]
  refine VC.mk _ (find_nil k) ?_
  simp -dsimp
  all_goals simp [nd,resEnd,pinsEnd]
theorem ndLeaf (ks vs:C):ConB Tryz.prog 245 [.ptr 1 0] (nd (.c ks) (.c vs)) [.c (bln true)] [.ptr 1 0] (nd (.c ks) (.c vs)):=by
  refine spec_ofB 2 Tryz.func245 rfl (by kernel_rfl) (by simp [Tryz.f245]) (by simp [nd]) rfl (fun w0 K0 uf=>vc_ok _ _ _ (by kernel_rfl) ?_)
  simp only [Tryz.f245]
  simp -dsimp [initB,initEnv,pinsOf,nd]
  all_goals simp [nd,resEnd,pinsEnd]
def bt1 (k:List UInt8) (v:Int):List (Nat × Res):=[(1,.box false [.c (i64 8),.ptr 2 0,.c (i64 1)]),(2,.box false [.c (.sl false [[str k]]),.c (.sl false [[i64 v]]),nilS])]
set_option maxRecDepth 4000 in
set_option maxHeartbeats 8000000 in
theorem btPut_spec (k:List UInt8) (v:Int):ConB Tryz.prog 237 [.ptr 1 0,.c (str k),.c (i64 v)] (bt0 1 2) [.c (bln false)] [.ptr 1 0,.c (str k),.c (i64 v)] (bt1 k v):=by
  refine spec_ofB 3 Tryz.func237 rfl (by kernel_rfl) (by simp [Tryz.f237]) (by simp [bt0]) rfl (fun w0 K0 uf=>vc_ok _ _ _ (by kernel_rfl) ?_)
  simp only [Tryz.f237]
  simp -dsimp [initB,initEnv,pinsOf,bt0]
  refine VL.draw (by kernel_rfl) [(0,false),(1,false),(3,false),(7,false),(15,false),(31,false),(63,false),(127,false),(0,false),(256,false),(768,false),(1792,false),(3840,false),(8191,true)] (by kernel_rfl) ?_
  simp -dsimp
  refine VCE.mk _ most_spec ?_
  simp -dsimp
  refine VL.rounds 1 (by kernel_rfl) ?_
  simp -dsimp
  refine VCL.lend (nd nilS nilS) (nd nilS nilS) [.ptr 1 0,.c (str k)] _ _ (fun _=>2) [] ⟨ndFind_nil k _,?_,?_,?_,?_,?_,?_,?_⟩ ?_
  · simp [renSs,renS]
  · simp [nd,renR,renSs,renS]
  · simp [nd]
  · simp [nd]
  · simp [nd,Res.nam,S.nams,S.nam]
  · simp [S.nams,S.nam]
  · simp [nd,lk,keptP]
  simp -dsimp [nd,retS,renSs,renS,renR]
  refine VCL.lend (nd nilS nilS) (nd nilS nilS) [.ptr 1 0] _ _ (fun _=>2) [] ⟨ndLeaf _ _,?_,?_,?_,?_,?_,?_,?_⟩ ?_
  · simp [renSs,renS]
  · simp [nd,renR,renSs,renS]
  · simp [nd]
  · simp [nd]
  · simp [nd,Res.nam,S.nams,S.nam]
  · simp [S.nams,S.nam]
  · simp [nd,lk,keptP]
  simp -dsimp [nd,retS,renSs,renS,renR]
  refine ⟨by decide,VCL.snap ?_⟩
  simp -dsimp
  refine VC.mk _ (ins_str k) ?_
  simp -dsimp
  refine ⟨by decide,VCL.snap ?_⟩
  simp -dsimp
  refine VC.mk _ (ins_int v) ?_
  have w1:IntKind.i64.wrap (0+1)=1:=by decide
  simp -dsimp [w1]
  simp [bt1,resEnd,pinsEnd]
def rt0 (a b c d e f:Nat):List (Nat × Res):=[(a,.box false [.ptr b 0,.ptr d 0,.mp f]),(b,.box false [.c (i64 8),.ptr c 0,.c (i64 0)]),(c,.box false [nilS,nilS,nilS]),(d,.box false [.c (i64 8),.ptr e 0,.c (i64 0)]),(e,.box false [nilS,nilS,nilS]),(f,.map (.ents []))]
set_option maxRecDepth 4000 in
set_option maxHeartbeats 8000000 in
theorem rtNew_spec:ConB Tryz.prog 232 [] [] [.ptr 1088 0] [] (rt0 1088 384 385 640 641 960):=by
  refine spec_ofB 1 Tryz.func232 rfl (by kernel_rfl) (by simp [Tryz.f232]) (by simp) rfl (fun w0 K0 uf=>vx_ok (H:=fun i=>i == 3) _ _ _ (by kernel_rfl) ?_)
  simp only [Tryz.f232]
  simp -dsimp [initB,initEnv,pinsOf]
  refine VC.lend [] (bt0 960 832) [.c (i64 8)] _ _ (fun i=>if i=960 then 384 else 385) [384,385] ⟨btNew_spec,?_,?_,?_,?_,?_,?_,?_⟩ ?_
  · simp [renSs,renS]
  · simp
  · simp [bt0]
  · simp
  · simp [bt0,Res.nam,S.nams,S.nam]
  · simp [S.nams,S.nam,bt0]
  · simp [bt0]
  simp -dsimp [bt0,retS,renSs,renS,renR]
  refine VC.lend [] (bt0 960 832) [.c (i64 8)] _ _ (fun i=>if i=960 then 640 else 641) [640,641] ⟨btNew_spec,?_,?_,?_,?_,?_,?_,?_⟩ ?_
  · simp [renSs,renS]
  · simp
  · simp [bt0]
  · simp
  · simp [bt0,Res.nam,S.nams,S.nam]
  · simp [S.nams,S.nam,bt0]
  · simp [bt0]
  simp -dsimp [bt0,retS,renSs,renS,renR]
  refine VL.hand (by kernel_rfl) ?_
  refine VRS.run 3 ?_
  simp -dsimp
  refine VRS.bldn (ps:=[(0,Operand.tmp 13),(1,Operand.tmp 14),(2,Operand.tmp 15)]) [.inl 0,.inl 1,.inl 2] (fun us hu=>by
    match us,hu with
    | [u,v,w],_=>simp [patC]) (by simp) (by simp [oneS]) ?_
  refine VRS.fin ?_
  simp -dsimp [patS]
  simp [rt0,resEnd,pinsEnd]
def rt1:List (Nat × Res):=[(1,.box false [.ptr 2 0,.ptr 4 0,.mp 6]),(2,.box false [.c (i64 8),.ptr 3 0,.c (i64 1)]),(3,.box false [.c (.sl false [[str (keyS 8 3 9223372036854775808)]]),.c (.sl false [[i64 0]]),nilS]),(4,.box false [.c (i64 8),.ptr 5 0,.c (i64 1)]),(5,.box false [.c (.sl false [[str (keyS 8 9 9223372036854775808)]]),.c (.sl false [[i64 0]]),nilS]),(6,.map (.ents [(.int .i64 0,[.c (i64 3),.c (i64 9)])]))]
set_option maxRecDepth 4000 in
set_option maxHeartbeats 16000000 in
theorem rtAdd_spec:ConB Tryz.prog 233 [.ptr 1 0,.c (i64 0),.agg [i64 3,i64 9]] (rt0 1 2 3 4 5 6) [.c (i64 0)] [.ptr 1 0,.c (i64 0),.agg [i64 3,i64 9]] rt1:=by
  refine spec_ofB 7 Tryz.func233 rfl (by kernel_rfl) (by simp [Tryz.f233]) (by simp [rt0]) rfl (fun w0 K0 uf=>vc_ok _ _ _ (by kernel_rfl) ?_)
  simp only [Tryz.f233]
  simp -dsimp [initB,initEnv,pinsOf,rt0]
  refine VC.mk _ fork_39 ?_
  simp -dsimp [vlkR_map (t:=325) (h1:=ft_mpT_325) (h2:=ft_zeroOf_38),findK,lkS,kfits,MB.clr,MB.map,MB.men,MB.cells]
  refine VL.draw (by kernel_rfl) [(0,false),(1,false),(3,false),(7,false),(0,false),(0,false),(63,true)] (by kernel_rfl) ?_
  simp -dsimp [vmuR_map (t:=325) (h1:=ft_mpT_325),putK,findK,kfits,MB.clr,MB.map]
  refine VL.draw (by kernel_rfl) [(0,false),(1,false),(3,false),(7,false),(0,false),(0,false),(32,false),(0,false),(240,false),(0,false),(1023,true)] (by kernel_rfl) ?_
  simp -dsimp
  refine VCE.mk _ (key0 8 3 (by decide) (by decide)) ?_
  simp -dsimp
  refine VCL.lend (bt0 1 2) (bt1 (keyS 8 3 9223372036854775808) 0) [.ptr 1 0,.c (str (keyS 8 3 9223372036854775808)),.c (i64 0)] _ _ (fun i=>if i=1 then 2 else 3) [3] ⟨btPut_spec _ 0,?_,?_,?_,?_,?_,?_,?_⟩ ?_
  · simp [renSs,renS]
  · simp [bt0,renR,renSs,renS]
  · simp [bt1]
  · simp [bt0,bt1]
  · simp [bt1,Res.nam,S.nams,S.nam]
  · simp [S.nams,S.nam]
  · simp [bt0,bt1,lk,keptP]
  simp -dsimp [bt1,retS,renSs,renS,renR,MB.clr,MB.map]
  refine VL.draw (by kernel_rfl) [(0,false),(1,false),(3,false),(7,false),(0,false),(0,false),(32,false),(0,false),(240,false),(0,false),(1023,true)] (by kernel_rfl) ?_
  simp -dsimp
  refine VCE.mk _ (key0 8 9 (by decide) (by decide)) ?_
  simp -dsimp
  refine VCL.lend (bt0 1 2) (bt1 (keyS 8 9 9223372036854775808) 0) [.ptr 1 0,.c (str (keyS 8 9 9223372036854775808)),.c (i64 0)] _ _ (fun i=>if i=1 then 4 else 5) [5] ⟨btPut_spec _ 0,?_,?_,?_,?_,?_,?_,?_⟩ ?_
  · simp [renSs,renS]
  · simp [bt0,renR,renSs,renS]
  · simp [bt1]
  · simp [bt0,bt1]
  · simp [bt1,Res.nam,S.nams,S.nam]
  · simp [S.nams,S.nam]
  · simp [bt0,bt1,lk,keptP]
  simp -dsimp [bt1,retS,renSs,renS,renR,MB.clr,MB.map]
  simp [rt1,resEnd,pinsEnd]
end Go.Proofs.YtlphpbcafplnbaaGreat
namespace Go.VL
open Go.RowKit
def FR (ro:Option Nat):Fence:={ Fence.wide with round:=ro }
theorem callsR {ro:Option Nat} {n:Nat} {P:Program} {f:FuncId} {args:Array Value} {w:World} {R:Ending→World→Prop} (h:Calls P f args w R):CallsIn (FR ro) n P f args w R:=by
  have:=(callsIn_wide (n:=n)).2 h
  cases ro with
  | none=>exact this
  | some l=>exact this.inRound l
section
variable {ro:Option Nat} {n:Nat} {P:Program} {o:Oper} {a:Act} {w:World} {next:Act→World→Prop} {Q:Exit→Act→World→Prop}
theorem rowsR {row:String} {args:Array Value} {R:Value→World→Prop} (h:Rows P row args w R):RowsIn (FR ro) n P row args w R:=by
  intro c cs _
  obtain ⟨v,w',r,s⟩:=h c cs
  refine ⟨v,w',r,?_⟩
  exact stepsIn_wide.2 s
def noDefer (o:Oper):Bool:=match o.op with
  | .defer _=>false
  | _=>true
theorem oper_in (hd:noDefer o=true) (h:o.wp P a w next Q):o.wpIn (FR ro) n P a w next Q:=by
  refine ⟨fun _ _=>trivial,?_⟩
  rw [Oper.semAt_eq _ _ _ (fun c e=>by unfold noDefer at hd;rw [e] at hd;cases hd)]
  unfold Oper.wp at h
  have hF:(FR ro).depth.isSome=true→1≤n:=fun e=>by cases e
  cases hr:(execOp a.eval o).run P w with
  | ok nx w' =>
    rw [hr] at h
    cases nx with
    | value v=>exact h
    | skip=>exact h
    | defer d=>exact h
    | enter f args=>exact ⟨hF,callsR h⟩
    | row r args=>exact ⟨hF,rowsR h⟩
    | _=>exact h.elim
  | halt hh w' =>
    rw [hr] at h
    cases hh with
    | panic v=>exact h
    | _=>exact h.elim
end
end Go.VL
namespace Go.VL
open Go.RowKit
section
variable {P:Program} {w0:World} {K0:K0T} {nt:Nat} {OPS:Array Oper} {ro:Option Nat} {n:Nat}
def stepWI (ro:Option Nat) (n:Nat) (P:Program) (OPS:Array Oper) (o:Oper) (a:Act) (w:World) (next:Act→World→Prop) (Q:Exit→Act→World→Prop):Prop :=
  if Region.wanted o (yielded OPS a.tmps) then o.wpIn (FR ro) n P a w next Q else next (a.put o.dst undef) w
theorem stepWI_of {o:Oper} {a:Act} {w:World} {next:Act→World→Prop} {Q:Exit→Act→World→Prop} (hd:noDefer o=true) (h:stepW P OPS o a w next Q):stepWI ro n P OPS o a w next Q:=by
  unfold stepW at h
  unfold stepWI
  split
  · rename_i hw;rw [if_pos hw] at h;exact oper_in hd h
  · rename_i hw;rw [if_neg hw] at h;exact h
theorem wpListIn_of {o:Oper} {l:List Oper} {a:Act} {w:World} {Q:Exit→Act→World→Prop} (h:stepWI ro n P OPS o a w (wpListIn (FR ro) n P OPS Q l) Q):wpListIn (FR ro) n P OPS Q (o::l) a w:=by
  unfold stepWI at h
  unfold wpListIn
  split
  · rename_i hw;rw [if_pos hw] at h;exact h
  · rename_i hw;rw [if_neg hw] at h;exact ⟨fun _ _=>trivial,h⟩
theorem vr_okI {Q:Exit→Act→World→Prop} : ∀ (l:List Oper) (st:St) (a:Act) (w:World) (g:G) (K:St→Prop),T w0 K0 nt st a w g→(l.all (opOk nt))=true→(l.all noDefer)=true→vr P OPS l st K →
    (∀ st' a' w' g',K st'→T w0 K0 nt st' a' w' g'→Q .normal a' w')→wpListIn (FR ro) n P OPS Q l a w
  | [],st,a,w,g,K,h,_,_,hv,hn=>hn _ _ _ _ hv h
  | o::r,st,a,w,g,K,h,hok,hnd,hv,hn=>by
    simp only [List.all_cons,Bool.and_eq_true] at hok hnd
    exact wpListIn_of (stepWI_of hnd.1 (vstepL_ok h hok.1 hv (wpListIn (FR ro) n P OPS Q r) Q (fun st' a' w' g' h1 h2=>vr_okI r st' a' w' g' K h2 hok.2 hnd.2 h1 hn)))
def flatCode:Code→Bool
  | .region _ ops d=>!d && ops.toList.all noDefer
  | .seq a b=>flatCode a && flatCode b
  | .cond _ a b=>flatCode a && flatCode b
  | .block _ c=>flatCode c
  | .skip=>true
  | .label _=>true
  | .exit _=>true
  | .ret=>true
  | _=>false
def VWI (ro:Option Nat) (n:Nat) (P:Program) (w0:World) (K0:K0T) (nt:Nat) (c:Code) (st:St) (Q:Exit→St→Prop):Prop :=
  ∀ a w g,T w0 K0 nt st a w g→c.wpIn (FR ro) n P (fun e a' w'=>∃ st' g',Q e st'∧T w0 K0 nt st' a' w' g') a w
theorem vcI_ok:∀ (c:Code) (st:St) (Q:Exit→St→Prop),codeOk nt c=true→flatCode c=true→vc P w0 K0 nt c st Q→VWI ro n P w0 K0 nt c st Q
  | .skip,st,Q,_,_,h=>fun a w g hT=>wpIn_skip ⟨st,g,h,hT⟩
  | .label l,st,Q,_,_,h=>fun a w g hT=>wpIn_label ⟨st,g,h,hT⟩
  | .region id ops d,st,Q,hok,hf,h=>fun a w g hT=>by
    rw [vc] at h
    simp only [flatCode,Bool.and_eq_true] at hf
    cases d with
    | true=>cases hf.1
    | false=>exact wpIn_region_list (vr_okI ops.toList st a w g _ hT (by simpa [codeOk] using hok) hf.2 h (fun st' a' w' g' h1 h2=>⟨st',g',h1,h2⟩))
  | .seq x y,st,Q,hok,hf,h=>fun a w g hT=>by
    simp only [codeOk,flatCode,Bool.and_eq_true] at hok hf
    rw [vc] at h
    refine wpIn_seq (wpIn_mono (vcI_ok x st _ hok.1 hf.1 h a w g hT) fun e a' w' ⟨st',g',h1,h2⟩=>?_)
    cases e with
    | normal=>exact vcI_ok y st' Q hok.2 hf.2 h1 a' w' g' h2
    | _=>exact ⟨st',g',h1,h2⟩
  | .cond c x y,st,Q,hok,hf,h=>fun a w g hT=>by
    simp only [codeOk,flatCode,Bool.and_eq_true] at hok hf
    rw [vc] at h
    split at h
    · rename_i b hb
      have hc:=hT.ev c
      rw [hb] at hc
      have hcv:=SR_bool hc
      refine wpIn_cond_split hcv (fun hb=>?_) (fun hb=>?_)
      · exact vcI_ok x st Q hok.1 hf.1 (h.1 hb) a w g hT
      · exact vcI_ok y st Q hok.2 hf.2 (h.2 hb) a w g hT
    · exact h.elim
  | .block id c,st,Q,hok,hf,h=>fun a w g hT=>by
    rw [vc] at h
    refine wpIn_block (wpIn_mono (vcI_ok c st _ (by simpa [codeOk] using hok) (by simpa [flatCode] using hf) h a w g hT) fun e a' w' ⟨st',g',h1,h2⟩=>?_)
    cases e with
    | exit id' =>
      simp only [Exit.inBlock]
      simp only [blkQ] at h1
      split
      · rename_i e;rw [if_pos e] at h1;exact ⟨st',g',h1,h2⟩
      · rename_i e;rw [if_neg e] at h1;exact ⟨st',g',h1,h2⟩
    | _=>exact ⟨st',g',h1,h2⟩
  | .exit id,st,Q,_,_,h=>fun a w g hT=>wpIn_exit ⟨st,g,h,hT⟩
  | .ret,st,Q,_,_,h=>fun a w g hT=>wpIn_ret ⟨st,g,h,hT⟩
  | .loop c,st,Q,_,hf,h=>by cases hf
  | .rangeFunc f p ac b,st,Q,_,hf,h=>by cases hf
  | .scope b,st,Q,_,hf,h=>by cases hf
  | .goto l,st,Q,_,hf,h=>by cases hf
  | .refuse why,st,Q,_,hf,h=>by cases hf
end
structure YKeeps (Kc:Nat→Nat→Prop) (w w':World) (Fo Fo':Nat→Prop):Prop where
  os:w'.os=w.os
  tape:w'.tape=w.tape
  output:w'.output=w.output
  size:w.heap.size≤w'.heap.size
  drawn:w.drawn≤w'.drawn
  block:∀ k,k<w.heap.size→¬ Fo k→w'.heap[k]? = w.heap[k]?
  cell:∀ b o,Kc b o→w'.cell? ⟨b,o,none⟩=w.cell? ⟨b,o,none⟩
  grow:∀ k,Fo' k→Fo k∨w.heap.size≤k
abbrev Oth:=List (List S)→World→(Nat→Prop)→Prop
structure Oth.Ab (Kc:Nat→Nat→Prop) (J:Oth):Prop where
  lt:∀ pre w Fo,J pre w Fo→∀ b,Fo b→b<w.heap.size
  stay:∀ pre w w' Fo,J pre w Fo→w'.os=w.os→w'.tape=w.tape→w'.output=w.output→w.heap.size≤w'.heap.size→w.drawn≤w'.drawn→(∀ b,Fo b→w'.heap[b]? = w.heap[b]?)→(∀ b o,Kc b o→w'.cell? ⟨b,o,none⟩=w.cell? ⟨b,o,none⟩)→J pre w' Fo
def flatS:S→Bool
  | .c x=>flatC x
  | .agg cs=>cs.all flatC
  | _=>false
def YStep (Kc:Nat→Nat→Prop) (P:Program) (l:Nat) (N:Nat) (Ty:List S→Prop) (J:Oth):Prop :=
  ∀ pre (x:List S) (us:List Value) w Fo,J pre w Fo→pre.length<N→Ty x→(x.all flatS)=true→DRs (fun _ _=>False) w x us →
    YieldAt Fence.wide 0 P l us.toArray w fun e w'=>e = .returned (.bool true)∧∃ Fo',J (pre++[x]) w' Fo'∧YKeeps Kc w w' Fo Fo'
structure TJ (w0:World) (K0:K0T) (nt:Nat) (Kc:Nat→Nat→Prop) (J:Oth) (st:St) (a:Act) (w:World) (g:G) (pre:List (List S)) (Fo:Nat→Prop):Prop where
  t:T w0 K0 nt st a w g
  j:J pre w Fo
  old:∀ b,Fo b→¬ Old w0 K0 b
  res:∀ i r b,st.rs i=some r→blk (g.loc i)=some b→¬ Fo b
  k:∀ b o,g.K b o→Fo b→Kc b o
  kc:∀ b o,Kc b o→g.K b o
section
variable {P:Program} {w0:World} {K0:K0T} {nt:Nat} {st:St} {a:Act} {w:World} {g:G} {Kc:Nat→Nat→Prop} {J:Oth} {pre:List (List S)} {Fo:Nat→Prop}
def ownL (g:G) (R:Nat→Option Res):Nat→Prop:=fun b=>∃ i r,R i=some r∧blk (g.loc i)=some b
theorem T.reroot (h:T w0 K0 nt st a w g):T w ⟨g.K,ownL g st.rs,a.defers⟩ nt st a w g:=by
  refine ⟨Bel.refl _ _ _,fun _ _ k=>k,fun _ _ k _=>k,h.klt,fun i r hr=>?_,h.dis,h.env,h.nt,rfl,fun _ _ _=>rfl⟩
  have hB:∀ b,blk (g.loc i)=some b→¬ Old w ⟨g.K,ownL g st.rs,a.defers⟩ b:=fun b hb ho=>ho.2 ⟨i,r,hr,hb⟩
  have h0:=h.res i r hr
  cases r with
  | box fz ss =>
    obtain ⟨b,cur,E,h1,h2,h3⟩:=h0
    exact ⟨b,cur,E,h1,hB b (by rw [h1];rfl),h3⟩
  | arr nil sz xs fx =>
    rcases h0 with h0 | ⟨q0,b,cap,cur,E,h1,h2,h3⟩
    · exact .inl h0
    · exact .inr ⟨q0,b,cap,cur,E,h1,hB b (by rw [h1];rfl),h3⟩
  | pin v s=>exact h0
  | map m =>
    cases m with
    | ents kvs=>obtain ⟨b,es,h1,h2,h3⟩:=h0;exact ⟨b,es,h1,hB b (by rw [h1];rfl),h3⟩
    | iter bm n seen=>obtain ⟨b,h1,h2,h3⟩:=h0;exact ⟨b,h1,hB b (by rw [h1];rfl),h3⟩
    | rows nil sz xs =>
      rcases h0 with h0 | ⟨q0,b,cap,cur,E,h1,h2,h3⟩
      · exact .inl h0
      · exact .inr ⟨q0,b,cap,cur,E,h1,hB b (by rw [h1];rfl),h3⟩
theorem RR.blkB {R:Nat→Option Res} {B B':Nat→Prop} {i:Nat} {r:Res} (h:RR g w R B i r) (hB:∀ b,blk (g.loc i)=some b→B b→B' b):RR g w R B' i r:=by
  cases r with
  | box fz ss =>
    obtain ⟨b,cur,E,h1,h2,h3⟩:=h
    exact ⟨b,cur,E,h1,hB b (by rw [h1];rfl) h2,h3⟩
  | arr nil sz xs fx =>
    rcases h with h | ⟨q0,b,cap,cur,E,h1,h2,h3⟩
    · exact .inl h
    · exact .inr ⟨q0,b,cap,cur,E,h1,hB b (by rw [h1];rfl) h2,h3⟩
  | pin v s=>exact h
  | map m =>
    cases m with
    | ents kvs=>obtain ⟨b,es,h1,h2,h3⟩:=h;exact ⟨b,es,h1,hB b (by rw [h1];rfl) h2,h3⟩
    | iter bm n seen=>obtain ⟨b,h1,h2,h3⟩:=h;exact ⟨b,h1,hB b (by rw [h1];rfl) h2,h3⟩
    | rows nil sz xs =>
      rcases h with h | ⟨q0,b,cap,cur,E,h1,h2,h3⟩
      · exact .inl h
      · exact .inr ⟨q0,b,cap,cur,E,h1,hB b (by rw [h1];rfl) h2,h3⟩
theorem ownL_old (h:T w0 K0 nt st a w g) {b:Nat} (hb:ownL g st.rs b):¬ Old w0 K0 b:=by
  obtain ⟨i,r,h1,h2⟩:=hb
  exact ((h.res i r h1).block h2).1
theorem T.unroot (h:T w0 K0 nt st a w g) {st':St} {a':Act} {w':World} {g':G} (h':T w ⟨g.K,ownL g st.rs,a.defers⟩ nt st' a' w' g'):T w0 K0 nt st' a' w' g':=by
  have hold:∀ b,Old w0 K0 b→Old w ⟨g.K,ownL g st.rs,a.defers⟩ b:=fun b hb=>⟨Nat.lt_of_lt_of_le hb.1 h.below.size,fun hl=>ownL_old h hl hb⟩
  refine ⟨h.below.trans ⟨h'.below.os,h'.below.tape,h'.below.output,h'.below.size,fun k hk=>h'.below.block k (hold k hk),h'.below.drawn⟩,fun b o k=>h'.k0 b o (h.k0 b o k),fun b o k hb=>h.kold b o (h'.kold b o k (hold b hb)) hb,h'.klt,fun i r hr=>?_,h'.dis,h'.env,h'.nt,by rw [h'.defers];exact h.defers,fun b o k=>(h'.keep b o (h.k0 b o k)).trans (h.keep b o k)⟩
  exact (h'.res i r hr).blkB fun b _ hb ho=>hb (hold b ho)
theorem TJ.reroot (h:TJ w0 K0 nt Kc J st a w g pre Fo) (hJ:J.Ab Kc) {st':St} {a':Act} {w':World} {g':G} (h':T w ⟨g.K,ownL g st.rs,a.defers⟩ nt st' a' w' g'):TJ w0 K0 nt Kc J st' a' w' g' pre Fo:=by
  have hF:∀ b,Fo b→Old w ⟨g.K,ownL g st.rs,a.defers⟩ b:=fun b hb=>⟨hJ.lt pre w Fo h.j b hb,fun ⟨i,r,h1,h2⟩=>h.res i r b h1 h2 hb⟩
  refine ⟨h.t.unroot h',hJ.stay pre w w' Fo h.j h'.below.os h'.below.tape h'.below.output h'.below.size h'.below.drawn (fun b hb=>h'.below.block b (hF b hb)) (fun b o hk=>h'.keep b o (h.kc b o hk)),h.old,fun i r b hr hb hf=>?_,fun b o hk hf=>?_,fun b o hk=>h'.k0 b o (h.kc b o hk)⟩
  · exact ((h'.res i r hr).block hb).1 (hF b hf)
  · exact h.k b o (h'.kold b o hk (hF b hf)) hf
end
section
variable {P:Program} {w0:World} {K0:K0T} {nt:Nat} {Kc:Nat→Nat→Prop} {J:Oth}
def VWJ (P:Program) (w0:World) (K0:K0T) (nt:Nat) (Kc:Nat→Nat→Prop) (J:Oth) (c:Code) (st:St) (pre:List (List S)) (Q:Exit→St→List (List S)→Prop):Prop :=
  ∀ a w g Fo,TJ w0 K0 nt Kc J st a w g pre Fo→c.wp P (fun e a' w'=>∃ st' g' pre' Fo',Q e st' pre'∧TJ w0 K0 nt Kc J st' a' w' g' pre' Fo') a w
theorem VWJ.plain (hJ:J.Ab Kc) {c:Code} {st:St} {pre:List (List S)} {Q:Exit→St→List (List S)→Prop} (hok:codeOk nt c=true) (h:∀ w1 K1,vc P w1 K1 nt c st (fun e st'=>Q e st' pre)):VWJ P w0 K0 nt Kc J c st pre Q:=by
  intro a w g Fo hT
  refine wp_mono (vc_ok c st _ hok (h w ⟨g.K,ownL g st.rs,a.defers⟩) a w g hT.t.reroot) fun e a' w' ⟨st',g',h1,h2⟩=>?_
  exact ⟨st',g',pre,Fo,h1,hT.reroot hJ h2⟩
def seqJ (k:St→List (List S)→Prop) (Q:Exit→St→List (List S)→Prop):Exit→St→List (List S)→Prop
  | .normal,st,pre=>k st pre
  | e,st,pre=>Q e st pre
theorem VWJ.seq {x y:Code} {st:St} {pre:List (List S)} {Q:Exit→St→List (List S)→Prop} (h:VWJ P w0 K0 nt Kc J x st pre (seqJ (fun st' pre'=>VWJ P w0 K0 nt Kc J y st' pre' Q) Q)):VWJ P w0 K0 nt Kc J (.seq x y) st pre Q:=by
  intro a w g Fo hT
  refine wp_seq (wp_mono (h a w g Fo hT) fun e a' w' ⟨st',g',pre',Fo',h1,h2⟩=>?_)
  cases e with
  | normal=>exact h1 a' w' g' Fo' h2
  | _=>exact ⟨st',g',pre',Fo',h1,h2⟩
def blkJ (id:Nat) (Q:Exit→St→List (List S)→Prop):Exit→St→List (List S)→Prop
  | .exit id',st,pre=>if id'=id then Q .normal st pre else Q (.exit id') st pre
  | e,st,pre=>Q e st pre
theorem VWJ.block {id:Nat} {c:Code} {st:St} {pre:List (List S)} {Q:Exit→St→List (List S)→Prop} (h:VWJ P w0 K0 nt Kc J c st pre (blkJ id Q)):VWJ P w0 K0 nt Kc J (.block id c) st pre Q:=by
  intro a w g Fo hT
  refine wp_block (wp_mono (h a w g Fo hT) fun e a' w' ⟨st',g',pre',Fo',h1,h2⟩=>?_)
  cases e with
  | exit id' =>
    simp only [Exit.inBlock]
    simp only [blkJ] at h1
    split
    · rename_i e;rw [if_pos e] at h1;exact ⟨st',g',pre',Fo',h1,h2⟩
    · rename_i e;rw [if_neg e] at h1;exact ⟨st',g',pre',Fo',h1,h2⟩
  | _=>exact ⟨st',g',pre',Fo',h1,h2⟩
variable {OPS:Array Oper}
theorem flat_SR {g:G} {w:World} {R:Nat→Option Res} {s:S} {u:Value} (hf:flatS s=true) (h:SR g w R s u):SR ⟨fun _ _=>False,fun _=>undef⟩ w (fun _=>none) s u:=by
  cases s with
  | c x=>rw [SR] at h ⊢;exact flat_CR hf h
  | agg cs =>
    rw [SR] at h ⊢
    obtain ⟨us,h1,h2⟩:=h
    refine ⟨us,h1,?_⟩
    rw [VR_iff] at h2 ⊢
    refine ⟨h2.1,fun k c u e1 e2=>flat_CR (List.all_eq_true.1 hf c (List.mem_of_getElem? e1)) (h2.2 k c u e1 e2)⟩
  | _=>cases hf
end
@[simp] theorem seqJ_normal (k:St→List (List S)→Prop) (Q:Exit→St→List (List S)→Prop) (st:St) (pre:List (List S)):seqJ k Q .normal st pre=k st pre:=rfl
@[simp] theorem seqJ_ret (k:St→List (List S)→Prop) (Q:Exit→St→List (List S)→Prop) (st:St) (pre:List (List S)):seqJ k Q .ret st pre=Q .ret st pre:=rfl
@[simp] theorem seqJ_exit (k:St→List (List S)→Prop) (Q:Exit→St→List (List S)→Prop) (st:St) (pre:List (List S)) (id:Nat):seqJ k Q (.exit id) st pre=Q (.exit id) st pre:=rfl
@[simp] theorem blkJ_normal (id:Nat) (Q:Exit→St→List (List S)→Prop) (st:St) (pre:List (List S)):blkJ id Q .normal st pre=Q .normal st pre:=rfl
@[simp] theorem blkJ_ret (id:Nat) (Q:Exit→St→List (List S)→Prop) (st:St) (pre:List (List S)):blkJ id Q .ret st pre=Q .ret st pre:=rfl
@[simp] theorem blkJ_exit (id id':Nat) (Q:Exit→St→List (List S)→Prop) (st:St) (pre:List (List S)):blkJ id Q (.exit id') st pre=(if id'=id then Q .normal st pre else Q (.exit id') st pre):=rfl
end Go.VL
