/- Contracts of functions of the seat, proved in a logic on data over the model (part VN13). -/
import Derived.Test.YtlphpbcafplnbaaGreatS9
import Derived.Test.YtlphpbcafplnbaaGreatQ7
import Derived.Test.YtlphpbcafplnbaaGreatVN17
import Derived.Lib.Mul64
import Derived.Shelf.Bits.Mul64
import Derived.Test.YtlphpbcafplnbaaGreatB1
import Derived.Test.YtlphpbcafplnbaaGreatV16
import Derived.Recover
import Derived.Test.YtlphpbcafplnbaaGreatAD
import Derived.Test.YtlphpbcafplnbaaGreatS4
import Derived.Test.YtlphpbcafplnbaaGreatVM3
set_option linter.unusedSimpArgs false
set_option linter.unusedVariables false
namespace Go.Proofs.YtlphpbcafplnbaaGreat
open Go.VL Go.RowKit
theorem sym_spec (nc:Bool) (cs:List Int) (hcs:cs.length≤1000000000000) (A X Y B:List Fact) (hX0:0<X.length) (hY0:0<Y.length) (hX:UpS (cmpC cs) X) (hY:UpS (cmpC cs) Y) (hrX:∀ f∈X,f.row.length≤140737488355328) (hrY:∀ f∈Y,f.row.length≤140737488355328):SymCon nc cs A X Y B :=
  sym_all nc cs hcs _ A X Y B (Nat.le_refl _) hX0 hY0 hX hY hrX hrY
structure StI where
  D:List Fact
  L:List Fact
  a:Nat
  b:Nat
abbrev pinS3 (uf:Nat→Value) (n:Nat) (f:C):List (Nat × Option Res):=[(2,some (.pin (uf 0) (.own 1 n))),(3,some (.pin (uf 1) (.c (i64 n)))),(4,some (.pin (uf 2) (.c f)))]
structure StI.OkB (cf:Fact→Fact→Int) (n:Nat) (F:List Fact) (s:StI):Prop where
  eq:s.D++stBlocks cf s.L=F
  a:s.a=s.D.length
  b:s.b=s.a+20
  n:s.D.length+s.L.length=n
  r:∀ f∈s.L,f.row.length≤140737488355328
structure StP where
  l:List Fact
  bs:Nat
structure StP.Ok (cf:Fact→Fact→Int) (n:Nat) (F:List Fact) (s:StP):Prop where
  eq:stPasses cf n s.bs s.l=F
  len:s.l.length=n
  b0:0<s.bs
  bl:s.bs≤2*n+20
  ru:Runs cf s.bs s.l
  r:∀ f∈s.l,f.row.length≤140737488355328
structure StI.OkP (cf:Fact→Fact→Int) (n bs:Nat) (F:List Fact) (s:StI):Prop where
  eq:s.D++stPass cf bs s.L=F
  a:s.a=s.D.length
  b:s.b=s.a+2*bs
  n:s.D.length+s.L.length=n
  ru:Runs cf bs s.L
  r:∀ f∈s.L,f.row.length≤140737488355328
set_option maxRecDepth 20000 in
set_option maxHeartbeats 32000000 in
theorem stable_spec (nc:Bool) (cs:List Int) (hcs:cs.length≤1000000000000) (l:List Fact) (n:Nat) (hn:n=l.length) (hl:n≤4398046511104) (hr:∀ f∈l,f.row.length≤140737488355328) :
    ConB Tryz.prog 92 [.own 1 n,.c (i64 n),srtFn nc cs] (rowF 1 l) [] [.own 1 n,.c (i64 n),srtFn nc cs] (rowF 1 (stab (cmpC cs) l)):=by
  refine spec_ofB 2 Tryz.func92 rfl (by kernel_rfl) (by simp [Tryz.f92]) (by simp [rowF]) rfl (fun w0 K0 uf=>vc_ok _ _ _ (by kernel_rfl) ?_)
  simp only [Tryz.f92]
  have hc:=Cmp.cols cs
  simp -dsimp [initB,initEnv,pinsOf,rowF]
  refine VL.loop (fun s:StI=>⟨[(7,.c (i64 s.a)),(8,.c (i64 s.b)),(6,.c (i64 20)),(0,.own 1 n),(1,.c (i64 n)),(2,srtFn nc cs)],(1,some (.arr false 3 (facts (s.D++s.L)) 0))::pinS3 uf n (.fn 57 [.dp [.sl nc (ints cs)]])⟩)
    (StI.OkB (cmpC cs) n (stBlocks (cmpC cs) l)) (fun s=>s.L.length) ⟨[],l,0,20⟩ (by kernel_rfl) ⟨rfl,rfl,rfl,by simp [hn],hr⟩ (by simp [St.le]) ?_
  intro ⟨D,L,a,b⟩ ⟨h1,h2,h3,h4,h5⟩
  simp only at h1 h2 h3 h4 h5
  by_cases hb:b≤n
  · have hlt:decide (b≤n)=true:=decide_eq_true hb
    have hwb:IntKind.i64.wrap ((b:Int)+20)=((b+20:Nat):Int):=by rw [IntWalk.i64_in _ (by omega)];rfl
    obtain ⟨X,hX⟩:∃ X,X=L.take 20:=⟨_,rfl⟩
    obtain ⟨B,hB⟩:∃ B,B=L.drop 20:=⟨_,rfl⟩
    have hXl:X.length=20:=by rw [hX,List.length_take];omega
    have hLe:L=X++B:=by rw [hX,hB,List.take_append_drop]
    have hbk:stBlocks (cmpC cs) L=stSort (cmpC cs) X++stBlocks (cmpC cs) B:=by rw [stBlocks,if_neg (by omega),hX,hB]
    have hsp:=insSort_spec nc cs hcs D X B (fun f hf=>h5 f (by rw [hLe];exact List.mem_append_left _ hf)) (by rw [← hLe,List.length_append];omega)
    have e1:(D++(X++B)).length=n:=by rw [← hLe,List.length_append];omega
    have e2:D.length+X.length=b:=by omega
    rw [e1,e2,← h2] at hsp
    rw [hbk] at h1
    subst hLe
    simp -dsimp [hlt]
    refine VCL.lend _ _ _ _ _ _ _ (lend3 hsp e1 (by simp [stSort_len];simp at e1;omega) (by simp)) ?_
    simp -dsimp [rowF,retS,renSs,renR,hwb]
    refine ⟨⟨D++stSort (cmpC cs) X,B,b,b+20⟩,⟨by simp only;rw [List.append_assoc];exact h1,by simp [stSort_len];omega,rfl,by simp [stSort_len];simp at e1;omega,fun f hf=>h5 f (List.mem_append_right _ hf)⟩,?_,by simp;omega⟩
    simp [St.le]
  · have hlt:decide (b≤n)=false:=decide_eq_false hb
    have hbk:stBlocks (cmpC cs) L=stSort (cmpC cs) L:=by rw [stBlocks,if_pos (by omega)]
    have hsp:=insSort_spec nc cs hcs D L [] h5 (by simp;omega)
    have e1:(D++(L++[])).length=n:=by simp;omega
    rw [e1,show D.length+L.length=n from h4,← h2,List.append_nil,List.append_nil] at hsp
    rw [hbk] at h1
    rw [h1] at hsp
    simp -dsimp [hlt]
    refine VCL.lend _ _ _ _ _ _ _ (lend3 hsp (by simp;omega) (by rw [stBlocks_len];exact hn.symm) (by simp)) ?_
    simp -dsimp [rowF,retS,renSs,renR]
    refine VL.loop (fun s:StP=>⟨[(6,.c (i64 s.bs)),(0,.own 1 n),(1,.c (i64 n)),(2,srtFn nc cs)],(1,some (.arr false 3 (facts s.l) 0))::pinS3 uf n (.fn 57 [.dp [.sl nc (ints cs)]])⟩)
      (StP.Ok (cmpC cs) n (stab (cmpC cs) l)) (fun s=>n+n-s.bs) ⟨stBlocks (cmpC cs) l,20⟩ (by kernel_rfl) ⟨by rw [hn];rfl,by rw [stBlocks_len];exact hn.symm,by simp only;omega,by simp only;omega,runs_blocks hc l,fun f hf=>hr f ((stBlocks_perm l).mem_iff.1 hf)⟩ (by simp [St.le]) ?_
    clear hsp h1 h2 h3 h4 h5 e1 hbk hlt hb
    intro ⟨l',bs⟩ ⟨k1,k2,k3,k4,k5,k6⟩
    simp only at k1 k2 k3 k4 k5 k6
    by_cases hbn:bs<n
    · have hlt:decide (bs<n)=true:=decide_eq_true hbn
      rw [stPasses,if_neg (by omega)] at k1
      have hw2:IntKind.i64.wrap (2*(bs:Int))=((2*bs:Nat):Int):=by rw [IntWalk.i64_in _ (by omega)];omega
      have hw2':IntKind.i64.wrap ((bs:Int)*2)=((2*bs:Nat):Int):=by rw [IntWalk.i64_in _ (by omega)];omega
      simp -dsimp [hlt,hw2]
      refine VL.loop (fun s:StI=>⟨[(7,.c (i64 s.a)),(8,.c (i64 s.b)),(6,.c (i64 bs)),(0,.own 1 n),(1,.c (i64 n)),(2,srtFn nc cs)],(1,some (.arr false 3 (facts (s.D++s.L)) 0))::pinS3 uf n (.fn 57 [.dp [.sl nc (ints cs)]])⟩)
        (StI.OkP (cmpC cs) n bs (stPass (cmpC cs) bs l')) (fun s=>s.L.length) ⟨[],l',0,2*bs⟩ (by kernel_rfl) ⟨rfl,rfl,by simp only;omega,by simp only;simpa using k2,k5,k6⟩ (by simp [St.le]) ?_
      intro ⟨D,L,a,b⟩ ⟨h1,h2,h3,h4,h5,h6⟩
      simp only at h1 h2 h3 h4 h5 h6
      have hwm:IntKind.i64.wrap ((a:Int)+(bs:Int))=((a+bs:Nat):Int):=by rw [IntWalk.i64_in _ (by omega)];rfl
      by_cases hb:b≤n
      · have hlt:decide (b≤n)=true:=decide_eq_true hb
        have hwb:IntKind.i64.wrap ((b:Int)+((2*bs:Nat):Int))=((b+2*bs:Nat):Int):=by rw [IntWalk.i64_in _ (by omega)];rfl
        have hwb':IntKind.i64.wrap ((b:Int)+2*(bs:Int))=((b+2*bs:Nat):Int):=by rw [IntWalk.i64_in _ (by omega)];omega
        obtain ⟨X,hX⟩:∃ X,X=L.take bs:=⟨_,rfl⟩
        obtain ⟨Y,hY⟩:∃ Y,Y=(L.drop bs).take bs:=⟨_,rfl⟩
        obtain ⟨B,hB⟩:∃ B,B=L.drop (2*bs):=⟨_,rfl⟩
        have hXl:X.length=bs:=by rw [hX,List.length_take];omega
        have hYl:Y.length=bs:=by rw [hY,List.length_take,List.length_drop];omega
        have hLe:L=X++(Y++B):=by
          rw [hX,hY,hB,show 2*bs=bs+bs by omega,← List.drop_drop,List.take_append_drop,List.take_append_drop]
        have hps:stPass (cmpC cs) bs L=stMerge (cmpC cs) X Y++stPass (cmpC cs) bs B:=by rw [stPass,if_neg (by omega),hX,hY,hB]
        have u1:UpS (cmpC cs) X:=by have:=h5 0;rw [Nat.zero_mul,List.drop_zero] at this;rw [hX];exact this
        have u2:UpS (cmpC cs) Y:=by have:=h5 1;rw [Nat.one_mul] at this;rw [hY];exact this
        have hru:Runs (cmpC cs) bs B:=by rw [hB];exact h5.drop 2
        have hBl:B.length=L.length-2*bs:=by rw [hB,List.length_drop]
        have hsp:=sym_spec nc cs hcs D X Y B (by omega) (by omega) u1 u2 (fun f hf=>h6 f (by rw [hLe];exact List.mem_append_left _ hf)) (fun f hf=>h6 f (by rw [hLe];exact List.mem_append_right _ (List.mem_append_left _ hf))) n a (a+bs) b (by omega) (by omega) h2 (by omega) (by omega)
        rw [hps] at h1
        clear hX hY hB hps
        subst hLe
        simp -dsimp [hlt,hwm]
        refine VCL.lend _ _ _ _ _ _ _ (lend4 hsp (by simp;omega) (by simp [stMerge_len];omega) (by simp)) ?_
        simp -dsimp [rowF,retS,renSs,renR,hw2,hwb,hwb']
        refine ⟨⟨D++stMerge (cmpC cs) X Y,B,b,b+2*bs⟩,⟨by simp only;rw [List.append_assoc];exact h1,by simp [stMerge_len];omega,rfl,by simp [stMerge_len];omega,hru,fun f hf=>h6 f (List.mem_append_right _ (List.mem_append_right _ hf))⟩,?_,by simp;omega⟩
        simp [St.le]
      · have hlt:decide (b≤n)=false:=decide_eq_false hb
        have hnext:StP.Ok (cmpC cs) n (stab (cmpC cs) l) ⟨stPass (cmpC cs) bs l',2*bs⟩:=⟨k1,by simp only;rw [stPass_len];exact k2,by simp only;omega,by simp only;omega,runs_pass hc k3 l' k5,fun f hf=>k6 f ((stPass_perm bs l').mem_iff.1 hf)⟩
        by_cases hmn:a+bs<n
        · have hlt2:decide (a+bs<n)=true:=decide_eq_true hmn
          have hlt2':decide ((a:Int)+(bs:Int)<(n:Int))=true:=decide_eq_true (by omega)
          obtain ⟨X,hX⟩:∃ X,X=L.take bs:=⟨_,rfl⟩
          obtain ⟨Y,hY⟩:∃ Y,Y=L.drop bs:=⟨_,rfl⟩
          have hXl:X.length=bs:=by rw [hX,List.length_take];omega
          have hYl:Y.length=L.length-bs:=by rw [hY,List.length_drop]
          have hLe:L=X++Y:=by rw [hX,hY,List.take_append_drop]
          have e0:(L.drop bs).take bs=Y:=by rw [← hY];exact List.take_of_length_le (by omega)
          have e1:stPass (cmpC cs) bs ([]:List Fact)=[]:=by rw [stPass];simp
          have hps:stPass (cmpC cs) bs L=stMerge (cmpC cs) X Y:=by rw [stPass,if_neg (by omega),← hX,e0,List.drop_eq_nil_of_le (by omega),e1,List.append_nil]
          have u1:UpS (cmpC cs) X:=by have:=h5 0;rw [Nat.zero_mul,List.drop_zero] at this;rw [hX];exact this
          have u2:UpS (cmpC cs) Y:=by have:=h5 1;rw [Nat.one_mul,e0] at this;exact this
          have hsp:=sym_spec nc cs hcs D X Y [] (by omega) (by omega) u1 u2 (fun f hf=>h6 f (by rw [hLe];exact List.mem_append_left _ hf)) (fun f hf=>h6 f (by rw [hLe];exact List.mem_append_right _ hf)) n a (a+bs) n (by simp;omega) (by omega) h2 (by omega) (by omega)
          rw [List.append_nil,List.append_nil,← hps,h1] at hsp
          clear hX hY e0 hps
          subst hLe
          simp -dsimp [hlt,hwm,hlt2,hlt2']
          refine VCL.lend _ _ _ _ _ _ _ (lend4 hsp (by simp;omega) (by rw [stPass_len];exact k2) (by simp)) ?_
          simp -dsimp [rowF,retS,renSs,renR,hw2']
          exact ⟨⟨stPass (cmpC cs) bs l',2*bs⟩,hnext,by simp [St.le],by simp only;omega⟩
        · have hlt2:decide (a+bs<n)=false:=decide_eq_false hmn
          have hlt2':decide ((a:Int)+(bs:Int)<(n:Int))=false:=decide_eq_false (by omega)
          have hps:stPass (cmpC cs) bs L=L:=by rw [stPass,if_pos (by omega)]
          rw [hps] at h1
          simp -dsimp [hlt,hwm,hlt2,hlt2',hw2']
          refine ⟨⟨stPass (cmpC cs) bs l',2*bs⟩,hnext,?_,by simp only;omega⟩
          rw [← h1]
          simp [St.le]
    · have hlt:decide (bs<n)=false:=decide_eq_false hbn
      rw [stPasses,if_pos (by omega)] at k1
      subst k1
      simp -dsimp [hlt]
      simp [resEnd,pinsEnd,rowF]
theorem fits64_iff (n:Int):fits64 n=true↔-9223372036854775808≤n∧n≤9223372036854775807:=by simp [fits64]
end Go.Proofs.YtlphpbcafplnbaaGreat
namespace Go.VL
open Go.RowKit
def plainRts (vs:List Value):List Rt:=vs.map fun v=>.c (.v v)
def plainSs (vs:List Value):List S:=vs.map fun v=>.c (.v v)
theorem ConB.seen {P:Program} {f:FuncId} (hc:callable P f=true) {nil:Bool} {sz:Nat} {xs:List (List C)} {fx:Nat} {ds:List S} {rvs:List Value} (hds:∀ s∈ds,∃ c,s=S.c c)
    (h:Con P f (.c (.sl nil xs)::ds) (plainRts rvs)) :
    ConB P f (.own 1 xs.length::ds) [(1,.arr nil sz xs fx)] (plainSs rvs) (.own 1 xs.length::ds) [(1,.arr nil sz xs fx)]:=by
  refine ⟨hc,fun w g us hM hargs=>?_⟩
  have hb1:lk [(1,Res.arr nil sz xs fx)] 1=some (.arr nil sz xs fx):=rfl
  rw [SRs] at hargs
  obtain ⟨u1,us1,rfl,hu1,hds1⟩:=hargs
  rw [SR] at hu1
  have e1:=hu1 nil sz xs fx hb1 rfl
  have hres:=hM.res 1 _ hb1
  obtain ⟨K1,hsub,hlt1,hrow⟩:∃ K1:Nat→Nat→Prop,(∀ b o,g.K b o→K1 b o)∧(∀ b o,K1 b o→b<w.heap.size)∧CR K1 w (.sl nil xs) (g.loc 1):=by
    rcases hres with ⟨h1,h2,h3,_⟩ | ⟨h0,b,cap,cur,E,q1,q2,q3,q4,q5,q6,q7,q8,q9⟩
    · exact ⟨g.K,fun _ _ h=>h,hM.klt,by rw [CR];exact .inl ⟨h1,h2,h3⟩⟩
    · have hbl:b<w.heap.size:=(Array.getElem?_eq_some_iff.1 q3).1
      refine ⟨fun b' o=>g.K b' o∨(b'=b∧o<xs.length*sz),fun _ _ h=>.inl h,fun b' o hk=>?_,?_⟩
      · rcases hk with hk | ⟨rfl,_⟩
        · exact hM.klt b' o hk
        · exact hbl
      · have kp:Keeps g.K w (fun b' o=>g.K b' o∨(b'=b∧o<xs.length*sz)) w:=⟨fun _ _ h=>.inl h,fun _ _ _=>rfl⟩
        have:RR ⟨fun b' o=>g.K b' o∨(b'=b∧o<xs.length*sz),g.loc⟩ w (fun _=>none) (fun _=>True) 1 (.arr nil sz xs xs.length):=by
          refine .inr ⟨h0,b,cap,cur,E,q1,trivial,q3,q4,q5,q6,Nat.le_refl _,q8.mono kp,fun o=>⟨fun hk=>?_,fun ho=>.inr ⟨rfl,ho⟩⟩⟩
          rcases hk with hk | ⟨_,hk⟩
          · have:=(q9 o).1 hk
            have:=Nat.mul_le_mul_right sz q7
            omega
          · exact hk
        exact this.datum
  have hdr:DRs K1 w (.c (.sl nil xs)::ds) (u1::us1):=by
    unfold DRs
    rw [SRs]
    refine ⟨u1,us1,rfl,?_,?_⟩
    · rw [SR,e1];exact hrow
    · rw [SRs_iff] at hds1 ⊢
      refine ⟨hds1.1,fun k s u hs hu=>?_⟩
      obtain ⟨c,rfl⟩:=hds s (List.mem_of_getElem? hs)
      have:=hds1.2 k _ u hs hu
      rw [SR] at this ⊢
      exact CR.mono ⟨hsub,fun _ _ _=>rfl⟩ c u this
  refine ((h w K1 (u1::us1) hlt1 hdr).calls hc).mono fun e w' ⟨vs,he,hbel,K',p1,p2,p3,p4⟩=>?_
  have hkeep:Keeps g.K w g.K w':=⟨fun _ _ h=>h,fun b o hk=>by
    have:=hM.klt b o hk
    simp only [World.cell?];rw [hbel.block b this]⟩
  have hsz:=hbel.size
  refine ⟨vs,g,he,⟨⟨hbel.os,hbel.tape,hbel.output,hsz,fun k hk=>hbel.block k hk.1,hbel.drawn⟩,fun _ _ h=>h,hM.kold,fun b o hk=>Nat.lt_of_lt_of_le (hM.klt b o hk) hsz,fun i r hi=>?_,hM.dis,fun b o hk=>hkeep.cell b o hk⟩,?_,?_⟩
  · have hr:=hM.res i r hi
    have hir:r = .arr nil sz xs fx:=(Prod.mk.inj (List.mem_singleton.1 (lk_mem hi))).2
    subst hir
    refine RR.mono hkeep rfl (fun b hb=>⟨?_,fun _ h=>h⟩) (fun fz ss e=>by cases e) (fun v s e=>by cases e) (fun m e=>by cases e) hr
    have hlt:b<w.heap.size:=hr.lt hb
    exact hbel.block b hlt
  · obtain ⟨r1,r2,_⟩:=p4
    rw [SRs_iff]
    unfold plainSs plainRts at *
    rw [List.length_map] at r1
    refine ⟨by rw [List.length_map];exact r1,fun k s u hs hu=>?_⟩
    rw [List.getElem?_map] at hs
    cases hk:rvs[k]? with
    | none=>rw [hk] at hs;simp at hs
    | some v =>
      rw [hk] at hs
      simp at hs
      subst hs
      have:=r2 k (.c (.v v)) u (by rw [List.getElem?_map,hk];rfl) hu
      rw [RtR,CR] at this
      rw [SR,CR]
      exact this
  · rw [SRs]
    refine ⟨u1,us1,rfl,?_,?_⟩
    · rw [SR];intro nil' sz' xs' fx' hr hl;exact hu1 nil' sz' xs' fx' hr hl
    · rw [SRs_iff] at hds1 ⊢
      refine ⟨hds1.1,fun k s u hs hu=>?_⟩
      obtain ⟨c,rfl⟩:=hds s (List.mem_of_getElem? hs)
      have:=hds1.2 k _ u hs hu
      rw [SR] at this ⊢
      exact CR.mono hkeep c u this
theorem renSs_c (τ:Nat→Nat):∀ cs:List C,renSs τ (cs.map S.c)=cs.map S.c
  | []=>rfl
  | c::r=>by rw [List.map_cons,renSs,renS,renSs_c τ r]
theorem nams_plain:∀ rvs:List Value,S.nams (plainSs rvs)=[]
  | []=>rfl
  | v::r=>by
    have:=nams_plain r
    unfold plainSs at *
    rw [List.map_cons,S.nams,this];rfl
theorem VCL.seen {P:Program} {st:St} {d:Option Nat} {K:St→Prop} {f:FuncId} {i n:Nat} {cs:List C} (nil:Bool) (sz:Nat) (xs:List (List C)) (fx:Nat) (rvs:List Value) (hc:callable P f=true)
    (h:Con P f (.c (.sl nil xs)::cs.map S.c) (plainRts rvs)) (hn:n=xs.length) (hr:st.rs i=Option.some (Res.arr nil sz xs fx))
    (hk:force (tick ((lendSt st (fun _=>i) [] [(1,Res.arr nil sz xs fx)]).putd d (retS (fun _=>i) (plainSs rvs)))) K):VCL P d st f [] (.own i n::cs.map S.c) K .mk:=by
  subst hn
  have hcon:=ConB.seen hc (sz:=sz) (fx:=fx) (fun s hs=>by
    obtain ⟨c,_,rfl⟩:=List.mem_map.1 hs
    exact ⟨c,rfl⟩) h
  refine VCL.lend [(1,Res.arr nil sz xs fx)] [(1,Res.arr nil sz xs fx)] (.own 1 xs.length::cs.map S.c) _ _ (fun _=>i) [] ⟨hcon,?_,?_,?_,?_,?_,?_,?_⟩ hk
  · rw [renSs,renS,renSs_c]
  · intro p hp;simp at hp;subst hp;exact hr
  · simp
  · simp
  · intro p hp;simp at hp;subst hp;simp [Res.nam]
  · intro j hj
    exfalso
    rw [nams_plain] at hj;simp at hj
  · intro p hp;simp at hp;subst hp
    right
    refine ⟨_,rfl,?_⟩
    rw [keptP]
    exact .inl ⟨rfl,rfl,rfl,nil,sz,xs,fx,nil,xs,fx,rfl,rfl,rfl,rfl⟩
section
variable {P:Program} {w0:World} {K0:K0T} {nt:Nat} {st:St} {a:Act} {w:World} {g:G}
end
section
variable {P:Program} {w0:World} {K0:K0T} {nt:Nat} {st:St} {a:Act} {w:World} {g:G}
end
end Go.VL
namespace Go.Proofs.YtlphpbcafplnbaaGreat
open Go.VL Go.RowKit
def evV:Ev→Val
  | .ok v=>v
  | .no _=>⟨0,0,[]⟩
def evC:Ev→Int
  | .ok _=>0
  | .no c=>c
def holds1 (row:List Val) (t:Tm):Bool:=(evC (evalT row t) == 0) && ((evV (evalT row t)).kind == 3) && ((evV (evalT row t)).int == 1)
def holdsT (row:List Val) (ts:List Tm):Bool:=ts.all (holds1 row)
abbrev terms (l:List Tm):List (List C):=l.map Tm.cells
def TOk (l:List Tm):Prop:=∀ t∈l,t.Ok
def VFit (row:List Val):Prop:=∀ v∈row,fits64 v.int=true
abbrev scols (l:List SCol):List (List C):=l.map SCol.cells
abbrev exprs (l:List Ex):List (List C):=l.map Ex.cells
structure BI where
  k:Nat
  nl:Bool
  sz:Nat
  ts:List Tm
def BI.Ok (sc:List SCol) (args:List Ex) (i:BI):Prop:=i.k≤args.length∧bindEs sc (args.take i.k) = .ok i.ts∧i.ts.length=i.k∧i.nl=i.ts.isEmpty∧i.sz=if i.nl then 0 else 7
set_option maxRecDepth 4000 in
set_option maxHeartbeats 4000000 in
theorem cloneV_spec (nl:Bool) (l:List Val) (hn:nl=true→l=[]) (hl:l.length≤4398046511104):Con Tryz.prog 78 [.c (.sl nl (vals l))] [.fr nl (if nl then 0 else 3) (vals l) 0]:=by
  refine spec_of Tryz.func78 rfl (by kernel_rfl) (by simp [Tryz.f78]) (fun w0 K0=>vc_ok _ _ _ (by kernel_rfl) ?_)
  simp only [Tryz.f78]
  cases nl with
  | true =>
    obtain rfl:=hn rfl
    simp -dsimp
  | false =>
    simp -dsimp
    omega
theorem cloneV_at (nl:Bool) (l:List Val) (hn:nl=true→l=[]) (hl:l.length≤4398046511104):Con Tryz.prog 78 [.c (.sl nl (vals l))] [.c (.sl nl (vals l))] :=
  Con.frz (rs:=[.fr nl (if nl then 0 else 3) (vals l) 0]) (cloneV_spec nl l hn hl) 0 rfl
def FOk (l:List Fact):Prop:=∀ f∈l,(f.nl=true→f.row=[])∧f.row.length≤4398046511104
set_option maxRecDepth 4000 in
set_option maxHeartbeats 8000000 in
theorem copied_spec (nl:Bool) (l:List Fact) (ho:FOk l) (hl:l.length≤3518437208883):Con Tryz.prog 50 [.c (.sl nl (facts l))] [.fr l.isEmpty (if l.isEmpty then 0 else 3) (facts l) 0]:=by
  refine spec_of Tryz.func50 rfl (by kernel_rfl) (by simp [Tryz.f50]) (fun w0 K0=>vc_ok _ _ _ (by kernel_rfl) ?_)
  simp only [Tryz.f50]
  simp -dsimp
  refine VL.loop (fun i:KI=>⟨[(8,.c (i64 i.k)),(7,.c (i64 l.length)),(6,.c (.sl nl (facts l))),(3,.own 192 i.k)],[(192,some (.arr i.nl i.sz (facts (l.take i.k)) 0))]⟩)
    (fun i=>i.k≤l.length∧i.nl=(l.take i.k).isEmpty∧i.sz=if i.nl then 0 else 3) (fun i=>l.length-i.k) ⟨0,true,0⟩ (by kernel_rfl) ⟨by simp,rfl,rfl⟩ (by simp [St.le]) ?_
  intro ⟨k,z,sz⟩ ⟨hk,hz,hsz⟩
  simp only at hk hz hsz
  have hkl:(l.take k).length=k:=by simp;omega
  by_cases h1:k<l.length
  · have hw:IntKind.i64.wrap ((k:Int)+1)=(k:Int)+1:=IntWalk.i64_in _ (by omega)
    have hsn:=take_snoc h1
    have hne:l≠[]:=by rintro rfl;simp at h1
    have hie:(List.take (k+1) l).isEmpty=false:=by rw [hsn];cases List.take k l <;> rfl
    obtain ⟨hn,hrow⟩:=ho l[k] (List.getElem_mem h1)
    simp -dsimp [h1,hw,Fact.cells]
    refine VL.draw (by kernel_rfl) [(0,false),(0,false),(2,false),(6,false),(0,false),(16,false),(62,false),(126,false),(255,true),(511,true)] (by kernel_rfl) ?_
    simp -dsimp
    refine VCE.mk _ (cloneV_at l[k].nl l[k].row hn hrow) ?_
    simp -dsimp [hw,maxLen]
    refine ⟨by omega,fun e=>by rw [hsz,e];rfl,by omega,⟨k+1,false,3⟩,⟨by simp only;omega,hie.symm,rfl⟩,?_,by simp only;omega⟩
    have hm:List.take (k+1) (List.map Fact.cells l)=List.take k (List.map Fact.cells l)++[[C.sl l[k].nl (vals l[k].row),i64 l[k].p.f,i64 l[k].p.t]]:=by
      rw [← List.map_take,hsn,List.map_append,List.map_take];rfl
    simp [St.le,hm]
  · obtain rfl:k=l.length:=by omega
    rw [List.take_length] at *
    simp -dsimp
    refine ⟨hz,?_⟩
    rw [hsz,hz]
    cases l <;> simp
end Go.Proofs.YtlphpbcafplnbaaGreat
namespace Go.VL
open Go.RowKit
section
variable {P:Program} {w0:World} {K0:K0T} {nt:Nat} {OPS:Array Oper}
def VRS (P:Program) (w0:World) (K0:K0T) (nt:Nat) (OPS:Array Oper) (l:List Oper) (st:St) (K:St→Prop):Prop :=
  (l.all (opOk nt))=true→∀ a w g,T w0 K0 nt st a w g→∀ Q:Exit→Act→World→Prop,(∀ st' a' w' g',K st'→T w0 K0 nt st' a' w' g'→Q .normal a' w')→wpList P OPS Q l a w
theorem VRS.fin {l:List Oper} {st:St} {K:St→Prop} (h:vr P OPS l st K):VRS P w0 K0 nt OPS l st K :=
  fun hok a w g hT Q hn=>vr_ok l st a w g K hT hok h hn
theorem VRS.step {o:Oper} {l:List Oper} {st:St} {K:St→Prop}
    (h:opOk nt o=true→∀ a w g,T w0 K0 nt st a w g→∀ (next:Act→World→Prop) (Q:Exit→Act→World→Prop),(∀ st' a' w' g',VRS P w0 K0 nt OPS l st' K→T w0 K0 nt st' a' w' g'→next a' w')→stepW P OPS o a w next Q) :
    VRS P w0 K0 nt OPS (o::l) st K:=by
  intro hok a w g hT Q hn
  simp only [List.all_cons,Bool.and_eq_true] at hok
  have:=h hok.1 a w g hT (wpList P OPS Q l) Q (fun st' a' w' g' h1 h2=>h1 hok.2 a' w' g' h2 Q hn)
  unfold stepW at this
  unfold wpList
  split
  · rename_i hw;rw [if_pos hw] at this;exact .inl this
  · rename_i hw;rw [if_neg hw] at this;exact this
def vrn (P:Program) (OPS:Array Oper):Nat→List Oper→St→(List Oper→St→Prop)→Prop
  | 0,l,st,X=>X l st
  | _+1,[],st,X=>X [] st
  | n+1,o::r,st,X=>vstepL P OPS st o fun st'=>vrn P OPS n r st' X
@[simp ↓] theorem vrn_zero (l:List Oper) (st:St) (X:List Oper→St→Prop):vrn P OPS 0 l st X=X l st:=rfl
@[simp ↓] theorem vrn_succ (n:Nat) (o:Oper) (l:List Oper) (st:St) (X:List Oper→St→Prop):vrn P OPS (n+1) (o::l) st X=force (tick st) fun st=>vstepL P OPS st o fun st'=>vrn P OPS n l st' X:=rfl
theorem VRS.run:∀ (n:Nat) {l:List Oper} {st:St} {K:St→Prop},vrn P OPS n l st (fun l st=>VRS P w0 K0 nt OPS l st K)→VRS P w0 K0 nt OPS l st K
  | 0,l,st,K,h=>h
  | n+1,[],st,K,h=>h
  | n+1,o::l,st,K,h=>by
    refine VRS.step fun hok a w g hT next Q hn=>?_
    refine vstepL_ok hT hok h next Q fun st' a' w' g' h1 h2=>hn st' a' w' g' ?_ h2
    exact VRS.run n h1
theorem VL.hand {id:Nat} {ops:List Oper} {st:St} {Q:Exit→St→Prop} {m1:Keep (Code.region id ops.toArray false)} {m2:Keep Q} (hok:(ops.all (opOk nt))=true)
    (h:VRS P w0 K0 nt ops.toArray ops st (Q .normal)):VL P w0 K0 nt (.region id ops.toArray false) st Q m1 m2:=fun a w g hT =>
  wp_region_list (h hok a w g hT _ fun st' a' w' g' h1 h2=>⟨st',g',h1,h2⟩)
theorem wanted_step {st:St} {a:Act} {w:World} {g:G} (hT:T w0 K0 nt st a w g) {o:Oper} (hg:gflag OPS st o.guard=some true) {next:Act→World→Prop} {Q:Exit→Act→World→Prop} (h:o.wp P a w next Q):stepW P OPS o a w next Q:=by
  unfold stepW
  rw [gflag_ok hT hg o rfl,if_pos rfl]
  exact h
end
section
variable {P:Program} {w0:World} {K0:K0T} {nt:Nat} {OPS:Array Oper}
end
section
variable {P:Program} {w0:World} {K0:K0T} {nt:Nat} {OPS:Array Oper} {st:St} {a:Act} {w:World} {g:G}
theorem T.newrows (h:T w0 K0 nt st a w g) (i sz:Nat) (xs:List (List S)) (cur:Array Value) (E:TypeId) (cap:Nat) (w':World) (hw:w'=w.alloc (.cells cur E)∨w'=w.drew.alloc (.cells cur E))
    (hh:HoldsS g w st.rs sz xs cur) (hm:∀ e∈xs,S.mens i e=false) (h1:xs.length≤cap) (h2:cap≤maxLen) (h3:cur.size=cap*sz) :
    ∃ g',T w0 K0 nt ((st.clr i).setR i (some (.map (.rows false sz xs)))) a w' g'∧g'.loc i = .slice (some ⟨w.heap.size,0,none⟩) xs.length cap∧(∀ j,j≠i→g'.loc j=g.loc j)∧g'.K=g.K:=by
  refine ⟨{ g with loc:=fun j=>if j=i then .slice (some ⟨w.heap.size,0,none⟩) xs.length cap else g.loc j },?_,by simp,fun j hj=>by simp [hj],rfl⟩
  have hB:w0.heap.size≤w.heap.size:=h.below.size
  have fBel:Bel w0 K0 w w':=by
    rcases hw with rfl | rfl
    · exact Bel.of ((BelowD.refl _ _).alloc hB _)
    · exact Bel.of (((BelowD.refl _ w).drew).alloc hB _)
  have fCell:∀ b o,b<w.heap.size→w'.cell? ⟨b,o,none⟩=w.cell? ⟨b,o,none⟩:=fun b o hb=>by
    rcases hw with rfl | rfl
    · exact World.cell?_alloc_lt _ _ _ hb
    · exact World.cell?_alloc_lt w.drew _ _ hb
  have fHeap:∀ k,k<w.heap.size→w'.heap[k]? = w.heap[k]? := fun k hk=>by
    rcases hw with rfl | rfl
    · exact Below.heap_alloc _ _ _ hk
    · exact Below.heap_alloc w.drew _ _ hk
  have fNew:w'.heap[w.heap.size]? = some (.cells cur E (0,0)):=by
    rcases hw with rfl | rfl
    · exact heap_alloc_new w _
    · exact heap_alloc_new w.drew _
  have fSize:w.heap.size<w'.heap.size:=(Array.getElem?_eq_some_iff.1 fNew).1
  have hk:Keeps g.K w g.K w':=⟨fun _ _ k=>k,fun b o k=>fCell b o (h.klt b o k)⟩
  have hc:∀ j,(∃ e∈xs,S.mens j e=true)→Cmp g st.rs { g with loc:=fun j=>if j=i then .slice (some ⟨w.heap.size,0,none⟩) xs.length cap else g.loc j } ((st.clr i).setR i (some (.map (.rows false sz xs)))).rs j:=by
    intro j hj
    obtain ⟨e0,he0,hj⟩:=hj
    have hji:j≠i:=fun e=>by rw [e] at hj;rw [hm e0 he0] at hj;cases hj
    have hR:((st.clr i).setR i (some (.map (.rows false sz xs)))).rs j=(st.rs j).map (Res.clr i):=by rw [St.rs_setR,if_neg (Ne.symm hji),St.rs_clr]
    refine ⟨fun fz ss' e=>?_,fun nil sz xs fx e=>?_,fun kvs e=>?_⟩
    · rw [hR] at e
      cases hs:st.rs j with
      | none=>simp [hs] at e
      | some r=>cases r with
        | box fz0 ss0=>exact ⟨⟨fz0,ss0,rfl⟩,by simp [hji]⟩
        | arr _ _ _ _=>simp [hs,Res.clr] at e
        | pin _ _=>simp [hs,Res.clr] at e
        | map _=>simp [hs,Res.clr] at e
    · rw [hR] at e
      cases hs:st.rs j with
      | none=>simp [hs] at e
      | some r=>cases r with
        | box fz0 ss0=>simp [hs,Res.clr] at e
        | arr nil0 sz0 xs0 fx0 =>
          simp [hs,Res.clr] at e
          obtain ⟨rfl,rfl,rfl,rfl⟩:=e
          exact ⟨⟨_,_,_,rfl,rfl⟩,by simp [hji]⟩
        | pin _ _=>simp [hs,Res.clr] at e
        | map _=>simp [hs,Res.clr] at e
    · rw [hR] at e
      cases hs:st.rs j with
      | none=>simp [hs] at e
      | some r=>cases r with
        | box fz0 ss0=>simp [hs,Res.clr] at e
        | arr _ _ _ _=>simp [hs,Res.clr] at e
        | pin _ _=>simp [hs,Res.clr] at e
        | map k0 =>
          simp [hs,Res.clr] at e
          exact ⟨⟨k0,rfl,by rw [← e,MB.sh_clr]⟩,by simp [hji]⟩
  refine T.make h (g':={ g with loc:=fun j=>if j=i then .slice (some ⟨w.heap.size,0,none⟩) xs.length cap else g.loc j }) fBel hk h.kold (fun b o k=>by
      have:=h.klt b o k;omega) (fun j hj=>by simp [hj]) (fun j r b hj hr hb=>⟨fHeap b ((h.res j r hr).lt hb),fun _ k=>k⟩) (fun j r hj hr b hb hb2=>?_) ?_
  · simp [blk] at hb
    have:=(h.res j r hr).lt hb2
    omega
  · refine .inr ⟨rfl,w.heap.size,cap,cur,E,by simp,(fun e=>absurd e.1 (by omega)),fNew,h1,h2,h3,fun j e hj=>?_,fun o k=>?_⟩
    · obtain ⟨q1,q2⟩:=hh j e hj
      refine ⟨q1,fun k s hs=>?_⟩
      obtain ⟨u,e1,e2,e3⟩:=q2 k s hs
      refine ⟨u,e1,SR.mono (g:=g) (g':={ g with loc:=fun j=>if j=i then .slice (some ⟨w.heap.size,0,none⟩) xs.length cap else g.loc j }) hk s u (fun x hx=>hc x ⟨e,List.mem_of_getElem? hj,?_⟩) e2,e3⟩
      exact mens_of (List.mem_of_getElem? hs) hx
    · have:=h.klt _ _ k
      omega
theorem VRS.ixM {y:Nat} {t ty:TypeId} {x h:Operand} {p:String} {af:Array Edge} {l:List Oper} {K:St→Prop} (i j sz:Nat) (xs:List (List S))
    (hx:st.ev x = .mp i) (hh:sint (peel (st.ev h))=some (j:Int)) (hfh:flagOf (st.ev h)=true) (hr:st.rs i=some (.map (.rows false sz xs))) (hj:j<xs.length) (he:esz P t=some sz)
    (hk:VRS P w0 K0 nt OPS l (st.put y (.me i j 0)) K):VRS P w0 K0 nt OPS (⟨some y,.indexAddr t x h,ty,p,af,none⟩::l) st K:=by
  refine VRS.step fun hok a w g hT next Q hn'=>wanted_step hT rfl ?_
  have hd:=opOk_dst hok
  have hex:=hT.ev x
  rw [hx,SR] at hex
  have hu:=hex _ hr
  have heh:=peel_ok (hT.ev h) hfh
  obtain ⟨k,hki⟩:=sint_eq hh heh
  rcases hT.res i _ hr with ⟨q,_⟩ | ⟨_,b,cap,cur,E,hl,_⟩
  · cases q
  rw [hl] at hu
  have hrun:(execOp a.eval ⟨some y,.indexAddr t x h,ty,p,af,none⟩).run P w = .ok (.value (.pointer (some ⟨b,j*sz,none⟩))) w:=by
    have:=run_indexAt_sl (P:=P) (w:=w) (b:=b) (o:=0) (cap:=cap) (k:=k) he (Int.natCast_nonneg j) (show (j:Int).toNat<xs.length by simpa using hj)
    simp only [Int.toNat_natCast,Nat.zero_add] at this
    simp [execOp,hu,hki,this]
  refine ow_value hrun (hn' _ _ w g hk ?_)
  refine hT.put (hd y rfl) ?_
  rw [SR]
  intro nil' sz' xs' e _
  rw [hr] at e
  cases e
  exact ⟨b,cap,hl,rfl⟩
theorem VRS.ldM {y n:Nat} {t ty:TypeId} {x:Operand} {p:String} {af:Array Edge} {l:List Oper} {K:St→Prop} (i j o sz:Nat) (xs:List (List S)) (e:List S) (s:S)
    (hx:st.ev x = .me i j o) (hr:st.rs i=some (.map (.rows false sz xs))) (hj:xs[j]? = some e) (ho:e[o]? = some s) (ht:tySz P t=some (false,n))
    (hk:VRS P w0 K0 nt OPS l (st.put y s) K):VRS P w0 K0 nt OPS (⟨some y,.load t x,ty,p,af,none⟩::l) st K:=by
  refine VRS.step fun hok a w g hT next Q hn'=>wanted_step hT rfl ?_
  have hd:=opOk_dst hok
  have hex:=hT.ev x
  rw [hx,SR] at hex
  obtain ⟨b,cap,hl,hu⟩:=hex _ _ _ hr (List.getElem?_eq_some_iff.1 hj).1
  rcases hT.res i _ hr with ⟨q,_⟩ | ⟨_,b',cap',cur,E,hl',hB,hheap,_,_,_,hH,_⟩
  · cases q
  rw [hl] at hl'
  cases hl'
  obtain ⟨_,h2⟩:=hH j e hj
  obtain ⟨u,e1,e2,e3⟩:=h2 o s ho
  have hc:w.cell? ⟨b,j*sz+o,none⟩=some u:=by rw [cell_of_heap hheap];exact e1
  have hrun:(execOp a.eval ⟨some y,.load t x,ty,p,af,none⟩).run P w = .ok (.value u) w:=by
    have:=run_loadVar_one (P:=P) ht hc
    simp [execOp,hu,Instr.loadAt,Instr.sureAddr,this]
  refine ow_value hrun (hn' _ _ w g hk ?_)
  exact hT.put (hd y rfl) e2
end
section
variable {P:Program} {w0:World} {K0:K0T} {nt:Nat} {OPS:Array Oper} {st:St}
end
section
variable {P:Program} {w0:World} {K0:K0T} {nt:Nat} {OPS:Array Oper} {st:St} {a:Act} {w:World} {g:G}
end
section
variable {P:Program}
end
section
variable {P:Program} {w0:World} {K0:K0T} {nt:Nat} {OPS:Array Oper}
end
def flatC:C→Bool
  | .v _=>true
  | _=>false
theorem flat_CR {K K':Nat→Nat→Prop} {w w':World} {c:C} {u:Value} (hf:flatC c=true) (h:CR K w c u):CR K' w' c u:=by
  cases c with
  | v x=>rw [CR] at h ⊢;exact h
  | _=>cases hf
section
variable {P:Program} {w0:World} {K0:K0T} {nt:Nat} {OPS:Array Oper} {st:St}
theorem own_one {a:Act} {w:World} {g:G} (hT:T w0 K0 nt st a w g) {i n:Nat} {nil:Bool} {sz:Nat} {xs:List (List C)} {fx:Nat} {u:Value} (h:SR g w st.rs (.own i n) u) (hr:st.rs i=some (.arr nil sz xs fx)) (hn:xs.length=n):u.oneCell'=true:=by
  rw [SR] at h
  have hu:=h nil sz xs fx hr hn
  rcases hT.res i _ hr with ⟨_,_,q,_⟩ | ⟨_,b,cap,cur,E,q,_⟩ <;> rw [hu,q] <;> rfl
end
section
variable {P:Program} {w0:World} {K0:K0T} {nt:Nat} {st:St} {a:Act} {w:World} {g:G}
end
section
variable {P:Program} {w0:World} {K0:K0T} {nt:Nat} {OPS:Array Oper} {st:St}
end
section
variable {P:Program} {w0:World} {K0:K0T} {nt:Nat} {OPS:Array Oper} {st:St}
def oneS (st:St):S→Prop
  | .c _=>True
  | .own i n=>∃ nil sz xs fx,st.rs i=some (.arr nil sz xs fx)∧xs.length=n
  | .ptr i _=>∃ fz ss,st.rs i=some (.box fz ss)
  | .mp i=>∃ m,st.rs i=some (.map m)
  | _=>False
theorem oneS_ok {a:Act} {w:World} {g:G} (hT:T w0 K0 nt st a w g) {s:S} {u:Value} (h:SR g w st.rs s u) (ho:oneS st s):u.oneCell'=true:=by
  cases s with
  | c x=>rw [SR] at h;exact CR.one h
  | own i n=>obtain ⟨nil,sz,xs,fx,hr,hn⟩:=ho;exact own_one hT h hr hn
  | ptr i o =>
    obtain ⟨fz,ss,hr⟩:=ho
    rw [SR] at h
    obtain ⟨b,_,rfl⟩:=h fz ss hr
    rfl
  | mp i =>
    obtain ⟨m,hr⟩:=ho
    rw [SR] at h
    have hu:=h m hr
    have:=hT.res i _ hr
    rw [hu]
    cases m <;> (simp only [RR,MR] at this)
    · obtain ⟨b,es,q,_⟩:=this
      rw [q];rfl
    · obtain ⟨b,q,_⟩:=this
      rw [q];rfl
    · rcases this with ⟨_,_,q⟩ | ⟨_,b,cap,cur,E,q,_⟩ <;> rw [q] <;> rfl
  | _=>exact ho.elim
def patC (us:List Value):Nat ⊕ Value→C
  | .inl k=>.v (us.getD k undef)
  | .inr z=>.v z
def patS (ss:List S):Nat ⊕ Value→S
  | .inl k=>ss.getD k .un
  | .inr z=>.c (.v z)
def patV (us:List Value):Nat ⊕ Value→Value
  | .inl k=>us.getD k undef
  | .inr z=>z
theorem patC_VR {Kp:Nat→Nat→Prop} {w:World} {us:List Value} : ∀ {pat:List (Nat ⊕ Value)} {vs:List Value},VR Kp w (pat.map (patC us)) vs→vs=pat.map (patV us)∧∀ v∈vs,v.oneCell'=true
  | [],vs,h=>by simp only [List.map_nil,VR] at h;subst h;simp
  | q::r,vs,h=>by
    simp only [List.map_cons,VR] at h
    obtain ⟨u,us',rfl,h1,h2⟩:=h
    obtain ⟨rfl,h4⟩:=patC_VR h2
    have h5:u=patV us q∧u.oneCell'=true:=by
      cases q <;> (simp only [patC] at h1;rw [CR] at h1;exact ⟨h1.1,by rw [h1.1];exact h1.2⟩)
    refine ⟨by rw [List.map_cons,h5.1],fun v hv=>?_⟩
    rcases List.mem_cons.1 hv with rfl | hv
    · exact h5.2
    · exact h4 v hv
theorem parts_R {g:G} {w:World} {R:Nat→Option Res} (f:Operand→Value):∀ (ps:List (Nat × Operand)),(∀ q∈ps,(f q.2).oneCell'=true) →
    PartsR g w R ((ps.zip (ps.map fun q=>f q.2)).map fun q=>(q.1.1,S.c (.v q.2))) (ps.map fun q=>(q.1,f q.2))
  | [],_=>rfl
  | q::r,h=>by
    simp only [List.map_cons,List.zip_cons_cons,PartsR]
    exact ⟨_,_,rfl,by rw [SR,CR];exact ⟨rfl,h q (by simp)⟩,parts_R f r fun x hx=>h x (by simp [hx])⟩
theorem VRS.bldn {y:Nat} {t ty:TypeId} {ps:List (Nat × Operand)} {p:String} {af:Array Edge} {l:List Oper} {K:St→Prop} (pat:List (Nat ⊕ Value))
    (hp:∀ us:List Value,us.length=ps.length→pbuild P t ((ps.zip us).map fun q=>(q.1.1,S.c (.v q.2)))=(.agg (pat.map (patC us)),True))
    (hpat:∀ k,Sum.inl k∈pat→k<ps.length) (ho:∀ q∈ps,oneS st (st.ev q.2))
    (hk:VRS P w0 K0 nt OPS l (st.put y (.st (pat.map (patS (ps.map fun q=>st.ev q.2))))) K) :
    VRS P w0 K0 nt OPS (⟨some y,.build t ps.toArray,ty,p,af,none⟩::l) st K:=by
  refine VRS.step fun hok a w g hT next Q hn'=>wanted_step hT rfl ?_
  have hd:=opOk_dst hok
  have ho1:∀ q∈ps,(a.eval q.2).oneCell'=true:=fun q hq=>oneS_ok hT (hT.ev q.2) (ho q hq)
  have e:=hp (ps.map fun q=>a.eval q.2) (by simp)
  have hpr:PartsR g w st.rs ((ps.zip (ps.map fun q=>a.eval q.2)).map fun q=>(q.1.1,S.c (.v q.2))) (Array.map (fun q:Nat × Operand=>(q.1,a.eval q.2)) ps.toArray).toList:=by
    simp only [List.map_toArray]
    exact parts_R a.eval ps ho1
  obtain ⟨r,h1,h2⟩:=pbuild_ok (P:=P) (t:=t) hpr (by rw [e];trivial)
  rw [e,SR] at h2
  obtain ⟨us,rfl,h2⟩:=h2
  obtain ⟨rfl,h3⟩:=patC_VR h2
  have hrun:(execOp a.eval ⟨some y,.build t ps.toArray,ty,p,af,none⟩).run P w = .ok (.value (.agg (pat.map (patV (ps.map fun q=>a.eval q.2))).toArray)) w:=by
    simp only [execOp,Sem.run_bind,h1,Result.andThen_ok,Sem.run_pure]
  refine ow_value hrun (hn' _ _ w g hk ?_)
  refine hT.put (hd y rfl) ?_
  rw [SR]
  refine ⟨_,rfl,?_,h3⟩
  clear h1 h2 hrun e hk hp
  induction pat with
  | nil=>simp [SRs]
  | cons q r ih =>
    simp only [List.map_cons,SRs]
    refine ⟨_,_,rfl,?_,ih (fun k hk=>hpat k (by simp [hk])) fun v hv=>h3 v (by simp only [List.map_cons];exact List.mem_cons_of_mem _ hv)⟩
    cases q with
    | inr z =>
      simp only [patS,patV]
      rw [SR,CR]
      exact ⟨rfl,h3 z (by simp [patV])⟩
    | inl k =>
      have hkl:=hpat k (by simp)
      simp only [patS,patV]
      have:=hT.ev (ps[k]).2
      rw [List.getD_eq_getElem?_getD,List.getD_eq_getElem?_getD,List.getElem?_map,List.getElem?_map,List.getElem?_eq_getElem hkl]
      exact this
end
end Go.VL
