/- Contracts of functions of the seat, proved in a logic on data over the model (part BP4). -/
import Derived.Test.YtlphpbcafplnbaaGreatR4
import Derived.Test.YtlphpbcafplnbaaGreatD2
import Derived.Test.YtlphpbcafplnbaaGreatAE
import Derived.Test.YtlphpbcafplnbaaGreatE3
set_option linter.unusedSimpArgs false
set_option linter.unusedVariables false
namespace Go.Proofs.YtlphpbcafplnbaaGreat
open Go.VL Go.RowKit
theorem wrap_in (n:Int):fits64 (IntKind.i64.wrap n)=true:=by
  rw [fits64_iff]
  simp only [IntKind.wrap,IntKind.signed,IntKind.bits]
  simp
  omega
theorem times_fits (a b:Int) (ha:fits64 a=true) (hb:fits64 b=true) (hb0:b≠0) :
    (IntKind.i64.wrap ((IntKind.i64.wrap (a*b)).tdiv b)=a∧(IntKind.i64.wrap (a*b)).tmod b=0∧¬ (a = -1∧b = -9223372036854775808)∧¬ (b = -1∧a = -9223372036854775808))↔fits64 (a*b)=true:=by
  constructor
  · rintro ⟨h1,h2,h3,h4⟩
    have hn:=wrap_in (a*b)
    generalize hN:IntKind.i64.wrap (a*b)=n at h1 h2 hn
    have hmul:b*n.tdiv b=n:=by have:=Int.mul_tdiv_add_tmod n b;omega
    generalize n.tdiv b=q at h1 hmul
    rw [fits64_iff] at ha hb hn
    by_cases hq:fits64 q=true
    · rw [wrap_fits hq] at h1
      subst h1
      rw [Int.mul_comm,hmul,fits64_iff];exact hn
    · exfalso
      have hq':¬ (-9223372036854775808≤q∧q≤9223372036854775807):=by rw [← fits64_iff];exact hq
      have hb1:b = -1:=by
        rcases (by omega:q<0∨0≤q) with hs | hs
        · have hq2:q≤-9223372036854775809:=by omega
          rcases (by omega:b<0∨0<b) with hb2 | hb2
          · have:9223372036854775809≤b*q:=by
              have h5:(1:Int)*9223372036854775809≤(-b)*(-q):=Int.mul_le_mul (by omega) (by omega) (by omega) (by omega)
              rw [Int.neg_mul_neg] at h5;omega
            omega
          · have:1*9223372036854775809≤b*(-q):=Int.mul_le_mul (by omega) (by omega) (by omega) (by omega)
            rw [Int.mul_neg] at this;omega
        · have hq2:9223372036854775808≤q:=by omega
          rcases (by omega:b<0∨0<b) with hb2 | hb2
          · by_cases hb3:b = -1
            · exact hb3
            · have:2*9223372036854775808≤(-b)*q:=Int.mul_le_mul (by omega) (by omega) (by omega) (by omega)
              rw [Int.neg_mul] at this;omega
          · have:1*9223372036854775808≤b*q:=Int.mul_le_mul (by omega) (by omega) (by omega) (by omega)
            omega
      subst hb1
      have hq3:q = -n:=by omega
      have hq4:q=9223372036854775808:=by omega
      rw [hq4] at h1
      have:IntKind.i64.wrap 9223372036854775808 = -9223372036854775808:=by decide
      rw [this] at h1
      exact h4 ⟨rfl,h1.symm⟩
  · intro h
    rw [wrap_fits h]
    refine ⟨?_,?_,?_,?_⟩
    · rw [Int.mul_tdiv_cancel _ hb0,wrap_fits ha]
    · exact Int.mul_tmod_left a b
    · rintro ⟨rfl,rfl⟩;rw [fits64_iff] at h;omega
    · rintro ⟨rfl,rfl⟩;rw [fits64_iff] at h;omega
def mulOk (a b:Int):Bool:=fits64 (a*b)
theorem add_cond (a b:Int) (ha:fits64 a=true) (hb:fits64 b=true):(decide (0<b) && decide (IntKind.i64.wrap (9223372036854775807-b)<a) || decide (b<0) && decide (a<IntKind.i64.wrap (-9223372036854775808-b))) = !fits64 (a+b):=by
  rw [fits64_iff] at ha hb
  rw [wrap_cases _ (by omega) (by omega),wrap_cases _ (by omega) (by omega),Bool.eq_iff_iff]
  simp only [Bool.or_eq_true,Bool.and_eq_true,decide_eq_true_eq,Bool.not_eq_true',← Bool.not_eq_true,fits64_iff]
  split <;> split <;> (try split) <;> (try split) <;> omega
theorem sub_cond (a b:Int) (ha:fits64 a=true) (hb:fits64 b=true):(decide (b<0) && decide (IntKind.i64.wrap (9223372036854775807+b)<a) || decide (0<b) && decide (a<IntKind.i64.wrap (-9223372036854775808+b))) = !fits64 (a-b):=by
  rw [fits64_iff] at ha hb
  rw [wrap_cases _ (by omega) (by omega),wrap_cases _ (by omega) (by omega),Bool.eq_iff_iff]
  simp only [Bool.or_eq_true,Bool.and_eq_true,decide_eq_true_eq,Bool.not_eq_true',← Bool.not_eq_true,fits64_iff]
  split <;> split <;> (try split) <;> (try split) <;> omega
theorem cmpV_ord {a b:Val} (h:a.kind=b.kind):cmpV a b=ordV a b:=by
  obtain ⟨ak,ai,at_⟩:=a
  obtain ⟨bk,bi,bt⟩:=b
  simp only at h
  subst h
  unfold cmpV ltV ordV cmpB cmpI
  simp only [Int.lt_irrefl,decide_false,decide_true,Bool.false_or,Bool.true_and,Val.mk.injEq,true_and]
  by_cases h1:ai<bi
  · simp [h1]
  · by_cases h2:ai=bi
    · subst h2
      simp
    · have h3:bi<ai:=by omega
      simp [h1,h2,h3,show ¬ ai≤bi by omega]
theorem evalT_ne (row:List Val):∀ (t:Tm),t.Ok→∀ c,evalT row t = .no c→c≠0:=by
  have ar:∀ op a b c,arithV op a b = .no c→c≠0:=by
    intro op a b c h
    unfold arithV at h
    split at h
    · cases h
    · cases h;decide
  have rk:∀ op a b c,reckonV op a b = .no c→c≠0:=by
    intro op a b c h
    unfold reckonV at h
    repeat' split at h
    all_goals first | (cases h;done) | exact ar _ _ _ _ h
  intro t h
  induction h with
  | value kind v place nl args hv=>intro c hc;rw [evalT,if_pos rfl] at hc;cases hc
  | column kind v place nl args =>
    intro c hc
    rw [evalT,if_neg (by decide),if_pos rfl] at hc
    unfold colV at hc
    split at hc
    · cases hc
    · cases hc;decide
  | one op kind v place nl x hop hx ih =>
    intro c hc
    have n1:op≠wValue:=by rcases hop with rfl | rfl <;> decide
    have n2:op≠wColumn:=by rcases hop with rfl | rfl <;> decide
    rw [evalT,if_neg n1,if_neg n2,evalTs_map] at hc
    simp only [List.map_cons,List.map_nil] at hc
    cases hxe:evalT row x with
    | no c'=>rw [hxe] at hc;simp only [opV] at hc;cases hc;exact ih _ hxe
    | ok a =>
      rw [hxe] at hc
      simp only [opV,oneV] at hc
      split at hc
      · cases hc
      · exact ar _ _ _ _ hc
  | two op kind v place nl x y hop hx hy ih1 ih2 =>
    intro c hc
    obtain ⟨e1,e2,e3⟩:=two2_ne hop
    rw [evalT,if_neg (by rw [e1];exact id),if_neg (by rw [e2];exact id),evalTs_map] at hc
    simp only [List.map_cons,List.map_nil] at hc
    cases hxe:evalT row x with
    | no c'=>rw [hxe] at hc;simp only [opV] at hc;cases hc;exact ih1 _ hxe
    | ok a =>
      rw [hxe] at hc
      cases hye:evalT row y with
      | no c' =>
        rw [hye] at hc;simp only [opV] at hc
        rw [if_neg (by rw [e3];exact id)] at hc
        cases hc;exact ih2 _ hye
      | ok b =>
        rw [hye] at hc;simp only [opV] at hc
        rw [if_neg (by rw [e3];exact id)] at hc
        exact rk _ _ _ _ hc
section
variable (sn:Bool) (sc:List SCol) (rn:Bool) (row:List Val)
end
theorem two2_ne3 {op:List UInt8} (h:op∈two2):(op=wNumber)=False∧(op=wText)=False∧(op=wName)=False∧(op=wNOT)=False:=by
  simp [two2] at h
  rcases h with rfl | rfl | rfl | rfl | rfl | rfl | rfl | rfl | rfl | rfl | rfl <;> simp
section
variable (sn:Bool) (sc:List SCol) (rn:Bool) (row:List Val)
end
theorem kindK_two {op:List UInt8} {x y:Int} (h:(kindK op [x,y]).2=true):x=y:=by
  unfold kindK at h
  repeat' split at h
  all_goals (simp [allK] at h;try omega)
theorem arithV_kind {op:List UInt8} {a b:Int} {v:Val} (h:arithV op a b = .ok v):v.kind=1:=by
  unfold arithV at h
  split at h
  · cases h;rfl
  · cases h
theorem eval_kind (sc:List SCol) (row:List Val):∀ (e:Ex) (t:Tm) (v:Val),bindE sc e = .ok t→evalT row t = .ok v→v.kind=t.kind
  | .mk op int text of nl args,t,v,h,hv=>by
    rw [bindE] at h
    split at h
    · cases h;rw [evalT,if_pos rfl] at hv;cases hv;rfl
    · split at h
      · split at h
        · cases h
        · cases h;rw [evalT,if_pos rfl] at hv;cases hv;rfl
      · split at h
        · split at h
          · cases h
            rw [evalT,if_neg (by decide),if_pos rfl] at hv
            unfold colV at hv
            split at hv
            · rename_i hc;cases hv;exact hc.2.2
            · cases hv
          · cases h
        · split at h
          · cases h
          · rename_i ts hts
            split at h
            · rename_i hk
              cases h
              have hkl:=kindK_len hk
              rw [List.length_map] at hkl
              show v.kind=(kindK op (ts.map Tm.kind)).1
              match ts,hkl with
              | [],hkl=>simp at hkl
              | [x],hkl =>
                have hop:op=wNOT∨op=wSUB:=by simpa using hkl
                have n1:op≠wValue:=by rcases hop with rfl | rfl <;> decide
                have n2:op≠wColumn:=by rcases hop with rfl | rfl <;> decide
                rw [evalT,if_neg n1,if_neg n2,evalTs_map] at hv
                simp only [List.map_cons,List.map_nil] at hv
                cases hxe:evalT row x with
                | no c=>rw [hxe] at hv;simp only [opV] at hv;cases hv
                | ok a =>
                  rw [hxe] at hv
                  simp only [opV,oneV] at hv
                  rcases hop with rfl | rfl
                  · rw [if_pos rfl] at hv;cases hv;rfl
                  · rw [if_neg (by decide)] at hv;rw [arithV_kind hv];rfl
              | [x,y],hkl =>
                have hop:op∈two2:=by simpa using hkl
                obtain ⟨e1,e2,e3⟩:=two2_ne hop
                rw [evalT,if_neg (by rw [e1];exact id),if_neg (by rw [e2];exact id),evalTs_map] at hv
                simp only [List.map_cons,List.map_nil] at hv
                cases hxe:evalT row x with
                | no c=>rw [hxe] at hv;simp only [opV] at hv;cases hv
                | ok a =>
                  rw [hxe] at hv
                  cases hye:evalT row y with
                  | no c=>rw [hye] at hv;simp only [opV] at hv;rw [if_neg (by rw [e3];exact id)] at hv;cases hv
                  | ok b =>
                    rw [hye] at hv;simp only [opV] at hv;rw [if_neg (by rw [e3];exact id)] at hv
                    simp [two2] at hop
                    rcases hop with rfl | rfl | rfl | rfl | rfl | rfl | rfl | rfl | hop
                    · simp [reckonV] at hv;rw [← hv];rfl
                    · simp [reckonV] at hv;rw [← hv];rfl
                    · simp [reckonV] at hv;rw [← hv];rfl
                    · simp [reckonV] at hv;rw [← hv];rfl
                    · simp [reckonV] at hv;rw [← hv];rfl
                    · simp [reckonV] at hv;rw [← hv];rfl
                    · simp [reckonV] at hv;rw [← hv];rfl
                    · simp [reckonV] at hv;rw [← hv];rfl
                    · have hr:reckonV op a b=arithV op a.int b.int:=by rcases hop with rfl | rfl | rfl <;> simp [reckonV]
                      rw [hr] at hv
                      rw [arithV_kind hv]
                      rcases hop with rfl | rfl | rfl <;> rfl
              | _::_::_::_,hkl=>simp at hkl
            · cases h
set_option maxRecDepth 4000 in
set_option maxHeartbeats 4000000 in
theorem refTruth_spec (b:Bool):Con Tryz.prog 123 [.c (bln b)] [.ag (truthV b).cells]:=by
  refine spec_of Tryz.func123 rfl (by kernel_rfl) (by simp [Tryz.f123]) (fun w0 K0=>vc_ok _ _ _ (by kernel_rfl) ?_)
  simp only [Tryz.f123]
  simp -dsimp
  refine VIf.mk (fun h=>?_) (fun h=>?_)
  · subst h;simp -dsimp [truthV,Val.cells]
  · subst h;simp -dsimp [truthV,Val.cells]
set_option maxRecDepth 4000 in
set_option maxHeartbeats 16000000 in
theorem times_spec (a b:Int) (ha:fits64 a=true) (hb:fits64 b=true):Con Tryz.prog 145 [.c (i64 a),.c (i64 b)] [.c (i64 (IntKind.i64.wrap (a*b))),.c (bln (mulOk a b))]:=by
  refine spec_of Tryz.func145 rfl (by kernel_rfl) (by simp [Tryz.f145]) (fun w0 K0=>vc_ok _ _ _ (by kernel_rfl) ?_)
  simp only [Tryz.f145]
  simp -dsimp
  refine VIf.mk (fun h=>?_) (fun h=>?_)
  · have h0:a*b=0:=by
      simp at h
      rcases h with h | h <;> simp [h]
    simp -dsimp
    rw [mulOk,h0]
    decide
  · have hb0:b≠0:=by simp at h;exact h.2
    have hk:=times_fits a b ha hb hb0
    simp -dsimp [hb0]
    refine ⟨fun h1 h2=>⟨⟨h1,h2⟩,fun h3=>⟨⟨h1,h2⟩,h3⟩⟩,fun h1 h2 h3=>⟨⟨⟨h1,h2⟩,h3⟩,fun h4=>⟨⟨⟨h1,h2⟩,h3⟩,h4⟩⟩,?_⟩
    rw [Bool.eq_iff_iff]
    unfold mulOk
    rw [← hk]
    generalize IntKind.i64.wrap ((IntKind.i64.wrap (a*b)).tdiv b)=X
    generalize (IntKind.i64.wrap (a*b)).tmod b=Y
    simp only [Bool.and_eq_true,Bool.or_eq_true,beq_iff_eq,Bool.not_eq_true',beq_eq_false_iff_ne,ne_eq]
    omega
set_option maxRecDepth 4000 in
set_option maxHeartbeats 16000000 in
theorem refNumber_spec (op:List UInt8) (hop:op=wADD∨op=wSUB∨op=wMUL) (a b:Int) (ha:fits64 a=true) (hb:fits64 b=true) :
    Con Tryz.prog 124 [.c (str op),.c (i64 a),.c (i64 b)] [.ag (evV (arithV op a b)).cells,.c (i64 (evC (arithV op a b)))]:=by
  have ht:=times_spec a b ha hb
  have hr:arithV op a b=if fits64 (arithI op a b)=true then .ok (numV (arithI op a b)) else .no 171:=rfl
  refine spec_of Tryz.func124 rfl (by kernel_rfl) (by simp [Tryz.f124]) (fun w0 K0=>vc_ok _ _ _ (by kernel_rfl) ?_)
  simp only [Tryz.f124]
  rcases hop with rfl | rfl | rfl
  · have e:arithI wADD a b=a+b:=by simp [arithI]
    rw [hr,e]
    simp -dsimp
    refine ⟨fun h=>⟨h,fun h2=>⟨h,h2⟩⟩,fun h=>?_,?_⟩
    · by_cases h0:0<b
      · exact .inr (h h0)
      · exact .inl (by omega)
    · rw [add_cond a b ha hb]
      cases hf:fits64 (a+b) with
      | true =>
        simp -dsimp [wrap_fits hf,evV,evC,numV,Val.cells]
      | false =>
        simp -dsimp [evV,evC,Val.cells]
  · have e:arithI wSUB a b=a-b:=by simp [arithI]
    rw [hr,e]
    simp -dsimp
    refine ⟨fun h=>⟨h,fun h2=>⟨h,h2⟩⟩,fun h=>?_,?_⟩
    · by_cases h0:b<0
      · exact .inr (h h0)
      · exact .inl (by omega)
    · rw [sub_cond a b ha hb]
      cases hf:fits64 (a-b) with
      | true =>
        simp -dsimp [wrap_fits hf,evV,evC,numV,Val.cells]
      | false =>
        simp -dsimp [evV,evC,Val.cells]
  · have e:arithI wMUL a b=a*b:=by simp [arithI]
    rw [hr,e]
    simp -dsimp
    refine VC.mk _ ht ?_
    have hm:mulOk a b=fits64 (a*b):=rfl
    rw [hm]
    cases hf:fits64 (a*b) with
    | true =>
      simp -dsimp [wrap_fits hf,evV,evC,numV,Val.cells]
    | false =>
      simp -dsimp [evV,evC,Val.cells]
def RefCon (sn:Bool) (sc:List SCol) (rn:Bool) (row:List Val) (e:Ex) (r:Ev):Prop :=
  Con Tryz.prog 101 [.agg e.cells,.c (.sl sn (scols sc)),.c (.sl rn (vals row))] [.ag (evV r).cells,.c (i64 (evC r))]
section
variable (sn:Bool) (sc:List SCol) (rn:Bool) (row:List Val)
set_option maxRecDepth 4000 in
set_option maxHeartbeats 4000000 in
theorem refEval_number (int:Int) (text of:List UInt8) (nl:Bool) (args:List Ex):RefCon sn sc rn row (.mk wNumber int text of nl args) (.ok ⟨1,int,[]⟩):=by
  unfold RefCon
  rw [Ex.cells_mk]
  refine spec_of Tryz.func101 rfl (by kernel_rfl) (by simp [Tryz.f101]) (fun w0 K0=>vc_ok _ _ _ (by kernel_rfl) ?_)
  simp only [Tryz.f101]
  simp -dsimp [evV,evC,Val.cells]
set_option maxRecDepth 4000 in
set_option maxHeartbeats 4000000 in
theorem refEval_text (int:Int) (text of:List UInt8) (nl:Bool) (args:List Ex):RefCon sn sc rn row (.mk wText int text of nl args) (.ok ⟨2,0,text⟩):=by
  unfold RefCon
  rw [Ex.cells_mk]
  refine spec_of Tryz.func101 rfl (by kernel_rfl) (by simp [Tryz.f101]) (fun w0 K0=>vc_ok _ _ _ (by kernel_rfl) ?_)
  simp only [Tryz.f101]
  simp -dsimp [evV,evC,Val.cells]
set_option maxRecDepth 4000 in
set_option maxHeartbeats 8000000 in
theorem refEval_name (hsc:sc.length≤1000000000000) (int:Int) (text of:List UInt8) (nl:Bool) (args:List Ex) (i:Nat) (hi:findC sc of text = .ok i) :
    RefCon sn sc rn row (.mk wName int text of nl args) (colV (sc.getD i default).kind i row):=by
  have hil:=findC_lt hi
  have e:sc.getD i default=sc[i]:=by simp [List.getD,hil]
  have hf:=refFind_spec sn sc of text hsc
  rw [hi] at hf
  simp only [fdI,fdC] at hf
  rw [e]
  unfold RefCon
  rw [Ex.cells_mk]
  refine spec_of Tryz.func101 rfl (by kernel_rfl) (by simp [Tryz.f101]) (fun w0 K0=>vc_ok _ _ _ (by kernel_rfl) ?_)
  simp only [Tryz.f101]
  simp -dsimp
  refine VC.mk _ hf ?_
  simp -dsimp
  refine VL.draw (by kernel_rfl) [(0,false),(0,false),(2,false),(7,true),(15,true),(31,false),(31,false),(127,false),(255,false),(511,false),(31,false),(31,false),(3103,false),(7199,false),(15391,false),(32767,true),(65535,true)] (by kernel_rfl) ?_
  by_cases h1:i<row.length
  · have j1:(row.length≤i)=False:=by simp [h1]
    have er:row.getD ((i:Int).toNat) default=row[i]:=by simp [List.getD,h1]
    simp -dsimp [j1,h1,hil,Val.cells,SCol.cells]
    refine VIf.mk (fun h2=>?_) (fun h2=>?_)
    · have h3:¬ row[i].kind=sc[i].kind:=by simpa using h2
      have hc:colV sc[i].kind i row = .no 161:=by
        unfold colV;rw [er,if_neg (fun e=>h3 e.2.2)]
      rw [hc]
      simp -dsimp [evV,evC,Val.cells]
    · have h3:row[i].kind=sc[i].kind:=by simpa using h2
      have hc:colV sc[i].kind i row = .ok row[i]:=by
        unfold colV;rw [er,if_pos ⟨by omega,by omega,h3⟩]
      rw [hc]
      simp -dsimp [h1,evV,evC,Val.cells]
  · have j1:(row.length≤i)=True:=by simp;omega
    have j2:row[i]? = none:=by simp;omega
    have hc:colV sc[i].kind i row = .no 161:=by
      unfold colV;rw [if_neg (fun e=>h1 (by omega))]
    rw [hc]
    simp -dsimp [j1,j2,hil,SCol.cells]
    simp -dsimp [evV,evC,Val.cells]
set_option maxRecDepth 4000 in
set_option maxHeartbeats 8000000 in
theorem refEval_bad (op:List UInt8) (h1:op≠wNumber) (h2:op≠wText) (h3:op≠wName) (int:Int) (text of:List UInt8) (nl:Bool) (x:Ex) (rest:List Ex) (c:Int) (hc:c≠0) (hx:RefCon sn sc rn row x (.no c)) :
    RefCon sn sc rn row (.mk op int text of nl (x::rest)) (.no c):=by
  have e1:(op=wNumber)=False:=by simp [h1]
  have e2:(op=wText)=False:=by simp [h2]
  have e3:(op=wName)=False:=by simp [h3]
  have hc0:(c != 0)=true:=by simpa using hc
  unfold RefCon at hx ⊢
  rw [Ex.cells_mk]
  refine spec_of Tryz.func101 rfl (by kernel_rfl) (by simp [Tryz.f101]) (fun w0 K0=>vc_ok _ _ _ (by kernel_rfl) ?_)
  simp only [Tryz.f101]
  simp -dsimp [e1,e2,e3]
  refine VC.mk _ hx ?_
  simp -dsimp [evV,evC,Val.cells,hc0]
set_option maxRecDepth 4000 in
set_option maxHeartbeats 8000000 in
theorem refEval_not (int:Int) (text of:List UInt8) (nl:Bool) (x:Ex) (a:Val) (hx:RefCon sn sc rn row x (.ok a)) :
    RefCon sn sc rn row (.mk wNOT int text of nl [x]) (.ok (truthV (decide (a.int=0)))):=by
  have hbe:∀ x y:Int,(x == y)=decide (x=y):=fun x y=>by rw [Bool.eq_iff_iff];simp
  unfold RefCon at hx ⊢
  rw [Ex.cells_mk]
  refine spec_of Tryz.func101 rfl (by kernel_rfl) (by simp [Tryz.f101]) (fun w0 K0=>vc_ok _ _ _ (by kernel_rfl) ?_)
  simp only [Tryz.f101]
  simp -dsimp
  refine VC.mk _ hx ?_
  simp -dsimp [evV,evC,Val.cells]
  refine VC.mk _ (refTruth_spec _) ?_
  simp -dsimp [truthV,Val.cells,hbe,evV,evC]
set_option maxRecDepth 4000 in
set_option maxHeartbeats 8000000 in
theorem refEval_neg (int:Int) (text of:List UInt8) (nl:Bool) (x:Ex) (a:Val) (ha:fits64 a.int=true) (hx:RefCon sn sc rn row x (.ok a)) :
    RefCon sn sc rn row (.mk wSUB int text of nl [x]) (arithV wSUB 0 a.int):=by
  unfold RefCon at hx ⊢
  rw [Ex.cells_mk]
  refine spec_of Tryz.func101 rfl (by kernel_rfl) (by simp [Tryz.f101]) (fun w0 K0=>vc_ok _ _ _ (by kernel_rfl) ?_)
  simp only [Tryz.f101]
  simp -dsimp
  refine VC.mk _ hx ?_
  simp -dsimp [evV,evC,Val.cells]
  refine VC.mk _ (refNumber_spec wSUB (by simp) 0 a.int (by decide) ha) ?_
  simp -dsimp [evV,evC,Val.cells]
end
section
variable (sn:Bool) (sc:List SCol) (rn:Bool) (row:List Val)
set_option maxRecDepth 4000 in
set_option maxHeartbeats 8000000 in
theorem refEval_bad2 (op:List UInt8) (hop:op∈two2) (int:Int) (text of:List UInt8) (nl:Bool) (x y:Ex) (a:Val) (c:Int) (hc:c≠0) (hx:RefCon sn sc rn row x (.ok a)) (hy:RefCon sn sc rn row y (.no c)) :
    RefCon sn sc rn row (.mk op int text of nl [x,y]) (.no c):=by
  obtain ⟨e1,e2,e3,e4⟩:=two2_ne3 hop
  have hc0:(c != 0)=true:=by simpa using hc
  unfold RefCon at hx hy ⊢
  rw [Ex.cells_mk]
  refine spec_of Tryz.func101 rfl (by kernel_rfl) (by simp [Tryz.f101]) (fun w0 K0=>vc_ok _ _ _ (by kernel_rfl) ?_)
  simp only [Tryz.f101]
  simp -dsimp [e1,e2,e3,e4]
  refine VC.mk _ hx ?_
  simp -dsimp [evV,evC,Val.cells,e1,e2,e3,e4]
  refine VC.mk _ hy ?_
  simp -dsimp [evV,evC,Val.cells,hc0]
set_option maxRecDepth 4000 in
set_option maxHeartbeats 32000000 in
theorem refEval_two (op:List UInt8) (hop:op∈two2) (int:Int) (text of:List UInt8) (nl:Bool) (x y:Ex) (a b:Val) (ha:fits64 a.int=true) (hb:fits64 b.int=true) (hk:a.kind=b.kind) (hx:RefCon sn sc rn row x (.ok a)) (hy:RefCon sn sc rn row y (.ok b)) :
    RefCon sn sc rn row (.mk op int text of nl [x,y]) (reckonV op a b):=by
  obtain ⟨e1,e2,e3,e4⟩:=two2_ne3 hop
  have hbe:∀ x y:Int,(x == y)=decide (x=y):=fun x y=>by rw [Bool.eq_iff_iff];simp
  have ho:=refOne_spec a b
  rw [cmpV_ord hk] at ho
  unfold RefCon at hx hy ⊢
  rw [Ex.cells_mk]
  refine spec_of Tryz.func101 rfl (by kernel_rfl) (by simp [Tryz.f101]) (fun w0 K0=>vc_ok _ _ _ (by kernel_rfl) ?_)
  simp only [Tryz.f101]
  simp -dsimp [e1,e2,e3,e4]
  refine VC.mk _ hx ?_
  simp -dsimp [evV,evC,Val.cells,e1,e2,e3,e4]
  refine VC.mk _ hy ?_
  simp -dsimp [evV,evC,Val.cells]
  refine VC.mk _ ho ?_
  simp [two2] at hop
  rcases hop with rfl | rfl | rfl | rfl | rfl | rfl | rfl | rfl | hop
  · simp -dsimp
    refine VC.mk _ (refTruth_spec _) ?_
    simp -dsimp [reckonV,truthV,Val.cells]
    simp [evV,evC,hbe,bne,Int.not_lt,Int.not_le]
  · simp -dsimp
    refine VC.mk _ (refTruth_spec _) ?_
    simp -dsimp [reckonV,truthV,Val.cells]
    simp [evV,evC,hbe,bne,Int.not_lt,Int.not_le]
  · simp -dsimp
    refine VC.mk _ (refTruth_spec _) ?_
    simp -dsimp [reckonV,truthV,Val.cells]
    simp [evV,evC,hbe,bne,Int.not_lt,Int.not_le]
  · simp -dsimp
    refine VC.mk _ (refTruth_spec _) ?_
    simp -dsimp [reckonV,truthV,Val.cells]
    simp [evV,evC,hbe,bne,Int.not_lt,Int.not_le]
  · simp -dsimp
    refine VC.mk _ (refTruth_spec _) ?_
    simp -dsimp [reckonV,truthV,Val.cells]
    simp [evV,evC,hbe,bne,Int.not_lt,Int.not_le]
  · simp -dsimp
    refine VC.mk _ (refTruth_spec _) ?_
    simp -dsimp [reckonV,truthV,Val.cells]
    simp [evV,evC,hbe,bne,Int.not_lt,Int.not_le]
  · simp -dsimp
    refine VC.mk _ (refTruth_spec _) ?_
    simp -dsimp [reckonV,truthV,Val.cells]
    simp [evV,evC,hbe,bne,Int.not_lt,Int.not_le]
  · simp -dsimp
    refine VC.mk _ (refTruth_spec _) ?_
    simp -dsimp [reckonV,truthV,Val.cells]
    simp [evV,evC,hbe,bne,Int.not_lt,Int.not_le]
  · have hr:reckonV op a b=arithV op a.int b.int:=by rcases hop with rfl | rfl | rfl <;> simp [reckonV]
    rw [hr]
    have hn:=refNumber_spec op hop a.int b.int ha hb
    rcases hop with rfl | rfl | rfl
    · simp -dsimp
      refine VC.mk _ hn ?_
      simp -dsimp [Val.cells]
    · simp -dsimp
      refine VC.mk _ hn ?_
      simp -dsimp [Val.cells]
    · simp -dsimp
      refine VC.mk _ hn ?_
      simp -dsimp [Val.cells]
end
mutual
theorem refEval_spec (sn:Bool) (sc:List SCol) (hsc:sc.length≤1000000000000) (rn:Bool) (row:List Val) (hrow:VFit row):∀ (e:Ex) (t:Tm),e.fit→bindE sc e = .ok t→RefCon sn sc rn row e (evalT row t)
  | .mk op int text of nl args,t,hf,h=>by
    have hok:=bindE_ok sc (.mk op int text of nl args) t hf h
    rw [Ex.fit] at hf
    have ih:=refEval_specs sn sc hsc rn row hrow args
    rw [bindE] at h
    split at h
    · rename_i h1;subst h1;cases h;rw [evalT,if_pos rfl];exact refEval_number sn sc rn row int text of nl args
    · rename_i h1
      split at h
      · rename_i h2;subst h2
        split at h
        · cases h
        · cases h;rw [evalT,if_pos rfl];exact refEval_text sn sc rn row int text of nl args
      · rename_i h2
        split at h
        · rename_i h3;subst h3
          split at h
          · rename_i i hi
            cases h
            rw [evalT,if_neg (by decide),if_pos rfl]
            exact refEval_name sn sc rn row hsc int text of nl args i hi
          · cases h
        · rename_i h3
          split at h
          · cases h
          · rename_i ts hts
            split at h
            · rename_i hk
              cases h
              have hkl:=kindK_len hk
              rw [List.length_map] at hkl
              have hoks:=bindEs_ok sc args ts hf.2.2 hts
              have ih:=ih ts hf.2.2 hts
              match args,ts,hts,ih with
              | [],ts,hts,_=>rw [bindEs] at hts;cases hts;simp at hkl
              | [x],ts,hts,ih =>
                obtain ⟨tx,rfl,hbx⟩:∃ tx,ts=[tx]∧bindE sc x = .ok tx:=by
                  rw [bindEs_cons] at hts
                  cases hb:bindE sc x with
                  | no c=>rw [hb] at hts;cases hts
                  | ok tx=>rw [hb,bindEs] at hts;cases hts;exact ⟨tx,rfl,rfl⟩
                have hop:op=wNOT∨op=wSUB:=by simpa using hkl
                have n1:op≠wValue:=by rcases hop with rfl | rfl <;> decide
                have n2:op≠wColumn:=by rcases hop with rfl | rfl <;> decide
                rw [evalT,if_neg n1,if_neg n2,evalTs_map]
                simp only [List.map_cons,List.map_nil]
                have hx:=ih.1 x tx rfl hbx
                have hes:=eval_spec rn row hrow tx (hoks tx (by simp))
                cases hxe:evalT row tx with
                | no c =>
                  rw [hxe] at hx
                  exact refEval_bad sn sc rn row op h1 h2 h3 int text of nl x [] c (evalT_ne row tx (hoks tx (by simp)) c hxe) hx
                | ok a =>
                  rw [hxe] at hx hes
                  simp only [opV,oneV]
                  rcases hop with rfl | rfl
                  · rw [if_pos rfl];exact refEval_not sn sc rn row int text of nl x a hx
                  · rw [if_neg (by decide)];exact refEval_neg sn sc rn row int text of nl x a hes.1 hx
              | [x,y],ts,hts,ih =>
                obtain ⟨tx,ty,rfl,hbx,hby⟩:∃ tx ty,ts=[tx,ty]∧bindE sc x = .ok tx∧bindE sc y = .ok ty:=by
                  rw [bindEs_cons] at hts
                  cases hb:bindE sc x with
                  | no c=>rw [hb] at hts;cases hts
                  | ok tx =>
                    rw [hb,bindEs_cons] at hts
                    cases hb2:bindE sc y with
                    | no c=>rw [hb2] at hts;cases hts
                    | ok ty=>rw [hb2,bindEs] at hts;cases hts;exact ⟨tx,ty,rfl,rfl,rfl⟩
                have hop:op∈two2:=by simpa using hkl
                obtain ⟨e1,e2,e3⟩:=two2_ne hop
                rw [evalT,if_neg (by rw [e1];exact id),if_neg (by rw [e2];exact id),evalTs_map]
                simp only [List.map_cons,List.map_nil]
                have hx:=ih.1 x tx rfl hbx
                have hy:=ih.2 y ty rfl hby
                have hox:=hoks tx (by simp)
                have hoy:=hoks ty (by simp)
                have hesx:=eval_spec rn row hrow tx hox
                have hesy:=eval_spec rn row hrow ty hoy
                cases hxe:evalT row tx with
                | no c =>
                  rw [hxe] at hx
                  exact refEval_bad sn sc rn row op h1 h2 h3 int text of nl x [y] c (evalT_ne row tx hox c hxe) hx
                | ok a =>
                  rw [hxe] at hx hesx
                  cases hye:evalT row ty with
                  | no c =>
                    rw [hye] at hy
                    simp only [opV]
                    rw [if_neg (by rw [e3];exact id)]
                    exact refEval_bad2 sn sc rn row op hop int text of nl x y a c (evalT_ne row ty hoy c hye) hx hy
                  | ok b =>
                    rw [hye] at hy hesy
                    simp only [opV]
                    rw [if_neg (by rw [e3];exact id)]
                    have hkk:tx.kind=ty.kind:=kindK_two hk
                    have k1:=eval_kind sc row x tx a hbx hxe
                    have k2:=eval_kind sc row y ty b hby hye
                    exact refEval_two sn sc rn row op hop int text of nl x y a b hesx.1 hesy.1 (by rw [k1,k2,hkk]) hx hy
              | x::y::z::r,ts,hts,_ =>
                exfalso
                rw [bindEs_cons] at hts
                cases hb:bindE sc x with
                | no c=>rw [hb] at hts;cases hts
                | ok tx =>
                  rw [hb,bindEs_cons] at hts
                  cases hb2:bindE sc y with
                  | no c=>rw [hb2] at hts;cases hts
                  | ok ty =>
                    rw [hb2,bindEs_cons] at hts
                    cases hb3:bindE sc z with
                    | no c=>rw [hb3] at hts;cases hts
                    | ok tz =>
                      rw [hb3] at hts
                      cases hb4:bindEs sc r with
                      | no c=>rw [hb4] at hts;cases hts
                      | ok tr=>rw [hb4] at hts;cases hts;simp at hkl
            · cases h
theorem refEval_specs (sn:Bool) (sc:List SCol) (hsc:sc.length≤1000000000000) (rn:Bool) (row:List Val) (hrow:VFit row):∀ (es:List Ex) (ts:List Tm),Ex.fits es→bindEs sc es = .ok ts →
    (match es with
      | x::y::_=>(∀ x' t,x'=x→bindE sc x = .ok t→RefCon sn sc rn row x' (evalT row t))∧(∀ y' t,y'=y→bindE sc y = .ok t→RefCon sn sc rn row y' (evalT row t))
      | [x]=>(∀ x' t,x'=x→bindE sc x = .ok t→RefCon sn sc rn row x' (evalT row t))∧True
      | []=>True)
  | [],_,_,_=>trivial
  | [x],_,hf,_=>by
    rw [Ex.fits] at hf
    exact ⟨fun x' t e hb=>by rw [e];exact refEval_spec sn sc hsc rn row hrow x t hf.1 hb,trivial⟩
  | x::y::r,_,hf,_=>by
    rw [Ex.fits,Ex.fits] at hf
    exact ⟨fun x' t e hb=>by rw [e];exact refEval_spec sn sc hsc rn row hrow x t hf.1 hb,fun x' t e hb=>by rw [e];exact refEval_spec sn sc hsc rn row hrow y t hf.2.1 hb⟩
end
set_option maxRecDepth 4000 in
set_option maxHeartbeats 8000000 in
theorem refHolds_spec (sn:Bool) (sc:List SCol) (hsc:sc.length≤1000000000000) (rn:Bool) (row:List Val) (hrow:VFit row) (e:Ex) (t:Tm) (hf:e.fit) (h:bindE sc e = .ok t) :
    Con Tryz.prog 66 [.agg e.cells,.c (.sl sn (scols sc)),.c (.sl rn (vals row))] [.c (bln (holds1 row t))]:=by
  have hE:=refEval_spec sn sc hsc rn row hrow e t hf h
  unfold RefCon at hE
  unfold holds1
  generalize evV (evalT row t)=ev at hE ⊢
  generalize evC (evalT row t)=ec at hE ⊢
  obtain ⟨op,int,text,of,nl,args⟩:=e
  rw [Ex.cells_mk] at hE ⊢
  refine spec_of Tryz.func66 rfl (by kernel_rfl) (by simp [Tryz.f66]) (fun w0 K0=>vc_ok _ _ _ (by kernel_rfl) ?_)
  simp only [Tryz.f66]
  simp -dsimp
  refine VC.mk _ hE ?_
  simp -dsimp [Val.cells]
def Bound (sc:List SCol) (es:List Ex) (ts:List Tm):Prop:=es.length=ts.length∧∀ i,(h:i<es.length)→(h':i<ts.length)→es[i].fit∧bindE sc es[i] = .ok ts[i]
theorem Bound.take {sc:List SCol} {es:List Ex} {ts:List Tm} (h:Bound sc es ts) {k:Nat} (hk:k<es.length):k<ts.length:=by rw [← h.1];exact hk
set_option maxRecDepth 4000 in
set_option maxHeartbeats 16000000 in
theorem keep_spec (nl ne sn:Bool) (sc:List SCol) (hsc:sc.length≤1000000000000) (l:List Fact) (es:List Ex) (ts:List Tm) (hb:Bound sc es ts) (hf:∀ f∈l,VFit f.row) (hl:es.length≤1000000000) (hll:l.length≤3518437208883) :
    Con Tryz.prog 32 [.c (.sl nl (facts l)),.c (.sl ne (exprs es)),.c (.sl sn (scols sc))] [.c (.sl (l.filter fun x=>holdsT x.row ts).isEmpty (facts (l.filter fun x=>holdsT x.row ts)))]:=by
  refine Con.frz (rs:=[.fr (l.filter fun x=>holdsT x.row ts).isEmpty (if (l.filter fun x=>holdsT x.row ts).isEmpty then 0 else 3) (facts (l.filter fun x=>holdsT x.row ts)) 0]) ?_ 0 rfl
  refine spec_of Tryz.func32 rfl (by kernel_rfl) (by simp [Tryz.f32]) (fun w0 K0=>vc_ok _ _ _ (by kernel_rfl) ?_)
  simp only [Tryz.f32]
  simp -dsimp
  refine VL.loop (fun i:KI=>⟨[(8,.c (i64 i.k)),(0,.c (.sl nl (facts l))),(1,.c (.sl ne (exprs es))),(2,.c (.sl sn (scols sc))),(7,.own 448 ((l.take i.k).filter fun x=>holdsT x.row ts).length)],[(448,some (.arr i.nl i.sz (facts ((l.take i.k).filter fun x=>holdsT x.row ts)) 0))]⟩)
    (fun i=>i.k≤l.length∧i.nl=((l.take i.k).filter fun x=>holdsT x.row ts).isEmpty∧i.sz=if i.nl then 0 else 3) (fun i=>l.length-i.k) ⟨0,true,0⟩ (by kernel_rfl) ⟨by simp,rfl,rfl⟩ (by simp [St.le]) ?_
  intro ⟨k,z,sz⟩ ⟨hk,hz,hsz⟩
  simp only at hk hz hsz
  have hkl:=filter_take_le (p:=fun x:Fact=>holdsT x.row ts) (l:=l) k
  by_cases h1:k<l.length
  · have hw:IntKind.i64.wrap ((k:Int)+1)=(k:Int)+1:=IntWalk.i64_in _ (by omega)
    have hsn:=filter_snoc (p:=fun x:Fact=>holdsT x.row ts) h1
    simp -dsimp [h1]
    generalize hA:(l.take k).filter (fun x=>holdsT x.row ts)=A at *
    refine VL.loop (fun j:Nat=>⟨[(10,.c (i64 j)),(9,.c (bln (holdsT l[k].row (ts.take j)))),(8,.c (i64 k)),(0,.c (.sl nl (facts l))),(1,.c (.sl ne (exprs es))),(2,.c (.sl sn (scols sc))),(7,.own 448 A.length)],[(448,some (.arr z sz (facts A) 0))]⟩)
      (fun j=>j≤es.length) (fun j=>es.length-j) 0 (by kernel_rfl) (by simp) (by simp [St.le,holdsT]) ?_
    intro j hj
    simp -dsimp
    refine VIf.mk (fun h=>?_) (fun h=>?_)
    · have hlt:j<es.length:=by simpa using h
      have hlt2:=hb.take hlt
      have hwj:IntKind.i64.wrap ((j:Int)+1)=(j:Int)+1:=IntWalk.i64_in _ (by omega)
      obtain ⟨hfit,hbe⟩:=hb.2 j hlt hlt2
      have hH:=refHolds_spec sn sc hsc l[k].nl l[k].row (hf _ (List.getElem_mem h1)) es[j] ts[j] hfit hbe
      have hst:holdsT l[k].row (ts.take (j+1))=(holdsT l[k].row (ts.take j) && holds1 l[k].row ts[j]):=by
        unfold holdsT;rw [take_snoc hlt2,List.all_append];simp
      simp -dsimp
      refine VL.draw (by kernel_rfl) [(0,true),(1,true),(3,false),(3,false),(15,false),(31,false),(3,false),(3,false),(3,false),(387,false),(899,false),(1923,false),(4095,true),(8191,true),(16383,true)] (by kernel_rfl) ?_
      simp -dsimp [hlt,h1,Fact.cells]
      refine VG.mk [.c (bln (holds1 l[k].row ts[j]))] _ (fun _=>hH) rfl ?_
      simp -dsimp [hwj]
      refine ⟨j+1,by omega,?_,by omega⟩
      rw [hst]
      simp [St.le,Bool.and_assoc]
    · simp at h
      obtain rfl:j=es.length:=by omega
      have e:ts.take es.length=ts:=by rw [hb.1,List.take_length]
      simp -dsimp [e,h1,Fact.cells]
      refine VIf.mk (fun h=>?_) (fun h=>?_)
      · rw [h] at hsn
        have hlen:=congrArg List.length hsn
        have hk2:=filter_take_le (p:=fun x:Fact=>holdsT x.row ts) (l:=l) (k+1)
        simp only [if_true,List.length_append,List.length_cons,List.length_nil] at hlen
        simp -dsimp [h1,Fact.cells,hw,maxLen]
        refine ⟨fun e=>by rw [hsz,e];rfl,by omega,⟨k+1,false,3⟩,⟨by simp only;omega,by rw [hsn];simp,rfl⟩,?_,by simp only;omega⟩
        simp [St.le,hsn,Fact.cells]
      · rw [h] at hsn
        simp -dsimp [hw]
        refine ⟨⟨k+1,z,sz⟩,⟨by simp only;omega,by rw [hsn];simpa using hz,hsz⟩,?_,by simp only;omega⟩
        simp [St.le,hsn]
  · obtain rfl:k=l.length:=by omega
    rw [List.take_length] at *
    simp -dsimp
    refine ⟨hz,?_⟩
    rw [hsz,hz]
    simp only [List.isEmpty_iff,List.filter_eq_nil_iff,Bool.not_eq_true]
abbrev pers (l:List Fact):List Per:=l.map Fact.p
def ge (E:List Int) (k:Nat):Int:=E[k]!
theorem ge_pos (E:List Int) (k:Nat) (h:k<E.length):ge E k=E[k]:=getElem!_pos E k h
def cellC (l:List Fact) (E:List Int) (i:Nat):List C:=[i64 (ge E i),i64 (ge E (i+1)),.sl (rowsAt l (ge E i)).isEmpty (rowsC (rowsAt l (ge E i)))]
def cellsC (l:List Fact) (E:List Int) (k:Nat):List (List C):=(List.range k).map (cellC l E)
@[simp] theorem cellsC_len (l:List Fact) (E:List Int) (k:Nat):(cellsC l E k).length=k:=by simp [cellsC]
theorem cellsC_snoc (l:List Fact) (E:List Int) (k:Nat):cellsC l E (k+1)=cellsC l E k++[cellC l E k]:=by simp [cellsC,List.range_succ]
abbrev RUp (rs:List (List Val)):Prop:=rs.Pairwise fun a b=>cmpR a b≤0
theorem cnt_between {ps:List Per} {l:List Fact} (h:∀ f∈l,f.p∈ps) {i:Nat} (hi:i+1<(edgesL ps).length) {t:Int} (h1:(edgesL ps)[i]! ≤ t) (h2:t<(edgesL ps)[i+1]!) (r:List Val):cnt l r (edgesL ps)[i]! = cnt l r t:=by
  unfold cnt
  congr 1
  refine List.filter_congr fun f hf=>?_
  congr 1
  unfold validAt
  by_cases hr:right f.p=true
  · rw [has_between (h f hf) hr hi h1 h2]
  · simp only [Bool.not_eq_true] at hr
    rw [hr];rfl
theorem cnt_in {ps:List Per} {l:List Fact} (h:∀ f∈l,f.p∈ps) {r:List Val} {t:Int} (hc:0<cnt l r t):∃ i,i+1<(edgesL ps).length∧(edgesL ps)[i]! ≤ t∧t<(edgesL ps)[i+1]! := by
  unfold cnt at hc
  obtain ⟨f,hf⟩:=List.exists_mem_of_length_pos hc
  obtain ⟨hf,hv⟩:=List.mem_filter.1 hf
  rw [Bool.and_eq_true] at hv
  have hv:=hv.2
  unfold validAt at hv
  rw [Bool.and_eq_true,has_iff] at hv
  obtain ⟨hE,hmE⟩:=edgesL_ok ps
  obtain ⟨jf,f1,f2⟩:=mem_get! ((hmE f.p.f).2 ((mem_endsOf _ _).2 ⟨f.p,h f hf,hv.1,.inl rfl⟩))
  obtain ⟨jt,t1,t2⟩:=mem_get! ((hmE f.p.t).2 ((mem_endsOf _ _).2 ⟨f.p,h f hf,hv.1,.inr rfl⟩))
  exact rise_between hE (t:=t) (i:=jf) jt t1 f1 (by omega) (by omega)
section
variable {sortP:List Per→List Per}
end
end Go.Proofs.YtlphpbcafplnbaaGreat
