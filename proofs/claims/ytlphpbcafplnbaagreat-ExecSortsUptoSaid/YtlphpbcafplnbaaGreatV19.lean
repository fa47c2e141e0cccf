/- Contracts of functions of the seat, proved in a logic on data over the model (part V19). -/
import Derived.Orders
import Derived.Test.YtlphpbcafplnbaaGreatV18
set_option linter.unusedSimpArgs false
set_option linter.unusedVariables false
namespace Go.VL
open Go.RowKit
def tb (m j:Nat):Bool:=(m / 2 ^ j) % 2 == 1
structure Rec where
  j:Nat
  e:Eff
  rd:List Nat
def appF (p:Nat→Bool) (st:St) (l:List Rec):St:=l.foldl (fun st x=>bif p x.j then st.app x.e else st) st
def appA (st:St) (l:List Rec):St:=l.foldl (fun st x=>st.app x.e) st
def Eff.men (i:Nat) (e:Eff):Bool:=e.s.men i || e.rs.any fun p=>p.2.men i
theorem appF_cons (p:Nat→Bool) (st:St) (x:Rec) (l:List Rec):appF p st (x::l)=appF p (bif p x.j then st.app x.e else st) l:=rfl
theorem appF_append (p:Nat→Bool) (st:St) (l m:List Rec):appF p st (l++m)=appF p (appF p st l) m:=by unfold appF;rw [List.foldl_append]
theorem appA_snoc (st:St) (l:List Rec) (x:Rec):appA st (l++[x])=(appA st l).app x.e:=by unfold appA;rw [List.foldl_append];rfl
theorem appF_true (st:St) (l:List Rec):appF (fun _=>true) st l=appA st l:=rfl
theorem Eqv.appF {p:Nat→Bool} : ∀ (l:List Rec) {x y:St},Eqv x y→Eqv (appF p x l) (appF p y l)
  | [],_,_,h=>h
  | r::l,x,y,h=>by
    rw [appF_cons,appF_cons]
    cases p r.j with
    | true=>exact Eqv.appF l (h.app r.e)
    | false=>exact Eqv.appF l h
theorem setRs_get (st:St) (l:List (Nat × Res)):(st.setRs l).get=st.get:=by
  induction l generalizing st with
  | nil=>rfl
  | cons p r ih=>exact (ih _).trans (St.get_setR _ _ _)
theorem app_get (st:St) (e:Eff) (t:Nat):(st.app e).get t=if e.d=some t then e.s else st.get t:=by
  unfold St.app
  cases h:e.d with
  | none=>simp [St.putd,setRs_get]
  | some d =>
    simp only [St.putd,St.get_put,setRs_get,Option.some.injEq]
theorem putd_rs (st:St) (d:Option Nat) (s:S):(st.putd d s).rs=st.rs:=by cases d <;> rfl
theorem setRs_rs_out {l:List (Nat × Res)} {i:Nat} (h:i ∉ l.map (·.1)) (st:St):(st.setRs l).rs i=st.rs i:=by
  induction l generalizing st with
  | nil=>rfl
  | cons p r ih =>
    simp only [List.map_cons,List.mem_cons,not_or] at h
    have:=ih h.2 (st.setR p.1 (some p.2))
    rw [St.rs_setR,if_neg (fun e=>h.1 e.symm)] at this
    exact this
theorem setRs_rs_in {l:List (Nat × Res)} {i:Nat} (h:i∈l.map (·.1)) (st st':St):(st.setRs l).rs i=(st'.setRs l).rs i:=by
  induction l generalizing st st' with
  | nil=>simp at h
  | cons p r ih =>
    by_cases hr:i∈r.map (·.1)
    · exact ih hr _ _
    · have hp:p.1=i:=by
        simp only [List.map_cons,List.mem_cons] at h
        rcases h with h | h
        · exact h.symm
        · exact absurd h hr
      have e1:=setRs_rs_out hr (st.setR p.1 (some p.2))
      have e2:=setRs_rs_out hr (st'.setR p.1 (some p.2))
      rw [St.rs_setR,if_pos hp] at e1 e2
      exact e1.trans e2.symm
theorem app_rs_out {e:Eff} {i:Nat} (h:i ∉ e.mods) (st:St):(st.app e).rs i=st.rs i:=by
  unfold St.app;rw [putd_rs];exact setRs_rs_out h st
theorem app_rs_in {e:Eff} {i:Nat} (h:i∈e.mods) (st st':St):(st.app e).rs i=(st'.app e).rs i:=by
  unfold St.app;rw [putd_rs,putd_rs];exact setRs_rs_in h st st'
theorem appF_get {p q:Nat→Bool} {t:Nat} : ∀ (l:List Rec) (x y:St),(∀ r∈l,r.e.d=some t→p r.j=q r.j)→x.get t=y.get t→(appF p x l).get t=(appF q y l).get t
  | [],_,_,_,h=>h
  | r::l,x,y,hp,h=>by
    rw [appF_cons,appF_cons]
    refine appF_get l _ _ (fun r' hr=>hp r' (by simp [hr])) ?_
    by_cases hd:r.e.d=some t
    · rw [hp r (by simp) hd]
      cases q r.j with
      | true=>simp only [cond_true];rw [app_get,app_get,if_pos hd,if_pos hd]
      | false=>exact h
    · have e1:∀ (b:Bool) (z:St),(bif b then z.app r.e else z).get t=z.get t:=fun b z=>by
        cases b with
        | true=>simp only [cond_true];rw [app_get,if_neg hd]
        | false=>rfl
      rw [e1,e1,h]
theorem appF_rs {p q:Nat→Bool} {i:Nat} : ∀ (l:List Rec) (x y:St),(∀ r∈l,i∈r.e.mods→p r.j=q r.j)→x.rs i=y.rs i→(appF p x l).rs i=(appF q y l).rs i
  | [],_,_,_,h=>h
  | r::l,x,y,hp,h=>by
    rw [appF_cons,appF_cons]
    refine appF_rs l _ _ (fun r' hr=>hp r' (by simp [hr])) ?_
    by_cases hd:i∈r.e.mods
    · rw [hp r (by simp) hd]
      cases q r.j with
      | true=>simp only [cond_true];exact app_rs_in hd _ _
      | false=>exact h
    · have e1:∀ (b:Bool) (z:St),(bif b then z.app r.e else z).rs i=z.rs i:=fun b z=>by
        cases b with
        | true=>simp only [cond_true];exact app_rs_out hd _
        | false=>rfl
      rw [e1,e1,h]
structure Apart (e f:Eff):Prop where
  d:∀ t,e.d=some t→f.d≠some t
  r:∀ i,i∈e.mods→i ∉ f.mods
theorem app_comm {e f:Eff} (h:Apart e f) (st:St):Eqv ((st.app f).app e) ((st.app e).app f):=by
  refine ⟨?_,?_⟩
  · funext t
    rw [app_get,app_get,app_get,app_get]
    by_cases h1:e.d=some t
    · rw [if_pos h1,if_neg (h.d t h1),if_pos h1]
    · rw [if_neg h1,if_neg h1]
  · funext i
    by_cases h1:i∈e.mods
    · have h2:=h.r i h1
      rw [app_rs_out h2 (st.app e)]
      exact app_rs_in h1 _ _
    · rw [app_rs_out h1 (st.app f)]
      by_cases h2:i∈f.mods
      · exact app_rs_in h2 _ _
      · rw [app_rs_out h2,app_rs_out h2,app_rs_out h1]
theorem appF_comm {p:Nat→Bool} {e:Eff} : ∀ (l:List Rec) (x:St),(∀ r∈l,p r.j=true→Apart e r.e)→Eqv ((appF p x l).app e) (appF p (x.app e) l)
  | [],_,_=>Eqv.refl _
  | r::l,x,h=>by
    rw [appF_cons,appF_cons]
    refine (appF_comm l _ (fun r' hr=>h r' (by simp [hr]))).trans (Eqv.appF l ?_)
    cases hp:p r.j with
    | true=>exact app_comm (h r (by simp) hp) x
    | false=>exact Eqv.refl _
theorem appF_congr {p q:Nat→Bool} : ∀ (l:List Rec) (x:St),(∀ r∈l,p r.j=q r.j)→appF p x l=appF q x l
  | [],_,_=>rfl
  | r::l,x,h=>by rw [appF_cons,appF_cons,h r (by simp)];exact appF_congr l _ (fun r' hr=>h r' (by simp [hr]))
theorem Clean.app {i:Nat} {st:St} (h:Clean i st) {e:Eff} (he:e.men i=false):Clean i (st.app e):=by
  unfold Eff.men at he
  rw [Bool.or_eq_false_iff] at he
  have h1:=Clean.setRs e.rs h (fun p hp=>by
    have:=List.any_eq_false.1 he.2 p hp
    simpa using this)
  unfold St.app
  cases e.d with
  | none=>exact h1
  | some d=>exact h1.put he.1
theorem Clean.appF {i:Nat} {p:Nat→Bool} : ∀ (l:List Rec) {st:St},Clean i st→(∀ r∈l,p r.j=true→r.e.men i=false)→Clean i (appF p st l)
  | [],_,h,_=>h
  | r::l,st,h,hl=>by
    rw [appF_cons]
    refine Clean.appF l ?_ (fun r' hr=>hl r' (by simp [hr]))
    cases hp:p r.j with
    | true=>exact h.app (hl r (by simp) hp)
    | false=>exact h
structure Static (nt:Nat) (ops:Array Oper) (mk:Nat→Nat) (bar:Nat→Bool):Prop where
  lt:∀ (j:Nat) (o:Oper) (e:Edge),ops[j]? = some o→e∈o.after→Region.binds .any e=true→e.on<j
  dn:∀ (j:Nat) (o:Oper) (k:Nat),ops[j]? = some o→k<ops.size→tb (mk j) k=true→∃ e∈o.after,Region.binds .any e=true∧(e.on=k∨tb (mk e.on) k=true)
  ap:∀ (k j:Nat) (o o':Oper),k<j→ops[k]? = some o→ops[j]? = some o'→tb (mk j) k=true∨o.apart ops o'=true
  b1:∀ j k,j<ops.size→bar j=true→k<j→tb (mk j) k=true
  b2:∀ j k,k<ops.size→bar j=true→j<k→tb (mk k) j=true
  ok:∀ (j:Nat) (o:Oper),ops[j]? = some o→opOk nt o=true
def staticB (nt:Nat) (ops:Array Oper) (mk:Nat→Nat) (bar:Nat→Bool):Bool :=
  (List.range ops.size).all fun j =>
    match ops[j]? with
    | none=>false
    | some o =>
      (o.after.toList.all fun e=>!Region.binds .any e || decide (e.on<j)) &&
      ((List.range ops.size).all fun k=>!tb (mk j) k || o.after.toList.any fun e=>Region.binds .any e && (e.on == k || tb (mk e.on) k)) &&
      ((List.range j).all fun k=>tb (mk j) k || match ops[k]? with | some o'=>o'.apart ops o | none=>false) &&
      (!bar j || ((List.range j).all fun k=>tb (mk j) k) && (List.range ops.size).all fun k=>!decide (j<k) || tb (mk k) j) &&
      opOk nt o
theorem static_of {nt:Nat} {ops:Array Oper} {mk:Nat→Nat} {bar:Nat→Bool} (h:staticB nt ops mk bar=true):Static nt ops mk bar:=by
  unfold staticB at h
  rw [List.all_eq_true] at h
  have size:∀ j o,ops[j]? = some o→j<ops.size:=fun j o ho=>(Array.getElem?_eq_some_iff.1 ho).1
  have key:=fun j o (ho:ops[j]? = some o)=>h j (by simpa using size j o ho)
  have lit:∀ j,(hj:j<ops.size)→ops[j]? = some ops[j]:=fun j hj=>by simp [hj]
  refine ⟨fun j o e ho he hb=>?_,fun j o k ho hk ht=>?_,fun k j o o' hkj ho ho'=>?_,fun j k hj hb hkj=>?_,fun j k hk hb hjk=>?_,fun j o ho=>?_⟩
  · have:=key j o ho
    simp only [ho,Bool.and_eq_true,List.all_eq_true] at this
    have:=this.1.1.1.1 e (by simpa using he)
    rw [hb] at this
    simpa using this
  · have:=key j o ho
    simp only [ho,Bool.and_eq_true,List.all_eq_true] at this
    have:=this.1.1.1.2 k (by simpa using hk)
    rw [ht] at this
    simp only [Bool.not_true,Bool.false_or,List.any_eq_true,Bool.and_eq_true,Bool.or_eq_true,beq_iff_eq] at this
    obtain ⟨e,e1,e2,e3⟩:=this
    exact ⟨e,by simpa using e1,e2,e3⟩
  · have:=key j o' ho'
    simp only [ho',Bool.and_eq_true,List.all_eq_true] at this
    have:=this.1.1.2 k (by simpa using hkj)
    rw [ho] at this
    simpa using this
  · have:=key j _ (lit j hj)
    simp only [lit j hj,Bool.and_eq_true,List.all_eq_true] at this
    have:=this.1.2
    rw [hb] at this
    simp only [Bool.not_true,Bool.false_or,Bool.and_eq_true,List.all_eq_true] at this
    exact this.1 k (by simpa using hkj)
  · by_cases hj:j<ops.size
    · have:=key j _ (lit j hj)
      simp only [lit j hj,Bool.and_eq_true,List.all_eq_true] at this
      have:=this.1.2
      rw [hb] at this
      simp only [Bool.not_true,Bool.false_or,Bool.and_eq_true,List.all_eq_true] at this
      have:=this.2 k (by simpa using hk)
      simpa [hjk] using this
    · omega
  · have:=key j o ho
    simp only [ho,Bool.and_eq_true,List.all_eq_true] at this
    exact this.2
end Go.VL
