/- A struct that holds handles is loaded, and returned, without its rows being frozen. -/
import Derived.Test.YtgodbpamppcfnaaVN5
import Derived.Test.YtgodbpamppcfnaaVC
set_option linter.unusedSimpArgs false
set_option linter.unusedVariables false
namespace Go.VL
open Go.RowKit
section
variable {P : Program} {w0 : World} {K0 : K0T} {nt : Nat} {OPS : Array Oper} {st : St} {a : Act} {w : World} {g : G}
theorem load_box_S (hT : T w0 K0 nt st a w g) {i m : Nat} {t : TypeId} {fz : Bool} {ss : List S} {u : Value} (hu : SR g w st.rs (.ptr i 0) u) (hr : st.rs i = some (.box fz ss)) (ht : tySz P t = some (true, m)) (hm : ss.length = m) :
    ∃ us : List Value, (Instr.loadAt t u).run P w = .ok (.agg us.toArray) w ∧ SR g w st.rs (.st ss) (.agg us.toArray) ∧ ∃ b, u = .pointer (some b) ∧ (loadVar t b).run P w = .ok (.agg us.toArray) w := by
  rw [SR] at hu
  obtain ⟨b, hb, rfl⟩ := hu fz ss hr
  obtain ⟨b', cur, E, h1, h2, h3, h4, h5, h6⟩ := hT.res i _ hr
  rw [hb] at h1
  simp at h1; subst h1
  have hl : (loadVar t ⟨b, 0, none⟩).run P w = .ok (.agg cur.toList.toArray) w := by
    refine run_loadVar_agg ht (by simp; omega) (fun j v hj => ?_)
    rw [add_lit, cell_of_heap h3, Nat.zero_add]
    simpa using hj
  refine ⟨cur.toList, ?_, ?_, _, rfl, hl⟩
  · simpa [Instr.loadAt, Instr.sureAddr] using hl
  · rw [SR]
    refine ⟨cur.toList, rfl, (SRs_iff _ _).2 ⟨by simp; omega, fun k s v e1 e2 => ?_⟩, fun v hv => ?_⟩
    · obtain ⟨v', k1, k2, k3⟩ := h5 k s e1
      have : v' = v := by simp at e2; rw [k1] at e2; exact Option.some.inj e2
      subst this; exact k2
    · obtain ⟨k, hk, rfl⟩ := List.mem_iff_getElem.1 hv
      have hk' : k < ss.length := by simp at hk; omega
      obtain ⟨v', k1, k2, k3⟩ := h5 k ss[k] (by simp [hk'])
      have hk2 : k < cur.size := by simpa using hk
      rw [Array.getElem?_eq_getElem hk2] at k1
      cases k1
      simpa using k3
/-- A STRUCT THAT HOLDS HANDLES IS LOADED -/
theorem VRS.ldS {y i m : Nat} {t ty : TypeId} {x : Operand} {fz : Bool} {ss : List S} {p : String} {af : Array Edge} {l : List Oper} {K : St → Prop}
    (hx : st.ev x = .ptr i 0) (hr : st.rs i = some (.box fz ss)) (ht : tySz P t = some (true, m)) (hm : ss.length = m)
    (hk : VRS P w0 K0 nt OPS l (st.put y (.st ss)) K) : VRS P w0 K0 nt OPS (⟨some y, .load t x, ty, p, af, none⟩ :: l) st K := by
  refine VRS.step fun hok a w g hT next Q hn' => wanted_step hT rfl ?_
  have hd := opOk_dst hok
  have hex := hT.ev x
  rw [hx] at hex
  obtain ⟨us, h1, h2, _⟩ := load_box_S (P := P) hT hex hr ht hm
  have hrun : (execOp a.eval ⟨some y, .load t x, ty, p, af, none⟩).run P w = .ok (.value (.agg us.toArray)) w := by
    simp [execOp, h1]
  refine ow_value hrun (hn' _ _ w g hk ?_)
  exact hT.put (hd y rfl) h2
/-- results, as they are -/
def rvS (P : Program) (st : St) : List ResultVar → Option (List S)
  | [] => some []
  | .tmp t :: r => (rvS P st r).map (st.get t :: ·)
  | .cell ad t :: r => match st.get ad with
    | .ptr i 0 => match st.rs i, tySz P t with
      | some (.box _ ss), some (true, m) => if ss.length = m then (rvS P st r).map (.st ss :: ·) else none
      | _, _ => none
    | _ => none
theorem rvS_ok (hT : T w0 K0 nt st a w g) : ∀ (l : List ResultVar) (ss : List S), rvS P st l = some ss → ∃ vs, (l.mapM (resOf a.tmps)).run P w = .ok vs w ∧ SRs g w st.rs ss vs
  | [], ss, h => by
    simp [rvS] at h; subst h
    exact ⟨[], rfl, by rw [SRs]⟩
  | .tmp t :: r, ss, h => by
    simp only [rvS, Option.map_eq_some_iff] at h
    obtain ⟨ss', h1, rfl⟩ := h
    obtain ⟨vs, e1, e2⟩ := rvS_ok hT r ss' h1
    refine ⟨a.tmps.getD t undef :: vs, ?_, by rw [SRs]; exact ⟨_, _, rfl, hT.env t, e2⟩⟩
    simp only [List.mapM_cons, resOf, Sem.run_bind, Sem.run_pure, Result.andThen_ok, e1]
  | .cell ad t :: r, ss, h => by
    unfold rvS at h
    split at h
    · rename_i i hg
      split at h
      · rename_i fz cs m hr ht
        split at h
        · rename_i hm
          rw [Option.map_eq_some_iff] at h
          obtain ⟨ss', h1, rfl⟩ := h
          obtain ⟨vs, e1, e2⟩ := rvS_ok hT r ss' h1
          have hu := hT.env ad
          rw [hg] at hu
          obtain ⟨us, _, k2, b, k3, k4⟩ := load_box_S (P := P) hT hu hr ht hm
          refine ⟨.agg us.toArray :: vs, ?_, by rw [SRs]; exact ⟨_, _, rfl, k2, e2⟩⟩
          have hload : (resOf a.tmps (.cell ad t)).run P w = .ok (.agg us.toArray) w := by
            show (do loadVar t (← asAddr (a.tmps.getD ad undef)) : Sem Value).run P w = _
            rw [k3]
            simpa [asAddr] using k4
          simp only [List.mapM_cons, Sem.run_bind, hload, Result.andThen_ok, e1, Sem.run_pure]
        · cases h
      · cases h
    · cases h
def retQS (B0 : Nat) (P : Program) (fn : Func) (rs as1 : List S) (b' : List (Nat × Res)) (uf : Nat → Value) : Exit → St → Prop
  | .normal, st => rvS P st fn.results.toList = some rs ∧ resEnd st b' ∧ pinsEnd B0 st uf 0 as1
  | .ret, st => rvS P st fn.results.toList = some rs ∧ resEnd st b' ∧ pinsEnd B0 st uf 0 as1
  | _, _ => False
end
section
variable {P : Program}
/-- a contract out of a body, whose results hold what is one's own -/
theorem spec_ofS (B0 : Nat) {f : FuncId} {fn : Func} {c : Code} {args rs as1 : List S} {b b' : List (Nat × Res)} (hf : P.funcs[f]? = some fn) (hb : fn.body = some c) (hc : callable P f = true) (hn : args.length ≤ fn.ntmps) (hbn : ∀ p ∈ b, p.1 < B0) (hlen : as1.length = args.length)
    (hv : ∀ w0 K0 uf, VW P w0 K0 fn.ntmps c (initB B0 args b uf) (retQS B0 P fn rs as1 b' uf)) : ConB P f args b rs as1 b' := by
  refine ⟨hc, fun w g us hM hargs => ?_⟩
  obtain ⟨hl, hs⟩ := (SRs_iff _ _).1 hargs
  let uf : Nat → Value := fun k => us.getD k undef
  let g1 : G := ⟨g.K, fun i => if i < B0 then g.loc i else undef⟩
  have hcmp : ∀ j, Cmp g (lk b) g1 (initB B0 args b uf).rs j := by
    intro j
    rw [show Cmp g (lk b) g1 (initB B0 args b uf).rs j = Cmp g (lk b) g1 (initB B0 args b uf).rs j from rfl]
    by_cases hj : j < B0
    · have e := rs_initB B0 args b uf hbn j
      rw [if_pos hj] at e
      exact Cmp.same e (by show (if j < B0 then g.loc j else undef) = _; rw [if_pos hj])
    · have e := rs_initB B0 args b uf hbn j
      rw [if_neg hj] at e
      refine ⟨fun fz ss q => ?_, fun nil sz xs fx q => ?_, fun kvs q => ?_⟩
      · rw [e] at q; cases h : args[j - B0]? <;> rw [h] at q <;> simp at q
      · rw [e] at q; cases h : args[j - B0]? <;> rw [h] at q <;> simp at q
      · rw [e] at q; cases h : args[j - B0]? <;> rw [h] at q <;> simp at q
  have hk : Keeps g.K w g1.K w := Keeps.refl _ _
  have hT : T w ⟨g.K, lent g b, []⟩ fn.ntmps (initB B0 args b uf) { tmps := us.toArray ++ Array.replicate (fn.ntmps - us.toArray.size) undef, defers := [] } w g1 := by
    refine ⟨hM.below, hM.k0, hM.kold, hM.klt, fun i r hi => ?_, fun i j ri rj hi hj hne k h1 h2 => ?_, fun t => ?_, (by simp; omega), rfl, hM.keep⟩
    · have e := rs_initB B0 args b uf hbn i
      by_cases hi2 : i < B0
      · rw [if_pos hi2] at e
        rw [e] at hi
        exact RR.mono' hk (by show (if i < B0 then g.loc i else undef) = _; rw [if_pos hi2]) (fun _ _ => ⟨rfl, fun _ k => k⟩) (fun j _ => hcmp j) (hM.res i r hi)
      · rw [if_neg hi2] at e
        rw [e] at hi
        simp only [Option.map_eq_some_iff] at hi
        obtain ⟨s, h1, rfl⟩ := hi
        refine ⟨by show (if i < B0 then g.loc i else undef) = _; rw [if_neg hi2], ?_⟩
        have hlt := (List.getElem?_eq_some_iff.1 h1).1
        refine SR.mono hk s _ (fun j _ => hcmp j) (hs _ s _ h1 ?_)
        simp only [uf, List.getD_eq_getElem?_getD]
        rw [List.getElem?_eq_getElem (by omega)]; rfl
    · have low : ∀ n r, (initB B0 args b uf).rs n = some r → ∀ k, blk (g1.loc n) = some k → n < B0 ∧ lk b n = some r ∧ blk (g.loc n) = some k := by
        intro n r hn' k hk'
        by_cases hlt : n < B0
        · rw [rs_initB B0 args b uf hbn, if_pos hlt] at hn'
          refine ⟨hlt, hn', ?_⟩
          rw [show g1.loc n = (if n < B0 then g.loc n else undef) from rfl, if_pos hlt] at hk'
          exact hk'
        · rw [show g1.loc n = (if n < B0 then g.loc n else undef) from rfl, if_neg hlt] at hk'
          cases hk'
      obtain ⟨_, a1, a2⟩ := low i ri hi k h1
      obtain ⟨_, a3, a4⟩ := low j rj hj k h2
      exact hM.dis i j ri rj a1 a3 hne k a2 a4
    · have hg : (initB B0 args b uf).get t = (args[t]?).getD .un := by
        unfold St.get initB
        rw [vlook_init]; simp
      rw [hg]
      cases e : args[t]? with
      | none => simp [SR]
      | some s =>
        have hlt := (List.getElem?_eq_some_iff.1 e).1
        refine SR.mono hk s _ (fun j _ => hcmp j) (hs t s _ e ?_)
        simp [Array.getD, hl, hlt]
        omega
  refine calls_of_wp hf hb (wp_mono (hv w _ uf _ w _ hT) fun e a' w' ⟨st', g', h1, h2⟩ => ?_)
  have fin : (rvS P st' fn.results.toList = some rs ∧ resEnd st' b' ∧ pinsEnd B0 st' uf 0 as1) → a'.defers = [] ∧ ∃ v, (results fn a'.tmps).run P w' = .ok v w' ∧
      ∃ (vs : List Value) (g' : G), (Ending.returned v) = .returned (retV vs) ∧ M w ⟨g.K, lent g b, []⟩ (lk b') w' g' ∧ SRs g' w' (lk b') rs vs ∧ SRs g' w' (lk b') as1 us := by
    intro ⟨hr, e2, e2'⟩
    obtain ⟨vs, e1, e4⟩ := rvS_ok h2 _ _ hr
    have e3 := h2
    have hdown : ∀ j, Cmp g' st'.rs g' (lk b') j := fun j => ⟨fun fz ss q => ⟨⟨fz, ss, resEnd_ok e2 j _ q⟩, rfl⟩, fun nil sz xs fx q => ⟨⟨nil, xs, fx, resEnd_ok e2 j _ q, rfl⟩, rfl⟩, fun kvs q => ⟨⟨kvs, resEnd_ok e2 j _ q, rfl⟩, rfl⟩⟩
    have hM' : M w ⟨g.K, lent g b, []⟩ (lk b') w' g' := by
      refine ⟨e3.below, e3.k0, e3.kold, e3.klt, fun i r hi => ?_, fun i j ri rj hi hj => e3.dis i j ri rj (resEnd_ok e2 i _ hi) (resEnd_ok e2 j _ hj), e3.keep⟩
      exact RR.mono' (Keeps.refl _ _) rfl (fun _ _ => ⟨rfl, fun _ k => k⟩) (fun j _ => hdown j) (e3.res i r (resEnd_ok e2 i r hi))
    have has : SRs g' w' (lk b') as1 us := by
      rw [SRs_iff]
      refine ⟨by omega, fun k s u q1 q2 => ?_⟩
      have h3 := e3.res _ _ (pinsEnd_ok e2' k s q1)
      have h4 := h3.2
      have : uf (0 + k) = u := by simp [uf, q2]
      rw [this] at h4
      exact SR.mono (Keeps.refl _ _) s u (fun j _ => hdown j) h4
    refine ⟨h2.defers, retV vs, ?_, vs, g', rfl, hM', SRs.mono (Keeps.refl _ _) _ _ (fun j _ => hdown j) e4, has⟩
    have hres : results fn a'.tmps = (do let vs ← fn.results.mapM (resOf a'.tmps); pure (if h : vs.size = 1 then vs[0] else .tuple vs)) := by
      unfold results
      congr 1
    have hm : (fn.results.mapM (resOf a'.tmps)).run P w' = .ok vs.toArray w' := by
      rw [← Array.toArray_toList (xs := fn.results), List.mapM_toArray]
      simp only [Sem.run_map, e1, Result.andThen_ok]
    rw [hres, Sem.run_bind, hm, Result.andThen_ok, Sem.run_pure]
    congr 1
    cases vs with
    | nil => rfl
    | cons v r => cases r with
      | nil => rfl
      | cons _ _ => simp [retV]
  cases e with
  | normal => exact fin h1
  | ret => exact fin h1
  | _ => exact h1.elim
end
attribute [simp] retQS rvS
end Go.VL
