/-
  A logic on data over the model's walk, part 25: a contract of a function that changes what it is lent, out of its body.
-/
import Derived.Test.YtgodbpamppcfnaaV22
set_option linter.unusedSimpArgs false
set_option linter.unusedVariables false
namespace Go.VL
open Go.RowKit

/-- the arguments' values, watched -/
def pinsOf (B0 : Nat) (uf : Nat → Value) : Nat → List S → List (Nat × Option Res)
  | _, [] => []
  | k, s :: r => (B0 + k, some (.pin (uf k) s)) :: pinsOf B0 uf (k + 1) r
def initB (B0 : Nat) (args : List S) (b : List (Nat × Res)) (uf : Nat → Value) : St := ⟨initEnv 0 args, (b.map fun p => (p.1, some p.2)) ++ pinsOf B0 uf 0 args⟩
def pinsEnd (B0 : Nat) (st : St) (uf : Nat → Value) : Nat → List S → Prop
  | _, [] => True
  | k, s :: r => st.rs (B0 + k) = some (.pin (uf k) s) ∧ pinsEnd B0 st uf (k + 1) r
def resEnd (st : St) : List (Nat × Res) → Prop
  | [] => True
  | p :: r => st.rs p.1 = some p.2 ∧ resEnd st r
def retQB (B0 : Nat) (P : Program) (fn : Func) (rs as1 : List S) (b' : List (Nat × Res)) (uf : Nat → Value) : Exit → St → Prop
  | .normal, st => rvs P st fn.results.toList fun ss st' => ss = rs ∧ resEnd st' b' ∧ pinsEnd B0 st' uf 0 as1
  | .ret, st => rvs P st fn.results.toList fun ss st' => ss = rs ∧ resEnd st' b' ∧ pinsEnd B0 st' uf 0 as1
  | _, _ => False

theorem look_pins (B0 : Nat) (uf : Nat → Value) : ∀ (l : List S) (k i : Nat) , vlook none (pinsOf B0 uf k l) i = if h : B0 + k ≤ i ∧ i < B0 + k + l.length then some (.pin (uf (i - B0)) (l[i - B0 - k]'(by omega))) else none
  | [], k, i => by simp [pinsOf]
  | s :: r, k, i => by
    rw [pinsOf, vlook, look_pins B0 uf r (k + 1) i]
    by_cases h : B0 + k = i
    · subst h
      simp
    · have h' : (B0 + k == i) = false := by simpa using h
      rw [h', cond_false]
      by_cases h2 : B0 + (k + 1) ≤ i ∧ i < B0 + (k + 1) + r.length
      · rw [dif_pos h2, dif_pos (by simp only [List.length_cons]; omega)]
        congr 2
        have : i - B0 - k = (i - B0 - (k + 1)) + 1 := by omega
        simp only [this, List.getElem_cons_succ]
      · rw [dif_neg h2, dif_neg (by simp only [List.length_cons]; omega)]
theorem look_lk (b : List (Nat × Res)) (l : List (Nat × Option Res)) (i : Nat) : vlook none ((b.map fun p => (p.1, some p.2)) ++ l) i = if (lk b i).isSome then lk b i else vlook none l i := by
  induction b with
  | nil => simp [lk]
  | cons p b ih =>
    unfold lk at ih ⊢
    simp only [List.map_cons, List.cons_append, vlook]
    cases p.1 == i with
    | true => simp
    | false => simpa using ih
theorem lk_lt {B0 : Nat} {b : List (Nat × Res)} (h : ∀ p ∈ b, p.1 < B0) {i : Nat} {r : Res} (hi : lk b i = some r) : i < B0 := h _ (lk_mem hi)
theorem rs_initB (B0 : Nat) (args : List S) (b : List (Nat × Res)) (uf : Nat → Value) (hb : ∀ p ∈ b, p.1 < B0) (i : Nat) : (initB B0 args b uf).rs i = if i < B0 then lk b i else (args[i - B0]?).map fun s => .pin (uf (i - B0)) s := by
  unfold St.rs initB
  rw [look_lk, look_pins]
  by_cases hi : i < B0
  · rw [if_pos hi]
    cases h : lk b i with
    | none => rw [if_neg (by simp), dif_neg (by omega)]
    | some r => rw [if_pos (by simp)]
  · rw [if_neg hi]
    have : lk b i = none := by
      cases h : lk b i with
      | none => rfl
      | some r => exact absurd (lk_lt hb h) hi
    rw [this, if_neg (by simp)]
    by_cases h2 : i - B0 < args.length
    · rw [dif_pos (by omega), List.getElem?_eq_getElem h2]; rfl
    · rw [dif_neg (by omega), List.getElem?_eq_none (by omega)]; rfl

theorem resEnd_ok {st : St} : ∀ {b : List (Nat × Res)}, resEnd st b → ∀ i r, lk b i = some r → st.rs i = some r
  | [], _, i, r, h => by simp [lk] at h
  | p :: b, h, i, r, hi => by
    obtain ⟨h1, h2⟩ := h
    unfold lk at hi
    simp only [List.map_cons, vlook] at hi
    cases hk : p.1 == i with
    | true => rw [hk] at hi; simp at hi hk; subst hk; subst hi; exact h1
    | false => rw [hk] at hi; exact resEnd_ok h2 i r hi
theorem pinsEnd_ok {B0 : Nat} {st : St} {uf : Nat → Value} : ∀ {l : List S} {k : Nat}, pinsEnd B0 st uf k l → ∀ j s, l[j]? = some s → st.rs (B0 + (k + j)) = some (.pin (uf (k + j)) s)
  | [], _, _, j, s, h => by simp at h
  | x :: l, k, h, j, s, hj => by
    obtain ⟨h1, h2⟩ := h
    cases j with
    | zero => simp at hj; subst hj; exact h1
    | succ j => have := pinsEnd_ok h2 j s (by simpa using hj); rw [show k + (j + 1) = k + 1 + j by omega]; exact this

section
variable {P : Program}
/-- A CONTRACT OF A FUNCTION THAT CHANGES WHAT IT IS LENT, out of its body -/
theorem spec_ofB (B0 : Nat) {f : FuncId} {fn : Func} {c : Code} {args rs as1 : List S} {b b' : List (Nat × Res)} (hf : P.funcs[f]? = some fn) (hb : fn.body = some c) (hc : callable P f = true) (hn : args.length ≤ fn.ntmps) (hbn : ∀ p ∈ b, p.1 < B0) (hlen : as1.length = args.length)
    (hv : ∀ w0 K0 uf, VW P w0 K0 fn.ntmps c (initB B0 args b uf) (retQB B0 P fn rs as1 b' uf)) : ConB P f args b rs as1 b' := by
  refine ⟨hc, fun w g us hM hargs => ?_⟩
  obtain ⟨hl, hs⟩ := (SRs_iff _ _).1 hargs
  let uf : Nat → Value := fun k => us.getD k undef
  let g1 : G := ⟨g.K, fun i => if i < B0 then g.loc i else undef⟩
  have hcmp : ∀ j, Cmp g (lk b) g1 (initB B0 args b uf).rs j := by
    intro j
    rw [show Cmp g (lk b) g1 (initB B0 args b uf).rs j = Cmp g (lk b) g1 (initB B0 args b uf).rs j from rfl]
    by_cases hj : j < B0
    · have e := rs_initB B0 args b uf hbn j
      rw [if_pos hj] at e
      exact Cmp.same e (by show (if j < B0 then g.loc j else undef) = _; rw [if_pos hj])
    · have e := rs_initB B0 args b uf hbn j
      rw [if_neg hj] at e
      refine ⟨fun fz ss q => ?_, fun nil sz xs fx q => ?_⟩
      · rw [e] at q; cases h : args[j - B0]? <;> rw [h] at q <;> simp at q
      · rw [e] at q; cases h : args[j - B0]? <;> rw [h] at q <;> simp at q
  have hk : Keeps g.K w g1.K w := Keeps.refl _ _
  have hT : T w ⟨g.K, lent g b⟩ fn.ntmps (initB B0 args b uf) { tmps := us.toArray ++ Array.replicate (fn.ntmps - us.toArray.size) undef, defers := [] } w g1 := by
    refine ⟨hM.below, hM.k0, hM.kold, hM.klt, fun i r hi => ?_, fun i j ri rj hi hj hne k h1 h2 => ?_, fun t => ?_, (by simp; omega), rfl, hM.keep⟩
    · have e := rs_initB B0 args b uf hbn i
      by_cases hi2 : i < B0
      · rw [if_pos hi2] at e
        rw [e] at hi
        exact RR.mono' hk (by show (if i < B0 then g.loc i else undef) = _; rw [if_pos hi2]) (fun _ _ => ⟨rfl, fun _ k => k⟩) (fun j _ => hcmp j) (hM.res i r hi)
      · rw [if_neg hi2] at e
        rw [e] at hi
        simp only [Option.map_eq_some_iff] at hi
        obtain ⟨s, h1, rfl⟩ := hi
        refine ⟨by show (if i < B0 then g.loc i else undef) = _; rw [if_neg hi2], ?_⟩
        have hlt := (List.getElem?_eq_some_iff.1 h1).1
        refine SR.mono hk s _ (fun j _ => hcmp j) (hs _ s _ h1 ?_)
        simp only [uf, List.getD_eq_getElem?_getD]
        rw [List.getElem?_eq_getElem (by omega)]; rfl
    · have low : ∀ n r, (initB B0 args b uf).rs n = some r → ∀ k, blk (g1.loc n) = some k → n < B0 ∧ lk b n = some r ∧ blk (g.loc n) = some k := by
        intro n r hn' k hk'
        by_cases hlt : n < B0
        · rw [rs_initB B0 args b uf hbn, if_pos hlt] at hn'
          refine ⟨hlt, hn', ?_⟩
          rw [show g1.loc n = (if n < B0 then g.loc n else undef) from rfl, if_pos hlt] at hk'
          exact hk'
        · rw [show g1.loc n = (if n < B0 then g.loc n else undef) from rfl, if_neg hlt] at hk'
          cases hk'
      obtain ⟨_, a1, a2⟩ := low i ri hi k h1
      obtain ⟨_, a3, a4⟩ := low j rj hj k h2
      exact hM.dis i j ri rj a1 a3 hne k a2 a4
    · have hg : (initB B0 args b uf).get t = (args[t]?).getD .un := by
        unfold St.get initB
        rw [vlook_init]; simp
      rw [hg]
      cases e : args[t]? with
      | none => simp [SR]
      | some s =>
        have hlt := (List.getElem?_eq_some_iff.1 e).1
        refine SR.mono hk s _ (fun j _ => hcmp j) (hs t s _ e ?_)
        simp [Array.getD, hl, hlt]
        omega
  refine calls_of_wp hf hb (wp_mono (hv w _ uf _ w _ hT) fun e a' w' ⟨st', g', h1, h2⟩ => ?_)
  have fin : (rvs P st' fn.results.toList fun ss st' => ss = rs ∧ resEnd st' b' ∧ pinsEnd B0 st' uf 0 as1) → a'.defers = [] ∧ ∃ v, (results fn a'.tmps).run P w' = .ok v w' ∧
      ∃ (vs : List Value) (g' : G), (Ending.returned v) = .returned (retV vs) ∧ M w ⟨g.K, lent g b⟩ (lk b') w' g' ∧ SRs g' w' (lk b') rs vs ∧ SRs g' w' (lk b') as1 us := by
    intro hr
    obtain ⟨vs, ss, st'', g'', e1, ⟨rfl, e2, e2'⟩, e3, e4, e5⟩ := rvs_ok _ st' g' _ h2 hr
    have hdown : ∀ j, Cmp g'' st''.rs g'' (lk b') j := fun j => ⟨fun fz ss q => ⟨⟨fz, ss, resEnd_ok e2 j _ q⟩, rfl⟩, fun nil sz xs fx q => ⟨⟨nil, xs, fx, resEnd_ok e2 j _ q, rfl⟩, rfl⟩⟩
    have hM' : M w ⟨g.K, lent g b⟩ (lk b') w' g'' := by
      refine ⟨e3.below, e3.k0, e3.kold, e3.klt, fun i r hi => ?_, fun i j ri rj hi hj => e3.dis i j ri rj (resEnd_ok e2 i _ hi) (resEnd_ok e2 j _ hj), e3.keep⟩
      exact RR.mono' (Keeps.refl _ _) rfl (fun _ _ => ⟨rfl, fun _ k => k⟩) (fun j _ => hdown j) (e3.res i r (resEnd_ok e2 i r hi))
    have has : SRs g'' w' (lk b') as1 us := by
      rw [SRs_iff]
      refine ⟨by omega, fun k s u q1 q2 => ?_⟩
      have h3 := e3.res _ _ (pinsEnd_ok e2' k s q1)
      have h4 := h3.2
      have : uf (0 + k) = u := by simp [uf, q2]
      rw [this] at h4
      exact SR.mono (Keeps.refl _ _) s u (fun j _ => hdown j) h4
    refine ⟨h2.defers, retV vs, ?_, vs, g'', rfl, hM', SRs.mono (Keeps.refl _ _) _ _ (fun j _ => hdown j) e4, has⟩
    have hres : results fn a'.tmps = (do let vs ← fn.results.mapM (resOf a'.tmps); pure (if h : vs.size = 1 then vs[0] else .tuple vs)) := by
      unfold results
      congr 1
    have hm : (fn.results.mapM (resOf a'.tmps)).run P w' = .ok vs.toArray w' := by
      rw [← Array.toArray_toList (xs := fn.results), List.mapM_toArray]
      simp only [Sem.run_map, e1, Result.andThen_ok]
    rw [hres, Sem.run_bind, hm, Result.andThen_ok, Sem.run_pure]
    congr 1
    cases vs with
    | nil => rfl
    | cons v r => cases r with
      | nil => rfl
      | cons _ _ => simp [retV]
  cases e with
  | normal => exact fin h1
  | ret => exact fin h1
  | _ => exact h1.elim
end
@[simp] theorem initB_eq (B0 : Nat) (args : List S) (b : List (Nat × Res)) (uf : Nat → Value) : initB B0 args b uf = ⟨initEnv 0 args, (b.map fun p => (p.1, some p.2)) ++ pinsOf B0 uf 0 args⟩ := rfl
attribute [simp] pinsOf pinsEnd resEnd retQB
end Go.VL
