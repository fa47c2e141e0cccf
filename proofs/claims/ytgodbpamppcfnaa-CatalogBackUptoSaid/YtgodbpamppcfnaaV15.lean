/-
  A logic on data over the model's walk, part 15: a function's contract out of its body.
-/
import Derived.Test.YtgodbpamppcfnaaV14
set_option linter.unusedSimpArgs false
set_option linter.unusedVariables false
namespace Go.VL
open Go.RowKit

def initEnv : Nat → List S → List (Nat × S)
  | _, [] => []
  | k, s :: r => (k, s) :: initEnv (k + 1) r
def initSt (args : List S) : St := ⟨initEnv 0 args, []⟩

/-- what a function hands back, out of its slots -/
def rvs (P : Program) (st : St) : List ResultVar → (List S → St → Prop) → Prop
  | [], k => k [] st
  | .tmp t :: r, k => rvs P st r fun ss st' => k (st.get t :: ss) st'
  | .cell ad t :: r, k => vloadb P st t (st.get ad) fun s st1 => rvs P st1 r fun ss st' => k (s :: ss) st'

/-- a slot's content as a result -/
def asRt (st : St) (s : S) (r : Rt) : Prop :=
  match s, r with
  | .c x, .c y => x = y
  | .agg cs, .ag ds => cs = ds
  | .own i n, .fr nil sz xs fx => st.rs i = some (.arr nil sz xs fx) ∧ xs.length = n
  | .c (.sl true []), .fr nil _ xs fx => nil = true ∧ xs = [] ∧ fx = 0
  | _, _ => False

def ownNames : List S → List Rt → List Nat
  | .own i _ :: ss, .fr _ _ _ _ :: rs => i :: ownNames ss rs
  | _ :: ss, _ :: rs => ownNames ss rs
  | _, _ => []

def asRts (st : St) : List S → List Rt → Prop
  | [], [] => True
  | s :: ss, r :: rs => asRt st s r ∧ asRts st ss rs
  | _, _ => False

/-- what is asked of a function's end -/
def retQ (P : Program) (fn : Func) (rs : List Rt) : Exit → St → Prop
  | .normal, st => rvs P st fn.results.toList fun ss st' => asRts st' ss rs ∧ (ownNames ss rs).Nodup
  | .ret, st => rvs P st fn.results.toList fun ss st' => asRts st' ss rs ∧ (ownNames ss rs).Nodup
  | _, _ => False

def resOf (tmps : Array Value) : ResultVar → Sem Value
  | .tmp t => pure (tmps.getD t undef)
  | .cell a t => do loadVar t (← asAddr (tmps.getD a undef))

section
variable {P : Program} {w0 : World} {K0 : K0T} {nt : Nat} {st : St} {a : Act} {w : World} {g : G}

theorem vlook_init : ∀ (args : List S) (k t : Nat), vlook S.un (initEnv k args) t = if k ≤ t then (args[t - k]?).getD .un else .un
  | [], k, t => by simp [initEnv, vlook]
  | s :: r, k, t => by
    rw [initEnv, vlook]
    by_cases h : k = t
    · subst h; simp
    · have : (k == t) = false := by simpa using h
      rw [this, cond_false, vlook_init r (k + 1) t]
      by_cases h1 : k ≤ t
      · rw [if_pos h1, if_pos (by omega)]
        have : t - k = (t - (k + 1)) + 1 := by omega
        rw [this]
        simp
      · rw [if_neg h1, if_neg (by omega)]

theorem T.init {K : Nat → Nat → Prop} {args : List S} {us : List Value} {n : Nat} (hK : ∀ b o, K b o → b < w.heap.size) (hargs : DRs K w args us) (hn : args.length ≤ n) :
    T w ⟨K, fun _ => False⟩ n (initSt args) { tmps := us.toArray ++ Array.replicate (n - us.toArray.size) undef, defers := [] } w ⟨K, fun _ => undef⟩ := by
  obtain ⟨hl, hs⟩ := (SRs_iff _ _).1 hargs
  have hrs : (initSt args).rs = fun _ => none := by funext i; rfl
  refine ⟨Bel.refl _ _ _, fun _ _ k => k, fun _ _ k _ => k, hK, (fun i r h => by rw [hrs] at h; cases h), (fun i j r r' h => by rw [hrs] at h; cases h), fun t => ?_, (by simp; omega), rfl, fun _ _ _ => rfl⟩
  have hg : (initSt args).get t = (args[t]?).getD .un := by
    unfold St.get initSt
    rw [vlook_init]; simp
  rw [hg, hrs]
  cases e : args[t]? with
  | none => rw [Option.getD_none, SR]; trivial
  | some s =>
    have hlt : t < us.length := by rw [hl]; exact (List.getElem?_eq_some_iff.1 e).1
    have : (us.toArray ++ Array.replicate (n - us.toArray.size) undef).getD t undef = us[t] := by
      rw [Array.getD_eq_getD_getElem?, Array.getElem?_append_left (by simpa using hlt)]
      simp [hlt]
    simp only [Option.getD_some]
    rw [this]
    exact hs t s _ e (by simp [hlt])

theorem rvs_ok : ∀ (l : List ResultVar) (st : St) (g : G) (k : List S → St → Prop), T w0 K0 nt st a w g → rvs P st l k →
    ∃ vs ss st' g', (l.mapM (resOf a.tmps)).run P w = .ok vs w ∧ k ss st' ∧ T w0 K0 nt st' a w g' ∧ SRs g' w st'.rs ss vs ∧ (∀ s u, SR g w st.rs s u → SR g' w st'.rs s u)
  | [], st, g, k, h, hv => ⟨[], [], st, g, rfl, hv, h, by rw [SRs], fun _ _ h => h⟩
  | .tmp t :: r, st, g, k, h, hv => by
    rw [rvs] at hv
    obtain ⟨vs, ss, st', g', e1, e2, e3, e4, e5⟩ := rvs_ok r st g _ h hv
    refine ⟨a.tmps.getD t undef :: vs, st.get t :: ss, st', g', ?_, e2, e3, by rw [SRs]; exact ⟨_, _, rfl, e5 _ _ (h.env t), e4⟩, e5⟩
    simp only [List.mapM_cons, resOf, Sem.run_bind, Sem.run_pure, Result.andThen_ok, e1]
  | .cell ad t :: r, st, g, k, h, hv => by
    rw [rvs] at hv
    obtain ⟨v, s', st1, g1, f1, f2, f3, f4, f5, f6⟩ := vloadb_ok h (h.env ad) hv
    obtain ⟨vs, ss, st', g', e1, e2, e3, e4, e5⟩ := rvs_ok r st1 g1 _ f3 f2
    refine ⟨v :: vs, s' :: ss, st', g', ?_, e2, e3, by rw [SRs]; exact ⟨_, _, rfl, e5 _ _ f4, e4⟩, fun s u hh => e5 s u (f5 s u hh)⟩
    have hload : (resOf a.tmps (.cell ad t)).run P w = .ok v w := by
      show (do loadVar t (← asAddr (a.tmps.getD ad undef)) : Sem Value).run P w = .ok v w
      generalize a.tmps.getD ad undef = x at f1 ⊢
      cases x with
      | pointer p =>
        cases p with
        | none => simp [Instr.loadAt, Instr.sureAddr] at f1
        | some p => simpa [Instr.loadAt, Instr.sureAddr, asAddr] using f1
      | _ => simp [Instr.loadAt, Instr.sureAddr] at f1
    simp only [List.mapM_cons, Sem.run_bind, hload, Result.andThen_ok, e1, Sem.run_pure]

theorem asRts_ok (h : T w0 K0 nt st a w g) (hL : ∀ b, ¬ K0.L b) : ∀ (ss : List S) (rs : List Rt) (vs : List Value), SRs g w st.rs ss vs → asRts st ss rs → (ownNames ss rs).Nodup →
    RtRs g.K w w0.heap.size rs vs ∧ ∀ (k : Nat) r v, rs[k]? = some r → vs[k]? = some v → isFr r = true → ∀ b, blk v = some b → ∃ i r', i ∈ ownNames ss rs ∧ st.rs i = some r' ∧ blk (g.loc i) = some b
  | [], [], vs, hs, _, _ => by
    rw [SRs] at hs
    subst hs
    exact ⟨⟨rfl, by simp, by simp⟩, by simp⟩
  | [], _ :: _, vs, hs, ha, _ => by simp [asRts] at ha
  | _ :: _, [], vs, hs, ha, _ => by simp [asRts] at ha
  | s :: ss, r :: rs, vs, hs, ha, hnd => by
    rw [SRs] at hs
    obtain ⟨v, vs', rfl, h1, h2⟩ := hs
    obtain ⟨a1, a2⟩ := ha
    have hnd' : (ownNames ss rs).Nodup := by
      unfold ownNames at hnd
      split at hnd
      · rename_i heq1 heq2; cases heq1; cases heq2; exact (List.nodup_cons.1 hnd).2
      · rename_i heq1 heq2; cases heq1; cases heq2; exact hnd
      · rename_i hx; exact absurd rfl (hx s ss r rs rfl)
    obtain ⟨⟨l1, l2, l3⟩, l4⟩ := asRts_ok h hL ss rs vs' h2 a2 hnd'
    have hsub : ∀ i, i ∈ ownNames ss rs → i ∈ ownNames (s :: ss) (r :: rs) := fun i hi => by
      unfold ownNames
      split
      · rename_i heq1 heq2; cases heq1; cases heq2; exact List.mem_cons_of_mem _ hi
      · rename_i heq1 heq2; cases heq1; cases heq2; exact hi
      · rename_i hx; exact absurd rfl (hx s ss r rs rfl)
    have head : RtR g.K w w0.heap.size r v ∧ (isFr r = true → ∀ b, blk v = some b → ∃ i r', i ∈ ownNames (s :: ss) (r :: rs) ∧ i ∉ ownNames ss rs ∧ st.rs i = some r' ∧ blk (g.loc i) = some b) := by
      unfold asRt at a1
      split at a1
      · subst a1; rw [SR] at h1; exact ⟨by rw [RtR]; exact h1, fun e => by cases e⟩
      · subst a1; rw [SR] at h1; exact ⟨by rw [RtR]; exact h1, fun e => by cases e⟩
      · rename_i i n nil sz xs fx
        obtain ⟨e1, e2⟩ := a1
        rw [SR] at h1
        have hu := h1 nil sz xs fx e1 e2
        subst hu
        refine ⟨?_, fun _ b hb => ⟨i, _, by simp [ownNames], ?_, e1, hb⟩⟩
        · rw [RtR]
          have := h.res i _ e1
          rcases this with q | ⟨q0, b, cap, cur, E, q1, q2, q3⟩
          · exact .inl q
          · exact .inr ⟨q0, b, cap, cur, E, q1, Nat.le_of_not_lt (fun hh => q2 ⟨hh, hL b⟩), q3⟩
        · simp only [ownNames] at hnd
          exact (List.nodup_cons.1 hnd).1
      · rename_i nil sz xs fx
        obtain ⟨rfl, rfl, rfl⟩ := a1
        simp only [SR, CR] at h1
        have hv : v = .slice none 0 0 := by
          rcases h1 with ⟨_, _, q⟩ | ⟨q, _⟩
          · exact q
          · cases q
        subst hv
        exact ⟨by rw [RtR]; exact .inl ⟨rfl, rfl, rfl, rfl⟩, fun _ b hb => by simp [blk] at hb⟩
      · exact a1.elim
    refine ⟨⟨by simp [l1], fun k r' v' e1 e2 => ?_, fun j k r1 r2 v1 v2 hjk e1 e2 e3 e4 f1 f2 b hb hb2 => ?_⟩, fun k r' v' e1 e2 f b hb => ?_⟩
    · cases k with
      | zero => simp at e1 e2; subst e1; subst e2; exact head.1
      | succ k => exact l2 k r' v' (by simpa using e1) (by simpa using e2)
    · cases j with
      | zero =>
        cases k with
        | zero => exact hjk rfl
        | succ k =>
          simp at e1 e3
          subst e1; subst e3
          obtain ⟨i, r', m1, m2, m3, m4⟩ := head.2 f1 b hb
          obtain ⟨i', r'', n1, n2, n3⟩ := l4 k r2 v2 (by simpa using e2) (by simpa using e4) f2 b hb2
          exact h.dis i i' _ _ m3 n2 (fun e => m2 (e ▸ n1)) b m4 n3
      | succ j =>
        cases k with
        | zero =>
          simp at e2 e4
          subst e2; subst e4
          obtain ⟨i, r', m1, m2, m3, m4⟩ := head.2 f2 b hb2
          obtain ⟨i', r'', n1, n2, n3⟩ := l4 j r1 v1 (by simpa using e1) (by simpa using e3) f1 b hb
          exact h.dis i i' _ _ m3 n2 (fun e => m2 (e ▸ n1)) b m4 n3
        | succ k => exact l3 j k r1 r2 v1 v2 (by omega) (by simpa using e1) (by simpa using e2) (by simpa using e3) (by simpa using e4) f1 f2 b hb hb2
    · cases k with
      | zero =>
        simp at e1 e2; subst e1; subst e2
        obtain ⟨i, r', m1, m2, m3, m4⟩ := head.2 f b hb
        exact ⟨i, r', m1, m3, m4⟩
      | succ k =>
        obtain ⟨i, r'', n1, n2, n3⟩ := l4 k r' v' (by simpa using e1) (by simpa using e2) f b hb
        exact ⟨i, r'', hsub i n1, n2, n3⟩

/-- A CONTRACT OUT OF A BODY. -/
theorem spec_of {f : FuncId} {fn : Func} {c : Code} {args : List S} {rs : List Rt} (hf : P.funcs[f]? = some fn) (hb : fn.body = some c) (hc : callable P f = true) (hn : args.length ≤ fn.ntmps)
    (hv : ∀ w0 K0, VW P w0 K0 fn.ntmps c (initSt args) (retQ P fn rs)) : Con P f args rs := by
  refine ⟨hc, fun w K us hK hargs => ?_⟩
  have hT := T.init (n := fn.ntmps) hK hargs hn
  refine calls_of_wp hf hb (wp_mono (hv w ⟨K, fun _ => False⟩ _ w _ hT) fun e a' w' ⟨st', g', h1, h2⟩ => ?_)
  have fin : (rvs P st' fn.results.toList fun ss st'' => asRts st'' ss rs ∧ (ownNames ss rs).Nodup) → a'.defers = [] ∧ ∃ v, (results fn a'.tmps).run P w' = .ok v w' ∧ ∃ vs : List Value, (Ending.returned v) = .returned (retV vs) ∧ Below w.heap.size w w' ∧
      ∃ K' : Nat → Nat → Prop, (∀ b o, K b o → K' b o) ∧ (∀ b o, K' b o → b < w.heap.size → K b o) ∧ (∀ b o, K' b o → b < w'.heap.size) ∧ RtRs K' w' w.heap.size rs vs := by
    intro hr
    obtain ⟨vs, ss, st'', g'', e1, ⟨e2, e2'⟩, e3, e4, e5⟩ := rvs_ok _ st' g' _ h2 hr
    refine ⟨h2.defers, retV vs, ?_, vs, rfl, ⟨h2.below.os, h2.below.tape, h2.below.output, h2.below.size, fun k hk => h2.below.block k ⟨hk, id⟩⟩, g''.K, e3.k0, fun b o k hb => e3.kold b o k ⟨hb, id⟩, e3.klt, (asRts_ok e3 (fun _ => id) ss rs vs e4 e2 e2').1⟩
    have hres : results fn a'.tmps = (do let vs ← fn.results.mapM (resOf a'.tmps); pure (if h : vs.size = 1 then vs[0] else .tuple vs)) := by
      unfold results
      congr 1
    have hm : (fn.results.mapM (resOf a'.tmps)).run P w' = .ok vs.toArray w' := by
      rw [← Array.toArray_toList (xs := fn.results), List.mapM_toArray]
      simp only [Sem.run_map, e1, Result.andThen_ok]
    rw [hres, Sem.run_bind, hm, Result.andThen_ok, Sem.run_pure]
    congr 1
    match vs with
    | [] => rfl
    | [x] => rfl
    | x :: y :: r => simp [retV]
  cases e with
  | normal => exact fin h1
  | ret => exact fin h1
  | _ => exact h1.elim
end
end Go.VL
