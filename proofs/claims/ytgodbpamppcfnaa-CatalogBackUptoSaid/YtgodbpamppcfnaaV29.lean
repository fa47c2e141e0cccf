/-
  A logic on data over the model's walk, part 29: a contract's end, told otherwise: names turned, nil cells as own rows.
-/
import Derived.Test.YtgodbpamppcfnaaV28
import Derived.Test.YtgodbpamppcfnaaV25
set_option linter.unusedSimpArgs false
set_option linter.unusedVariables false
namespace Go.VL
open Go.RowKit

section
variable {P : Program} {w0 : World} {K0 : K0T} {nt : Nat} {st : St} {a : Act} {w : World} {g : G}

def someR (b : List (Nat × Res)) : List (Nat × Option Res) := b.map fun p => (p.1, some p.2)

/-- A CONTRACT'S END told otherwise -/
theorem ConB.post {f : FuncId} {args rs as1 rs2 as2 : List S} {b b' b2 : List (Nat × Res)} (h : ConB P f args b rs as1 b')
    (H : ∀ w0 K0 a w g, T w0 K0 2 ⟨[(0, .tup rs), (1, .tup as1)], someR b'⟩ a w g → ∃ st2 g', T w0 K0 2 st2 a w g' ∧ st2.get 0 = .tup rs2 ∧ st2.get 1 = .tup as2 ∧ resEnd st2 b2) :
    ConB P f args b rs2 as2 b2 := by
  refine ⟨h.1, fun w g us hM hu => (h.2 w g us hM hu).mono fun e w' ⟨vs, g', he, hM', hrs, has⟩ => ?_⟩
  have hT : T w ⟨g.K, lent g b⟩ 2 ⟨[(0, .tup rs), (1, .tup as1)], someR b'⟩ { tmps := #[.tuple vs.toArray, .tuple us.toArray], defers := [] } w' g' := by
    refine ⟨hM'.below, hM'.k0, hM'.kold, hM'.klt, hM'.res, hM'.dis, fun t => ?_, rfl, rfl, hM'.keep⟩
    match t with
    | 0 => show SR _ _ _ (.tup rs) (.tuple vs.toArray); rw [SR]; exact ⟨vs, rfl, hrs⟩
    | 1 => show SR _ _ _ (.tup as1) (.tuple us.toArray); rw [SR]; exact ⟨us, rfl, has⟩
    | t + 2 => show SR _ _ _ .un _; rw [SR]; trivial
  obtain ⟨st2, g2, h1, h2, h3, h4⟩ := H _ _ _ _ _ hT
  have hdown : ∀ j, Cmp g2 st2.rs g2 (lk b2) j := fun j => ⟨fun fz ss q => ⟨⟨fz, ss, resEnd_ok h4 j _ q⟩, rfl⟩, fun nil sz xs fx q => ⟨⟨nil, xs, fx, resEnd_ok h4 j _ q, rfl⟩, rfl⟩⟩
  refine ⟨vs, g2, he, ⟨h1.below, h1.k0, h1.kold, h1.klt, fun i r hi => ?_, fun i j ri rj hi hj => h1.dis i j ri rj (resEnd_ok h4 i _ hi) (resEnd_ok h4 j _ hj), h1.keep⟩, ?_, ?_⟩
  · exact RR.mono' (Keeps.refl _ _) rfl (fun _ _ => ⟨rfl, fun _ k => k⟩) (fun j _ => hdown j) (h1.res i r (resEnd_ok h4 i r hi))
  · have := h1.env 0
    rw [h2, show (#[Value.tuple vs.toArray, Value.tuple us.toArray] : Array Value).getD 0 undef = .tuple vs.toArray from rfl, SR] at this
    obtain ⟨vs', e, k⟩ := this
    have : vs' = vs := by simpa using e.symm
    subst this
    exact SRs.mono (Keeps.refl _ _) _ _ (fun j _ => hdown j) k
  · have := h1.env 1
    rw [h3, show (#[Value.tuple vs.toArray, Value.tuple us.toArray] : Array Value).getD 1 undef = .tuple us.toArray from rfl, SR] at this
    obtain ⟨vs', e, k⟩ := this
    have : vs' = us := by simpa using e.symm
    subst this
    exact SRs.mono (Keeps.refl _ _) _ _ (fun j _ => hdown j) k

/-- names turned -/
def St.ren (τ : Nat → Nat) (st : St) : St := ⟨st.env.map fun p => (p.1, renS τ p.2), st.res.map fun p => (τ p.1, p.2.map (renR τ))⟩

theorem get_ren (τ : Nat → Nat) (st : St) (t : Nat) : (st.ren τ).get t = renS τ (st.get t) := by
  obtain ⟨env, res⟩ := st
  unfold St.get St.ren
  simp only
  induction env with
  | nil => rfl
  | cons p l ih =>
    simp only [List.map_cons, vlook]
    cases p.1 == t with
    | true => rfl
    | false => exact ih
theorem rs_ren {τ : Nat → Nat} (hτ : ∀ i, τ (τ i) = i) (st : St) (i : Nat) : (st.ren τ).rs i = (st.rs (τ i)).map (renR τ) := by
  obtain ⟨env, res⟩ := st
  unfold St.rs St.ren
  simp only
  induction res with
  | nil => rfl
  | cons p l ih =>
    simp only [List.map_cons, vlook]
    have : (τ p.1 == i) = (p.1 == τ i) := by
      rw [Bool.eq_iff_iff, beq_iff_eq, beq_iff_eq]
      exact ⟨fun e => by rw [← e, hτ], fun e => by rw [e, hτ]⟩
    rw [this]
    cases p.1 == τ i with
    | true => rfl
    | false => exact ih

theorem T.ren {τ : Nat → Nat} (hτ : ∀ i, τ (τ i) = i) (h : T w0 K0 nt st a w g) : T w0 K0 nt (st.ren τ) a w ⟨g.K, fun i => g.loc (τ i)⟩ := by
  have hR : ∀ j, Ren2 τ g ⟨g.K, fun i => g.loc (τ i)⟩ st.rs (st.ren τ).rs j := fun j => by
    refine ⟨fun r' hr' => ?_, by show g.loc (τ (τ j)) = _; rw [hτ]⟩
    rw [rs_ren hτ, hτ, Option.map_eq_some_iff] at hr'
    obtain ⟨r, h1, h2⟩ := hr'
    exact ⟨r, h1, h2.symm⟩
  refine ⟨h.below, h.k0, h.kold, h.klt, fun i r hi => ?_, fun i j ri rj hi hj hne b hb => ?_, fun t => ?_, h.nt, h.defers, h.keep⟩
  · rw [rs_ren hτ, Option.map_eq_some_iff] at hi
    obtain ⟨r0, h1, rfl⟩ := hi
    have := RR_ren2 (τ := τ) (g0 := g) (g := ⟨g.K, fun i => g.loc (τ i)⟩) (R0 := st.rs) (R := (st.ren τ).rs) (B := fun b => ¬ Old w0 K0 b) (B0 := fun b => ¬ Old w0 K0 b) rfl (i := τ i) (fun j _ => hR j) (by show g.loc (τ (τ (τ i))) = _; rw [hτ]) (fun b _ hb => hb) (h.res _ _ h1)
    rw [hτ] at this
    exact this
  · rw [rs_ren hτ, Option.map_eq_some_iff] at hi hj
    obtain ⟨r0, h1, _⟩ := hi
    obtain ⟨r1, h2, _⟩ := hj
    exact h.dis _ _ _ _ h1 h2 (fun e => hne (by rw [← hτ i, e, hτ])) b hb
  · rw [get_ren]
    exact SR_ren2 (g0 := g) (g := ⟨g.K, fun i => g.loc (τ i)⟩) rfl _ _ (fun j _ => hR j) (h.env t)

def swp (i j k : Nat) : Nat := if k = i then j else if k = j then i else k
theorem swp_swp (i j k : Nat) : swp i j (swp i j k) = k := by
  unfold swp
  by_cases h1 : k = i
  · subst h1
    by_cases h2 : j = k
    · subst h2; simp
    · simp [h2]
  · by_cases h2 : k = j
    · subst h2; simp [h1]
    · simp [h1, h2]
/-- names swapped at a contract's end -/
theorem ConB.swap (i j : Nat) {f : FuncId} {args rs as1 : List S} {b b' : List (Nat × Res)} (h : ConB P f args b rs as1 b') {rs2 as2 : List S} {b2 : List (Nat × Res)} (h1 : renSs (swp i j) rs = rs2) (h2 : renSs (swp i j) as1 = as2) (h3 : resEnd (St.ren (swp i j) ⟨[], someR b'⟩) b2) : ConB P f args b rs2 as2 b2 := by
  subst h1; subst h2
  refine h.post fun w0 K0 a w g hT => ⟨_, _, hT.ren (swp_swp i j), rfl, rfl, ?_⟩
  have e : (St.ren (swp i j) ⟨[(0, .tup rs), (1, .tup as1)], someR b'⟩).rs = (St.ren (swp i j) ⟨[], someR b'⟩).rs := rfl
  clear h hT
  induction b2 with
  | nil => trivial
  | cons p r ih => exact ⟨by rw [e]; exact h3.1, ih h3.2⟩
/-- a nil slice in a variable's cell, as an own row, at a contract's end -/
theorem ConB.nil (i k N : Nat) {f : FuncId} {args rs as1 : List S} {b b' : List (Nat × Res)} (h : ConB P f args b rs as1 b') (hN : N ≠ i) {rs2 as2 : List S} {b2 : List (Nat × Res)} {ss : List S}
    (h0 : (((St.clr ⟨[], someR b'⟩ N).setR N (some (.arr true 0 [] 0))).rs i) = some (.box false ss)) (hk : ss[k]? = some (.c (.sl true [])))
    (h1 : S.clrs N rs = rs2) (h2 : S.clrs N as1 = as2) (h3 : resEnd (((St.clr ⟨[], someR b'⟩ N).setR N (some (.arr true 0 [] 0))).setR i (some (.box false (ss.set k (.own N 0))))) b2) : ConB P f args b rs2 as2 b2 := by
  subst h1; subst h2
  refine h.post fun w0 K0 a w g hT => ?_
  obtain ⟨g', hT'⟩ := hT.nilcell (i := i) (N := N) (k := k) (ss := ss) hN h0 hk
  refine ⟨_, g', hT', ?_, ?_, ?_⟩
  · rw [St.get_setR, St.get_setR, St.get_clr]; rfl
  · rw [St.get_setR, St.get_setR, St.get_clr]; rfl
  · clear h hT hT'
    induction b2 with
    | nil => trivial
    | cons p r ih => exact ⟨h3.1, ih h3.2⟩
end
end Go.VL
