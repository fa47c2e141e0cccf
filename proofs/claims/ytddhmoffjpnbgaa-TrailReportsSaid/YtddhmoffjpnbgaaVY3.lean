/- Rounds, part 3: the contract of a function that yields, out of its body. -/
import Derived.Test.YtddhmoffjpnbgaaVY2
import Derived.Test.YtddhmoffjpnbgaaVC
set_option linter.unusedSimpArgs false
set_option linter.unusedVariables false
namespace Go.VL
open Go.RowKit

/-- THE CONTRACT of a function that yields (to the loop l, its first argument): what it is lent (b), forgotten then; what it yields meets Qy -/
def ConY (P : Program) (f : FuncId) (args : List S) (b : List (Nat × Res)) (N : Nat) (Ty : List S → Prop) (Qy : List (List S) → Prop) : Prop :=
  callable P f = true ∧ ∀ (l : Nat) (Kc : Nat → Nat → Prop) (J : Oth), J.Ab Kc → YStep Kc P l N Ty J → ∀ (w : World) (g : G) (us : List Value) (Fo : Nat → Prop),
    M w ⟨g.K, fun k => lent g b k ∨ Fo k, []⟩ (lk b) w g → SRs g w (lk b) (.c (.v (.func (.yield l) #[] #[])) :: args) us → J [] w Fo → (∀ i r k, lk b i = some r → blk (g.loc i) = some k → ¬ Fo k) →
    (∀ k o, g.K k o → Fo k → Kc k o) → (∀ k o, Kc k o → g.K k o) →
    Calls P f us.toArray w fun e w' => (∃ v, e = .returned v) ∧ ∃ ys Fo', Qy ys ∧ J ys w' Fo' ∧ Bel w ⟨g.K, fun k => lent g b k ∨ Fo k, []⟩ w w' ∧ (∀ k o, g.K k o → w'.cell? ⟨k, o, none⟩ = w.cell? ⟨k, o, none⟩) ∧
      (∀ k, Fo' k → ¬ Old w ⟨g.K, fun k => lent g b k ∨ Fo k, []⟩ k)

def initY (args : List S) (b : List (Nat × Res)) : St := ⟨initEnv 0 args, b.map fun p => (p.1, some p.2)⟩
def retY (Qy : List (List S) → Prop) : Exit → St → List (List S) → Prop
  | .normal, _, pre => Qy pre
  | .ret, _, pre => Qy pre
  | _, _, _ => False
section
variable {P : Program}
theorem M.init0 {w0 : World} {K0 : K0T} {nt : Nat} {args : List S} {b : List (Nat × Res)} {us : List Value} {w : World} {g : G} (hM : M w0 K0 (lk b) w g) (hdf : K0.df = []) (hargs : SRs g w (lk b) args us) (hn : args.length ≤ nt) :
    T w0 K0 nt (initY args b) { tmps := us.toArray ++ Array.replicate (nt - us.toArray.size) undef, defers := [] } w g := by
  obtain ⟨hl, hs⟩ := (SRs_iff _ _).1 hargs
  refine ⟨hM.below, hM.k0, hM.kold, hM.klt, hM.res, hM.dis, fun t => ?_, (by simp; omega), hdf.symm, hM.keep⟩
  have hg : (initY args b).get t = (args[t]?).getD .un := by
    unfold St.get initY
    rw [vlook_init]; simp
  show SR g w (lk b) ((initY args b).get t) _
  rw [hg]
  cases e : args[t]? with
  | none => simp [SR]
  | some s =>
    have hlt := (List.getElem?_eq_some_iff.1 e).1
    refine hs t s _ e ?_
    simp [Array.getD, hl, hlt]
    omega
theorem spec_ofY {f : FuncId} {fn : Func} {c : Code} {args : List S} {b : List (Nat × Res)} {N : Nat} {Ty : List S → Prop} {Qy : List (List S) → Prop} (hf : P.funcs[f]? = some fn) (hb : fn.body = some c) (hc : callable P f = true) (hn : args.length + 1 ≤ fn.ntmps) (hr : fn.results = #[])
    (hv : ∀ w0 K0 l Kc J, J.Ab Kc → YStep Kc P l N Ty J → VWJ P w0 K0 fn.ntmps Kc J c (initY (.c (.v (.func (.yield l) #[] #[])) :: args) b) [] (retY Qy)) : ConY P f args b N Ty Qy := by
  refine ⟨hc, fun l Kc J hJ hY w g us Fo hM hargs hj hres hk hkc => ?_⟩
  have hT := hM.init0 (nt := fn.ntmps) rfl hargs (by simpa using hn)
  have hTJ : TJ w ⟨g.K, fun k => lent g b k ∨ Fo k, []⟩ fn.ntmps Kc J (initY (.c (.v (.func (.yield l) #[] #[])) :: args) b) _ w g [] Fo :=
    ⟨hT, hj, fun k hF ho => ho.2 (.inr hF), hres, hk, hkc⟩
  refine calls_of_wp hf hb (wp_mono (hv w _ l Kc J hJ hY _ w g Fo hTJ) fun e a' w' ⟨st', g', pre', Fo', h1, h2⟩ => ?_)
  have fin : Qy pre' → a'.defers = [] ∧ ∃ v, (results fn a'.tmps).run P w' = .ok v w' ∧ ((∃ v', (Ending.returned v) = .returned v') ∧ ∃ ys Fo', Qy ys ∧ J ys w' Fo' ∧ Bel w ⟨g.K, fun k => lent g b k ∨ Fo k, []⟩ w w' ∧ (∀ k o, g.K k o → w'.cell? ⟨k, o, none⟩ = w.cell? ⟨k, o, none⟩) ∧
      (∀ k, Fo' k → ¬ Old w ⟨g.K, fun k => lent g b k ∨ Fo k, []⟩ k)) := fun hq => by
    refine ⟨h2.t.defers, .tuple #[], ?_, ⟨_, rfl⟩, pre', Fo', hq, h2.j, h2.t.below, h2.t.keep, h2.old⟩
    exact results_none hr _ _ _
  cases e with
  | normal => exact fin h1
  | ret => exact fin h1
  | _ => exact h1.elim
end
end Go.VL
