/-
  A logic on data over the model's walk, part 27: loops at whose heads own rows become such that stay as they are.
-/
import Derived.Test.YtgodbpamppcfnaaV26
set_option linter.unusedSimpArgs false
set_option linter.unusedVariables false
namespace Go.VL
open Go.RowKit

/-- own rows stay as they are from now on -/
def frzR (st : St) (i : Nat) : Option Res → St
  | some (.arr nil sz xs _) => st.setR i (some (.arr nil sz xs xs.length))
  | _ => st
def St.frz : List Nat → St → St
  | [], st => st
  | i :: r, st => St.frz r (frzR st i (st.rs i))
@[simp] theorem frz_nil (st : St) : St.frz [] st = st := rfl
@[simp] theorem frz_cons (i : Nat) (r : List Nat) (st : St) : St.frz (i :: r) st = St.frz r (frzR st i (st.rs i)) := rfl
@[simp] theorem frzR_arr (st : St) (i : Nat) (nil : Bool) (sz : Nat) (xs : List (List C)) (fx : Nat) : frzR st i (some (.arr nil sz xs fx)) = st.setR i (some (.arr nil sz xs xs.length)) := rfl

theorem T.frz {w0 : World} {K0 : K0T} {nt : Nat} {a : Act} {w : World} : ∀ (l : List Nat) {st : St} {g : G}, T w0 K0 nt st a w g → ∃ g', T w0 K0 nt (st.frz l) a w g'
  | [], st, g, h => ⟨g, h⟩
  | i :: r, st, g, h => by
    rw [frz_cons]
    cases hr : st.rs i with
    | none => exact T.frz r h
    | some x =>
      cases x with
      | arr nil sz xs fx => obtain ⟨g', h', _⟩ := h.snap hr; exact T.frz r h'
      | box _ _ => exact T.frz r h
      | pin _ _ => exact T.frz r h

/-- a loop's index where a row grows: how far; is the row nil, the cells of an element -/
structure LI where
  k : Nat
  nl : Bool
  sz : Nat

/-- A LOOP, own rows (fz) staying as they are at every round's head -/
theorem VL.loopF {P : Program} {w0 : World} {K0 : K0T} {nt : Nat} {c : Code} {st : St} {Q : Exit → St → Prop} {m1 : Keep (Code.loop c)} {m2 : Keep Q} {ι : Type} (fz : List Nat) (I : ι → St) (H : ι → Prop) (μ : ι → Nat) (i0 : ι) (hok : codeOk nt c = true) (h0 : H i0) (hst : (st.frz fz).le (I i0))
    (round : ∀ i, H i → vc P w0 K0 nt c (I i) (seqQ (fun st' => ∃ j, H j ∧ (st'.frz fz).le (I j) ∧ μ j < μ i) Q)) : VL P w0 K0 nt (.loop c) st Q m1 m2 := by
  intro a w g hT
  obtain ⟨g0, hT0⟩ := hT.frz fz
  refine wp_loop_ghost (fun n a w => ∃ i g, μ i = n ∧ H i ∧ T w0 K0 nt (I i) a w g) (μ i0) ⟨i0, g0, rfl, h0, hT0.weaken hst⟩ (fun n a w hI => ?_)
  obtain ⟨i, g, rfl, hH, hT⟩ := hI
  refine wp_mono (vc_ok c (I i) _ hok (round i hH) a w g hT) fun e _ _ ⟨st', g', h1, h2⟩ => ?_
  cases e with
  | normal =>
    obtain ⟨j, k1, k2, k3⟩ := h1
    obtain ⟨g1, h3⟩ := h2.frz fz
    exact ⟨μ j, k3, j, g1, rfl, k1, h3.weaken k2⟩
  | _ => exact ⟨st', g', h1, h2⟩
end Go.VL
