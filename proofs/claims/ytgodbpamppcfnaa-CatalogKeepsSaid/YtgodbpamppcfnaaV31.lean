/-
  A logic on data over the model's walk, part 31: loops at whose heads names may be turned.
-/
import Derived.Test.YtgodbpamppcfnaaV30
import Derived.Test.YtgodbpamppcfnaaVC
set_option linter.unusedSimpArgs false
set_option linter.unusedVariables false
namespace Go.VL
open Go.RowKit

/-- A LOOP, at whose head names may be turned (τ) -/
theorem VL.loopR {P : Program} {w0 : World} {K0 : K0T} {nt : Nat} {c : Code} {st : St} {Q : Exit → St → Prop} {m1 : Keep (Code.loop c)} {m2 : Keep Q} {ι : Type} (I : ι → St) (H : ι → Prop) (μ : ι → Nat) (i0 : ι) (hok : codeOk nt c = true) (h0 : H i0) (hst : st.le (I i0))
    (round : ∀ i, H i → vc P w0 K0 nt c (I i) (seqQ (fun st' => ∃ j, ∃ τ : Nat → Nat, H j ∧ (∀ n, τ (τ n) = n) ∧ (st'.ren τ).le (I j) ∧ μ j < μ i) Q)) : VL P w0 K0 nt (.loop c) st Q m1 m2 := by
  intro a w g hT
  refine wp_loop_ghost (fun n a w => ∃ i g, μ i = n ∧ H i ∧ T w0 K0 nt (I i) a w g) (μ i0) ⟨i0, g, rfl, h0, hT.weaken hst⟩ (fun n a w hI => ?_)
  obtain ⟨i, g, rfl, hH, hT⟩ := hI
  refine wp_mono (vc_ok c (I i) _ hok (round i hH) a w g hT) fun e _ _ ⟨st', g', h1, h2⟩ => ?_
  cases e with
  | normal =>
    obtain ⟨j, τ, k1, k0, k2, k3⟩ := h1
    exact ⟨μ j, k3, j, _, rfl, k1, (h2.ren k0).weaken k2⟩
  | _ => exact ⟨st', g', h1, h2⟩
end Go.VL
