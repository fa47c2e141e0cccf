/- Contracts of functions of the seat, proved in a logic on data over the model (part VA8). -/
import Derived.Test.YtlphpbcafplnbaaGreatVF
import Derived.Test.YtlphpbcafplnbaaGreatVC
set_option linter.unusedSimpArgs false
set_option linter.unusedVariables false
namespace Go.VL
open Go.RowKit
section
variable {P : Program} {w0 : World} {K0 : K0T} {nt : Nat} {OPS : Array Oper}
def VA (P : Program) (w0 : World) (K0 : K0T) (nt : Nat) (OPS : Array Oper) (n : Nat) (done : Array Bool) (st : St) (K : St → Prop) : Prop :=
  ∀ a w g, T w0 K0 nt st a w g → ∀ Q : Exit → Act → World → Prop, (∀ st' a' w' g', K st' → T w0 K0 nt st' a' w' g' → Q .normal a' w') → wpAny P .any OPS Q n done a w
theorem VA.fin {n : Nat} {done : Array Bool} {st : St} {K : St → Prop} (hr : Region.ready .any OPS done = []) (h : K st) : VA P w0 K0 nt OPS n done st K := by
  intro a w g hT Q hn
  cases n with
  | zero => exact ⟨hr, hn st a w g h hT⟩
  | succ n => exact ⟨fun _ => hn st a w g h hT, fun i hi => by rw [hr] at hi; cases hi⟩
def VOp (P : Program) (w0 : World) (K0 : K0T) (nt : Nat) (OPS : Array Oper) (n : Nat) (done : Array Bool) (i : Nat) (st : St) (K : St → Prop) : Prop :=
  ∀ a w g, T w0 K0 nt st a w g → ∀ Q : Exit → Act → World → Prop, (∀ st' a' w' g', K st' → T w0 K0 nt st' a' w' g' → Q .normal a' w') → wpOp P OPS Q i (wpAny P .any OPS Q n (done.setIfInBounds i true)) a w
theorem VA.node {n : Nat} {done : Array Bool} {st : St} {K : St → Prop} (is : List Nat) (hr : Region.ready .any OPS done = is) (hne : is ≠ []) (h : ∀ i ∈ is, VOp P w0 K0 nt OPS n done i st K) : VA P w0 K0 nt OPS (n + 1) done st K := by
  intro a w g hT Q hn
  refine ⟨fun h0 => absurd (hr.symm.trans h0) hne, fun i hi => ?_⟩
  rw [hr] at hi
  exact h i hi a w g hT Q hn
theorem VOp.step {n : Nat} {done : Array Bool} {i : Nat} {o : Oper} {st : St} {K : St → Prop} (ho : OPS[i]? = some o)
    (h : ∀ a w g, T w0 K0 nt st a w g → ∀ (next : Act → World → Prop) (Q : Exit → Act → World → Prop), (∀ st' a' w' g', VA P w0 K0 nt OPS n (done.setIfInBounds i true) st' K → T w0 K0 nt st' a' w' g' → next a' w') → stepW P OPS o a w next Q) :
    VOp P w0 K0 nt OPS n done i st K := by
  intro a w g hT Q hn
  have h1 := h a w g hT (wpAny P .any OPS Q n (done.setIfInBounds i true)) Q (fun st' a' w' g' h1 h2 => h1 a' w' g' h2 Q hn)
  unfold wpOp
  rw [ho]
  unfold stepW at h1
  simp only
  split
  · rename_i hw
    rw [if_pos hw] at h1
    exact .inl h1
  · rename_i hw
    rw [if_neg hw] at h1
    exact h1
theorem VOp.run {n : Nat} {done : Array Bool} {i : Nat} {o : Oper} {st : St} {K : St → Prop} (ho : OPS[i]? = some o) (hok : opOk nt o = true)
    (h : vstepL P OPS st o fun st' => VA P w0 K0 nt OPS n (done.setIfInBounds i true) st' K) : VOp P w0 K0 nt OPS n done i st K :=
  VOp.step ho fun a w g hT next Q hn => vstepL_ok hT hok h next Q hn
theorem VL.any {id : Nat} {ops : List Oper} {st : St} {Q : Exit → St → Prop} {m1 : Keep (Code.region id ops.toArray true)} {m2 : Keep Q} (hm : P.follows .mixedOrders = true)
    (h : VA P w0 K0 nt ops.toArray ops.length (Array.replicate ops.length false) st (Q .normal)) : VL P w0 K0 nt (.region id ops.toArray true) st Q m1 m2 := fun a w g hT => by
  refine wp_region_any hm ?_
  have hT' : T w0 K0 nt st a { w with drawn := w.drawn + 1 } g :=
    hT.world (w' := { w with drawn := w.drawn + 1 }) (K' := g.K) ⟨rfl, rfl, rfl, Nat.le_refl _, fun _ _ => rfl, Nat.le_succ _⟩ ⟨fun _ _ h => h, fun _ _ _ => rfl⟩ hT.kold hT.klt (fun _ _ _ _ _ => ⟨rfl, fun _ h => h⟩)
  exact h a _ g hT' _ fun st' a' w' g' h1 h2 => ⟨st', g', h1, h2⟩
end
end Go.VL
