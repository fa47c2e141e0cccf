/- Contracts of functions of the seat, proved in a logic on data over the model (part T6). -/
import Derived.Test.YtddhmoffjpnbgaaT5
import Derived.Test.YtddhmoffjpnbgaaVN3
set_option linter.unusedSimpArgs false
set_option linter.unusedVariables false
namespace Go.Proofs.Ytddhmoffjpnbgaa
open Go.VL Go.RowKit

theorem vs_assign_nilFunc {P : Program} {ops : Array Oper} {st : St} {K : St → Prop} {ty : TypeId} {p : String} {af : Array Edge} (x : Nat) :
    vstep P ops st ⟨some x, .assign (.const .nilFunc), ty, p, af, none⟩ K = (True ∧ K (st.put x (.c (.v .nilFunc)))) := rfl

set_option maxRecDepth 4000 in
set_option maxHeartbeats 8000000 in
theorem values_spec (kvs : List (Value × List C)) : ConB Try.prog 16 [.mp 2] [(2, .map (.ents (mpE kvs)))] [.fnp 28 [.ptr 64 0]] [.mp 2] [(64, .box false [.mp 2]), (2, .map (.ents (mpE kvs)))] := by
  refine spec_ofB 3 Try.func16 rfl (by kernel_rfl) (by simp [Try.f16]) (by simp) rfl (fun w0 K0 uf => vx_ok (H := fun id => true) _ _ _ (by kernel_rfl) ?_)
  simp only [Try.f16]
  simp -dsimp [initB, initEnv, pinsOf]
  refine VL.hand (by kernel_rfl) ?_
  refine VRS.boxM (i := 2) (mpE kvs) (by simp) (by simp) (by decide) ?_
  refine VRS.fin ?_
  simp -dsimp [vs_assign_nilFunc]
  refine VL.hand (by kernel_rfl) ?_
  refine VRS.fnM (i := 64) (off := 0) (by simp) ?_
  refine VRS.fin ?_
  simp -dsimp
end Go.Proofs.Ytddhmoffjpnbgaa
