/- Contracts of functions of the seat, proved in a logic on data over the model (part C16). -/
import Derived.Test.YtgodbpamppcfnaaC15
import Derived.Test.YtgodbpamppcfnaaC11
set_option linter.unusedSimpArgs false
set_option linter.unusedVariables false
namespace Go.Proofs.Ytgodbpamppcfnaa
open Go.VL Go.RowKit

theorem vs_assign_ptr {P : Program} {ops : Array Oper} {st : St} {K : St → Prop} {ty : TypeId} {p : String} {af : Array Edge} (x : Nat) :
    vstep P ops st ⟨some x, .assign (.const (.pointer none)), ty, p, af, none⟩ K = (True ∧ K (st.put x (.c (.v (.pointer none))))) := rfl

set_option maxRecDepth 4000 in
set_option maxHeartbeats 4000000 in
theorem new_spec0 : ConB Try.prog 21 [] [] [.ptr 128 0] [] [(128, .box false [.c (.sl true [])])] := by
  refine spec_ofB 3 Try.func21 rfl (by kernel_rfl) (by simp [Try.f21]) (by simp) rfl (fun w0 K0 uf => vc_ok _ _ _ (by kernel_rfl) ?_)
  simp only [Try.f21]
  simp -dsimp [initB, initEnv, pinsOf, vs_assign_ptr]
/-- New -/
theorem new_spec : ConB Try.prog 21 [] [] [.ptr 1 0] [] (catB true 0 [] 0) := by
  have h1 : ConB Try.prog 21 [] [] [.ptr 128 0] [] [(128, .box false [.own 2 0]), (2, .arr true 0 [] 0)] :=
    new_spec0.nil (ss := [.c (.sl true [])]) 128 0 2 (by decide) (by simp [St.clr, someR, Res.clr, S.clr]) rfl rfl rfl (by simp [resEnd, St.clr, someR])
  exact h1.swap 1 128 (by simp [renSs, renS, swp]) rfl (by simp [resEnd, St.ren, someR, renR, renSs, renS, swp, catB])
end Go.Proofs.Ytgodbpamppcfnaa
