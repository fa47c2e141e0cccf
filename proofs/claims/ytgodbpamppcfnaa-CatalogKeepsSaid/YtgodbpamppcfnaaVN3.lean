/- Variables that hold a map's handle, and functions that capture them. -/
import Derived.Test.YtgodbpamppcfnaaVN1
import Derived.Test.YtgodbpamppcfnaaVM
set_option linter.unusedSimpArgs false
set_option linter.unusedVariables false
namespace Go.VL
open Go.RowKit
section
variable {P : Program} {w0 : World} {K0 : K0T} {nt : Nat} {OPS : Array Oper}
/-- A VARIABLE THAT HOLDS A MAP'S HANDLE -/
theorem VRS.boxM {y i : Nat} {t ty : TypeId} {x : Operand} {p : String} {af : Array Edge} {l : List Oper} {st : St} {K : St → Prop} (kvs : List (Value × List S))
    (hx : st.ev x = .mp i) (hr : st.rs i = some (.map (.ents kvs))) (hi : i ≠ 64 * y)
    (h : VRS P w0 K0 nt OPS l (((st.clr (64 * y)).setR (64 * y) (some (.box false [.mp i]))).put y (.ptr (64 * y) 0)) K) : VRS P w0 K0 nt OPS (⟨some y, .box t x, ty, p, af, none⟩ :: l) st K := by
  refine VRS.step fun hok a w g hT next Q hn' => wanted_step hT rfl ?_
  have hd := opOk_dst hok
  have hex := hT.ev x
  have hex0 := hex
  rw [hx, SR] at hex
  have hu := hex _ hr
  obtain ⟨b, es, hl, _⟩ := hT.res i _ hr
  rw [hl] at hu
  have hcells : (a.eval x).cells = #[.map (some b)] := by rw [hu]; rfl
  obtain ⟨g2, m1, m2, m3, m4⟩ := hT.newbox (64 * y) [.mp i] [a.eval x] t (by rw [SRs]; exact ⟨_, [], rfl, by rw [← hx]; exact hex0, by rw [SRs]⟩) (by simp [hu, Value.oneCell']) (by simp [S.mens, S.men, hi])
  have hrun : (execOp a.eval ⟨some y, .box t x, ty, p, af, none⟩).run P w = .ok (.value (.pointer (some ⟨w.heap.size, 0, none⟩))) (w.alloc (.cells [a.eval x].toArray t)) := by
    simp [execOp, Instr.box, newVar, newRow, hcells, hu]
  refine ow_value hrun (hn' _ _ _ g2 h ?_)
  exact m1.putp (hd y rfl) m2
/-- A FUNCTION THAT CAPTURES A VARIABLE -/
theorem VRS.fnM {y i off : Nat} {f : FuncId} {ty : TypeId} {x : Operand} {p : String} {af : Array Edge} {l : List Oper} {st : St} {K : St → Prop}
    (hx : st.ev x = .ptr i off) (h : VRS P w0 K0 nt OPS l (st.put y (.fnp f [.ptr i off])) K) : VRS P w0 K0 nt OPS (⟨some y, .makeFunc (.func f) #[] #[x], ty, p, af, none⟩ :: l) st K := by
  refine VRS.step fun hok a w g hT next Q hn' => wanted_step hT rfl ?_
  have hd := opOk_dst hok
  have hex := hT.ev x
  rw [hx] at hex
  refine ow_value (u := .func (.func f) #[] #[a.eval x]) (w' := w) (by simp [execOp, Instr.makeFunc]) (hn' _ _ w g h ?_)
  refine hT.put (hd y rfl) ?_
  rw [SR]
  exact ⟨[a.eval x], rfl, by rw [SRs]; exact ⟨_, [], rfl, hex, by rw [SRs]⟩⟩
end
end Go.VL
