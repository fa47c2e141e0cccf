/- Contracts of functions of the seat, proved in a logic on data over the model (part V33). -/
import Derived.Test.YtlphpbcafplnbaaGreatVC
set_option linter.unusedSimpArgs false
set_option linter.unusedVariables false
namespace Go.VL
open Go.RowKit
section
variable {P : Program} (ops : Array Oper) (st : St) (d : Option Nat) (ty : TypeId) (p : String) (af : Array Edge) (K : St → Prop) (j : Nat) (want : Bool)
theorem gs_max0 (ts : Array TypeId) (x y : Operand) : vstep P ops st ⟨d, .call ⟨.builtin .max, #[x, y], ts⟩, ty, p, af, some (j, want)⟩ K = goG (gsl ops st j want) [flagOf (st.ev x), flagOf (st.ev y)] (pmm true (peel (st.ev x)) [peel (st.ev y)]) fun s => K (st.putd d s) := by
  rw [ps_eq]; rfl; simp; intro c f h; cases h; simp
@[simp ↓] theorem gs_max (ts : Array TypeId) (x y : Operand) : vstep P ops st ⟨d, .call ⟨.builtin .max, #[x, y], ts⟩, ty, p, af, some (j, want)⟩ K = force (tick (gsl ops st j want)) fun q => force (tick [flagOf (st.ev x), flagOf (st.ev y)]) fun fs => force (tick (pmm true (peel (st.ev x)) [peel (st.ev y)])) fun r => goG q fs r fun s => K (st.putd d s) := gs_max0 ops st d ty p af K j want ts x y
theorem gs_min0 (ts : Array TypeId) (x y : Operand) : vstep P ops st ⟨d, .call ⟨.builtin .min, #[x, y], ts⟩, ty, p, af, some (j, want)⟩ K = goG (gsl ops st j want) [flagOf (st.ev x), flagOf (st.ev y)] (pmm false (peel (st.ev x)) [peel (st.ev y)]) fun s => K (st.putd d s) := by
  rw [ps_eq]; rfl; simp; intro c f h; cases h; simp
@[simp ↓] theorem gs_min (ts : Array TypeId) (x y : Operand) : vstep P ops st ⟨d, .call ⟨.builtin .min, #[x, y], ts⟩, ty, p, af, some (j, want)⟩ K = force (tick (gsl ops st j want)) fun q => force (tick [flagOf (st.ev x), flagOf (st.ev y)]) fun fs => force (tick (pmm false (peel (st.ev x)) [peel (st.ev y)])) fun r => goG q fs r fun s => K (st.putd d s) := gs_min0 ops st d ty p af K j want ts x y
end
end Go.VL
