/- Maps, part 5: how simp reckons the steps. -/
import Derived.Test.YtgodbpamppcfnaaVB
set_option linter.unusedSimpArgs false
set_option linter.unusedVariables false
namespace Go.VL
open Go.RowKit
section
variable {P : Program} {ops : Array Oper} {st : St} {K : St → Prop} {ty : TypeId} {p : String} {af : Array Edge}
def vlkR (P : Program) (dst : Option Nat) (st : St) (t : TypeId) (ok : Bool) (K : St → Prop) (kv : Value) (r : Option Res) : Prop :=
  match r, mpT P t with
  | some (.map (.ents kvs)), some (_, d, e) => match zeroOf P e with
    | some z => kfits d kv = true ∧ (kvs.all fun x => kfits d x.1) = true ∧ K (st.putd dst (lkS ok (findK kv kvs) z))
    | none => False
  | _, _ => False
@[simp ↓] theorem vlkup_mp (dst : Option Nat) (t : TypeId) (i : Nat) (kv : Value) (ok : Bool) : vlkup P dst st t (.mp i) (.c (.v kv)) ok K = force (tick (st.rs i)) fun r => vlkR P dst st t ok K kv r := rfl
theorem vlkR_map (dst : Option Nat) (t kt et : TypeId) (td : TypeDesc) (z : Value) (ok : Bool) (kv : Value) (kvs : List (Value × List S)) (h1 : mpT P t = some (kt, td, et)) (h2 : zeroOf P et = some z) :
    vlkR P dst st t ok K kv (some (.map (.ents kvs))) = (kfits td kv = true ∧ (kvs.all fun x => kfits td x.1) = true ∧ K (st.putd dst (lkS ok (findK kv kvs) z))) := by
  unfold vlkR; rw [h1]; simp only; rw [h2]
def vmuR (P : Program) (dst : Option Nat) (st : St) (t : TypeId) (K : St → Prop) (i : Nat) (kv : Value) (cs : Option (List S)) (r : Option Res) : Prop :=
  match cs with
  | some cs => match r, mpT P t with
    | some (.map (.ents kvs)), some (_, d, _) => kfits d kv = true ∧ (kvs.all fun x => kfits d x.1) = true ∧ K ((st.setR i (some (.map (.ents (putK kv cs kvs))))).putd dst .un)
    | _, _ => False
  | none => False
@[simp ↓] theorem vmapUp_mp (dst : Option Nat) (t : TypeId) (i : Nat) (kv : Value) (x : S) : vmapUp P dst st t (.mp i) (.c (.v kv)) x K = force (tick (entC st x)) fun cs => force (tick (st.rs i)) fun r => vmuR P dst st t K i kv cs r := by
  show vmapUp P dst st t (.mp i) (.c (.v kv)) x K = vmuR P dst st t K i kv (entC st x) (st.rs i)
  unfold vmapUp vmuR
  cases entC st x <;> rfl
theorem vmuR_map (dst : Option Nat) (t kt et : TypeId) (td : TypeDesc) (i : Nat) (kv : Value) (cs : List S) (kvs : List (Value × List S)) (h1 : mpT P t = some (kt, td, et)) :
    vmuR P dst st t K i kv (some cs) (some (.map (.ents kvs))) = (kfits td kv = true ∧ (kvs.all fun x => kfits td x.1) = true ∧ K ((st.setR i (some (.map (.ents (putK kv cs kvs))))).putd dst .un)) := by
  unfold vmuR; rw [h1]
@[simp ↓] theorem vs_lookup (d : Option Nat) (t : TypeId) (m k : Operand) (ok : Bool) : vstep P ops st ⟨d, .lookup t m k ok, ty, p, af, none⟩ K = force (tick (st.ev m)) fun m => force (tick (st.ev k)) fun k => vlkup P d st t m k ok K := rfl
@[simp ↓] theorem vs_mapUpdate (d : Option Nat) (t : TypeId) (m k x : Operand) : vstep P ops st ⟨d, .mapUpdate t m k x, ty, p, af, none⟩ K = force (tick (st.ev m)) fun m => force (tick (st.ev k)) fun k => force (tick (st.ev x)) fun x => vmapUp P d st t m k x K := rfl
@[simp ↓] theorem vs_makeMap (x : Nat) (t : TypeId) : vstep P ops st ⟨some x, .makeMap t none, ty, p, af, none⟩ K = K (((st.clr (64 * x)).setR (64 * x) (some (.map (.ents [])))).put x (.mp (64 * x))) := rfl
@[simp] theorem entC_c (x : C) : entC st (.c x) = some [.c x] := rfl
@[simp] theorem entC_agg (a b : C) (cs : List C) : entC st (.agg (a :: b :: cs)) = some ((a :: b :: cs).map .c) := by simp [entC]
@[simp] theorem entS_one (s : S) : entS [s] = s := rfl
@[simp] theorem allCs_map (cs : List C) : allCs (cs.map .c) = some cs := by
  induction cs with
  | nil => rfl
  | cons c r ih => simp [allCs, ih]
@[simp] theorem allCs_c (c : C) (r : List S) : allCs (.c c :: r) = (allCs r).map (c :: ·) := rfl
@[simp] theorem allCs_nil : allCs [] = some [] := rfl
theorem entS_many (a b : S) (cs : List S) (l : List C) (h : allCs (a :: b :: cs) = some l) : entS (a :: b :: cs) = .agg l := by simp only [entS, h]
@[simp] theorem entS_cc (a b : C) (cs : List C) : entS (.c a :: .c b :: cs.map .c) = .agg (a :: b :: cs) := entS_many _ _ _ _ (by simp)
/-- where a loop's state holds a map's entries, as keys with data -/
def mpE (l : List (Value × List C)) : List (Value × List S) := l.map fun x => (x.1, x.2.map .c)
@[simp] theorem MB.clr_iter (i bm n : Nat) (seen : List Nat) : (MB.iter bm n seen).clr i = .iter bm n seen := rfl
@[simp] theorem MB.clr_nil (i : Nat) : (MB.ents []).clr i = .ents [] := rfl
theorem clr_c (i : Nat) (cs : List C) : (cs.map S.c).map (S.clr i) = cs.map S.c := by simp [S.clr]
@[simp] theorem MB.clr_mpE (i : Nat) (l : List (Value × List C)) : (MB.ents (mpE l)).clr i = .ents (mpE l) := by
  simp [MB.clr, MB.map, mpE, clr_c]
end
end Go.VL
