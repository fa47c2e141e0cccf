/- Maps, part 6: how simp reckons ranges over maps. -/
import Derived.Test.YtddhmoffjpnbgaaVM5
import Derived.Test.YtddhmoffjpnbgaaVB
set_option linter.unusedSimpArgs false
set_option linter.unusedVariables false
namespace Go.VL
open Go.RowKit
section
variable {P : Program} {ops : Array Oper} {st : St} {K : St → Prop} {ty : TypeId} {p : String} {af : Array Edge}
def vrgR (P : Program) (st : St) (x : Nat) (t : TypeId) (i : Nat) (K : St → Prop) (r : Option Res) : Prop :=
  match r, mpT P t with
  | some (.map (.ents kvs)), some _ => ∀ bm : Nat, K ((((((st.clr (64 * x + 1)).setR (64 * x + 1) (some (.pin (.map (some bm)) (S.clr (64 * x + 1) (.mp i))))).clr (64 * x)).setR (64 * x) (some (.map (.iter bm kvs.length []))))).put x (.mp (64 * x)))
  | _, _ => False
@[simp ↓] theorem vs_range (x : Nat) (t : TypeId) (m : Operand) : vstep P ops st ⟨some x, .range t m, ty, p, af, none⟩ K = force (tick (st.ev m)) fun m => vrange P (some x) st t m K := rfl
@[simp ↓] theorem vrange_mp (x : Nat) (t : TypeId) (i : Nat) : vrange P (some x) st t (.mp i) K = force (tick (st.rs i)) fun r => vrgR P st x t i K r := rfl
@[simp ↓] theorem vrgR_ents (x : Nat) (t : TypeId) (i : Nat) (kvs : List (Value × List S)) : vrgR P st x t i K (some (.map (.ents kvs))) =
    ((mpT P t).isSome = true ∧ ∀ bm : Nat, force (tick ((((((st.clr (64 * x + 1)).setR (64 * x + 1) (some (.pin (.map (some bm)) (S.clr (64 * x + 1) (.mp i))))).clr (64 * x)).setR (64 * x) (some (.map (.iter bm kvs.length []))))).put x (.mp (64 * x)))) K) := by
  unfold vrgR force tick
  cases mpT P t <;> simp
def vnx3 (d : Option Nat) (st : St) (K : St → Prop) (y bm n : Nat) (seen : List Nat) (bm' : Nat) (r : Option Res) : Prop :=
  match r with
  | some (.map (.ents kvs)) => bm = bm' ∧ n = kvs.length ∧ (kvs.all fun x => x.1.oneCell') = true ∧ (todoK n seen = [] → K (st.putd d (.tup [.c (.v (.bool false))]))) ∧
      ∀ j k cs, j ∈ todoK n seen → kvs[j]? = some (k, cs) → K ((st.setR y (some (.map (.iter bm n (seen ++ [j]))))).putd d (.tup [.c (.v (.bool true)), .c (.v k), entS cs]))
  | _ => False
def vnxR (d : Option Nat) (st : St) (K : St → Prop) (y : Nat) (r1 r2 : Option Res) : Prop :=
  match r1, r2 with
  | some (.map (.iter bm n seen)), some (.pin (.map (some bm')) (.mp i)) => vnx3 d st K y bm n seen bm' (st.rs i)
  | _, _ => False
@[simp ↓] theorem vs_next (d : Option Nat) (it : Operand) : vstep P ops st ⟨d, .next it false, ty, p, af, none⟩ K = force (tick (st.ev it)) fun s => vnext d st s K := rfl
@[simp ↓] theorem vnext_mp (d : Option Nat) (y : Nat) : vnext d st (.mp y) K = force (tick (st.rs y)) fun r1 => force (tick (st.rs (y + 1))) fun r2 => vnxR d st K y r1 r2 := by
  show vnext d st (.mp y) K = vnxR d st K y (st.rs y) (st.rs (y + 1))
  unfold vnext vnxR
  simp only
  split
  · rename_i bm n seen bm' i h1 h2
    simp only [h1, h2]
    unfold vnx3
    rfl
  · rename_i h
    split
    · rename_i bm n seen bm' i h1 h2
      exact (h _ _ _ _ _ h1 h2).elim
    · rfl
@[simp ↓] theorem vnxR_it (d : Option Nat) (y bm n : Nat) (seen : List Nat) (bm' i : Nat) : vnxR d st K y (some (.map (.iter bm n seen))) (some (.pin (.map (some bm')) (.mp i))) = force (tick (st.rs i)) fun r => vnx3 d st K y bm n seen bm' r := rfl
@[simp ↓] theorem vnx3_mpE (d : Option Nat) (y bm n : Nat) (seen : List Nat) (bm' : Nat) (l : List (Value × List C)) : vnx3 d st K y bm n seen bm' (some (.map (.ents (mpE l)))) =
    (bm = bm' ∧ n = l.length ∧ (l.all fun x => x.1.oneCell') = true ∧ (todoK n seen = [] → force (tick (st.putd d (.tup [.c (.v (.bool false))]))) K) ∧
      ∀ j, (hj : j < l.length) → j ∉ seen → force (tick ((st.setR y (some (.map (.iter bm n (seen ++ [j]))))).putd d (.tup [.c (.v (.bool true)), .c (.v l[j].1), entS (l[j].2.map .c)]))) K) := by
  unfold vnx3 force tick
  simp only [mpE, List.length_map, List.all_map, Function.comp_def, eq_iff_iff]
  refine and_congr_right fun _ => and_congr_right fun hn => and_congr_right fun _ => and_congr_right fun _ => ⟨fun h j hj hs => ?_, fun h j k cs hj hk => ?_⟩
  · exact h j _ _ (todoK_mem.2 ⟨by omega, hs⟩) (by simp [hj])
  · obtain ⟨h1, h2⟩ := todoK_mem.1 hj
    have hj' : j < l.length := by omega
    simp only [List.getElem?_map, List.getElem?_eq_getElem hj', Option.map_some, Option.some.injEq, Prod.mk.injEq] at hk
    obtain ⟨rfl, rfl⟩ := hk
    exact h j hj' h2
def ven3 (d : Option Nat) (st : St) (K : St → Prop) (bm n : Nat) (seen : List Nat) (bm' : Nat) (r : Option Res) : Prop :=
  match r, seen.getLast? with
  | some (.map (.ents kvs)), some j => match kvs[j]? with
    | some (k, cs) => bm = bm' ∧ n = kvs.length ∧ k.oneCell' = true ∧ K (st.putd d (.tup [.c (.v k), entS cs]))
    | none => False
  | _, _ => False
def venR (d : Option Nat) (st : St) (K : St → Prop) (r1 r2 : Option Res) : Prop :=
  match r1, r2 with
  | some (.map (.iter bm n seen)), some (.pin (.map (some bm')) (.mp i)) => ven3 d st K bm n seen bm' (st.rs i)
  | _, _ => False
@[simp ↓] theorem vs_entry (d : Option Nat) (it : Operand) : vstep P ops st ⟨d, .entry it, ty, p, af, none⟩ K = force (tick (st.ev it)) fun s => ventry d st s K := rfl
@[simp ↓] theorem ventry_mp (d : Option Nat) (y : Nat) : ventry d st (.mp y) K = force (tick (st.rs y)) fun r1 => force (tick (st.rs (y + 1))) fun r2 => venR d st K r1 r2 := by
  show ventry d st (.mp y) K = venR d st K (st.rs y) (st.rs (y + 1))
  unfold ventry venR
  simp only
  split
  · rename_i bm n seen bm' i h1 h2
    simp only [h1, h2]
    unfold ven3
    rfl
  · rename_i h
    split
    · rename_i bm n seen bm' i h1 h2
      exact (h _ _ _ _ _ h1 h2).elim
    · rfl
@[simp ↓] theorem venR_it (d : Option Nat) (bm n : Nat) (seen : List Nat) (bm' i : Nat) : venR d st K (some (.map (.iter bm n seen))) (some (.pin (.map (some bm')) (.mp i))) = force (tick (st.rs i)) fun r => ven3 d st K bm n seen bm' r := rfl
theorem ven3_mpE (d : Option Nat) (bm n : Nat) (seen : List Nat) (j : Nat) (bm' : Nat) (l : List (Value × List C)) (hj : j < l.length) : ven3 d st K bm n (seen ++ [j]) bm' (some (.map (.ents (mpE l)))) =
    (bm = bm' ∧ n = l.length ∧ l[j].1.oneCell' = true ∧ force (tick (st.putd d (.tup [.c (.v l[j].1), entS (l[j].2.map .c)]))) K) := by
  unfold ven3 force tick
  simp [mpE, hj]
end
theorem entS_map (cs : List C) (h : cs.length ≠ 1) : entS (cs.map .c) = .agg cs := by
  match cs, h with
  | [], _ => rfl
  | [_], h => simp at h
  | a :: b :: r, _ => exact entS_many _ _ _ _ (by simp)
theorem nodup_lt : ∀ (n : Nat) (l : List Nat), l.Nodup → (∀ x ∈ l, x < n) → l.length ≤ n
  | 0, l, _, h => by
    cases l with
    | nil => simp
    | cons x r => have := h x (by simp); omega
  | n + 1, l, hn, h => by
    by_cases hm : n ∈ l
    · have := nodup_lt n (l.erase n) (hn.erase n) (fun x hx => by
        have h1 := (List.Nodup.mem_erase_iff hn).1 hx
        have := h x h1.2
        omega)
      rw [List.length_erase_of_mem hm] at this
      omega
    · have := nodup_lt n l hn (fun x hx => by
        have := h x hx
        have : x ≠ n := fun e => hm (e ▸ hx)
        omega)
      omega
theorem todo_perm {n : Nat} {l : List Nat} (hn : l.Nodup) (h : ∀ x ∈ l, x < n) (ht : todoK n l = []) : l.Perm (List.range n) := by
  refine (List.perm_ext_iff_of_nodup hn List.nodup_range).2 fun j => ⟨fun hj => List.mem_range.2 (h j hj), fun hj => ?_⟩
  refine Classical.byContradiction fun hc => ?_
  have : j ∈ todoK n l := todoK_mem.2 ⟨List.mem_range.1 hj, hc⟩
  rw [ht] at this
  cases this
end Go.VL
