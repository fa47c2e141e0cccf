/- Contracts of functions of the seat, proved in a logic on data over the model (part EA). -/
import Derived.Test.YtlphpbcafplnbaaGreatQA
import Derived.Lib.SlicesCompact
import Derived.Test.YtlphpbcafplnbaaGreatVC
import Derived.Test.YtlphpbcafplnbaaGreatDB
set_option linter.unusedSimpArgs false
set_option linter.unusedVariables false
namespace Go.Proofs.YtlphpbcafplnbaaGreat
open Go.VL Go.RowKit
def Rise (l : List Int) : Prop := l.Pairwise (· < ·)
theorem Rise.ext : ∀ {l m : List Int}, Rise l → Rise m → (∀ t, t ∈ l ↔ t ∈ m) → l = m
  | [], [], _, _, _ => rfl
  | [], y :: m, _, _, h => by have := (h y).2 (by simp); simp at this
  | x :: l, [], _, _, h => by have := (h x).1 (by simp); simp at this
  | x :: l, y :: m, hl, hm, h => by
    obtain ⟨l1, l2⟩ := List.pairwise_cons.1 hl
    obtain ⟨m1, m2⟩ := List.pairwise_cons.1 hm
    have hx := (h x).1 (by simp)
    have hy := (h y).2 (by simp)
    have e : x = y := by
      rcases List.mem_cons.1 hx with e | e
      · exact e
      · rcases List.mem_cons.1 hy with e2 | e2
        · exact e2.symm
        · have := l1 y e2; have := m1 x e; omega
    subst e
    congr 1
    refine Rise.ext l2 m2 fun t => ⟨fun ht => ?_, fun ht => ?_⟩
    · rcases List.mem_cons.1 ((h t).1 (by simp [ht])) with e | e
      · have := l1 t ht; omega
      · exact e
    · rcases List.mem_cons.1 ((h t).2 (by simp [ht])) with e | e
      · have := m1 t ht; omega
      · exact e
open Go.Lib in
theorem compactUpTo_ok (d : Array Int) (hs : ∀ i j, i < j → j < d.size → d[i]! ≤ d[j]!) : ∀ m, m ≤ d.size → Rise (compactUpTo d m) ∧ (∀ t, t ∈ compactUpTo d m ↔ ∃ j, j < m ∧ d[j]! = t)
  | 0, _ => by simp [compactUpTo, Rise]
  | m + 1, h => by
    obtain ⟨h1, h2⟩ := compactUpTo_ok d hs m (by omega)
    rw [compactUpTo_succ]
    by_cases hk : keeps d m = true
    · rw [if_pos hk]
      refine ⟨?_, fun t => ?_⟩
      · unfold Rise at h1 ⊢
        rw [List.pairwise_append]
        refine ⟨h1, by simp, fun x hx y hy => ?_⟩
        simp at hy
        subst hy
        obtain ⟨j, hj, rfl⟩ := (h2 x).1 hx
        simp [keeps] at hk
        rcases hk with hk | hk
        · omega
        · have a := hs (m - 1) m (by omega) (by omega)
          have b : d[j]! ≤ d[m - 1]! := by
            by_cases e : j = m - 1
            · subst e; exact Int.le_refl _
            · exact hs j (m - 1) (by omega) (by omega)
          omega
      · rw [List.mem_append, h2, List.mem_singleton]
        constructor
        · rintro (⟨j, hj, rfl⟩ | rfl)
          · exact ⟨j, by omega, rfl⟩
          · exact ⟨m, by omega, rfl⟩
        · rintro ⟨j, hj, rfl⟩
          by_cases e : j = m
          · subst e; exact .inr rfl
          · exact .inl ⟨j, by omega, rfl⟩
    · rw [if_neg hk, List.append_nil]
      refine ⟨h1, fun t => ?_⟩
      rw [h2]
      constructor
      · rintro ⟨j, hj, rfl⟩; exact ⟨j, by omega, rfl⟩
      · rintro ⟨j, hj, rfl⟩
        by_cases e : j = m
        · subst e
          simp [keeps] at hk
          exact ⟨j - 1, by omega, hk.2.symm⟩
        · exact ⟨j, by omega, rfl⟩
theorem compact_ok (zs : List Int) (hs : zs.Pairwise (· ≤ ·)) : Rise (Go.Lib.compact zs) ∧ ∀ t, t ∈ Go.Lib.compact zs ↔ t ∈ zs := by
  have h := compactUpTo_ok zs.toArray (fun i j hij hj => by
    have hj' : j < zs.length := by simpa using hj
    have := (List.pairwise_iff_getElem.1 hs) i j (by omega) hj' hij
    simpa [hj', (show i < zs.length by omega)] using this) zs.length (by simp)
  refine ⟨h.1, fun t => (h.2 t).trans ?_⟩
  rw [List.mem_iff_getElem]
  constructor
  · rintro ⟨j, hj, rfl⟩; exact ⟨j, hj, by simp [hj]⟩
  · rintro ⟨j, hj, rfl⟩; exact ⟨j, hj, by simp [hj]⟩
def endsOf (l : List Per) : List Int := (l.filter right).flatMap fun p => [p.f, p.t]
theorem endsOf_snoc (l : List Per) {k : Nat} (h : k < l.length) : endsOf (l.take (k + 1)) = endsOf (l.take k) ++ (if right l[k] then [l[k].f, l[k].t] else []) := by
  unfold endsOf
  rw [take_snoc h, List.filter_append, List.flatMap_append]
  by_cases hr : right l[k] = true <;> simp [hr]
theorem endsOf_len (l : List Per) : (endsOf l).length ≤ 2 * l.length := by
  induction l with
  | nil => simp [endsOf]
  | cons p l ih =>
    unfold endsOf at *
    by_cases hr : right p = true <;> simp [hr] at ih ⊢ <;> omega
theorem mem_endsOf (l : List Per) (t : Int) : t ∈ endsOf l ↔ ∃ p ∈ l, right p = true ∧ (t = p.f ∨ t = p.t) := by
  simp [endsOf, and_assoc]
def sortI (l : List Int) : List Int := l.mergeSort fun x y => decide (x ≤ y)
theorem sortI_perm (l : List Int) : (sortI l).Perm l := List.mergeSort_perm _ _
theorem sortI_len (l : List Int) : (sortI l).length = l.length := (sortI_perm l).length_eq
theorem sortI_sorted (l : List Int) : (sortI l).Pairwise (· ≤ ·) := by
  have := List.pairwise_mergeSort (le := fun x y : Int => decide (x ≤ y)) (fun a b c h1 h2 => by simp at *; omega) (fun a b => by simp; omega) l
  exact this.imp (by simp)
def edgesL (l : List Per) : List Int := Go.Lib.compact (sortI (endsOf l))
theorem edgesL_ok (l : List Per) : Rise (edgesL l) ∧ ∀ t, t ∈ edgesL l ↔ t ∈ endsOf l := by
  obtain ⟨h1, h2⟩ := compact_ok (sortI (endsOf l)) (sortI_sorted _)
  exact ⟨h1, fun t => (h2 t).trans (sortI_perm _).mem_iff⟩
theorem compact_len (zs : List Int) : (Go.Lib.compact zs).length ≤ zs.length := by
  unfold Go.Lib.compact Go.Lib.compactUpTo
  rw [List.length_map]
  exact Nat.le_trans (List.length_filter_le _ _) (by simp)
end Go.Proofs.YtlphpbcafplnbaaGreat
set_option linter.unusedSimpArgs false
set_option linter.unusedVariables false
namespace Go.Proofs.YtlphpbcafplnbaaGreat
open Go.VL Go.RowKit
def ints (l : List Int) : List (List C) := l.map fun x => [C.v (.int .i64 x)]
@[simp] theorem ints_len (l : List Int) : (ints l).length = l.length := by simp [ints]
@[simp] theorem ints_app (l m : List Int) : ints (l ++ m) = ints l ++ ints m := by simp [ints]
@[simp] theorem ints_nil : ints [] = [] := rfl
@[simp] theorem ints_at (l : List Int) (k : Nat) (h : k < (ints l).length) : (ints l)[k] = [i64 (l[k]'(by simpa using h))] := by simp [ints]
def ez (m : List Int) : Nat := if m.isEmpty then 0 else 1
def two (p : Per) (j : Nat) : List Int := [p.f, p.t].take j
end Go.Proofs.YtlphpbcafplnbaaGreat
set_option linter.unusedSimpArgs false
set_option linter.unusedVariables false
namespace Go.Proofs.YtlphpbcafplnbaaGreat
open Go.VL Go.RowKit
def rowC (r : List Val) : List C := [.sl false (vals r)]
@[simp] theorem rowC_len (r : List Val) : (rowC r).length = 1 := rfl
def rowsC (rs : List (List Val)) : List (List C) := rs.map rowC
@[simp] theorem rowsC_len (rs : List (List Val)) : (rowsC rs).length = rs.length := by simp [rowsC]
@[simp] theorem rowsC_get (rs : List (List Val)) (k : Nat) (h : k < (rowsC rs).length) : (rowsC rs)[k] = [.sl false (vals (rs[k]'(by simpa using h)))] := by simp [rowsC, rowC]
def before (r x : List Val) : Bool := decide (cmpR r x < 0)
def RI (i : KI) (row : List (List Val)) : Prop := i.nl = row.isEmpty ∧ i.sz = if i.nl then 0 else 1
theorem RI.next {k : Nat} {row : List (List Val)} {f : List Val} : RI ⟨k, false, 1⟩ (row ++ [f]) := ⟨by cases row <;> rfl, rfl⟩
def validAt (f : Fact) (t : Int) : Bool := right f.p && has f.p t
end Go.Proofs.YtlphpbcafplnbaaGreat
