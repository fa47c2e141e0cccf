/- Plain laws of the edges of periods: each end once, rising; and of what stands between two edges. -/
import Derived.Test.YtlphpbcafplnbaaGreatQA
import Derived.Lib.SlicesCompact
import Derived.Test.YtlphpbcafplnbaaGreatVC
import Derived.Test.YtlphpbcafplnbaaGreatDB
set_option linter.unusedSimpArgs false
set_option linter.unusedVariables false
namespace Go.Proofs.YtlphpbcafplnbaaGreat
open Go.VL Go.RowKit

/-- strictly rising -/
def Rise (l : List Int) : Prop := l.Pairwise (· < ·)
theorem Rise.ext : ∀ {l m : List Int}, Rise l → Rise m → (∀ t, t ∈ l ↔ t ∈ m) → l = m
  | [], [], _, _, _ => rfl
  | [], y :: m, _, _, h => by have := (h y).2 (by simp); simp at this
  | x :: l, [], _, _, h => by have := (h x).1 (by simp); simp at this
  | x :: l, y :: m, hl, hm, h => by
    obtain ⟨l1, l2⟩ := List.pairwise_cons.1 hl
    obtain ⟨m1, m2⟩ := List.pairwise_cons.1 hm
    have hx := (h x).1 (by simp)
    have hy := (h y).2 (by simp)
    have e : x = y := by
      rcases List.mem_cons.1 hx with e | e
      · exact e
      · rcases List.mem_cons.1 hy with e2 | e2
        · exact e2.symm
        · have := l1 y e2; have := m1 x e; omega
    subst e
    congr 1
    refine Rise.ext l2 m2 fun t => ⟨fun ht => ?_, fun ht => ?_⟩
    · rcases List.mem_cons.1 ((h t).1 (by simp [ht])) with e | e
      · have := l1 t ht; omega
      · exact e
    · rcases List.mem_cons.1 ((h t).2 (by simp [ht])) with e | e
      · have := m1 t ht; omega
      · exact e

open Go.Lib in
theorem compactUpTo_ok (d : Array Int) (hs : ∀ i j, i < j → j < d.size → d[i]! ≤ d[j]!) : ∀ m, m ≤ d.size → Rise (compactUpTo d m) ∧ (∀ t, t ∈ compactUpTo d m ↔ ∃ j, j < m ∧ d[j]! = t)
  | 0, _ => by simp [compactUpTo, Rise]
  | m + 1, h => by
    obtain ⟨h1, h2⟩ := compactUpTo_ok d hs m (by omega)
    rw [compactUpTo_succ]
    by_cases hk : keeps d m = true
    · rw [if_pos hk]
      refine ⟨?_, fun t => ?_⟩
      · unfold Rise at h1 ⊢
        rw [List.pairwise_append]
        refine ⟨h1, by simp, fun x hx y hy => ?_⟩
        simp at hy
        subst hy
        obtain ⟨j, hj, rfl⟩ := (h2 x).1 hx
        simp [keeps] at hk
        rcases hk with hk | hk
        · omega
        · have a := hs (m - 1) m (by omega) (by omega)
          have b : d[j]! ≤ d[m - 1]! := by
            by_cases e : j = m - 1
            · subst e; exact Int.le_refl _
            · exact hs j (m - 1) (by omega) (by omega)
          omega
      · rw [List.mem_append, h2, List.mem_singleton]
        constructor
        · rintro (⟨j, hj, rfl⟩ | rfl)
          · exact ⟨j, by omega, rfl⟩
          · exact ⟨m, by omega, rfl⟩
        · rintro ⟨j, hj, rfl⟩
          by_cases e : j = m
          · subst e; exact .inr rfl
          · exact .inl ⟨j, by omega, rfl⟩
    · rw [if_neg hk, List.append_nil]
      refine ⟨h1, fun t => ?_⟩
      rw [h2]
      constructor
      · rintro ⟨j, hj, rfl⟩; exact ⟨j, by omega, rfl⟩
      · rintro ⟨j, hj, rfl⟩
        by_cases e : j = m
        · subst e
          simp [keeps] at hk
          exact ⟨j - 1, by omega, hk.2.symm⟩
        · exact ⟨j, by omega, rfl⟩

theorem compact_ok (zs : List Int) (hs : zs.Pairwise (· ≤ ·)) : Rise (Go.Lib.compact zs) ∧ ∀ t, t ∈ Go.Lib.compact zs ↔ t ∈ zs := by
  have h := compactUpTo_ok zs.toArray (fun i j hij hj => by
    have hj' : j < zs.length := by simpa using hj
    have := (List.pairwise_iff_getElem.1 hs) i j (by omega) hj' hij
    simpa [hj', (show i < zs.length by omega)] using this) zs.length (by simp)
  refine ⟨h.1, fun t => (h.2 t).trans ?_⟩
  rw [List.mem_iff_getElem]
  constructor
  · rintro ⟨j, hj, rfl⟩; exact ⟨j, hj, by simp [hj]⟩
  · rintro ⟨j, hj, rfl⟩; exact ⟨j, hj, by simp [hj]⟩

/-- the ends of those that are periods -/
def endsOf (l : List Per) : List Int := (l.filter right).flatMap fun p => [p.f, p.t]
theorem endsOf_snoc (l : List Per) {k : Nat} (h : k < l.length) : endsOf (l.take (k + 1)) = endsOf (l.take k) ++ (if right l[k] then [l[k].f, l[k].t] else []) := by
  unfold endsOf
  rw [take_snoc h, List.filter_append, List.flatMap_append]
  by_cases hr : right l[k] = true <;> simp [hr]
theorem endsOf_len (l : List Per) : (endsOf l).length ≤ 2 * l.length := by
  induction l with
  | nil => simp [endsOf]
  | cons p l ih =>
    unfold endsOf at *
    by_cases hr : right p = true <;> simp [hr] at ih ⊢ <;> omega
theorem mem_endsOf (l : List Per) (t : Int) : t ∈ endsOf l ↔ ∃ p ∈ l, right p = true ∧ (t = p.f ∨ t = p.t) := by
  simp [endsOf, and_assoc]
theorem endsOf_pos (l : List Per) {t : Int} (h : t ∈ endsOf l) : 0 ≤ t := by
  obtain ⟨p, _, hr, e⟩ := (mem_endsOf l t).1 h
  have := (right_iff p).1 hr
  rcases e with rfl | rfl <;> omega

def sortI (l : List Int) : List Int := l.mergeSort fun x y => decide (x ≤ y)
theorem sortI_perm (l : List Int) : (sortI l).Perm l := List.mergeSort_perm _ _
theorem sortI_len (l : List Int) : (sortI l).length = l.length := (sortI_perm l).length_eq
theorem sortI_sorted (l : List Int) : (sortI l).Pairwise (· ≤ ·) := by
  have := List.pairwise_mergeSort (le := fun x y : Int => decide (x ≤ y)) (fun a b c h1 h2 => by simp at *; omega) (fun a b => by simp; omega) l
  exact this.imp (by simp)
/-- each end once, rising -/
def edgesL (l : List Per) : List Int := Go.Lib.compact (sortI (endsOf l))
theorem edgesL_ok (l : List Per) : Rise (edgesL l) ∧ ∀ t, t ∈ edgesL l ↔ t ∈ endsOf l := by
  obtain ⟨h1, h2⟩ := compact_ok (sortI (endsOf l)) (sortI_sorted _)
  exact ⟨h1, fun t => (h2 t).trans (sortI_perm _).mem_iff⟩
theorem compact_len (zs : List Int) : (Go.Lib.compact zs).length ≤ zs.length := by
  unfold Go.Lib.compact Go.Lib.compactUpTo
  rw [List.length_map]
  exact Nat.le_trans (List.length_filter_le _ _) (by simp)
theorem edgesL_len (l : List Per) : (edgesL l).length ≤ 2 * l.length :=
  Nat.le_trans (compact_len _) (by rw [sortI_len]; exact endsOf_len l)

/-! ### The reference: the least end that is later, again and again -/
def laterB (out : List Int) (t : Int) : Bool := decide (out.length = 0) || decide (out[out.length - 1]! < t)
def nextS (out : List Int) (n t : Int) : Int := if laterB out t && (decide (n < 0) || decide (t < n)) then t else n
def nextL (out : List Int) (l : List Int) : Int := l.foldl (nextS out) (-1)
theorem nextL_snoc (out l : List Int) (t : Int) : nextL out (l ++ [t]) = nextS out (nextL out l) t := by
  unfold nextL; rw [List.foldl_append]; rfl
theorem rev_ind {α : Type} {p : List α → Prop} (h0 : p []) (h1 : ∀ l a, p l → p (l ++ [a])) (l : List α) : p l := by
  have : ∀ m : List α, p m.reverse := fun m => by
    induction m with
    | nil => exact h0
    | cons a m ih => rw [List.reverse_cons]; exact h1 _ _ ih
  have h := this l.reverse
  rwa [List.reverse_reverse] at h
theorem nextL_ok (out : List Int) : ∀ (l : List Int), (∀ t ∈ l, 0 ≤ t) →
    (nextL out l = -1 ∧ ∀ t ∈ l, laterB out t = false) ∨ (0 ≤ nextL out l ∧ nextL out l ∈ l ∧ laterB out (nextL out l) = true ∧ ∀ t ∈ l, laterB out t = true → nextL out l ≤ t) := by
  intro l
  refine rev_ind (p := fun l => (∀ t ∈ l, 0 ≤ t) → (nextL out l = -1 ∧ ∀ t ∈ l, laterB out t = false) ∨ (0 ≤ nextL out l ∧ nextL out l ∈ l ∧ laterB out (nextL out l) = true ∧ ∀ t ∈ l, laterB out t = true → nextL out l ≤ t)) ?_ ?_ l
  · intro _; exact .inl ⟨rfl, by simp⟩
  · intro l t ih hp
    have ht := hp t (by simp)
    have ih := ih (fun x hx => hp x (by simp [hx]))
    rw [nextL_snoc]
    generalize nextL out l = n at *
    unfold nextS
    by_cases hlt : laterB out t = true
    · rcases ih with ⟨rfl, h⟩ | ⟨h0, h1, h2, h3⟩
      · rw [if_pos (by simp [hlt])]
        refine .inr ⟨ht, by simp, hlt, fun x hx hlx => ?_⟩
        rcases List.mem_append.1 hx with hx | hx
        · rw [h x hx] at hlx; cases hlx
        · simp at hx; omega
      · by_cases htn : t < n
        · rw [if_pos (by simp [hlt, htn])]
          refine .inr ⟨ht, by simp, hlt, fun x hx hlx => ?_⟩
          rcases List.mem_append.1 hx with hx | hx
          · have := h3 x hx hlx; omega
          · simp at hx; omega
        · rw [if_neg (by simp [hlt, htn]; omega)]
          refine .inr ⟨h0, by simp [h1], h2, fun x hx hlx => ?_⟩
          rcases List.mem_append.1 hx with hx | hx
          · exact h3 x hx hlx
          · simp at hx; omega
    · have hlt' : laterB out t = false := by simpa using hlt
      rw [if_neg (by simp [hlt'])]
      rcases ih with ⟨rfl, h⟩ | ⟨h0, h1, h2, h3⟩
      · refine .inl ⟨rfl, fun x hx => ?_⟩
        rcases List.mem_append.1 hx with hx | hx
        · exact h x hx
        · simp at hx; subst hx; exact hlt'
      · refine .inr ⟨h0, by simp [h1], h2, fun x hx hlx => ?_⟩
        rcases List.mem_append.1 hx with hx | hx
        · exact h3 x hx hlx
        · simp at hx; subst hx; rw [hlt'] at hlx; cases hlx

theorem laterB_take {E : List Int} (hE : Rise E) {k j : Nat} (hk : k ≤ E.length) (hj : j < E.length) : laterB (E.take k) E[j] = decide (k ≤ j) := by
  unfold laterB
  have hlen : (E.take k).length = k := by rw [List.length_take]; omega
  rw [hlen]
  rcases Nat.eq_zero_or_pos k with rfl | hk0
  · simp
  · have h1 : (E.take k)[k - 1]! = E[k - 1] := by
      rw [getElem!_pos _ _ (by omega)]; simp
    rw [h1]
    have hlt := List.pairwise_iff_getElem.1 hE
    by_cases h : k ≤ j
    · have := hlt (k - 1) j (by omega) hj (by omega)
      simp [h, this]
    · have : ¬ E[k - 1] < E[j] := by
        by_cases e : j = k - 1
        · subst e; exact Int.lt_irrefl _
        · have := hlt j (k - 1) hj (by omega) (by omega); omega
      have hk2 : ¬ k = 0 := by omega
      simp [h, this, hk2]

/-- with the first k edges told, the next end is the k-th edge -/
theorem nextL_edge (l : List Per) {k : Nat} (hk : k ≤ (edgesL l).length) : nextL ((edgesL l).take k) (endsOf l) = if h : k < (edgesL l).length then (edgesL l)[k] else -1 := by
  obtain ⟨hE, hm⟩ := edgesL_ok l
  generalize edgesL l = E at *
  rcases nextL_ok (E.take k) (endsOf l) (fun t ht => endsOf_pos l ht) with ⟨h1, h2⟩ | ⟨h0, h1, h2, h3⟩
  · rw [h1]
    by_cases h : k < E.length
    · have := h2 E[k] ((hm _).1 (List.getElem_mem h))
      rw [laterB_take hE hk h] at this
      simp at this
    · rw [dif_neg h]
  · generalize nextL (E.take k) (endsOf l) = n at *
    obtain ⟨j, hj, rfl⟩ := List.getElem_of_mem ((hm n).2 h1)
    rw [laterB_take hE hk hj] at h2
    have hkj : k ≤ j := by simpa using h2
    have hlt : k < E.length := by omega
    rw [dif_pos hlt]
    have a := h3 E[k] ((hm _).1 (List.getElem_mem hlt)) (by rw [laterB_take hE hk hlt]; simp)
    by_cases e : k = j
    · subst e; rfl
    · have := List.pairwise_iff_getElem.1 hE k j hlt hj (by omega)
      omega
end Go.Proofs.YtlphpbcafplnbaaGreat
/- Contract: the document's edges of periods. -/
set_option linter.unusedSimpArgs false
set_option linter.unusedVariables false
namespace Go.Proofs.YtlphpbcafplnbaaGreat
open Go.VL Go.RowKit

def ints (l : List Int) : List (List C) := l.map fun x => [C.v (.int .i64 x)]
@[simp] theorem ints_len (l : List Int) : (ints l).length = l.length := by simp [ints]
@[simp] theorem ints_app (l m : List Int) : ints (l ++ m) = ints l ++ ints m := by simp [ints]
@[simp] theorem ints_nil : ints [] = [] := rfl
theorem ints_get (l : List Int) (k : Nat) (h : k < l.length) : (ints l)[k]?.getD [] = [i64 l[k]] := by
  simp [ints, List.getElem?_eq_getElem h]
@[simp] theorem ints_at (l : List Int) (k : Nat) (h : k < (ints l).length) : (ints l)[k] = [i64 (l[k]'(by simpa using h))] := by simp [ints]
def ez (m : List Int) : Nat := if m.isEmpty then 0 else 1

/-- the two ends, the first j of them -/
def two (p : Per) (j : Nat) : List Int := [p.f, p.t].take j

end Go.Proofs.YtlphpbcafplnbaaGreat
/- Contracts: the document's rows at an instant, in order. -/
set_option linter.unusedSimpArgs false
set_option linter.unusedVariables false
namespace Go.Proofs.YtlphpbcafplnbaaGreat
open Go.VL Go.RowKit

def rowC (r : List Val) : List C := [.sl false (vals r)]
@[simp] theorem rowC_len (r : List Val) : (rowC r).length = 1 := rfl
def rowsC (rs : List (List Val)) : List (List C) := rs.map rowC
@[simp] theorem rowsC_len (rs : List (List Val)) : (rowsC rs).length = rs.length := by simp [rowsC]
@[simp] theorem rowsC_get (rs : List (List Val)) (k : Nat) (h : k < (rowsC rs).length) : (rowsC rs)[k] = [.sl false (vals (rs[k]'(by simpa using h)))] := by simp [rowsC, rowC]
theorem rowsC_snoc (rs : List (List Val)) (r : List Val) : rowsC (rs ++ [r]) = rowsC rs ++ [[.sl false (vals r)]] := by simp [rowsC, rowC]
def before (r x : List Val) : Bool := decide (cmpR r x < 0)
def insR (r : List Val) : List (List Val) → List (List Val)
  | [] => [r]
  | x :: l => if before r x then r :: x :: l else x :: insR r l
theorem insR_perm (r : List Val) : ∀ l, (insR r l).Perm (r :: l)
  | [] => List.Perm.refl _
  | x :: l => by
    rw [insR]
    split
    · exact List.Perm.refl _
    · exact ((insR_perm r l).cons x).trans (List.Perm.swap r x l)
theorem insR_len (r : List Val) (l : List (List Val)) : (insR r l).length = l.length + 1 := by rw [(insR_perm r l).length_eq]; rfl
theorem insR_no (r : List Val) : ∀ (l m : List (List Val)), l.any (before r) = false → insR r (l ++ m) = l ++ insR r m
  | [], m, _ => rfl
  | x :: l, m, h => by
    simp only [List.any_cons, Bool.or_eq_false_iff] at h
    rw [List.cons_append, insR, h.1, insR_no r l m h.2]; rfl
theorem insR_yes (r : List Val) : ∀ (l m : List (List Val)), l.any (before r) = true → insR r (l ++ m) = insR r l ++ m
  | [], m, h => by simp at h
  | x :: l, m, h => by
    rw [List.cons_append, insR, insR]
    by_cases h1 : before r x = true
    · rw [if_pos h1, if_pos h1]; rfl
    · rw [if_neg h1, if_neg h1]
      have h2 : l.any (before r) = true := by simpa [h1] using h
      rw [insR_yes r l m h2]; rfl
def insK (r : List Val) (rs : List (List Val)) (k : Nat) : List (List Val) := if (rs.take k).any (before r) then insR r (rs.take k) else rs.take k
theorem insK_done {r : List Val} {rs : List (List Val)} {k : Nat} (h : k < rs.length) (hd : (rs.take k).any (before r) = true) : (rs.take (k + 1)).any (before r) = true ∧ insK r rs (k + 1) = insK r rs k ++ [rs[k]] := by
  have e : (rs.take (k + 1)).any (before r) = true := by rw [take_snoc h, List.any_append, hd]; rfl
  refine ⟨e, ?_⟩
  unfold insK
  rw [if_pos e, if_pos hd, take_snoc h, insR_yes r _ _ hd]
theorem insK_now {r : List Val} {rs : List (List Val)} {k : Nat} (h : k < rs.length) (hd : (rs.take k).any (before r) = false) (hb : before r rs[k] = true) : (rs.take (k + 1)).any (before r) = true ∧ insK r rs (k + 1) = insK r rs k ++ [r] ++ [rs[k]] := by
  have e : (rs.take (k + 1)).any (before r) = true := by rw [take_snoc h, List.any_append]; simp [hb]
  refine ⟨e, ?_⟩
  unfold insK
  rw [if_pos e, if_neg (by simp [hd]), take_snoc h, insR_no r _ _ hd, insR, if_pos hb]
  simp
theorem insK_not {r : List Val} {rs : List (List Val)} {k : Nat} (h : k < rs.length) (hd : (rs.take k).any (before r) = false) (hb : before r rs[k] = false) : (rs.take (k + 1)).any (before r) = false ∧ insK r rs (k + 1) = insK r rs k ++ [rs[k]] := by
  have e : (rs.take (k + 1)).any (before r) = false := by rw [take_snoc h, List.any_append, hd]; simp [hb]
  refine ⟨e, ?_⟩
  unfold insK
  rw [if_neg (by simp [e]), if_neg (by simp [hd]), take_snoc h]
theorem insK_len (r : List Val) (rs : List (List Val)) (k : Nat) : (insK r rs k).length ≤ rs.length + 1 := by
  unfold insK; split
  · rw [insR_len, List.length_take]; omega
  · rw [List.length_take]; omega
def RI (i : KI) (row : List (List Val)) : Prop := i.nl = row.isEmpty ∧ i.sz = if i.nl then 0 else 1
theorem RI.next {k : Nat} {row : List (List Val)} {f : List Val} : RI ⟨k, false, 1⟩ (row ++ [f]) := ⟨by cases row <;> rfl, rfl⟩

theorem insR_ne (r : List Val) (rs : List (List Val)) : (insR r rs).isEmpty = false := by
  have := insR_len r rs
  cases hx : insR r rs with
  | nil => rw [hx] at this; simp at this
  | cons => rfl
def validAt (f : Fact) (t : Int) : Bool := right f.p && has f.p t
def rowsAt (l : List Fact) (t : Int) : List (List Val) := l.foldl (fun acc f => if validAt f t then insR f.row acc else acc) []
theorem rowsAt_snoc (l : List Fact) (t : Int) {k : Nat} (h : k < l.length) : rowsAt (l.take (k + 1)) t = if validAt l[k] t then insR l[k].row (rowsAt (l.take k) t) else rowsAt (l.take k) t := by
  unfold rowsAt; rw [take_snoc h, List.foldl_append]; rfl
theorem rowsAt_perm (l : List Fact) (t : Int) : (rowsAt l t).Perm ((l.filter fun f => validAt f t).map Fact.row) := by
  refine rev_ind (p := fun l => (rowsAt l t).Perm ((l.filter fun f => validAt f t).map Fact.row)) ?_ ?_ l
  · exact List.Perm.refl _
  · intro l f ih
    unfold rowsAt at ih ⊢
    rw [List.foldl_append, List.filter_append, List.map_append]
    by_cases hv : validAt f t = true
    · simp only [List.foldl_cons, List.foldl_nil, hv, if_true, List.filter_cons, List.filter_nil, List.map_cons, List.map_nil]
      exact (insR_perm _ _).trans ((ih.cons _).trans (List.perm_append_singleton _ _).symm)
    · simp only [Bool.not_eq_true] at hv
      simp only [List.foldl_cons, List.foldl_nil, hv, List.filter_cons, List.filter_nil, List.map_nil, List.append_nil]
      simpa using ih
theorem rowsAt_len (l : List Fact) (t : Int) : (rowsAt l t).length ≤ l.length := by
  rw [(rowsAt_perm l t).length_eq, List.length_map]; exact List.length_filter_le _ _
theorem rowsAt_mem {l : List Fact} {t : Int} {r : List Val} (h : r ∈ rowsAt l t) : ∃ f ∈ l, validAt f t = true ∧ f.row = r := by
  have := (rowsAt_perm l t).mem_iff.1 h
  obtain ⟨f, hf, e⟩ := List.mem_map.1 this
  obtain ⟨h1, h2⟩ := List.mem_filter.1 hf
  exact ⟨f, h1, h2, e⟩

end Go.Proofs.YtlphpbcafplnbaaGreat
