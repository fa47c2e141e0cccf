/- Plain laws of the edges of periods: each end once, rising; and of what stands between two edges. -/
import Derived.Test.YtdpjdmgdngjjnaaQL
import Derived.Lib.SlicesCompact
set_option linter.unusedSimpArgs false
set_option linter.unusedVariables false
namespace Go.Proofs.Ytdpjdmgdngjjnaa
open Go.VL Go.RowKit

/-- strictly rising -/
def Rise (l : List Int) : Prop := l.Pairwise (· < ·)
theorem Rise.ext : ∀ {l m : List Int}, Rise l → Rise m → (∀ t, t ∈ l ↔ t ∈ m) → l = m
  | [], [], _, _, _ => rfl
  | [], y :: m, _, _, h => by have := (h y).2 (by simp); simp at this
  | x :: l, [], _, _, h => by have := (h x).1 (by simp); simp at this
  | x :: l, y :: m, hl, hm, h => by
    obtain ⟨l1, l2⟩ := List.pairwise_cons.1 hl
    obtain ⟨m1, m2⟩ := List.pairwise_cons.1 hm
    have hx := (h x).1 (by simp)
    have hy := (h y).2 (by simp)
    have e : x = y := by
      rcases List.mem_cons.1 hx with e | e
      · exact e
      · rcases List.mem_cons.1 hy with e2 | e2
        · exact e2.symm
        · have := l1 y e2; have := m1 x e; omega
    subst e
    congr 1
    refine Rise.ext l2 m2 fun t => ⟨fun ht => ?_, fun ht => ?_⟩
    · rcases List.mem_cons.1 ((h t).1 (by simp [ht])) with e | e
      · have := l1 t ht; omega
      · exact e
    · rcases List.mem_cons.1 ((h t).2 (by simp [ht])) with e | e
      · have := m1 t ht; omega
      · exact e

open Go.Lib in
theorem compactUpTo_ok (d : Array Int) (hs : ∀ i j, i < j → j < d.size → d[i]! ≤ d[j]!) : ∀ m, m ≤ d.size → Rise (compactUpTo d m) ∧ (∀ t, t ∈ compactUpTo d m ↔ ∃ j, j < m ∧ d[j]! = t)
  | 0, _ => by simp [compactUpTo, Rise]
  | m + 1, h => by
    obtain ⟨h1, h2⟩ := compactUpTo_ok d hs m (by omega)
    rw [compactUpTo_succ]
    by_cases hk : keeps d m = true
    · rw [if_pos hk]
      refine ⟨?_, fun t => ?_⟩
      · unfold Rise at h1 ⊢
        rw [List.pairwise_append]
        refine ⟨h1, by simp, fun x hx y hy => ?_⟩
        simp at hy
        subst hy
        obtain ⟨j, hj, rfl⟩ := (h2 x).1 hx
        simp [keeps] at hk
        rcases hk with hk | hk
        · omega
        · have a := hs (m - 1) m (by omega) (by omega)
          have b : d[j]! ≤ d[m - 1]! := by
            by_cases e : j = m - 1
            · subst e; exact Int.le_refl _
            · exact hs j (m - 1) (by omega) (by omega)
          omega
      · rw [List.mem_append, h2, List.mem_singleton]
        constructor
        · rintro (⟨j, hj, rfl⟩ | rfl)
          · exact ⟨j, by omega, rfl⟩
          · exact ⟨m, by omega, rfl⟩
        · rintro ⟨j, hj, rfl⟩
          by_cases e : j = m
          · subst e; exact .inr rfl
          · exact .inl ⟨j, by omega, rfl⟩
    · rw [if_neg hk, List.append_nil]
      refine ⟨h1, fun t => ?_⟩
      rw [h2]
      constructor
      · rintro ⟨j, hj, rfl⟩; exact ⟨j, by omega, rfl⟩
      · rintro ⟨j, hj, rfl⟩
        by_cases e : j = m
        · subst e
          simp [keeps] at hk
          exact ⟨j - 1, by omega, hk.2.symm⟩
        · exact ⟨j, by omega, rfl⟩

theorem compact_ok (zs : List Int) (hs : zs.Pairwise (· ≤ ·)) : Rise (Go.Lib.compact zs) ∧ ∀ t, t ∈ Go.Lib.compact zs ↔ t ∈ zs := by
  have h := compactUpTo_ok zs.toArray (fun i j hij hj => by
    have hj' : j < zs.length := by simpa using hj
    have := (List.pairwise_iff_getElem.1 hs) i j (by omega) hj' hij
    simpa [hj', (show i < zs.length by omega)] using this) zs.length (by simp)
  refine ⟨h.1, fun t => (h.2 t).trans ?_⟩
  rw [List.mem_iff_getElem]
  constructor
  · rintro ⟨j, hj, rfl⟩; exact ⟨j, hj, by simp [hj]⟩
  · rintro ⟨j, hj, rfl⟩; exact ⟨j, hj, by simp [hj]⟩

/-- the ends of those that are periods -/
def endsOf (l : List Per) : List Int := (l.filter right).flatMap fun p => [p.f, p.t]
theorem endsOf_snoc (l : List Per) {k : Nat} (h : k < l.length) : endsOf (l.take (k + 1)) = endsOf (l.take k) ++ (if right l[k] then [l[k].f, l[k].t] else []) := by
  unfold endsOf
  rw [take_snoc h, List.filter_append, List.flatMap_append]
  by_cases hr : right l[k] = true <;> simp [hr]
theorem endsOf_len (l : List Per) : (endsOf l).length ≤ 2 * l.length := by
  induction l with
  | nil => simp [endsOf]
  | cons p l ih =>
    unfold endsOf at *
    by_cases hr : right p = true <;> simp [hr] at ih ⊢ <;> omega
theorem mem_endsOf (l : List Per) (t : Int) : t ∈ endsOf l ↔ ∃ p ∈ l, right p = true ∧ (t = p.f ∨ t = p.t) := by
  simp [endsOf, and_assoc]
theorem endsOf_pos (l : List Per) {t : Int} (h : t ∈ endsOf l) : 0 ≤ t := by
  obtain ⟨p, _, hr, e⟩ := (mem_endsOf l t).1 h
  have := (right_iff p).1 hr
  rcases e with rfl | rfl <;> omega

def sortI (l : List Int) : List Int := l.mergeSort fun x y => decide (x ≤ y)
theorem sortI_perm (l : List Int) : (sortI l).Perm l := List.mergeSort_perm _ _
theorem sortI_len (l : List Int) : (sortI l).length = l.length := (sortI_perm l).length_eq
theorem sortI_sorted (l : List Int) : (sortI l).Pairwise (· ≤ ·) := by
  have := List.pairwise_mergeSort (le := fun x y : Int => decide (x ≤ y)) (fun a b c h1 h2 => by simp at *; omega) (fun a b => by simp; omega) l
  exact this.imp (by simp)
/-- each end once, rising -/
def edgesL (l : List Per) : List Int := Go.Lib.compact (sortI (endsOf l))
theorem edgesL_ok (l : List Per) : Rise (edgesL l) ∧ ∀ t, t ∈ edgesL l ↔ t ∈ endsOf l := by
  obtain ⟨h1, h2⟩ := compact_ok (sortI (endsOf l)) (sortI_sorted _)
  exact ⟨h1, fun t => (h2 t).trans (sortI_perm _).mem_iff⟩
theorem compact_len (zs : List Int) : (Go.Lib.compact zs).length ≤ zs.length := by
  unfold Go.Lib.compact Go.Lib.compactUpTo
  rw [List.length_map]
  exact Nat.le_trans (List.length_filter_le _ _) (by simp)
theorem edgesL_len (l : List Per) : (edgesL l).length ≤ 2 * l.length :=
  Nat.le_trans (compact_len _) (by rw [sortI_len]; exact endsOf_len l)

/-! ### The reference: the least end that is later, again and again -/
def laterB (out : List Int) (t : Int) : Bool := decide (out.length = 0) || decide (out[out.length - 1]! < t)
def nextS (out : List Int) (n t : Int) : Int := if laterB out t && (decide (n < 0) || decide (t < n)) then t else n
def nextL (out : List Int) (l : List Int) : Int := l.foldl (nextS out) (-1)
theorem nextL_snoc (out l : List Int) (t : Int) : nextL out (l ++ [t]) = nextS out (nextL out l) t := by
  unfold nextL; rw [List.foldl_append]; rfl
theorem rev_ind {α : Type} {p : List α → Prop} (h0 : p []) (h1 : ∀ l a, p l → p (l ++ [a])) (l : List α) : p l := by
  have : ∀ m : List α, p m.reverse := fun m => by
    induction m with
    | nil => exact h0
    | cons a m ih => rw [List.reverse_cons]; exact h1 _ _ ih
  have h := this l.reverse
  rwa [List.reverse_reverse] at h
theorem nextL_ok (out : List Int) : ∀ (l : List Int), (∀ t ∈ l, 0 ≤ t) →
    (nextL out l = -1 ∧ ∀ t ∈ l, laterB out t = false) ∨ (0 ≤ nextL out l ∧ nextL out l ∈ l ∧ laterB out (nextL out l) = true ∧ ∀ t ∈ l, laterB out t = true → nextL out l ≤ t) := by
  intro l
  refine rev_ind (p := fun l => (∀ t ∈ l, 0 ≤ t) → (nextL out l = -1 ∧ ∀ t ∈ l, laterB out t = false) ∨ (0 ≤ nextL out l ∧ nextL out l ∈ l ∧ laterB out (nextL out l) = true ∧ ∀ t ∈ l, laterB out t = true → nextL out l ≤ t)) ?_ ?_ l
  · intro _; exact .inl ⟨rfl, by simp⟩
  · intro l t ih hp
    have ht := hp t (by simp)
    have ih := ih (fun x hx => hp x (by simp [hx]))
    rw [nextL_snoc]
    generalize nextL out l = n at *
    unfold nextS
    by_cases hlt : laterB out t = true
    · rcases ih with ⟨rfl, h⟩ | ⟨h0, h1, h2, h3⟩
      · rw [if_pos (by simp [hlt])]
        refine .inr ⟨ht, by simp, hlt, fun x hx hlx => ?_⟩
        rcases List.mem_append.1 hx with hx | hx
        · rw [h x hx] at hlx; cases hlx
        · simp at hx; omega
      · by_cases htn : t < n
        · rw [if_pos (by simp [hlt, htn])]
          refine .inr ⟨ht, by simp, hlt, fun x hx hlx => ?_⟩
          rcases List.mem_append.1 hx with hx | hx
          · have := h3 x hx hlx; omega
          · simp at hx; omega
        · rw [if_neg (by simp [hlt, htn]; omega)]
          refine .inr ⟨h0, by simp [h1], h2, fun x hx hlx => ?_⟩
          rcases List.mem_append.1 hx with hx | hx
          · exact h3 x hx hlx
          · simp at hx; omega
    · have hlt' : laterB out t = false := by simpa using hlt
      rw [if_neg (by simp [hlt'])]
      rcases ih with ⟨rfl, h⟩ | ⟨h0, h1, h2, h3⟩
      · refine .inl ⟨rfl, fun x hx => ?_⟩
        rcases List.mem_append.1 hx with hx | hx
        · exact h x hx
        · simp at hx; subst hx; exact hlt'
      · refine .inr ⟨h0, by simp [h1], h2, fun x hx hlx => ?_⟩
        rcases List.mem_append.1 hx with hx | hx
        · exact h3 x hx hlx
        · simp at hx; subst hx; rw [hlt'] at hlx; cases hlx

theorem laterB_take {E : List Int} (hE : Rise E) {k j : Nat} (hk : k ≤ E.length) (hj : j < E.length) : laterB (E.take k) E[j] = decide (k ≤ j) := by
  unfold laterB
  have hlen : (E.take k).length = k := by rw [List.length_take]; omega
  rw [hlen]
  rcases Nat.eq_zero_or_pos k with rfl | hk0
  · simp
  · have h1 : (E.take k)[k - 1]! = E[k - 1] := by
      rw [getElem!_pos _ _ (by omega)]; simp
    rw [h1]
    have hlt := List.pairwise_iff_getElem.1 hE
    by_cases h : k ≤ j
    · have := hlt (k - 1) j (by omega) hj (by omega)
      simp [h, this]
    · have : ¬ E[k - 1] < E[j] := by
        by_cases e : j = k - 1
        · subst e; exact Int.lt_irrefl _
        · have := hlt j (k - 1) hj (by omega) (by omega); omega
      have hk2 : ¬ k = 0 := by omega
      simp [h, this, hk2]

/-- with the first k edges told, the next end is the k-th edge -/
theorem nextL_edge (l : List Per) {k : Nat} (hk : k ≤ (edgesL l).length) : nextL ((edgesL l).take k) (endsOf l) = if h : k < (edgesL l).length then (edgesL l)[k] else -1 := by
  obtain ⟨hE, hm⟩ := edgesL_ok l
  generalize edgesL l = E at *
  rcases nextL_ok (E.take k) (endsOf l) (fun t ht => endsOf_pos l ht) with ⟨h1, h2⟩ | ⟨h0, h1, h2, h3⟩
  · rw [h1]
    by_cases h : k < E.length
    · have := h2 E[k] ((hm _).1 (List.getElem_mem h))
      rw [laterB_take hE hk h] at this
      simp at this
    · rw [dif_neg h]
  · generalize nextL (E.take k) (endsOf l) = n at *
    obtain ⟨j, hj, rfl⟩ := List.getElem_of_mem ((hm n).2 h1)
    rw [laterB_take hE hk hj] at h2
    have hkj : k ≤ j := by simpa using h2
    have hlt : k < E.length := by omega
    rw [dif_pos hlt]
    have a := h3 E[k] ((hm _).1 (List.getElem_mem hlt)) (by rw [laterB_take hE hk hlt]; simp)
    by_cases e : k = j
    · subst e; rfl
    · have := List.pairwise_iff_getElem.1 hE k j hlt hj (by omega)
      omega
end Go.Proofs.Ytdpjdmgdngjjnaa
