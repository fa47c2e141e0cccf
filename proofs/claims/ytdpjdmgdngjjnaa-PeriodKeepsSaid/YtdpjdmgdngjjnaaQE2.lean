/- Plain laws of the document's Where: between two edges alike, in as few periods as can be. -/
import Derived.Test.YtdpjdmgdngjjnaaQE1
set_option linter.unusedSimpArgs false
set_option linter.unusedVariables false
namespace Go.Proofs.Ytdpjdmgdngjjnaa
open Go.VL Go.RowKit

def ge (E : List Int) (k : Nat) : Int := E[k]!
theorem ge_pos (E : List Int) (k : Nat) (h : k < E.length) : ge E k = E[k] := getElem!_pos E k h
theorem Rise.lt {E : List Int} (h : Rise E) {i j : Nat} (hij : i < j) (hj : j < E.length) : (ge E (i)) < (ge E (j)) := by
  rw [ge_pos _ _ hj, ge_pos _ _ (by omega)]
  exact List.pairwise_iff_getElem.1 h i j (by omega) hj hij
theorem Rise.gap {E : List Int} (h : Rise E) {j : Nat} (hj : j + 1 < E.length) {x : Int} (hx : x ∈ E) (hlt : (ge E (j)) < x) : (ge E (j + 1)) ≤ x := by
  obtain ⟨i, hi, rfl⟩ := List.getElem_of_mem hx
  rw [← ge_pos E i hi] at hlt ⊢
  have : j < i := by
    apply Classical.byContradiction
    intro hn
    by_cases e : i = j
    · subst e; omega
    · have := h.lt (show i < j by omega) (by omega); omega
  by_cases e : i = j + 1
  · subst e; exact Int.le_refl _
  · have := h.lt (show j + 1 < i by omega) hi; omega
theorem Rise.cell {E : List Int} (h : Rise E) {x y t : Int} (hx : x ∈ E) (hy : y ∈ E) (h1 : x ≤ t) (h2 : t < y) : ∃ j, j + 1 < E.length ∧ (ge E (j)) ≤ t ∧ t < (ge E (j + 1)) := by
  obtain ⟨i, hi, rfl⟩ := List.getElem_of_mem hx
  obtain ⟨k, hk, rfl⟩ := List.getElem_of_mem hy
  rw [← ge_pos E i hi] at h1
  rw [← ge_pos E k hk] at h2
  clear hx hy
  induction k with
  | zero =>
    exfalso
    by_cases e : i = 0
    · subst e; omega
    · have := h.lt (show 0 < i by omega) hi; omega
  | succ k ih =>
    by_cases e : t < (ge E (k))
    · exact ih (by omega) e
    · exact ⟨k, hk, by omega, h2⟩

def whereS (E : List Int) (cond : Int → Bool) (out : List Per) (i : Nat) : List Per :=
  if cond (ge E (i)) then (if decide (0 < out.length) && decide ((out[out.length - 1]!).t = (ge E (i))) then out.set (out.length - 1) ⟨(out[out.length - 1]!).f, (ge E (i + 1))⟩ else out ++ [⟨(ge E (i)), (ge E (i + 1))⟩]) else out
def whereK (E : List Int) (cond : Int → Bool) : Nat → List Per
  | 0 => []
  | k + 1 => whereS E cond (whereK E cond k) k
theorem whereK_len (E : List Int) (cond : Int → Bool) : ∀ k, (whereK E cond k).length ≤ k
  | 0 => by simp [whereK]
  | k + 1 => by
    have := whereK_len E cond k
    rw [whereK]
    unfold whereS
    split
    · split
      · simp; omega
      · simp; omega
    · omega

theorem whereK_ok {E : List Int} (hE : Rise E) (hb : ∀ t ∈ E, 0 ≤ t ∧ t ≤ 1099511627776) (cond : Int → Bool) : ∀ k, k + 1 ≤ E.length →
    Canon (whereK E cond k) ∧ (∀ q ∈ whereK E cond k, q.t ≤ (ge E (k))) ∧ ∀ t, inL (whereK E cond k) t = true ↔ ∃ j, j < k ∧ (ge E (j)) ≤ t ∧ t < (ge E (j + 1)) ∧ cond (ge E (j)) = true
  | 0, _ => ⟨Canon.nil, by simp [whereK], fun t => by simp [whereK, inL]⟩
  | k + 1, hk => by
    obtain ⟨h1, h2, h3⟩ := whereK_ok hE hb cond k (by omega)
    have hlt := hE.lt (show k < k + 1 by omega) (show k + 1 < E.length by omega)
    rw [whereK]
    unfold whereS
    have b0 := hb (ge E (k)) (by rw [ge_pos _ _ (by omega)]; exact List.getElem_mem _)
    have b1 := hb (ge E (k + 1)) (by rw [ge_pos _ _ (by omega)]; exact List.getElem_mem _)
    by_cases hc : cond (ge E (k)) = true
    · rw [if_pos hc]
      generalize hout : whereK E cond k = out at *
      rcases List.eq_nil_or_concat out with rfl | ⟨ini, q, rfl⟩
      · rw [if_neg (by simp)]
        refine ⟨h1.snoc (by rw [right_iff]; simp only; omega) (by simp), fun q hq => by simp at hq; subst hq; exact Int.le_refl _, fun t => ?_⟩
        rw [inL_append, Bool.or_eq_true, h3]
        constructor
        · rintro (⟨j, a, b, c, d⟩ | h)
          · exact ⟨j, by omega, b, c, d⟩
          · simp [inL, has_iff] at h; exact ⟨k, by omega, h.1, h.2, hc⟩
        · rintro ⟨j, a, b, c, d⟩
          by_cases e : j = k
          · subst e; exact .inr (by simp [inL, has_iff]; exact ⟨b, c⟩)
          · exact .inl ⟨j, by omega, b, c, d⟩
      · simp only [List.concat_eq_append] at *
        have hq := h2 q (by simp)
        have hlast : (ini ++ [q])[(ini ++ [q]).length - 1]! = q := by
          rw [getElem!_pos _ _ (by simp)]; simp
        rw [hlast]
        obtain ⟨c1, c2, c3⟩ := h1.init
        have hqr := (right_iff q).1 c2
        by_cases he : q.t = (ge E (k))
        · rw [if_pos (by simp [he])]
          have hset : (ini ++ [q]).set ((ini ++ [q]).length - 1) ⟨q.f, (ge E (k + 1))⟩ = ini ++ [⟨q.f, (ge E (k + 1))⟩] := by
            rw [List.set_append_right _ _ (by simp)]; simp
          rw [hset]
          refine ⟨c1.snoc (by rw [right_iff]; simp only; omega) c3, fun r hr => ?_, fun t => ?_⟩
          · rcases List.mem_append.1 hr with hr | hr
            · have := h2 r (by simp [hr]); omega
            · simp at hr; subst hr; exact Int.le_refl _
          · have h3 := h3 t
            rw [inL_append, Bool.or_eq_true] at h3 ⊢
            have e1 : inL [q] t = true ↔ q.f ≤ t ∧ t < q.t := by simp [inL, has_iff]
            have e2 : inL [⟨q.f, (ge E (k + 1))⟩] t = true ↔ q.f ≤ t ∧ t < (ge E (k + 1)) := by simp [inL, has_iff]
            rw [e1] at h3
            rw [e2]
            constructor
            · rintro (h | ⟨ha, hb⟩)
              · obtain ⟨j, a, b, c, d⟩ := h3.1 (.inl h)
                exact ⟨j, by omega, b, c, d⟩
              · by_cases hlt2 : t < q.t
                · obtain ⟨j, a, b, c, d⟩ := h3.1 (.inr ⟨ha, hlt2⟩)
                  exact ⟨j, by omega, b, c, d⟩
                · exact ⟨k, by omega, by omega, hb, hc⟩
            · rintro ⟨j, a, b, c, d⟩
              by_cases e : j = k
              · subst e; exact .inr ⟨by omega, c⟩
              · rcases h3.2 ⟨j, by omega, b, c, d⟩ with h | ⟨ha, hb⟩
                · exact .inl h
                · exact .inr ⟨ha, by omega⟩
        · rw [if_neg (by simp [he])]
          refine ⟨h1.snoc (by rw [right_iff]; simp only; omega) (fun r hr => ?_), fun r hr => ?_, fun t => ?_⟩
          · simp only
            rcases List.mem_append.1 hr with hr | hr
            · have := c3 r hr; omega
            · simp at hr; subst hr; omega
          · rcases List.mem_append.1 hr with hr | hr
            · have := h2 r hr; omega
            · simp at hr; subst hr; exact Int.le_refl _
          · rw [inL_append, Bool.or_eq_true, h3]
            constructor
            · rintro (⟨j, a, b, c, d⟩ | h)
              · exact ⟨j, by omega, b, c, d⟩
              · simp [inL, has_iff] at h; exact ⟨k, by omega, h.1, h.2, hc⟩
            · rintro ⟨j, a, b, c, d⟩
              by_cases e : j = k
              · subst e; exact .inr (by simp [inL, has_iff]; exact ⟨b, c⟩)
              · exact .inl ⟨j, by omega, b, c, d⟩
    · rw [if_neg hc]
      refine ⟨h1, fun q hq => by have := h2 q hq; omega, fun t => ?_⟩
      rw [h3]
      constructor
      · rintro ⟨j, a, b, c, d⟩; exact ⟨j, by omega, b, c, d⟩
      · rintro ⟨j, a, b, c, d⟩
        by_cases e : j = k
        · subst e; exact absurd d hc
        · exact ⟨j, by omega, b, c, d⟩

/-- at an instant: a without some, or one of others -/
def condW (a : Per) (w wo : List Per) (t : Int) : Bool := (right a && has a t && !someP wo t) || someP w t
def allW (a : Per) (w wo : List Per) : List Per := [a] ++ w ++ wo
def whereL (a : Per) (w wo : List Per) : List Per := whereK (edgesL (allW a w wo)) (condW a w wo) ((edgesL (allW a w wo)).length - 1)

theorem has_cell {l : List Per} {p : Per} (hp : p ∈ l) (hr : right p = true) {j : Nat} (hj : j + 1 < (edgesL l).length) {t : Int} (h1 : (ge (edgesL l) j) ≤ t) (h2 : t < (ge (edgesL l) (j + 1))) : has p t = has p (ge (edgesL l) j) := by
  obtain ⟨hE, hm⟩ := edgesL_ok l
  have m1 := (hm p.f).2 ((mem_endsOf l _).2 ⟨p, hp, hr, .inl rfl⟩)
  have m2 := (hm p.t).2 ((mem_endsOf l _).2 ⟨p, hp, hr, .inr rfl⟩)
  rw [Bool.eq_iff_iff, has_iff, has_iff]
  constructor
  · rintro ⟨a, b⟩
    refine ⟨?_, by omega⟩
    apply Classical.byContradiction
    intro hn
    have := hE.gap hj m1 (by omega)
    omega
  · rintro ⟨a, b⟩
    refine ⟨by omega, ?_⟩
    have := hE.gap hj m2 b
    omega
theorem some_cell {l m : List Per} (hs : ∀ p ∈ m, p ∈ l) {j : Nat} (hj : j + 1 < (edgesL l).length) {t : Int} (h1 : (ge (edgesL l) j) ≤ t) (h2 : t < (ge (edgesL l) (j + 1))) : someP m t = someP m (ge (edgesL l) j) := by
  unfold someP
  rw [Bool.eq_iff_iff, List.any_eq_true, List.any_eq_true]
  constructor
  · rintro ⟨p, hp, h⟩
    simp only [Bool.and_eq_true] at h
    exact ⟨p, hp, by rw [h.1, ← has_cell (hs p hp) h.1 hj h1 h2, h.2]; rfl⟩
  · rintro ⟨p, hp, h⟩
    simp only [Bool.and_eq_true] at h
    exact ⟨p, hp, by rw [h.1, has_cell (hs p hp) h.1 hj h1 h2, h.2]; rfl⟩

theorem whereL_ok (a : Per) (w wo : List Per) : Canon (whereL a w wo) ∧ ∀ t, inL (whereL a w wo) t = condW a w wo t := by
  obtain ⟨hE, hm⟩ := edgesL_ok (allW a w wo)
  have ha : a ∈ allW a w wo := by simp [allW]
  have hw : ∀ p ∈ w, p ∈ allW a w wo := fun p hp => by simp [allW, hp]
  have hwo : ∀ p ∈ wo, p ∈ allW a w wo := fun p hp => by simp [allW, hp]
  have hcell := fun (j : Nat) (hj : j + 1 < (edgesL (allW a w wo)).length) (t : Int) (h1 : (ge (edgesL (allW a w wo)) j) ≤ t) (h2 : t < (ge (edgesL (allW a w wo)) (j + 1))) =>
    show condW a w wo t = condW a w wo (ge (edgesL (allW a w wo)) j) by
      unfold condW
      rw [some_cell hw hj h1 h2, some_cell hwo hj h1 h2]
      cases hr : right a with
      | false => simp
      | true => rw [has_cell ha hr hj h1 h2]
  have hin : ∀ t, condW a w wo t = true → ∃ j, j + 1 < (edgesL (allW a w wo)).length ∧ (ge (edgesL (allW a w wo)) j) ≤ t ∧ t < (ge (edgesL (allW a w wo)) (j + 1)) := by
    intro t h
    have : ∃ p ∈ allW a w wo, right p = true ∧ has p t = true := by
      unfold condW at h
      rw [Bool.or_eq_true] at h
      rcases h with h | h
      · simp only [Bool.and_eq_true] at h
        exact ⟨a, ha, h.1.1, h.1.2⟩
      · unfold someP at h
        rw [List.any_eq_true] at h
        obtain ⟨p, hp, h⟩ := h
        simp only [Bool.and_eq_true] at h
        exact ⟨p, hw p hp, h.1, h.2⟩
    obtain ⟨p, hp, hr, ht⟩ := this
    rw [has_iff] at ht
    exact hE.cell ((hm p.f).2 ((mem_endsOf _ _).2 ⟨p, hp, hr, .inl rfl⟩)) ((hm p.t).2 ((mem_endsOf _ _).2 ⟨p, hp, hr, .inr rfl⟩)) ht.1 ht.2
  have hb : ∀ t ∈ edgesL (allW a w wo), 0 ≤ t ∧ t ≤ 1099511627776 := by
    intro t ht
    obtain ⟨p, hp, hr, e⟩ := (mem_endsOf _ _).1 ((hm t).1 ht)
    have := (right_iff p).1 hr
    rcases e with rfl | rfl <;> omega
  unfold whereL
  generalize edgesL (allW a w wo) = E at *
  rcases Nat.eq_zero_or_pos E.length with h0 | h0
  · have : E.length - 1 = 0 := by omega
    rw [this]
    refine ⟨Canon.nil, fun t => ?_⟩
    cases hc : condW a w wo t with
    | false => rfl
    | true => obtain ⟨j, hj, _⟩ := hin t hc; omega
  · obtain ⟨h1, _, h3⟩ := whereK_ok hE hb (condW a w wo) (E.length - 1) (by omega)
    refine ⟨h1, fun t => ?_⟩
    rw [Bool.eq_iff_iff, h3]
    constructor
    · rintro ⟨j, a1, b, c, d⟩
      rw [hcell j (by omega) t b c]; exact d
    · intro h
      obtain ⟨j, hj, b, c⟩ := hin t h
      exact ⟨j, by omega, b, c, by rw [← hcell j hj t b c]; exact h⟩

theorem where_union {sortP : List Per → List Per} (hs : Sorts sortP) (l : List Per) : whereL ⟨0, 0⟩ l [] = unionL sortP l := by
  obtain ⟨h1, h2⟩ := whereL_ok ⟨0, 0⟩ l []
  obtain ⟨h3, h4⟩ := unionL_ok hs l
  refine Canon.ext h1 h3 fun t => ?_
  rw [h2, h4]
  have : right ⟨0, 0⟩ = false := by decide
  simp [condW, this]
theorem where_minus {sortP : List Per → List Per} (hs : Sorts sortP) (a : Per) (l : List Per) : whereL a [] l = minusL sortP a l := by
  obtain ⟨h1, h2⟩ := whereL_ok a [] l
  obtain ⟨h3, h4⟩ := minusL_ok hs a l
  refine Canon.ext h1 h3 fun t => ?_
  rw [h2, h4]
  simp [condW, someP]
end Go.Proofs.Ytdpjdmgdngjjnaa
