/- Contracts of functions of the seat, proved in a logic on data over the model (part QL). -/
import Derived.Test.YtdpjdmgdngjjnaaQ7
set_option linter.unusedSimpArgs false
set_option linter.unusedVariables false
namespace Go.Proofs.Ytdpjdmgdngjjnaa
open Go.VL Go.RowKit

/-- rising, strictly apart, each right -/
structure Canon (l : List Per) : Prop where
  ok : ∀ p ∈ l, right p = true
  apart : l.Pairwise fun p q => p.t < q.f
/-- the instants of all -/
def inL (l : List Per) (t : Int) : Bool := l.any fun p => has p t
theorem inL_iff (l : List Per) (t : Int) : inL l t = true ↔ ∃ p ∈ l, p.f ≤ t ∧ t < p.t := by
  unfold inL; rw [List.any_eq_true]
  constructor
  · rintro ⟨p, h1, h2⟩; exact ⟨p, h1, (has_iff p t).1 h2⟩
  · rintro ⟨p, h1, h2⟩; exact ⟨p, h1, (has_iff p t).2 h2⟩
theorem inL_nil (t : Int) : inL [] t = false := rfl
theorem inL_cons (p : Per) (l : List Per) (t : Int) : inL (p :: l) t = (has p t || inL l t) := rfl
theorem inL_append (l m : List Per) (t : Int) : inL (l ++ m) t = (inL l t || inL m t) := by unfold inL; rw [List.any_append]
theorem Canon.nil : Canon [] := ⟨by simp, by simp⟩
theorem Canon.tail {p : Per} {l : List Per} (h : Canon (p :: l)) : Canon l := ⟨fun q hq => h.ok q (by simp [hq]), (List.pairwise_cons.1 h.apart).2⟩
theorem Canon.head {p : Per} {l : List Per} (h : Canon (p :: l)) {t : Int} (ht : inL l t = true) : p.t < t := by
  obtain ⟨q, hq, h1, _⟩ := (inL_iff l t).1 ht
  have := (List.pairwise_cons.1 h.apart).1 q hq
  omega

/-- THE CANONICAL FORM: two of the same instants are one -/
theorem Canon.ext : ∀ {l m : List Per}, Canon l → Canon m → (∀ t, inL l t = inL m t) → l = m
  | [], [], _, _, _ => rfl
  | [], q :: m, _, hm, h => by
    have h1 := h q.f
    have hq := (right_iff q).1 (hm.ok q (by simp))
    rw [inL_cons, (has_iff q q.f).2 ⟨by omega, by omega⟩, inL_nil] at h1
    simp at h1
  | p :: l, [], hl, _, h => by
    have h1 := h p.f
    have hp := (right_iff p).1 (hl.ok p (by simp))
    rw [inL_cons, (has_iff p p.f).2 ⟨by omega, by omega⟩, inL_nil] at h1
    simp at h1
  | p :: l, q :: m, hl, hm, h => by
    have hp := (right_iff p).1 (hl.ok p (by simp))
    have hq := (right_iff q).1 (hm.ok q (by simp))
    have low : ∀ {p : Per} {l : List Per} {t : Int}, Canon (p :: l) → inL (p :: l) t = true → p.f ≤ t := by
      intro p l t hc ht
      have hp := (right_iff p).1 (hc.ok p (by simp))
      rw [inL_cons, Bool.or_eq_true, has_iff] at ht
      rcases ht with ht | ht
      · exact ht.1
      · have := hc.head ht; omega
    have first : ∀ {p : Per} {l : List Per}, Canon (p :: l) → inL (p :: l) p.f = true := by
      intro p l hc
      have hp := (right_iff p).1 (hc.ok p (by simp))
      rw [inL_cons, (has_iff p p.f).2 ⟨by omega, by omega⟩]; rfl
    have e1 : p.f = q.f := by
      have a := low hm (by rw [← h]; exact first hl)
      have b := low hl (by rw [h]; exact first hm)
      omega
    have stop : ∀ {p : Per} {l : List Per}, Canon (p :: l) → inL (p :: l) p.t = false := by
      intro p l hc
      rw [Bool.eq_false_iff]
      intro ht
      rw [inL_cons, Bool.or_eq_true, has_iff] at ht
      rcases ht with ht | ht
      · omega
      · have := hc.head ht; omega
    have e2 : p.t = q.t := by
      rcases Int.lt_trichotomy p.t q.t with hlt | heq | hgt
      · have a := stop hl
        rw [h, inL_cons, (has_iff q p.t).2 ⟨by omega, hlt⟩] at a
        simp at a
      · exact heq
      · have a := stop hm
        rw [← h, inL_cons, (has_iff p q.t).2 ⟨by omega, hgt⟩] at a
        simp at a
    have e : p = q := by cases p; cases q; simp at e1 e2; simp [e1, e2]
    subst e
    refine congrArg (p :: ·) (Canon.ext hl.tail hm.tail fun t => ?_)
    have ht := h t
    rw [inL_cons, inL_cons] at ht
    cases hh : has p t with
    | false => simpa [hh] using ht
    | true =>
      have hht := (has_iff p t).1 hh
      have a : inL l t = false := by
        rw [Bool.eq_false_iff]; intro hx; have := hl.head hx; omega
      have b : inL m t = false := by
        rw [Bool.eq_false_iff]; intro hx; have := hm.head hx; omega
      rw [a, b]

theorem Canon.snoc {l : List Per} {p : Per} (h : Canon l) (hp : right p = true) (hb : ∀ q ∈ l, q.t < p.f) : Canon (l ++ [p]) := by
  refine ⟨fun q hq => ?_, ?_⟩
  · rcases List.mem_append.1 hq with h1 | h1
    · exact h.ok q h1
    · simp at h1; subst h1; exact hp
  · rw [List.pairwise_append]
    exact ⟨h.apart, by simp, fun q hq r hr => by simp at hr; subst hr; exact hb q hq⟩
theorem Canon.init {l : List Per} {p : Per} (h : Canon (l ++ [p])) : Canon l ∧ right p = true ∧ ∀ q ∈ l, q.t < p.f := by
  refine ⟨⟨fun q hq => h.ok q (by simp [hq]), (List.pairwise_append.1 h.apart).1⟩, h.ok p (by simp), fun q hq => (List.pairwise_append.1 h.apart).2.2 q hq p (by simp)⟩

theorem addP_nil (p : Per) : addP [] p = [p] := by simp [addP]
theorem addP_snoc (l : List Per) (q p : Per) : addP (l ++ [q]) p = if p.f ≤ q.t then l ++ [⟨q.f, max q.t p.t⟩] else l ++ [q] ++ [p] := by
  have e : (l ++ [q])[(l ++ [q]).length - 1]! = q := by simp
  unfold addP
  rw [e]
  by_cases h : p.f ≤ q.t
  · rw [if_pos ⟨by simp, h⟩, if_pos h]
    simp [List.set_append]
  · rw [if_neg (fun x => h x.2), if_neg h]

/-- a row that rises, of which each next begins no earlier -/
theorem addP_ok {out : List Per} {p : Per} (h : Canon out) (hp : right p = true) (hf : ∀ q ∈ out, q.f ≤ p.f) :
    Canon (addP out p) ∧ (∀ t, inL (addP out p) t = (inL out t || has p t)) ∧ ∀ q ∈ addP out p, q.f ≤ p.f := by
  rcases List.eq_nil_or_concat out with rfl | ⟨l, q, rfl⟩
  · rw [addP_nil]
    refine ⟨⟨by simpa using hp, by simp⟩, fun t => by simp [inL], by simp⟩
  · rw [List.concat_eq_append] at *
    obtain ⟨h1, h2, h3⟩ := h.init
    have hqf := hf q (by simp)
    have hq := (right_iff q).1 h2
    have hpp := (right_iff p).1 hp
    rw [addP_snoc]
    by_cases hle : p.f ≤ q.t
    · rw [if_pos hle]
      refine ⟨h1.snoc ?_ h3, fun t => ?_, fun r hr => ?_⟩
      · rw [right_iff]; simp only; omega
      · rw [inL_append, inL_append, Bool.or_assoc]
        congr 1
        rw [Bool.eq_iff_iff]
        simp only [inL_cons, inL_nil, Bool.or_false, Bool.or_eq_true, has_iff]
        omega
      · rcases List.mem_append.1 hr with h4 | h4
        · exact hf r (by simp [h4])
        · simp at h4; subst h4; exact hqf
    · rw [if_neg hle]
      refine ⟨h.snoc hp fun r hr => ?_, fun t => ?_, fun r hr => ?_⟩
      · rcases List.mem_append.1 hr with h4 | h4
        · have := h3 r h4; omega
        · simp at h4; subst h4; omega
      · rw [inL_append]; simp [inL]
      · rcases List.mem_append.1 hr with h4 | h4
        · exact hf r h4
        · simp at h4; subst h4; omega

theorem sumP_ok (s : List Per) (hs : s.Pairwise fun x y => x.f ≤ y.f) (hr : ∀ p ∈ s, right p = true) : ∀ k, k ≤ s.length →
    Canon (sumP (s.take k)) ∧ (∀ t, inL (sumP (s.take k)) t = inL (s.take k) t) ∧ ∀ q ∈ sumP (s.take k), ∀ p ∈ s.drop k, q.f ≤ p.f
  | 0, _ => ⟨by simp [sumP, Canon.nil], fun t => by simp [sumP], by simp [sumP]⟩
  | k + 1, h => by
    obtain ⟨h1, h2, h3⟩ := sumP_ok s hs hr k (by omega)
    have hk : k < s.length := by omega
    rw [sumP_snoc s hk]
    have hd : s.drop k = s[k] :: s.drop (k + 1) := List.drop_eq_getElem_cons hk
    obtain ⟨a1, a2, a3⟩ := addP_ok h1 (hr _ (List.getElem_mem hk)) (fun q hq => h3 q hq s[k] (hd ▸ List.mem_cons_self))
    refine ⟨a1, fun t => ?_, fun q hq p hp => ?_⟩
    · rw [a2, h2, take_snoc hk, inL_append]; simp [inL]
    · have b1 := a3 q hq
      have b2 : (s.drop k).Pairwise fun x y => x.f ≤ y.f := hs.sublist (List.drop_sublist _ _)
      rw [hd] at b2
      have := (List.pairwise_cons.1 b2).1 p hp
      omega

theorem unionL_ok {sortP : List Per → List Per} (hs : Sorts sortP) (l : List Per) : Canon (unionL sortP l) ∧ ∀ t, inL (unionL sortP l) t = someP l t := by
  have hp := hs.perm (l.filter right)
  have h := sumP_ok (sortP (l.filter right)) (hs.sorted _) (fun p hx => by have := hp.mem_iff.1 hx; simp at this; exact this.2) (sortP (l.filter right)).length (Nat.le_refl _)
  rw [List.take_length] at h
  refine ⟨h.1, fun t => ?_⟩
  unfold unionL
  rw [h.2.1 t]
  unfold inL someP
  rw [Bool.eq_iff_iff, List.any_eq_true, List.any_eq_true]
  constructor
  · rintro ⟨p, h1, h2⟩
    have := hp.mem_iff.1 h1
    simp at this
    exact ⟨p, this.1, by simp [this.2, h2]⟩
  · rintro ⟨p, h1, h2⟩
    simp at h2
    exact ⟨p, hp.mem_iff.2 (by simp [h1, h2.1]), h2.2⟩

theorem inL_take_snoc (u : List Per) {k : Nat} (h : k < u.length) (t : Int) : inL (u.take (k + 1)) t = (inL (u.take k) t || has u[k] t) := by
  rw [take_snoc h, inL_append]; simp [inL]

theorem subK_ok {a : Per} {u : List Per} (ha : right a = true) (hu : Canon u) : ∀ k, k ≤ u.length → (∀ j, (h : j < u.length) → j < k → u[j].f < a.t) →
    Canon (subK a (u.take k)).1 ∧ a.f ≤ (subK a (u.take k)).2 ∧ (∀ q ∈ (subK a (u.take k)).1, q.t < (subK a (u.take k)).2 ∧ q.t ≤ a.t) ∧
    (∀ t, inL (subK a (u.take k)).1 t = (decide (a.f ≤ t) && decide (t < (subK a (u.take k)).2) && decide (t < a.t) && !inL (u.take k) t)) ∧ (∀ j, (h : j < u.length) → j < k → u[j].t ≤ (subK a (u.take k)).2) ∧ (subK a (u.take k)).2 ≤ 1099511627776 ∧
    ((subK a (u.take k)).2 = a.f ∨ ∃ j, ∃ h : j < u.length, j < k ∧ (subK a (u.take k)).2 = u[j].t)
  | 0, _, _ => by
    have := (right_iff a).1 ha
    refine ⟨by simp [subK, Canon.nil], by simp [subK], by simp [subK], fun t => ?_, by simp, by simp [subK]; omega, by simp [subK]⟩
    rw [Bool.eq_iff_iff]
    simp [subK, inL]
    intro x1 x2
    have := of_decide_eq_true x2
    omega
  | k + 1, hk1, hb => by
    obtain ⟨h1, h2, h3, h4, h5, h6, h7⟩ := subK_ok ha hu k (by omega) (fun j h hj => hb j h (by omega))
    have hk : k < u.length := by omega
    have hua := hb k hk (by omega)
    have huk := (right_iff u[k]).1 (hu.ok _ (List.getElem_mem hk))
    have haa := (right_iff a).1 ha
    rw [subK_snoc a u hk]
    generalize subK a (u.take k) = s at *
    obtain ⟨out, fr⟩ := s
    simp only [subS] at *
    have hin : ∀ t, inL (u.take k) t = true → t < fr := by
      intro t ht
      obtain ⟨p, hp, _, h8⟩ := (inL_iff _ _).1 ht
      obtain ⟨j, hj, rfl⟩ := List.getElem_of_mem hp
      simp at hj
      have := h5 j (by omega) (by omega)
      simp at h8
      omega
    have hin2 : ∀ t, inL (u.take k) t = true → t < u[k].f := by
      intro t ht
      obtain ⟨p, hp, _, h8⟩ := (inL_iff _ _).1 ht
      obtain ⟨j, hj, rfl⟩ := List.getElem_of_mem hp
      simp at hj
      have := List.pairwise_iff_getElem.1 hu.apart j k (by omega) hk (by omega)
      simp at h8
      omega
    have hfr : fr = a.f ∨ fr < u[k].f := by
      rcases h7 with h7 | ⟨j, hj, hjk, h7⟩
      · exact .inl h7
      · have := List.pairwise_iff_getElem.1 hu.apart j k hj hk (by omega)
        omega
    refine ⟨?_, by omega, ?_, fun t => ?_, fun j h hj => ?_, by omega, ?_⟩
    · split
      · exact h1.snoc (by rw [right_iff]; simp only; omega) (fun q hq => (h3 q hq).1)
      · exact h1
    · intro q hq
      split at hq
      · rcases List.mem_append.1 hq with h7 | h7
        · have := h3 q h7; omega
        · simp at h7; subst h7; simp only; omega
      · have := h3 q hq; omega
    · rw [inL_take_snoc u hk]
      have a1 := hin t
      have a2 := hin2 t
      have a3 := h4 t
      have e1 := inL_append out [⟨fr, u[k].f⟩] t
      have e2 : inL [(⟨fr, u[k].f⟩ : Per)] t = (decide (fr ≤ t) && decide (t < u[k].f)) := by simp [inL, has]
      have e3 : has u[k] t = (decide (u[k].f ≤ t) && decide (t < u[k].t)) := rfl
      split
      · rw [e1, e2, e3, a3, Bool.eq_iff_iff]
        simp only [Bool.or_eq_true, Bool.and_eq_true, decide_eq_true_eq, Bool.not_eq_true', Bool.or_eq_false_iff, Bool.and_eq_false_iff, decide_eq_false_iff_not]
        rcases Int.le_total fr u[k].t with hm | hm
        · rw [Int.max_eq_right hm]
          cases hx : inL (u.take k) t
          · simp; omega
          · have := a1 hx
            have := a2 hx
            simp; omega
        · rw [Int.max_eq_left hm]
          cases hx : inL (u.take k) t
          · simp; omega
          · have := a1 hx
            have := a2 hx
            simp; omega
      · rw [e3, a3, Bool.eq_iff_iff]
        simp only [Bool.or_eq_true, Bool.and_eq_true, decide_eq_true_eq, Bool.not_eq_true', Bool.or_eq_false_iff, Bool.and_eq_false_iff, decide_eq_false_iff_not]
        rcases Int.le_total fr u[k].t with hm | hm
        · rw [Int.max_eq_right hm]
          cases inL (u.take k) t
          · simp; omega
          · simp
        · rw [Int.max_eq_left hm]
          cases inL (u.take k) t
          · simp; omega
          · simp
    · by_cases e : j = k
      · subst e; omega
      · have := h5 j h (by omega); omega
    · rcases Int.le_total fr u[k].t with hm | hm
      · exact .inr ⟨k, hk, by omega, Int.max_eq_right hm⟩
      · rw [Int.max_eq_left hm]
        rcases h7 with h7 | ⟨j, hj, hjk, h7⟩
        · exact .inl h7
        · exact .inr ⟨j, hj, by omega, h7⟩

theorem takeWhile_split {α : Type} (q : α → Bool) (u : List α) : ∃ k, k ≤ u.length ∧ u.takeWhile q = u.take k ∧ (∀ j, (h : j < u.length) → j < k → q u[j] = true) ∧ (∀ h : k < u.length, q u[k] = false) := by
  induction u with
  | nil => exact ⟨0, by simp, by simp, by simp, by simp⟩
  | cons x u ih =>
    obtain ⟨k, h1, h2, h3, h4⟩ := ih
    cases hx : q x with
    | false => exact ⟨0, by simp, by simp [hx], by simp, by simp [hx]⟩
    | true =>
      refine ⟨k + 1, by simp; omega, by simp [hx, h2], fun j h hj => ?_, fun h => ?_⟩
      · cases j with
        | zero => simpa using hx
        | succ j => simpa using h3 j (by simp at h; omega) (by omega)
      · simpa using h4 (by simp at h; omega)

theorem minusP_ok {a : Per} {u : List Per} (ha : right a = true) (hu : Canon u) : Canon (minusP a u) ∧ ∀ t, inL (minusP a u) t = (has a t && !inL u t) := by
  obtain ⟨k, hk, e1, e2, e3⟩ := takeWhile_split (fun p => decide (p.f < a.t)) u
  obtain ⟨h1, h2, h3, h4, h5, h6, _⟩ := subK_ok ha hu k hk (fun j h hj => by simpa using e2 j h hj)
  have haa := (right_iff a).1 ha
  unfold minusP
  rw [e1]
  generalize subK a (u.take k) = s at *
  obtain ⟨out, fr⟩ := s
  simp only at *
  have hrest : ∀ t, inL u t = true → t < a.t → inL (u.take k) t = true := by
    intro t ht hat
    obtain ⟨p, hp, h7, h8⟩ := (inL_iff _ _).1 ht
    obtain ⟨j, hj, rfl⟩ := List.getElem_of_mem hp
    rw [inL_iff]
    by_cases hjk : j < k
    · exact ⟨u[j], List.mem_take_iff_getElem.2 ⟨j, by omega, rfl⟩, h7, h8⟩
    · exfalso
      have hkl : k < u.length := by omega
      have := e3 hkl
      simp at this
      by_cases e : j = k
      · subst e; omega
      · have h9 := List.pairwise_iff_getElem.1 hu.apart k j hkl hj (by omega)
        have := (right_iff u[k]).1 (hu.ok _ (List.getElem_mem hkl))
        omega
  have hsub : ∀ t, inL (u.take k) t = true → inL u t = true := by
    intro t ht
    obtain ⟨p, hp, h7⟩ := (inL_iff _ _).1 ht
    exact (inL_iff _ _).2 ⟨p, List.mem_of_mem_take hp, h7⟩
  have hin : ∀ t, inL (u.take k) t = true → t < fr := by
    intro t ht
    obtain ⟨p, hp, _, h8⟩ := (inL_iff _ _).1 ht
    obtain ⟨j, hj, rfl⟩ := List.getElem_of_mem hp
    simp at hj
    have := h5 j (by omega) (by omega)
    simp at h8
    omega
  have e0 : ∀ t, has a t = (decide (a.f ≤ t) && decide (t < a.t)) := fun t => rfl
  split
  · refine ⟨h1.snoc (by rw [right_iff]; simp only; omega) (fun q hq => (h3 q hq).1), fun t => ?_⟩
    have e2 : inL [(⟨fr, a.t⟩ : Per)] t = (decide (fr ≤ t) && decide (t < a.t)) := by simp [inL, has]
    have a1 := hrest t
    have a2 := hsub t
    have a3 := hin t
    rw [inL_append, e2, h4, e0, Bool.eq_iff_iff]
    simp only [Bool.or_eq_true, Bool.and_eq_true, decide_eq_true_eq, Bool.not_eq_true']
    cases hx : inL (u.take k) t <;> cases hy : inL u t <;> simp [hx, hy] at a1 a2 a3 ⊢ <;> omega
  · refine ⟨h1, fun t => ?_⟩
    have a1 := hrest t
    have a2 := hsub t
    have a3 := hin t
    rw [h4, e0, Bool.eq_iff_iff]
    simp only [Bool.and_eq_true, decide_eq_true_eq, Bool.not_eq_true']
    cases hx : inL (u.take k) t <;> cases hy : inL u t <;> simp [hx, hy] at a1 a2 a3 ⊢ <;> omega

theorem minusL_ok {sortP : List Per → List Per} (hs : Sorts sortP) (a : Per) (l : List Per) : Canon (minusL sortP a l) ∧ ∀ t, inL (minusL sortP a l) t = (right a && has a t && !someP l t) := by
  unfold minusL
  have hu := unionL_ok hs l
  split
  · rename_i h
    have hm := minusP_ok h hu.1
    refine ⟨hm.1, fun t => ?_⟩
    rw [hm.2, hu.2, h, Bool.true_and]
  · rename_i h
    refine ⟨Canon.nil, fun t => ?_⟩
    simp at h
    simp [inL, h]
end Go.Proofs.Ytdpjdmgdngjjnaa
