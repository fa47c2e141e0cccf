/- Plain law: deleting never makes a clash. -/
import Derived.Test.YtkfiiomdkljjnaaE5
set_option linter.unusedSimpArgs false
set_option linter.unusedVariables false
namespace Go.Proofs.Ytkfiiomdkljjnaa
open Go.VL Go.RowKit

/-! ### What a delete does -/
theorem partsK_mem {sortP : List Per → List Per} {l : List Fact} {p : Per} {x : Part} : ∀ k, x ∈ partsK sortP l p k ↔ ∃ i, i < k ∧ ∃ h : i < l.length, lapOk l[i].p p = true ∧ x = partOf sortP i l[i] p
  | 0 => by simp [partsK]
  | k + 1 => by
    have ih := partsK_mem (sortP := sortP) (l := l) (p := p) (x := x) k
    by_cases hk : k < l.length
    · by_cases hg : lapOk l[k].p p = true
      · rw [partsK_yes hk hg, List.mem_append, ih, List.mem_singleton]
        constructor
        · rintro (⟨i, hi, h, h1, h2⟩ | h)
          · exact ⟨i, by omega, h, h1, h2⟩
          · exact ⟨k, by omega, hk, hg, h⟩
        · rintro ⟨i, hi, h, h1, h2⟩
          by_cases e : i = k
          · subst e; exact .inr h2
          · exact .inl ⟨i, by omega, h, h1, h2⟩
      · have hg' : lapOk l[k].p p = false := by simpa using hg
        rw [partsK_no hk hg', ih]
        constructor
        · rintro ⟨i, hi, h⟩; exact ⟨i, by omega, h⟩
        · rintro ⟨i, hi, h, h1, h2⟩
          by_cases e : i = k
          · subst e; exact absurd h1 hg
          · exact ⟨i, by omega, h, h1, h2⟩
    · rw [partsK, List.getElem?_eq_none (by omega), List.append_nil, ih]
      constructor
      · rintro ⟨i, hi, h⟩; exact ⟨i, by omega, h⟩
      · rintro ⟨i, hi, h, h1⟩; exact ⟨i, by omega, h, h1⟩
theorem partsK_rise {sortP : List Per → List Per} {l : List Fact} {p : Per} : ∀ k, (partsK sortP l p k).Pairwise fun x y => x.at_ < y.at_
  | 0 => by simp [partsK]
  | k + 1 => by
    rw [partsK, List.pairwise_append]
    refine ⟨partsK_rise k, ?_, ?_⟩
    · split
      · split <;> simp
      · simp
    · intro x hx y hy
      obtain ⟨i, hi, h, h1, rfl⟩ := (partsK_mem k).1 hx
      split at hy
      · split at hy
        · simp at hy; subst hy; exact hi
        · simp at hy
      · simp at hy
theorem delE_mem {sortP : List Per → List Per} {l : List Fact} {p : Per} {i : Nat} (h : i < l.length) : (i : Int) ∈ delE sortP l p ↔ lapOk l[i].p p = true := by
  unfold delE
  rw [List.mem_map]
  constructor
  · rintro ⟨x, hx, e⟩
    obtain ⟨j, hj, h', h1, rfl⟩ := (partsK_mem _).1 hx
    have : j = i := by simp [partOf] at e; omega
    subst this; exact h1
  · intro h1
    exact ⟨_, (partsK_mem _).2 ⟨i, h, h, h1, rfl⟩, rfl⟩
theorem delE_range {sortP : List Per → List Per} {l : List Fact} {p : Per} {e : Int} (h : e ∈ delE sortP l p) : 0 ≤ e ∧ e < l.length := by
  obtain ⟨x, hx, rfl⟩ := List.mem_map.1 h
  obtain ⟨j, hj, h', h1, rfl⟩ := (partsK_mem _).1 hx
  simp [partOf]; omega
theorem delE_rise {sortP : List Per → List Per} {l : List Fact} {p : Per} : (delE sortP l p).Pairwise (· < ·) := by
  unfold delE
  rw [List.pairwise_map]
  exact (partsK_rise l.length).imp fun h => by omega
theorem endsE_del {sortP : List Per → List Per} (l : List Fact) (p : Per) : endsE l.length (delE sortP l p) = 0 := by
  have hr := delE_rise (sortP := sortP) (l := l) (p := p)
  have hm : ∀ e ∈ delE sortP l p, 0 ≤ e ∧ e < l.length := fun e he => delE_range he
  generalize delE sortP l p = E at hr hm
  have key : ∀ k, k ≤ E.length → firstE (endE l.length) [] (E.take k) = 0 := by
    intro k
    induction k with
    | zero => intro _; rfl
    | succ k ih =>
      intro hk
      refine firstE_at _ E (by omega) (ih (by omega)) ?_
      have h1 := hm E[k] (List.getElem_mem (by omega))
      unfold endE
      rw [if_neg (by omega), if_neg]
      intro hin
      obtain ⟨j, hj, e⟩ := List.getElem_of_mem hin
      have hj' : j < k := by simp at hj; omega
      simp at e
      have := (List.pairwise_iff_getElem.1 hr) j k (by omega) (by omega) hj'
      omega
  have := key E.length (Nat.le_refl _)
  rwa [List.take_length] at this

/-- facts that are kept, facts that are cut -/
def outside (l : List Fact) (p : Per) : List Fact := l.filter fun f => !lapOk f.p p
def inside (l : List Fact) (p : Per) : List Fact := l.filter fun f => lapOk f.p p
theorem keep_del {sortP : List Per → List Per} (l : List Fact) (p : Per) : ∀ k, k ≤ l.length → keep (goneE (delE sortP l p)) l k = (l.take k).filter fun f => !lapOk f.p p
  | 0, _ => by simp [keep]
  | k + 1, h => by
    have hk : k < l.length := by omega
    have ih := keep_del (sortP := sortP) l p k (by omega)
    have hg : goneE (delE sortP l p) k = lapOk l[k].p p := by
      rw [goneE_mem, Bool.eq_iff_iff, decide_eq_true_iff, delE_mem hk]
    rw [take_snoc hk, List.filter_append]
    cases hl : lapOk l[k].p p with
    | true => rw [keep_no (by rw [hg, hl]), ih]; simp [hl]
    | false => rw [keep_yes hk (by rw [hg, hl]), ih]; simp [hl]
theorem delA_eq {sortP : List Per → List Per} (l : List Fact) (p : Per) : delA sortP l p = (inside l p).flatMap fun f => restsOf sortP f p := by
  have key : ∀ k, k ≤ l.length → (partsK sortP l p k).flatMap Part.rests = (inside (l.take k) p).flatMap fun f => restsOf sortP f p := by
    intro k
    induction k with
    | zero => intro _; simp [partsK, inside]
    | succ k ih =>
      intro h
      have hk : k < l.length := by omega
      unfold inside at ih ⊢
      rw [take_snoc hk, List.filter_append, List.flatMap_append, ← ih (by omega)]
      cases hl : lapOk l[k].p p with
      | true => rw [partsK_yes hk hl, List.flatMap_append]; simp [hl, partOf]
      | false => rw [partsK_no hk hl]; simp [hl]
  have := key l.length (Nat.le_refl _)
  rw [List.take_length] at this
  exact this
def afterDel (sortP : List Per → List Per) (l : List Fact) (p : Per) : List Fact := applyF l (delE sortP l p) (delA sortP l p)
theorem afterDel_eq {sortP : List Per → List Per} (l : List Fact) (p : Per) : afterDel sortP l p = outside l p ++ (inside l p).flatMap fun f => restsOf sortP f p := by
  unfold afterDel applyF outside
  rw [keep_del l p l.length (Nat.le_refl _), List.take_length, delA_eq]

/-! ### No clash comes of it -/
theorem rest_sub {sortP : List Per → List Per} (hs : Sorts sortP) {f x : Fact} {p : Per} (h : x ∈ restsOf sortP f p) : x.row = f.row ∧ right x.p = true ∧ right f.p = true ∧ ∀ t, has x.p t = true → has f.p t = true := by
  unfold restsOf at h
  obtain ⟨q, hq, rfl⟩ := List.mem_map.1 h
  obtain ⟨hc, hi⟩ := minusL_ok hs f.p [p]
  have hok := hc.ok q hq
  have hsub : ∀ t, has q t = true → right f.p = true ∧ has f.p t = true := by
    intro t ht
    have : inL (minusL sortP f.p [p]) t = true := by unfold inL; rw [List.any_eq_true]; exact ⟨q, hq, ht⟩
    rw [hi] at this
    simp only [Bool.and_eq_true] at this
    exact this.1
  have h0 : has q q.f = true := by rw [has_iff]; have := (right_iff q).1 hok; omega
  exact ⟨rfl, hok, (hsub _ h0).1, fun t ht => (hsub t ht).2⟩
theorem NC_sub {keys : List Int} {f g x y : Fact} (h : NC keys f g) (hx : x.row = f.row) (hy : y.row = g.row) (rf : right f.p = true) (rg : right g.p = true) (sx : ∀ t, has x.p t = true → has f.p t = true) (sy : ∀ t, has y.p t = true → has g.p t = true) : NC keys x y := by
  unfold NC clashes at h ⊢
  rw [hx, hy]
  cases hl : lapOk x.p y.p with
  | false => rfl
  | true =>
    obtain ⟨_, _, t, h1, h2⟩ := (lapOk_iff _ _).1 hl
    have : lapOk f.p g.p = true := (lapOk_iff _ _).2 ⟨rf, rg, t, sx t h1, sy t h2⟩
    rwa [this] at h
theorem lapOk_right {a b : Per} (h : lapOk a b = true) : right a = true := ((lapOk_iff a b).1 h).1
theorem NC_wrong {keys : List Int} {f g : Fact} (h : right f.p = false) : NC keys f g := by
  unfold NC clashes
  have : lapOk f.p g.p = false := by
    cases hl : lapOk f.p g.p with
    | false => rfl
    | true => rw [lapOk_right hl] at h; cases h
  rw [this]; rfl
theorem NC_ne {keys : List Int} {l : List Fact} (h : l.Pairwise (NC keys)) {f g : Fact} (hf : f ∈ l) (hg : g ∈ l) (hne : f ≠ g) : NC keys f g := by
  obtain ⟨i, hi, rfl⟩ := List.getElem_of_mem hf
  obtain ⟨j, hj, rfl⟩ := List.getElem_of_mem hg
  rcases Nat.lt_trichotomy i j with hlt | e | hlt
  · exact (List.pairwise_iff_getElem.1 h) i j hi hj hlt
  · subst e; exact absurd rfl hne
  · exact ((List.pairwise_iff_getElem.1 h) j i hj hi hlt).symm
theorem rests_apart {sortP : List Per → List Per} (hs : Sorts sortP) (keys : List Int) (f : Fact) (p : Per) : (restsOf sortP f p).Pairwise (NC keys) := by
  unfold restsOf
  rw [List.pairwise_map]
  refine (minusL_ok hs f.p [p]).1.apart.imp fun {a b} h => ?_
  unfold NC clashes
  have : lapOk a b = false := by
    cases hl : lapOk a b with
    | false => rfl
    | true =>
      obtain ⟨_, _, t, h1, h2⟩ := (lapOk_iff _ _).1 hl
      rw [has_iff] at h1 h2
      omega
  show (lapOk a b && _) = false
  rw [this]; rfl
theorem del_law {sortP : List Per → List Per} (hs : Sorts sortP) (keys : List Int) (l : List Fact) (p : Per) (h : l.Pairwise (NC keys)) : (afterDel sortP l p).Pairwise (NC keys) := by
  rw [afterDel_eq, List.pairwise_append]
  refine ⟨h.sublist List.filter_sublist, ?_, ?_⟩
  · rw [List.pairwise_flatMap]
    refine ⟨fun f _ => rests_apart hs keys f p, ?_⟩
    have h2 : (inside l p).Pairwise (NC keys) := h.sublist List.filter_sublist
    refine List.Pairwise.imp ?_ h2
    intro f g hn x hx y hy
    obtain ⟨e1, _, r1, s1⟩ := rest_sub hs hx
    obtain ⟨e2, _, r2, s2⟩ := rest_sub hs hy
    exact NC_sub hn e1 e2 r1 r2 s1 s2
  · intro f hf x hx
    obtain ⟨g, hg, hx⟩ := List.mem_flatMap.1 hx
    obtain ⟨hf1, hf2⟩ := List.mem_filter.1 hf
    obtain ⟨hg1, hg2⟩ := List.mem_filter.1 hg
    obtain ⟨e2, _, r2, s2⟩ := rest_sub hs hx
    have hne : f ≠ g := by
      rintro rfl
      simp only [hg2] at hf2
      simp at hf2
    have hn := NC_ne h hf1 hg1 hne
    cases hr : right f.p with
    | false => exact NC_wrong hr
    | true => exact NC_sub hn rfl e2 hr r2 (fun _ h => h) s2
theorem NC_owned {keys : List Int} {l : List Fact} (h : l.Pairwise (NC keys)) : (l.map owned).Pairwise (NC keys) := by
  rw [List.pairwise_map]
  exact h.imp fun h => h
theorem still_law {sortP : List Per → List Per} (hs : Sorts sortP) (keys : List Int) (l : List Fact) (p : Per) : ((clashR l keys).isSome || !(clashR ((afterDel sortP l p).map owned) keys).isSome) = true := by
  cases h : (clashR l keys).isSome with
  | true => rfl
  | false =>
    rw [clashR_iff] at h
    have := (clashR_iff _ _).2 (NC_owned (del_law hs keys l p h))
    rw [this]; rfl
end Go.Proofs.Ytkfiiomdkljjnaa
