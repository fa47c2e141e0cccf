/- Contracts: what facts say, from edge to edge. -/
import Derived.Test.YtkfiiomdkljjnaaGreatEA
set_option linter.unusedSimpArgs false
set_option linter.unusedVariables false
namespace Go.Proofs.YtkfiiomdkljjnaaGreat
open Go.VL Go.RowKit

abbrev pers (l : List Fact) : List Per := l.map Fact.p
def ge (E : List Int) (k : Nat) : Int := E[k]!
theorem ge_pos (E : List Int) (k : Nat) (h : k < E.length) : ge E k = E[k] := getElem!_pos E k h
def cellC (l : List Fact) (E : List Int) (i : Nat) : List C := [i64 (ge E i), i64 (ge E (i + 1)), .sl (rowsAt l (ge E i)).isEmpty (rowsC (rowsAt l (ge E i)))]
def cellsC (l : List Fact) (E : List Int) (k : Nat) : List (List C) := (List.range k).map (cellC l E)
@[simp] theorem cellsC_len (l : List Fact) (E : List Int) (k : Nat) : (cellsC l E k).length = k := by simp [cellsC]
@[simp] theorem cellsC_get (l : List Fact) (E : List Int) (k i : Nat) (h : i < (cellsC l E k).length) : (cellsC l E k)[i] = cellC l E i := by simp [cellsC]
theorem cellsC_snoc (l : List Fact) (E : List Int) (k : Nat) : cellsC l E (k + 1) = cellsC l E k ++ [cellC l E k] := by simp [cellsC, List.range_succ]

end Go.Proofs.YtkfiiomdkljjnaaGreat
/- Plain law: there is a clash just if at some edge two rows are alike; deleting never makes one. -/
set_option linter.unusedSimpArgs false
set_option linter.unusedVariables false
namespace Go.Proofs.YtkfiiomdkljjnaaGreat
open Go.VL Go.RowKit

theorem clashRow_none {l : List Fact} {keys : List Int} {i : Nat} : ∀ m, clashRow l keys i m = none ↔ ∀ j, j < m → clashes l[j]! l[i]! keys = false
  | 0 => by simp [clashRow]
  | m + 1 => by
    have ih := clashRow_none (l := l) (keys := keys) (i := i) m
    rw [clashRow]
    cases hx : clashRow l keys i m with
    | some r =>
      simp only [reduceCtorEq, false_iff]
      intro h
      rw [ih.2 (fun j hj => h j (by omega))] at hx
      cases hx
    | none =>
      have ih' := ih.1 hx
      show (if clashes l[m]! l[i]! keys then some (m, i) else none) = none ↔ _
      constructor
      · intro h j hj
        by_cases e : j = m
        · subst e
          cases hc : clashes l[j]! l[i]! keys with
          | false => rfl
          | true => rw [hc] at h; cases h
        · exact ih' j (by omega)
      · intro h; rw [h m (by omega)]; rfl
theorem clashUp_none {l : List Fact} {keys : List Int} : ∀ n, clashUp l keys n = none ↔ ∀ i, i < n → ∀ j, j < i → clashes l[j]! l[i]! keys = false
  | 0 => by simp [clashUp]
  | n + 1 => by
    have ih := clashUp_none (l := l) (keys := keys) n
    rw [clashUp]
    cases hx : clashUp l keys n with
    | some r =>
      simp only [reduceCtorEq, false_iff]
      intro h
      rw [ih.2 (fun i hi => h i (by omega))] at hx
      cases hx
    | none =>
      have ih' := ih.1 hx
      show clashRow l keys n n = none ↔ _
      rw [clashRow_none]
      constructor
      · intro h i hi
        by_cases e : i = n
        · subst e; exact h
        · exact ih' i (by omega)
      · intro h; exact h n (by omega)
/-- no two clash -/
def NC (keys : List Int) (f g : Fact) : Prop := clashes f g keys = false
theorem clashR_iff (l : List Fact) (keys : List Int) : (clashR l keys).isSome = false ↔ l.Pairwise (NC keys) := by
  have h := clashUp_none (l := l) (keys := keys) l.length
  rw [List.pairwise_iff_getElem]
  constructor
  · intro hs j i hj hi hlt
    have : clashR l keys = none := by cases hx : clashR l keys with
      | none => rfl
      | some r => rw [hx] at hs; cases hs
    have := h.1 this i hi j hlt
    rwa [getElem!_pos l j hj, getElem!_pos l i hi] at this
  · intro hp
    have : clashR l keys = none := h.2 fun i hi j hlt => by
      rw [getElem!_pos l j (by omega), getElem!_pos l i hi]
      exact hp j i (by omega) hi hlt
    rw [this]; rfl
theorem alikeK_comm (a b : List Val) (k : Int) : alikeK a b k = alikeK b a k := by
  unfold alikeK
  rw [Bool.eq_iff_iff]
  simp only [Bool.and_eq_true, decide_eq_true_eq, beq_iff_eq]
  exact ⟨fun ⟨⟨⟨h1, h2⟩, h3⟩, h4⟩ => ⟨⟨⟨h1, h3⟩, h2⟩, h4.symm⟩, fun ⟨⟨⟨h1, h2⟩, h3⟩, h4⟩ => ⟨⟨⟨h1, h3⟩, h2⟩, h4.symm⟩⟩
theorem alike_comm (a b : List Val) (keys : List Int) : alike a b keys = alike b a keys := by
  unfold alike
  rw [show alikeK a b = alikeK b a from funext (alikeK_comm a b)]
theorem lapOk_iff (a b : Per) : lapOk a b = true ↔ right a = true ∧ right b = true ∧ ∃ t, has a t = true ∧ has b t = true := by
  rw [lapOk_eq]
  simp only [Bool.and_eq_true, decide_eq_true_eq, has_iff]
  constructor
  · rintro ⟨h1, h2, h3, h4⟩
    refine ⟨h1, h2, max a.f b.f, ?_⟩
    rw [right_iff] at h1 h2
    omega
  · rintro ⟨h1, h2, t, h3, h4⟩
    exact ⟨h1, h2, by omega, by omega⟩
theorem lapOk_comm (a b : Per) : lapOk a b = lapOk b a := by
  rw [Bool.eq_iff_iff, lapOk_iff, lapOk_iff]
  exact ⟨fun ⟨h1, h2, t, h3, h4⟩ => ⟨h2, h1, t, h4, h3⟩, fun ⟨h1, h2, t, h3, h4⟩ => ⟨h2, h1, t, h4, h3⟩⟩
theorem NC.symm {keys : List Int} {f g : Fact} (h : NC keys f g) : NC keys g f := by
  unfold NC clashes at h ⊢
  rw [lapOk_comm, alike_comm]; exact h

/-! ### What the law finds, edge by edge -/
def NA (keys : List Int) (a b : List Val) : Prop := alike a b keys = false
theorem NA.symm {keys : List Int} {a b : List Val} (h : NA keys a b) : NA keys b a := by unfold NA at h ⊢; rw [alike_comm]; exact h
def anyJ (R : List (List Val)) (keys : List Int) (i j : Nat) : Bool := (List.range j).any fun j => alike R[i]! R[j]! keys
def foundI (R : List (List Val)) (keys : List Int) (i : Nat) : Bool := (List.range i).any fun i => anyJ R keys i i
def foundC (l : List Fact) (E : List Int) (keys : List Int) (c : Nat) : Bool := (List.range c).any fun c => foundI (rowsAt l (ge E c)) keys (rowsAt l (ge E c)).length
theorem foundI_iff (R : List (List Val)) (keys : List Int) : foundI R keys R.length = false ↔ R.Pairwise (NA keys) := by
  rw [List.pairwise_iff_getElem]
  unfold foundI anyJ
  constructor
  · intro h j i hj hi hlt
    rw [List.any_eq_false] at h
    have h2 := h i (by simpa using hi)
    simp only [Bool.not_eq_true, List.any_eq_false, List.mem_range] at h2
    have := h2 j hlt
    rw [getElem!_pos R i hi, getElem!_pos R j hj] at this
    exact NA.symm (by simpa [NA] using this)
  · intro h
    rw [List.any_eq_false]
    intro i hi
    simp only [List.mem_range] at hi
    simp only [Bool.not_eq_true, List.any_eq_false, List.mem_range]
    intro j hj
    rw [getElem!_pos R i hi, getElem!_pos R j (by omega)]
    have := (h j i (by omega) hi hj).symm
    simpa [NA] using this
theorem foundAt_iff (l : List Fact) (t : Int) (keys : List Int) : foundI (rowsAt l t) keys (rowsAt l t).length = false ↔ l.Pairwise fun f g => validAt f t = true → validAt g t = true → NA keys f.row g.row := by
  rw [foundI_iff, (rowsAt_perm l t).pairwise_iff (fun h => NA.symm h), List.pairwise_map, List.pairwise_filter]
theorem foundC_iff (l : List Fact) (E : List Int) (keys : List Int) (n : Nat) : foundC l E keys n = false ↔ ∀ c, c < n → l.Pairwise fun f g => validAt f (ge E c) = true → validAt g (ge E c) = true → NA keys f.row g.row := by
  unfold foundC
  rw [List.any_eq_false]
  constructor
  · intro h c hc
    exact (foundAt_iff l _ keys).1 (by simpa using h c (by simpa using hc))
  · intro h c hc
    simp only [List.mem_range] at hc
    simpa using (foundAt_iff l _ keys).2 (h c hc)
theorem found_law (l : List Fact) (keys : List Int) : (clashR l keys).isSome = foundC l (edgesL (pers l)) keys ((edgesL (pers l)).length - 1) := by
  suffices h : (clashR l keys).isSome = false ↔ foundC l (edgesL (pers l)) keys ((edgesL (pers l)).length - 1) = false by
    cases h1 : (clashR l keys).isSome <;> cases h2 : foundC l (edgesL (pers l)) keys ((edgesL (pers l)).length - 1) <;> simp_all
  rw [clashR_iff, foundC_iff]
  obtain ⟨hE, hmem⟩ := edgesL_ok (pers l)
  constructor
  · intro h c hc
    refine h.imp fun {f g} hn hf hg => ?_
    unfold validAt at hf hg
    simp only [Bool.and_eq_true] at hf hg
    have : lapOk f.p g.p = true := (lapOk_iff _ _).2 ⟨hf.1, hg.1, _, hf.2, hg.2⟩
    unfold NC clashes at hn
    rw [this, Bool.true_and] at hn
    exact hn
  · intro h
    rw [List.pairwise_iff_getElem]
    intro i j hi hj hij
    unfold NC clashes
    cases hl : lapOk l[i].p l[j].p with
    | false => rfl
    | true =>
      rw [Bool.true_and]
      obtain ⟨r1, r2, t0, h1, h2⟩ := (lapOk_iff _ _).1 hl
      rw [has_iff] at h1 h2
      have hmf : max l[i].p.f l[j].p.f ∈ edgesL (pers l) := by
        rw [hmem, mem_endsOf]
        rcases Int.le_total l[i].p.f l[j].p.f with hle | hle
        · exact ⟨l[j].p, List.mem_map.2 ⟨_, List.getElem_mem hj, rfl⟩, r2, .inl (by omega)⟩
        · exact ⟨l[i].p, List.mem_map.2 ⟨_, List.getElem_mem hi, rfl⟩, r1, .inl (by omega)⟩
      have hmt : l[i].p.t ∈ edgesL (pers l) := by
        rw [hmem, mem_endsOf]
        exact ⟨l[i].p, List.mem_map.2 ⟨_, List.getElem_mem hi, rfl⟩, r1, .inr rfl⟩
      obtain ⟨c, hc, hce⟩ := List.getElem_of_mem hmf
      obtain ⟨d, hd, hde⟩ := List.getElem_of_mem hmt
      have hcd : c < d := by
        rcases Nat.lt_or_ge c d with hlt | hge
        · exact hlt
        · by_cases e : c = d
          · subst e; omega
          · have := (List.pairwise_iff_getElem.1 hE) d c hd hc (by omega)
            omega
      have hp := (List.pairwise_iff_getElem.1 (h c (by omega))) i j hi hj hij
      rw [ge_pos _ c hc, hce] at hp
      have v1 : validAt l[i] (max l[i].p.f l[j].p.f) = true := by
        unfold validAt; rw [r1, Bool.true_and, has_iff]; omega
      have v2 : validAt l[j] (max l[i].p.f l[j].p.f) = true := by
        unfold validAt; rw [r2, Bool.true_and, has_iff]; omega
      exact hp v1 v2
end Go.Proofs.YtkfiiomdkljjnaaGreat
/- Plain law: deleting never makes a clash. -/
set_option linter.unusedSimpArgs false
set_option linter.unusedVariables false
namespace Go.Proofs.YtkfiiomdkljjnaaGreat
open Go.VL Go.RowKit

/-! ### What a delete does -/
theorem partsK_mem {sortP : List Per → List Per} {l : List Fact} {p : Per} {x : Part} : ∀ k, x ∈ partsK sortP l p k ↔ ∃ i, i < k ∧ ∃ h : i < l.length, lapOk l[i].p p = true ∧ x = partOf sortP i l[i] p
  | 0 => by simp [partsK]
  | k + 1 => by
    have ih := partsK_mem (sortP := sortP) (l := l) (p := p) (x := x) k
    by_cases hk : k < l.length
    · by_cases hg : lapOk l[k].p p = true
      · rw [partsK_yes hk hg, List.mem_append, ih, List.mem_singleton]
        constructor
        · rintro (⟨i, hi, h, h1, h2⟩ | h)
          · exact ⟨i, by omega, h, h1, h2⟩
          · exact ⟨k, by omega, hk, hg, h⟩
        · rintro ⟨i, hi, h, h1, h2⟩
          by_cases e : i = k
          · subst e; exact .inr h2
          · exact .inl ⟨i, by omega, h, h1, h2⟩
      · have hg' : lapOk l[k].p p = false := by simpa using hg
        rw [partsK_no hk hg', ih]
        constructor
        · rintro ⟨i, hi, h⟩; exact ⟨i, by omega, h⟩
        · rintro ⟨i, hi, h, h1, h2⟩
          by_cases e : i = k
          · subst e; exact absurd h1 hg
          · exact ⟨i, by omega, h, h1, h2⟩
    · rw [partsK, List.getElem?_eq_none (by omega), List.append_nil, ih]
      constructor
      · rintro ⟨i, hi, h⟩; exact ⟨i, by omega, h⟩
      · rintro ⟨i, hi, h, h1⟩; exact ⟨i, by omega, h, h1⟩
theorem partsK_rise {sortP : List Per → List Per} {l : List Fact} {p : Per} : ∀ k, (partsK sortP l p k).Pairwise fun x y => x.at_ < y.at_
  | 0 => by simp [partsK]
  | k + 1 => by
    rw [partsK, List.pairwise_append]
    refine ⟨partsK_rise k, ?_, ?_⟩
    · split
      · split <;> simp
      · simp
    · intro x hx y hy
      obtain ⟨i, hi, h, h1, rfl⟩ := (partsK_mem k).1 hx
      split at hy
      · split at hy
        · simp at hy; subst hy; exact hi
        · simp at hy
      · simp at hy
theorem delE_mem {sortP : List Per → List Per} {l : List Fact} {p : Per} {i : Nat} (h : i < l.length) : (i : Int) ∈ delE sortP l p ↔ lapOk l[i].p p = true := by
  unfold delE
  rw [List.mem_map]
  constructor
  · rintro ⟨x, hx, e⟩
    obtain ⟨j, hj, h', h1, rfl⟩ := (partsK_mem _).1 hx
    have : j = i := by simp [partOf] at e; omega
    subst this; exact h1
  · intro h1
    exact ⟨_, (partsK_mem _).2 ⟨i, h, h, h1, rfl⟩, rfl⟩
theorem delE_range {sortP : List Per → List Per} {l : List Fact} {p : Per} {e : Int} (h : e ∈ delE sortP l p) : 0 ≤ e ∧ e < l.length := by
  obtain ⟨x, hx, rfl⟩ := List.mem_map.1 h
  obtain ⟨j, hj, h', h1, rfl⟩ := (partsK_mem _).1 hx
  simp [partOf]; omega
theorem delE_rise {sortP : List Per → List Per} {l : List Fact} {p : Per} : (delE sortP l p).Pairwise (· < ·) := by
  unfold delE
  rw [List.pairwise_map]
  exact (partsK_rise l.length).imp fun h => by omega
theorem endsE_del {sortP : List Per → List Per} (l : List Fact) (p : Per) : endsE l.length (delE sortP l p) = 0 := by
  have hr := delE_rise (sortP := sortP) (l := l) (p := p)
  have hm : ∀ e ∈ delE sortP l p, 0 ≤ e ∧ e < l.length := fun e he => delE_range he
  generalize delE sortP l p = E at hr hm
  have key : ∀ k, k ≤ E.length → firstE (endE l.length) [] (E.take k) = 0 := by
    intro k
    induction k with
    | zero => intro _; rfl
    | succ k ih =>
      intro hk
      refine firstE_at _ E (by omega) (ih (by omega)) ?_
      have h1 := hm E[k] (List.getElem_mem (by omega))
      unfold endE
      rw [if_neg (by omega), if_neg]
      intro hin
      obtain ⟨j, hj, e⟩ := List.getElem_of_mem hin
      have hj' : j < k := by simp at hj; omega
      simp at e
      have := (List.pairwise_iff_getElem.1 hr) j k (by omega) (by omega) hj'
      omega
  have := key E.length (Nat.le_refl _)
  rwa [List.take_length] at this

/-- facts that are kept, facts that are cut -/
def outside (l : List Fact) (p : Per) : List Fact := l.filter fun f => !lapOk f.p p
def inside (l : List Fact) (p : Per) : List Fact := l.filter fun f => lapOk f.p p
theorem keep_del {sortP : List Per → List Per} (l : List Fact) (p : Per) : ∀ k, k ≤ l.length → keep (goneE (delE sortP l p)) l k = (l.take k).filter fun f => !lapOk f.p p
  | 0, _ => by simp [keep]
  | k + 1, h => by
    have hk : k < l.length := by omega
    have ih := keep_del (sortP := sortP) l p k (by omega)
    have hg : goneE (delE sortP l p) k = lapOk l[k].p p := by
      rw [goneE_mem, Bool.eq_iff_iff, decide_eq_true_iff, delE_mem hk]
    rw [take_snoc hk, List.filter_append]
    cases hl : lapOk l[k].p p with
    | true => rw [keep_no (by rw [hg, hl]), ih]; simp [hl]
    | false => rw [keep_yes hk (by rw [hg, hl]), ih]; simp [hl]
theorem delA_eq {sortP : List Per → List Per} (l : List Fact) (p : Per) : delA sortP l p = (inside l p).flatMap fun f => restsOf sortP f p := by
  have key : ∀ k, k ≤ l.length → (partsK sortP l p k).flatMap Part.rests = (inside (l.take k) p).flatMap fun f => restsOf sortP f p := by
    intro k
    induction k with
    | zero => intro _; simp [partsK, inside]
    | succ k ih =>
      intro h
      have hk : k < l.length := by omega
      unfold inside at ih ⊢
      rw [take_snoc hk, List.filter_append, List.flatMap_append, ← ih (by omega)]
      cases hl : lapOk l[k].p p with
      | true => rw [partsK_yes hk hl, List.flatMap_append]; simp [hl, partOf]
      | false => rw [partsK_no hk hl]; simp [hl]
  have := key l.length (Nat.le_refl _)
  rw [List.take_length] at this
  exact this
def afterDel (sortP : List Per → List Per) (l : List Fact) (p : Per) : List Fact := applyF l (delE sortP l p) (delA sortP l p)
theorem afterDel_eq {sortP : List Per → List Per} (l : List Fact) (p : Per) : afterDel sortP l p = outside l p ++ (inside l p).flatMap fun f => restsOf sortP f p := by
  unfold afterDel applyF outside
  rw [keep_del l p l.length (Nat.le_refl _), List.take_length, delA_eq]

/-! ### No clash comes of it -/
theorem rest_sub {sortP : List Per → List Per} (hs : Sorts sortP) {f x : Fact} {p : Per} (h : x ∈ restsOf sortP f p) : x.row = f.row ∧ right x.p = true ∧ right f.p = true ∧ ∀ t, has x.p t = true → has f.p t = true := by
  unfold restsOf at h
  obtain ⟨q, hq, rfl⟩ := List.mem_map.1 h
  obtain ⟨hc, hi⟩ := minusL_ok hs f.p [p]
  have hok := hc.ok q hq
  have hsub : ∀ t, has q t = true → right f.p = true ∧ has f.p t = true := by
    intro t ht
    have : inL (minusL sortP f.p [p]) t = true := by unfold inL; rw [List.any_eq_true]; exact ⟨q, hq, ht⟩
    rw [hi] at this
    simp only [Bool.and_eq_true] at this
    exact this.1
  have h0 : has q q.f = true := by rw [has_iff]; have := (right_iff q).1 hok; omega
  exact ⟨rfl, hok, (hsub _ h0).1, fun t ht => (hsub t ht).2⟩
theorem NC_sub {keys : List Int} {f g x y : Fact} (h : NC keys f g) (hx : x.row = f.row) (hy : y.row = g.row) (rf : right f.p = true) (rg : right g.p = true) (sx : ∀ t, has x.p t = true → has f.p t = true) (sy : ∀ t, has y.p t = true → has g.p t = true) : NC keys x y := by
  unfold NC clashes at h ⊢
  rw [hx, hy]
  cases hl : lapOk x.p y.p with
  | false => rfl
  | true =>
    obtain ⟨_, _, t, h1, h2⟩ := (lapOk_iff _ _).1 hl
    have : lapOk f.p g.p = true := (lapOk_iff _ _).2 ⟨rf, rg, t, sx t h1, sy t h2⟩
    rwa [this] at h
theorem lapOk_right {a b : Per} (h : lapOk a b = true) : right a = true := ((lapOk_iff a b).1 h).1
theorem NC_wrong {keys : List Int} {f g : Fact} (h : right f.p = false) : NC keys f g := by
  unfold NC clashes
  have : lapOk f.p g.p = false := by
    cases hl : lapOk f.p g.p with
    | false => rfl
    | true => rw [lapOk_right hl] at h; cases h
  rw [this]; rfl
theorem NC_ne {keys : List Int} {l : List Fact} (h : l.Pairwise (NC keys)) {f g : Fact} (hf : f ∈ l) (hg : g ∈ l) (hne : f ≠ g) : NC keys f g := by
  obtain ⟨i, hi, rfl⟩ := List.getElem_of_mem hf
  obtain ⟨j, hj, rfl⟩ := List.getElem_of_mem hg
  rcases Nat.lt_trichotomy i j with hlt | e | hlt
  · exact (List.pairwise_iff_getElem.1 h) i j hi hj hlt
  · subst e; exact absurd rfl hne
  · exact ((List.pairwise_iff_getElem.1 h) j i hj hi hlt).symm
theorem rests_apart {sortP : List Per → List Per} (hs : Sorts sortP) (keys : List Int) (f : Fact) (p : Per) : (restsOf sortP f p).Pairwise (NC keys) := by
  unfold restsOf
  rw [List.pairwise_map]
  refine (minusL_ok hs f.p [p]).1.apart.imp fun {a b} h => ?_
  unfold NC clashes
  have : lapOk a b = false := by
    cases hl : lapOk a b with
    | false => rfl
    | true =>
      obtain ⟨_, _, t, h1, h2⟩ := (lapOk_iff _ _).1 hl
      rw [has_iff] at h1 h2
      omega
  show (lapOk a b && _) = false
  rw [this]; rfl
theorem del_law {sortP : List Per → List Per} (hs : Sorts sortP) (keys : List Int) (l : List Fact) (p : Per) (h : l.Pairwise (NC keys)) : (afterDel sortP l p).Pairwise (NC keys) := by
  rw [afterDel_eq, List.pairwise_append]
  refine ⟨h.sublist List.filter_sublist, ?_, ?_⟩
  · rw [List.pairwise_flatMap]
    refine ⟨fun f _ => rests_apart hs keys f p, ?_⟩
    have h2 : (inside l p).Pairwise (NC keys) := h.sublist List.filter_sublist
    refine List.Pairwise.imp ?_ h2
    intro f g hn x hx y hy
    obtain ⟨e1, _, r1, s1⟩ := rest_sub hs hx
    obtain ⟨e2, _, r2, s2⟩ := rest_sub hs hy
    exact NC_sub hn e1 e2 r1 r2 s1 s2
  · intro f hf x hx
    obtain ⟨g, hg, hx⟩ := List.mem_flatMap.1 hx
    obtain ⟨hf1, hf2⟩ := List.mem_filter.1 hf
    obtain ⟨hg1, hg2⟩ := List.mem_filter.1 hg
    obtain ⟨e2, _, r2, s2⟩ := rest_sub hs hx
    have hne : f ≠ g := by
      rintro rfl
      simp only [hg2] at hf2
      simp at hf2
    have hn := NC_ne h hf1 hg1 hne
    cases hr : right f.p with
    | false => exact NC_wrong hr
    | true => exact NC_sub hn rfl e2 hr r2 (fun _ h => h) s2
theorem NC_owned {keys : List Int} {l : List Fact} (h : l.Pairwise (NC keys)) : (l.map owned).Pairwise (NC keys) := by
  rw [List.pairwise_map]
  exact h.imp fun h => h
theorem still_law {sortP : List Per → List Per} (hs : Sorts sortP) (keys : List Int) (l : List Fact) (p : Per) : ((clashR l keys).isSome || !(clashR ((afterDel sortP l p).map owned) keys).isSome) = true := by
  cases h : (clashR l keys).isSome with
  | true => rfl
  | false =>
    rw [clashR_iff] at h
    have := (clashR_iff _ _).2 (NC_owned (del_law hs keys l p h))
    rw [this]; rfl
end Go.Proofs.YtkfiiomdkljjnaaGreat
