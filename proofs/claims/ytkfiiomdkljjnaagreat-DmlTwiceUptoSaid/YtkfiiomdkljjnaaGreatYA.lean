/- Plain law: what a change within a period leaves at each instant. -/
import Derived.Test.YtkfiiomdkljjnaaGreatXH
import Derived.Test.YtkfiiomdkljjnaaGreatDB
import Derived.Test.YtkfiiomdkljjnaaGreatBW
import Derived.Test.YtkfiiomdkljjnaaGreatEB
import Derived.Test.YtkfiiomdkljjnaaGreatGB
set_option linter.unusedSimpArgs false
set_option linter.unusedVariables false
namespace Go.Proofs.YtkfiiomdkljjnaaGreat
open Go.VL Go.RowKit

theorem partsR_mem {ts : List Tm} {l : List Fact} {p : Per} {x : Part} : ∀ k, x ∈ partsR ts l p k ↔ ∃ i, ∃ h : i < l.length, i < k ∧ okP ts p l[i] = true ∧ x = partR i l[i] p
  | 0 => by simp [partsR]
  | k + 1 => by
    rw [partsR, List.mem_append, partsR_mem k]
    constructor
    · rintro (⟨i, h, h1, h2, h3⟩ | h)
      · exact ⟨i, h, by omega, h2, h3⟩
      · cases hk : l[k]? with
        | none => rw [hk] at h; simp at h
        | some f =>
          rw [hk] at h
          obtain ⟨hlt, rfl⟩ := List.getElem?_eq_some_iff.1 hk
          simp only at h
          split at h
          · rename_i hg
            simp at h
            exact ⟨k, hlt, by omega, hg, h⟩
          · simp at h
    · rintro ⟨i, h, h1, h2, h3⟩
      by_cases e : i = k
      · subst e
        right
        rw [List.getElem?_eq_getElem h]
        simp [h2, h3]
      · exact .inl ⟨i, h, by omega, h2, h3⟩
theorem partsR_rise (ts : List Tm) (l : List Fact) (p : Per) : ∀ k, (partsR ts l p k).Pairwise fun x y => x.at_ < y.at_
  | 0 => by simp [partsR]
  | k + 1 => by
    rw [partsR, List.pairwise_append]
    refine ⟨partsR_rise ts l p k, ?_, fun x hx y hy => ?_⟩
    · split
      · split <;> simp
      · simp
    · obtain ⟨i, h, h1, _, rfl⟩ := (partsR_mem k).1 hx
      split at hy
      · split at hy
        · simp at hy; subst hy; exact h1
        · simp at hy
      · simp at hy
section
variable {ts : List Tm} {l : List Fact} {p : Per}
theorem pE_mem {i : Nat} (h : i < l.length) : (i : Int) ∈ pE (partsR ts l p l.length) ↔ okP ts p l[i] = true := by
  unfold pE
  rw [List.mem_map]
  constructor
  · rintro ⟨x, hx, e⟩
    obtain ⟨j, hj, _, h1, rfl⟩ := (partsR_mem _).1 hx
    have : j = i := by simp [partR] at e; omega
    subst this; exact h1
  · intro h1
    exact ⟨_, (partsR_mem _).2 ⟨i, h, h, h1, rfl⟩, rfl⟩
theorem pE_range {e : Int} (h : e ∈ pE (partsR ts l p l.length)) : 0 ≤ e ∧ e < l.length := by
  obtain ⟨x, hx, rfl⟩ := List.mem_map.1 h
  obtain ⟨j, hj, h', h1, rfl⟩ := (partsR_mem _).1 hx
  simp [partR]; omega
theorem pE_rise : (pE (partsR ts l p l.length)).Pairwise (· < ·) := by
  unfold pE
  rw [List.pairwise_map]
  exact (partsR_rise ts l p l.length).imp fun h => by omega
theorem endsE_of {n : Nat} {E : List Int} (hr : E.Pairwise (· < ·)) (hm : ∀ e ∈ E, 0 ≤ e ∧ e < n) : endsE n E = 0 := by
  have key : ∀ k, k ≤ E.length → firstE (endE n) [] (E.take k) = 0 := by
    intro k
    induction k with
    | zero => intro _; rfl
    | succ k ih =>
      intro hk
      refine firstE_at _ E (by omega) (ih (by omega)) ?_
      have h1 := hm E[k] (List.getElem_mem (by omega))
      unfold endE
      rw [if_neg (by omega), if_neg]
      intro hin
      obtain ⟨j, hj, e⟩ := List.getElem_of_mem hin
      have hj' : j < k := by simp at hj; omega
      simp at e
      have := (List.pairwise_iff_getElem.1 hr) j k (by omega) (by omega) hj'
      omega
  have := key E.length (Nat.le_refl _)
  rwa [List.take_length] at this
theorem keep_of {E : List Int} {q : Fact → Bool} (hg : ∀ i, (h : i < l.length) → goneE E i = q l[i]) : ∀ k, k ≤ l.length → keep (goneE E) l k = (l.take k).filter fun f => !q f
  | 0, _ => by simp [keep]
  | k + 1, h => by
    have hk : k < l.length := by omega
    have ih := keep_of hg k (by omega)
    rw [take_snoc hk, List.filter_append]
    cases hl : q l[k] with
    | true => rw [keep_no (by rw [hg k hk, hl]), ih]; simp [hl]
    | false => rw [keep_yes hk (by rw [hg k hk, hl]), ih]; simp [hl]
theorem applyF_of (A : List Fact) : applyF l (pE (partsR ts l p l.length)) A = (l.filter fun f => !okP ts p f) ++ A := by
  unfold applyF
  rw [keep_of (q := okP ts p) (fun i h => ?_) l.length (Nat.le_refl _), List.take_length]
  rw [goneE_mem, Bool.eq_iff_iff, decide_eq_true_iff, pE_mem h]
theorem partsR_map {β : Type} (g : Part → β) (g' : Fact → β) (h : ∀ i f, g (partR i f p) = g' f) : (partsR ts l p l.length).map g = (l.filter (okP ts p)).map g' := by
  have key : ∀ k, k ≤ l.length → (partsR ts l p k).map g = ((l.take k).filter (okP ts p)).map g' := by
    intro k
    induction k with
    | zero => intro _; simp [partsR]
    | succ k ih =>
      intro hk
      have hk' : k < l.length := by omega
      rw [take_snoc hk', List.filter_append, List.map_append, ← ih (by omega)]
      cases hl : okP ts p l[k] with
      | true => rw [partsR_yes hk' hl]; simp [hl, h]
      | false => rw [partsR_no hk' hl]; simp [hl]
  have := key l.length (Nat.le_refl _)
  rwa [List.take_length] at this
theorem pA_eq : pA (partsR ts l p l.length) = (l.filter (okP ts p)).flatMap fun f => restR f p := by
  unfold pA
  rw [List.flatMap_def, partsR_map (p := p) Part.rests (fun f => restR f p) (fun i f => rfl), ← List.flatMap_def]
end

/-! ### At an instant -/
def vcnt (l : List Fact) (t : Int) : Nat := (l.filter fun f => validAt f t).length
@[simp] theorem vcnt_nil (t : Int) : vcnt [] t = 0 := rfl
theorem vcnt_append (l m : List Fact) (t : Int) : vcnt (l ++ m) t = vcnt l t + vcnt m t := by unfold vcnt; rw [List.filter_append, List.length_append]
theorem vcnt_cons (f : Fact) (l : List Fact) (t : Int) : vcnt (f :: l) t = (if validAt f t = true then 1 else 0) + vcnt l t := by
  unfold vcnt
  rw [List.filter_cons]
  split <;> simp <;> omega
theorem slice_vcnt (l : List Fact) (t : Int) : (sliceL l t).length = vcnt l t := by
  unfold sliceL validR rightL vcnt
  rw [List.length_map, ((sortF_perm _).filter _).length_eq, List.filter_map, List.length_map, List.filter_filter]
  congr 1
  refine List.filter_congr fun f _ => ?_
  simp [validAt, norm, Bool.and_comm]

theorem vcnt_flatMap (g : Fact → List Fact) (n : Nat → Nat) (t : Int) : ∀ (l : List Fact) (c : Fact → Nat), (∀ f ∈ l, vcnt (g f) t = c f) → vcnt (l.flatMap g) t = (l.map c).sum
  | [], _, _ => rfl
  | f :: l, c, h => by
    rw [List.flatMap_cons, vcnt_append, vcnt_flatMap g n t l c (fun x hx => h x (by simp [hx])), h f (by simp)]
    simp
/-- outside the period: what is left of a fact is valid where it was -/
theorem rest_out {f : Fact} {p : Per} {t : Int} (h : lapOk f.p p = true) (ht : has p t = false) (r : List Val) : cnt (restR f p) r t = cnt [f] r t := by
  rw [← tch_lap] at h
  unfold tchP right at h
  unfold has at ht
  simp only [Bool.and_eq_true, decide_eq_true_eq] at h
  simp only [Bool.and_eq_false_iff, decide_eq_false_iff_not] at ht
  unfold restR
  rw [cnt_append, cnt_cons, cnt_nil]
  have e1 : ∀ (c : Prop) [Decidable c] (g : Fact), cnt (if c then [g] else []) r t = if c ∧ g.row = r ∧ validAt g t = true then 1 else 0 := by
    intro c _ g
    by_cases hc : c
    · rw [if_pos hc, cnt_cons, cnt_nil]; simp [hc]
    · rw [if_neg hc]; simp [hc]
  rw [e1, e1]
  simp only [validAt, right, has, Bool.and_eq_true, decide_eq_true_eq]
  by_cases hr : f.row = r
  · simp only [hr, true_and]
    repeat' split
    all_goals omega
  · simp [hr]
/-- within it: nothing is left -/
theorem rest_in {f : Fact} {p : Per} {t : Int} (ht : has p t = true) : ∀ g ∈ restR f p, validAt g t = false := by
  unfold has at ht
  simp only [Bool.and_eq_true, decide_eq_true_eq] at ht
  intro g hg
  unfold restR at hg
  rw [List.mem_append] at hg
  unfold validAt has
  rcases hg with hg | hg
  · split at hg
    · simp at hg; subst hg; simp; omega
    · simp at hg
  · split at hg
    · simp at hg; subst hg; simp; omega
    · simp at hg
theorem cnt_zero {l : List Fact} {t : Int} (h : ∀ g ∈ l, validAt g t = false) (r : List Val) : cnt l r t = 0 := by
  unfold cnt
  rw [List.length_eq_zero_iff, List.filter_eq_nil_iff]
  intro g hg
  simp [h g hg]
theorem vcnt_zero {l : List Fact} {t : Int} (h : ∀ g ∈ l, validAt g t = false) : vcnt l t = 0 := by
  unfold vcnt
  rw [List.length_eq_zero_iff, List.filter_eq_nil_iff]
  intro g hg
  simp [h g hg]
theorem cnt_split (q : Fact → Bool) (r : List Val) (t : Int) : ∀ l : List Fact, cnt (l.filter fun f => !q f) r t + cnt (l.filter q) r t = cnt l r t
  | [] => rfl
  | f :: l => by
    have ih := cnt_split q r t l
    rw [cnt_cons, List.filter_cons, List.filter_cons]
    cases q f with
    | true => simp only [Bool.not_true, if_false, if_true, Bool.false_eq_true]; rw [cnt_cons]; omega
    | false => simp only [Bool.not_false, if_false, if_true, Bool.false_eq_true]; rw [cnt_cons]; omega
theorem vcnt_split (q : Fact → Bool) (t : Int) : ∀ l : List Fact, vcnt (l.filter fun f => !q f) t + vcnt (l.filter q) t = vcnt l t
  | [] => rfl
  | f :: l => by
    have ih := vcnt_split q t l
    rw [vcnt_cons, List.filter_cons, List.filter_cons]
    cases q f with
    | true => simp only [Bool.not_true, if_false, if_true, Bool.false_eq_true]; rw [vcnt_cons]; omega
    | false => simp only [Bool.not_false, if_false, if_true, Bool.false_eq_true]; rw [vcnt_cons]; omega
theorem rests_out {p : Per} {t : Int} (ht : has p t = false) (r : List Val) : ∀ l : List Fact, (∀ f ∈ l, lapOk f.p p = true) → cnt (l.flatMap fun f => restR f p) r t = cnt l r t
  | [], _ => rfl
  | f :: l, h => by
    have e := rest_out (h f (by simp)) ht r
    rw [cnt_cons, cnt_nil] at e
    rw [List.flatMap_cons, cnt_append, rests_out ht r l (fun x hx => h x (by simp [hx])), e, cnt_cons]
    omega

/-! ### What deleting leaves -/
section
variable (ts : List Tm) (l : List Fact) (p : Per) (t : Int)
def afterD : List Fact := applyF l (pE (partsR ts l p l.length)) (pA (partsR ts l p l.length))
theorem okP_lap {ts : List Tm} {p : Per} {f : Fact} (h : okP ts p f = true) : lapOk f.p p = true := by unfold okP at h; simp at h; exact h.1
theorem afterD_eq : afterD ts l p = (l.filter fun f => !okP ts p f) ++ (l.filter (okP ts p)).flatMap fun f => restR f p := by
  unfold afterD; rw [applyF_of, pA_eq]
theorem delete_out (h : right p = false ∨ has p t = false) (r : List Val) : cnt (afterD ts l p) r t = cnt l r t := by
  rw [afterD_eq, cnt_append]
  rcases h with h | h
  · have hno : ∀ f, okP ts p f = false := fun f => by
      unfold okP lapOk; simp [h]
    simp [hno, cnt]
  · rw [rests_out h r _ (fun f hf => okP_lap (List.mem_filter.1 hf).2)]
    exact cnt_split (okP ts p) r t l
theorem lap_has {f : Fact} {p : Per} {t : Int} (hp : right p = true) (ht : has p t = true) (hv : validAt f t = true) : lapOk f.p p = true := by
  rw [← tch_lap]
  unfold validAt at hv
  simp only [Bool.and_eq_true] at hv
  unfold tchP
  have h1 := hv.2
  unfold has at h1 ht
  simp only [Bool.and_eq_true, decide_eq_true_eq] at h1 ht ⊢
  exact ⟨⟨⟨hv.1, hp⟩, by omega⟩, by omega⟩
theorem delete_in (hp : right p = true) (ht : has p t = true) (r : List Val) : cnt (afterD ts l p) r t = if holdsT r ts = true then 0 else cnt l r t := by
  rw [afterD_eq, cnt_append]
  have h0 : cnt ((l.filter (okP ts p)).flatMap fun f => restR f p) r t = 0 := cnt_zero (fun g hg => by
    obtain ⟨f, _, hg⟩ := List.mem_flatMap.1 hg
    exact rest_in ht g hg) r
  rw [h0, Nat.add_zero]
  unfold cnt
  rw [List.filter_filter]
  by_cases hh : holdsT r ts = true
  · rw [if_pos hh, List.length_eq_zero_iff, List.filter_eq_nil_iff]
    intro f _
    simp only [Bool.and_eq_true, decide_eq_true_eq, Bool.not_eq_true', not_and]
    rintro ⟨rfl, hv⟩
    unfold okP
    rw [lap_has hp ht hv, hh]
    simp
  · rw [if_neg hh]
    congr 1
    refine List.filter_congr fun f _ => ?_
    by_cases hr : f.row = r
    · subst hr
      have : okP ts p f = false := by unfold okP; simp [hh]
      simp [this]
    · simp [hr]
end

/-! ### What an update leaves -/
theorem updR_ok {l : List Fact} {sets : List USet} : ∀ (L : List Part) (E E' : List Int) (A A' : List Fact), updR l sets L E A = .ok E' A' → E' = E ++ pE L ∧
    ∃ rows : List (List Val), rows.length = L.length ∧ A' = A ++ (L.zip rows).flatMap fun x => x.1.rests ++ [⟨false, x.2, x.1.p⟩]
  | [], E, E', A, A', h => by rw [updR] at h; cases h; exact ⟨by simp [pE], [], rfl, by simp⟩
  | x :: r, E, E', A, A', h => by
    rw [updR] at h
    cases hs : setRow (rowAt l x.at_) sets (rowAt l x.at_) with
    | no c => rw [hs] at h; cases h
    | ok row =>
      rw [hs] at h
      obtain ⟨h1, rows, h2, h3⟩ := updR_ok r _ _ _ _ h
      refine ⟨by rw [h1]; simp [pE], row :: rows, by simp [h2], ?_⟩
      rw [h3]
      simp
theorem zip_cnt (t : Int) (r : List Val) : ∀ (L : List Part) (rows : List (List Val)), rows.length = L.length → (∀ x ∈ L, has x.p t = false) → cnt ((L.zip rows).flatMap fun x => x.1.rests ++ [⟨false, x.2, x.1.p⟩]) r t = cnt (pA L) r t
  | [], rows, _, _ => by simp [pA]
  | x :: L, [], h, _ => by simp at h
  | x :: L, w :: rows, h, hx => by
    rw [List.zip_cons_cons, List.flatMap_cons, cnt_append, cnt_append, zip_cnt t r L rows (by simpa using h) (fun y hy => hx y (by simp [hy]))]
    have : cnt [(⟨false, w, x.p⟩ : Fact)] r t = 0 := cnt_zero (fun g hg => by simp at hg; subst hg; simp [validAt, hx x (by simp)]) r
    rw [this]
    simp [pA, cnt_append]
theorem zip_vcnt (t : Int) : ∀ (L : List Part) (rows : List (List Val)), rows.length = L.length → (∀ x ∈ L, ∀ g ∈ x.rests, validAt g t = false) →
    vcnt ((L.zip rows).flatMap fun x => x.1.rests ++ [⟨false, x.2, x.1.p⟩]) t = L.countP fun x => right x.p && has x.p t
  | [], rows, _, _ => by simp
  | x :: L, [], h, _ => by simp at h
  | x :: L, w :: rows, h, hx => by
    rw [List.zip_cons_cons, List.flatMap_cons, vcnt_append, vcnt_append, zip_vcnt t L rows (by simpa using h) (fun y hy => hx y (by simp [hy])), vcnt_zero (hx x (by simp)), vcnt_cons, List.countP_cons, vcnt_nil]
    have e : validAt (⟨false, w, x.p⟩ : Fact) t = (right x.p && has x.p t) := rfl
    show 0 + ((if validAt (⟨false, w, x.p⟩ : Fact) t = true then 1 else 0) + 0) + _ = _ + _
    rw [e]
    omega
section
variable {ts : List Tm} {l : List Fact} {p : Per} {t : Int} {sets : List USet} {E : List Int} {A : List Fact}
theorem update_E (hu : updR l sets (partsR ts l p l.length) [] [] = .ok E A) : E = pE (partsR ts l p l.length) := by
  simpa using (updR_ok _ _ _ _ _ hu).1
theorem update_out (hu : updR l sets (partsR ts l p l.length) [] [] = .ok E A) (h : right p = false ∨ has p t = false) (r : List Val) : cnt (applyF l E A) r t = cnt l r t := by
  have hE := update_E hu
  obtain ⟨_, rows, h2, h3⟩ := updR_ok _ _ _ _ _ hu
  rw [List.nil_append] at h3
  rw [hE, applyF_of, cnt_append, h3, zip_cnt t r _ _ h2 (fun x hx => ?_), pA_eq]
  · have := delete_out ts l p t h r
    rw [afterD_eq, cnt_append] at this
    exact this
  · obtain ⟨i, hi, _, hg, rfl⟩ := (partsR_mem _).1 hx
    rcases h with h | h
    · exfalso
      unfold okP lapOk at hg; simp [h] at hg
    · show has (lapP l[i].p p) t = false
      unfold has lapP at *
      simp only [Bool.and_eq_false_iff, decide_eq_false_iff_not] at h ⊢
      omega
theorem update_in (hu : updR l sets (partsR ts l p l.length) [] [] = .ok E A) (hp : right p = true) (ht : has p t = true) : vcnt (applyF l E A) t = vcnt l t := by
  have hE := update_E hu
  obtain ⟨_, rows, h2, h3⟩ := updR_ok _ _ _ _ _ hu
  rw [List.nil_append] at h3
  rw [hE, applyF_of, vcnt_append, h3, zip_vcnt t _ _ h2 (fun x hx => ?_)]
  · have e : (partsR ts l p l.length).countP (fun x => right x.p && has x.p t) = vcnt (l.filter (okP ts p)) t := by
      have e1 := partsR_map (ts := ts) (l := l) (p := p) (fun x : Part => right x.p && has x.p t) (fun f => right (lapP f.p p) && has (lapP f.p p) t) (fun i f => rfl)
      have e2 : ∀ (α : Type) (g : α → Bool) (m : List α), m.countP g = (m.map g).countP id := fun α g m => by rw [List.countP_map]; rfl
      rw [e2, e1, ← e2]
      unfold vcnt
      rw [List.countP_eq_length_filter]
      congr 1
      refine List.filter_congr fun f hf => ?_
      have hl := okP_lap (List.mem_filter.1 hf).2
      have hl2 := hl
      unfold lapOk at hl
      simp only [Bool.and_eq_true] at hl
      unfold validAt
      rw [hl.2, hl.1.1]
      unfold has lapP at *
      rw [Bool.eq_iff_iff]
      simp only [Bool.true_and, Bool.and_eq_true, decide_eq_true_eq] at ht ⊢
      omega
    rw [e]
    exact vcnt_split (okP ts p) t l
  · obtain ⟨i, hi, _, hg, rfl⟩ := (partsR_mem _).1 hx
    exact rest_in ht
end
/-! ### Filtered rows -/
theorem stay_eq {l : List Fact} {ts : List Tm} {p : Per} {t : Int} (hp : right p = true) (ht : has p t = true) : sliceL (afterD ts l p) t = (sliceL l t).filter fun r => !holdsT r ts := by
  refine (slice_up _ t).ext ((slice_up l t).sublist List.filter_sublist) fun r => ?_
  rw [slice_count, delete_in ts l p t hp ht r]
  by_cases h : holdsT r ts = true
  · rw [if_pos h, List.count_eq_zero.2 (by simp [h])]
  · rw [if_neg h, List.count_filter (by simpa using h), slice_count]
end Go.Proofs.YtkfiiomdkljjnaaGreat
/- Plain law of DmlTwice and DmlSplits: deleting twice, and in two parts. -/
set_option linter.unusedSimpArgs false
set_option linter.unusedVariables false
namespace Go.Proofs.YtkfiiomdkljjnaaGreat
open Go.VL Go.RowKit

theorem rest_no {f g : Fact} {p : Per} (h : g ∈ restR f p) : lapOk g.p p = false := by
  rw [← tch_lap]
  unfold restR at h
  rw [List.mem_append] at h
  have e : ∀ b : Bool, (b = true → False) → b = false := by decide
  refine e _ fun hl => ?_
  unfold tchP right at hl
  simp only [Bool.and_eq_true, decide_eq_true_eq] at hl
  rcases h with h | h
  · split at h
    · simp at h; subst h; simp at hl
    · simp at h
  · split at h
    · simp at h; subst h; simp at hl
    · simp at h
theorem rest_row {f g : Fact} {p : Per} (h : g ∈ restR f p) : g.row = f.row := by
  unfold restR at h
  rw [List.mem_append] at h
  rcases h with h | h
  · split at h
    · simp at h; subst h; rfl
    · simp at h
  · split at h
    · simp at h; subst h; rfl
    · simp at h
section
variable {ts : List Tm} {l : List Fact} {p : Per}
theorem afterD_no : ∀ f ∈ afterD ts l p, okP ts p f = false := by
  intro f hf
  rw [afterD_eq, List.mem_append] at hf
  rcases hf with hf | hf
  · have := (List.mem_filter.1 hf).2
    simpa using this
  · obtain ⟨g, _, hg⟩ := List.mem_flatMap.1 hf
    unfold okP; rw [rest_no hg]; rfl
theorem afterD_row : ∀ f ∈ afterD ts l p, ∃ g ∈ l, f.row = g.row := by
  intro f hf
  rw [afterD_eq, List.mem_append] at hf
  rcases hf with hf | hf
  · exact ⟨f, (List.mem_filter.1 hf).1, rfl⟩
  · obtain ⟨g, hg, hx⟩ := List.mem_flatMap.1 hf
    exact ⟨g, (List.mem_filter.1 hg).1, rest_row hx⟩
theorem parts_none (h : ∀ f ∈ l, okP ts p f = false) (k : Nat) : partsR ts l p k = [] := by
  rw [List.eq_nil_iff_forall_not_mem]
  intro x hx
  obtain ⟨i, hi, _, ho, _⟩ := (partsR_mem k).1 hx
  rw [h _ (List.getElem_mem hi)] at ho; cases ho
theorem again_none : partsR ts ((afterD ts l p).map owned) p ((afterD ts l p).map owned).length = [] := parts_none (fun f hf => by
  obtain ⟨g, hg, rfl⟩ := List.mem_map.1 hf
  exact afterD_no g hg) _
/-- the fact at a place -/
def pick (l : List Fact) (e : Int) : Fact := (l[e.toNat]?).getD ⟨true, [], ⟨0, 0⟩⟩
theorem pick_eq {e : Int} (h : e.toNat < l.length) : pick l e = l[e.toNat] := by unfold pick; rw [List.getElem?_eq_getElem h]; rfl
theorem gone_parts : ∀ k, k ≤ l.length → (partsR ts l p k).map (fun x => pick l (x.at_ : Int)) = (l.take k).filter (okP ts p)
  | 0, _ => by simp [partsR]
  | k + 1, h => by
    have ih := gone_parts k (by omega)
    have hk : k < l.length := by omega
    rw [take_snoc hk, List.filter_append]
    cases ho : okP ts p l[k] with
    | true =>
      rw [partsR_yes hk ho, List.map_append, ih]
      simp [ho, partR, pick, hk]
    | false =>
      rw [partsR_no hk ho, ih]
      simp [ho]
theorem gone_eq : (pE (partsR ts l p l.length)).map (pick l) = l.filter (okP ts p) := by
  have := gone_parts (ts := ts) (p := p) l.length (Nat.le_refl _)
  rw [List.take_length] at this
  unfold pE
  rw [List.map_map]
  exact this
theorem applyF_put (A : List Fact) : applyF l [] A = l ++ A := by
  unfold applyF
  congr 1
  rw [keep_of (q := fun _ => false) (fun i h => by simp [goneE]) _ (Nat.le_refl _)]
  simp
theorem splits_cnt {c : Int} (hp : right p = true) (h1 : p.f < c) (h2 : c < p.t) (r : List Val) (t : Int) : cnt (afterD ts ((afterD ts l ⟨p.f, c⟩).map owned) ⟨c, p.t⟩) r t = cnt (afterD ts l p) r t := by
  have co : ∀ l : List Fact, cnt (l.map owned) r t = cnt l r t := fun l => by unfold cnt; rw [List.filter_map, List.length_map]; rfl
  have hr := (right_iff p).1 hp
  have hr1 : right ⟨p.f, c⟩ = true := (right_iff _).2 ⟨hr.1, h1, by simp; omega⟩
  have hr2 : right ⟨c, p.t⟩ = true := (right_iff _).2 ⟨by simp; omega, h2, hr.2.2⟩
  by_cases a1 : has ⟨p.f, c⟩ t = true
  · have a2 : has ⟨c, p.t⟩ t = false := by
      rw [has_iff] at a1; unfold has; simp at a1 ⊢; omega
    have a0 : has p t = true := by rw [has_iff] at a1 ⊢; simp at a1; omega
    rw [delete_out _ _ _ _ (.inr a2), co, delete_in _ _ _ _ hr1 a1, delete_in _ _ _ _ hp a0]
  · have a1' : has ⟨p.f, c⟩ t = false := by simpa using a1
    by_cases a2 : has ⟨c, p.t⟩ t = true
    · have a0 : has p t = true := by rw [has_iff] at a2 ⊢; simp at a2; omega
      rw [delete_in _ _ _ _ hr2 a2, co, delete_out _ _ _ _ (.inr a1'), delete_in _ _ _ _ hp a0]
    · have a2' : has ⟨c, p.t⟩ t = false := by simpa using a2
      have a0 : has p t = false := by
        unfold has at a1' a2' ⊢; simp at a1' a2' ⊢; omega
      rw [delete_out _ _ _ _ (.inr a2'), co, delete_out _ _ _ _ (.inr a1'), delete_out _ _ _ _ (.inr a0)]
theorem in_cnt {t : Int} (hp : right p = true) (ht : has p t = true) (r : List Val) : cnt (afterD ts l p) r t + cnt (l.filter (okP ts p)) r t = cnt l r t := by
  rw [afterD_eq, cnt_append, cnt_zero (l := (l.filter (okP ts p)).flatMap fun f => restR f p) (fun g hg => by
    obtain ⟨f, _, hg⟩ := List.mem_flatMap.1 hg
    exact rest_in ht g hg) r, Nat.add_zero]
  exact cnt_split (okP ts p) r t l
theorem twice_cnt {sortP : List Per → List Per} (hs : Sorts sortP) (r : List Val) (t : Int) : cnt (afterD ts l p ++ clipL sortP (l.filter (okP ts p)) p) r t = cnt l r t := by
  rw [cnt_append, clip_cnt hs]
  by_cases hp : right p = true
  · by_cases ht : has p t = true
    · rw [if_pos (by rw [hp, ht]; rfl)]
      exact in_cnt hp ht r
    · rw [if_neg (by simp [ht]), Nat.add_zero]
      exact delete_out _ _ _ _ (.inr (by simpa using ht)) r
  · rw [if_neg (by simp [hp]), Nat.add_zero]
    exact delete_out _ _ _ _ (.inl (by simpa using hp)) r
end
end Go.Proofs.YtkfiiomdkljjnaaGreat
