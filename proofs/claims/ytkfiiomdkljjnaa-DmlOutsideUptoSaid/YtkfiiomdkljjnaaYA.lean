/- Plain law: what a change within a period leaves at each instant. -/
import Derived.Test.YtkfiiomdkljjnaaXH
import Derived.Test.YtkfiiomdkljjnaaBW
import Derived.Test.YtkfiiomdkljjnaaEB
set_option linter.unusedSimpArgs false
set_option linter.unusedVariables false
namespace Go.Proofs.Ytkfiiomdkljjnaa
open Go.VL Go.RowKit

theorem partsR_mem {ts : List Tm} {l : List Fact} {p : Per} {x : Part} : ∀ k, x ∈ partsR ts l p k ↔ ∃ i, ∃ h : i < l.length, i < k ∧ okP ts p l[i] = true ∧ x = partR i l[i] p
  | 0 => by simp [partsR]
  | k + 1 => by
    rw [partsR, List.mem_append, partsR_mem k]
    constructor
    · rintro (⟨i, h, h1, h2, h3⟩ | h)
      · exact ⟨i, h, by omega, h2, h3⟩
      · cases hk : l[k]? with
        | none => rw [hk] at h; simp at h
        | some f =>
          rw [hk] at h
          obtain ⟨hlt, rfl⟩ := List.getElem?_eq_some_iff.1 hk
          simp only at h
          split at h
          · rename_i hg
            simp at h
            exact ⟨k, hlt, by omega, hg, h⟩
          · simp at h
    · rintro ⟨i, h, h1, h2, h3⟩
      by_cases e : i = k
      · subst e
        right
        rw [List.getElem?_eq_getElem h]
        simp [h2, h3]
      · exact .inl ⟨i, h, by omega, h2, h3⟩
theorem partsR_rise (ts : List Tm) (l : List Fact) (p : Per) : ∀ k, (partsR ts l p k).Pairwise fun x y => x.at_ < y.at_
  | 0 => by simp [partsR]
  | k + 1 => by
    rw [partsR, List.pairwise_append]
    refine ⟨partsR_rise ts l p k, ?_, fun x hx y hy => ?_⟩
    · split
      · split <;> simp
      · simp
    · obtain ⟨i, h, h1, _, rfl⟩ := (partsR_mem k).1 hx
      split at hy
      · split at hy
        · simp at hy; subst hy; exact h1
        · simp at hy
      · simp at hy
section
variable {ts : List Tm} {l : List Fact} {p : Per}
theorem pE_mem {i : Nat} (h : i < l.length) : (i : Int) ∈ pE (partsR ts l p l.length) ↔ okP ts p l[i] = true := by
  unfold pE
  rw [List.mem_map]
  constructor
  · rintro ⟨x, hx, e⟩
    obtain ⟨j, hj, _, h1, rfl⟩ := (partsR_mem _).1 hx
    have : j = i := by simp [partR] at e; omega
    subst this; exact h1
  · intro h1
    exact ⟨_, (partsR_mem _).2 ⟨i, h, h, h1, rfl⟩, rfl⟩
theorem pE_range {e : Int} (h : e ∈ pE (partsR ts l p l.length)) : 0 ≤ e ∧ e < l.length := by
  obtain ⟨x, hx, rfl⟩ := List.mem_map.1 h
  obtain ⟨j, hj, h', h1, rfl⟩ := (partsR_mem _).1 hx
  simp [partR]; omega
theorem pE_rise : (pE (partsR ts l p l.length)).Pairwise (· < ·) := by
  unfold pE
  rw [List.pairwise_map]
  exact (partsR_rise ts l p l.length).imp fun h => by omega
theorem endsE_of {n : Nat} {E : List Int} (hr : E.Pairwise (· < ·)) (hm : ∀ e ∈ E, 0 ≤ e ∧ e < n) : endsE n E = 0 := by
  have key : ∀ k, k ≤ E.length → firstE (endE n) [] (E.take k) = 0 := by
    intro k
    induction k with
    | zero => intro _; rfl
    | succ k ih =>
      intro hk
      refine firstE_at _ E (by omega) (ih (by omega)) ?_
      have h1 := hm E[k] (List.getElem_mem (by omega))
      unfold endE
      rw [if_neg (by omega), if_neg]
      intro hin
      obtain ⟨j, hj, e⟩ := List.getElem_of_mem hin
      have hj' : j < k := by simp at hj; omega
      simp at e
      have := (List.pairwise_iff_getElem.1 hr) j k (by omega) (by omega) hj'
      omega
  have := key E.length (Nat.le_refl _)
  rwa [List.take_length] at this
theorem keep_of {E : List Int} {q : Fact → Bool} (hg : ∀ i, (h : i < l.length) → goneE E i = q l[i]) : ∀ k, k ≤ l.length → keep (goneE E) l k = (l.take k).filter fun f => !q f
  | 0, _ => by simp [keep]
  | k + 1, h => by
    have hk : k < l.length := by omega
    have ih := keep_of hg k (by omega)
    rw [take_snoc hk, List.filter_append]
    cases hl : q l[k] with
    | true => rw [keep_no (by rw [hg k hk, hl]), ih]; simp [hl]
    | false => rw [keep_yes hk (by rw [hg k hk, hl]), ih]; simp [hl]
theorem applyF_of (A : List Fact) : applyF l (pE (partsR ts l p l.length)) A = (l.filter fun f => !okP ts p f) ++ A := by
  unfold applyF
  rw [keep_of (q := okP ts p) (fun i h => ?_) l.length (Nat.le_refl _), List.take_length]
  rw [goneE_mem, Bool.eq_iff_iff, decide_eq_true_iff, pE_mem h]
theorem partsR_map {β : Type} (g : Part → β) (g' : Fact → β) (h : ∀ i f, g (partR i f p) = g' f) : (partsR ts l p l.length).map g = (l.filter (okP ts p)).map g' := by
  have key : ∀ k, k ≤ l.length → (partsR ts l p k).map g = ((l.take k).filter (okP ts p)).map g' := by
    intro k
    induction k with
    | zero => intro _; simp [partsR]
    | succ k ih =>
      intro hk
      have hk' : k < l.length := by omega
      rw [take_snoc hk', List.filter_append, List.map_append, ← ih (by omega)]
      cases hl : okP ts p l[k] with
      | true => rw [partsR_yes hk' hl]; simp [hl, h]
      | false => rw [partsR_no hk' hl]; simp [hl]
  have := key l.length (Nat.le_refl _)
  rwa [List.take_length] at this
theorem pA_eq : pA (partsR ts l p l.length) = (l.filter (okP ts p)).flatMap fun f => restR f p := by
  unfold pA
  rw [List.flatMap_def, partsR_map (p := p) Part.rests (fun f => restR f p) (fun i f => rfl), ← List.flatMap_def]
end

/-! ### At an instant -/
def vcnt (l : List Fact) (t : Int) : Nat := (l.filter fun f => validAt f t).length
@[simp] theorem vcnt_nil (t : Int) : vcnt [] t = 0 := rfl
theorem vcnt_append (l m : List Fact) (t : Int) : vcnt (l ++ m) t = vcnt l t + vcnt m t := by unfold vcnt; rw [List.filter_append, List.length_append]
theorem vcnt_cons (f : Fact) (l : List Fact) (t : Int) : vcnt (f :: l) t = (if validAt f t = true then 1 else 0) + vcnt l t := by
  unfold vcnt
  rw [List.filter_cons]
  split <;> simp <;> omega
theorem slice_vcnt (l : List Fact) (t : Int) : (sliceL l t).length = vcnt l t := by
  unfold sliceL validR rightL vcnt
  rw [List.length_map, ((sortF_perm _).filter _).length_eq, List.filter_map, List.length_map, List.filter_filter]
  congr 1
  refine List.filter_congr fun f _ => ?_
  simp [validAt, norm, Bool.and_comm]

theorem vcnt_flatMap (g : Fact → List Fact) (n : Nat → Nat) (t : Int) : ∀ (l : List Fact) (c : Fact → Nat), (∀ f ∈ l, vcnt (g f) t = c f) → vcnt (l.flatMap g) t = (l.map c).sum
  | [], _, _ => rfl
  | f :: l, c, h => by
    rw [List.flatMap_cons, vcnt_append, vcnt_flatMap g n t l c (fun x hx => h x (by simp [hx])), h f (by simp)]
    simp
/-- outside the period: what is left of a fact is valid where it was -/
theorem rest_out {f : Fact} {p : Per} {t : Int} (h : lapOk f.p p = true) (ht : has p t = false) (r : List Val) : cnt (restR f p) r t = cnt [f] r t := by
  rw [← tch_lap] at h
  unfold tchP right at h
  unfold has at ht
  simp only [Bool.and_eq_true, decide_eq_true_eq] at h
  simp only [Bool.and_eq_false_iff, decide_eq_false_iff_not] at ht
  unfold restR
  rw [cnt_append, cnt_cons, cnt_nil]
  have e1 : ∀ (c : Prop) [Decidable c] (g : Fact), cnt (if c then [g] else []) r t = if c ∧ g.row = r ∧ validAt g t = true then 1 else 0 := by
    intro c _ g
    by_cases hc : c
    · rw [if_pos hc, cnt_cons, cnt_nil]; simp [hc]
    · rw [if_neg hc]; simp [hc]
  rw [e1, e1]
  simp only [validAt, right, has, Bool.and_eq_true, decide_eq_true_eq]
  by_cases hr : f.row = r
  · simp only [hr, true_and]
    repeat' split
    all_goals omega
  · simp [hr]
/-- within it: nothing is left -/
theorem rest_in {f : Fact} {p : Per} {t : Int} (ht : has p t = true) : ∀ g ∈ restR f p, validAt g t = false := by
  unfold has at ht
  simp only [Bool.and_eq_true, decide_eq_true_eq] at ht
  intro g hg
  unfold restR at hg
  rw [List.mem_append] at hg
  unfold validAt has
  rcases hg with hg | hg
  · split at hg
    · simp at hg; subst hg; simp; omega
    · simp at hg
  · split at hg
    · simp at hg; subst hg; simp; omega
    · simp at hg
theorem cnt_zero {l : List Fact} {t : Int} (h : ∀ g ∈ l, validAt g t = false) (r : List Val) : cnt l r t = 0 := by
  unfold cnt
  rw [List.length_eq_zero_iff, List.filter_eq_nil_iff]
  intro g hg
  simp [h g hg]
theorem vcnt_zero {l : List Fact} {t : Int} (h : ∀ g ∈ l, validAt g t = false) : vcnt l t = 0 := by
  unfold vcnt
  rw [List.length_eq_zero_iff, List.filter_eq_nil_iff]
  intro g hg
  simp [h g hg]
theorem cnt_split (q : Fact → Bool) (r : List Val) (t : Int) : ∀ l : List Fact, cnt (l.filter fun f => !q f) r t + cnt (l.filter q) r t = cnt l r t
  | [] => rfl
  | f :: l => by
    have ih := cnt_split q r t l
    rw [cnt_cons, List.filter_cons, List.filter_cons]
    cases q f with
    | true => simp only [Bool.not_true, if_false, if_true, Bool.false_eq_true]; rw [cnt_cons]; omega
    | false => simp only [Bool.not_false, if_false, if_true, Bool.false_eq_true]; rw [cnt_cons]; omega
theorem vcnt_split (q : Fact → Bool) (t : Int) : ∀ l : List Fact, vcnt (l.filter fun f => !q f) t + vcnt (l.filter q) t = vcnt l t
  | [] => rfl
  | f :: l => by
    have ih := vcnt_split q t l
    rw [vcnt_cons, List.filter_cons, List.filter_cons]
    cases q f with
    | true => simp only [Bool.not_true, if_false, if_true, Bool.false_eq_true]; rw [vcnt_cons]; omega
    | false => simp only [Bool.not_false, if_false, if_true, Bool.false_eq_true]; rw [vcnt_cons]; omega
theorem rests_out {p : Per} {t : Int} (ht : has p t = false) (r : List Val) : ∀ l : List Fact, (∀ f ∈ l, lapOk f.p p = true) → cnt (l.flatMap fun f => restR f p) r t = cnt l r t
  | [], _ => rfl
  | f :: l, h => by
    have e := rest_out (h f (by simp)) ht r
    rw [cnt_cons, cnt_nil] at e
    rw [List.flatMap_cons, cnt_append, rests_out ht r l (fun x hx => h x (by simp [hx])), e, cnt_cons]
    omega

/-! ### What deleting leaves -/
section
variable (ts : List Tm) (l : List Fact) (p : Per) (t : Int)
def afterD : List Fact := applyF l (pE (partsR ts l p l.length)) (pA (partsR ts l p l.length))
theorem okP_lap {ts : List Tm} {p : Per} {f : Fact} (h : okP ts p f = true) : lapOk f.p p = true := by unfold okP at h; simp at h; exact h.1
theorem afterD_eq : afterD ts l p = (l.filter fun f => !okP ts p f) ++ (l.filter (okP ts p)).flatMap fun f => restR f p := by
  unfold afterD; rw [applyF_of, pA_eq]
theorem delete_out (h : right p = false ∨ has p t = false) (r : List Val) : cnt (afterD ts l p) r t = cnt l r t := by
  rw [afterD_eq, cnt_append]
  rcases h with h | h
  · have hno : ∀ f, okP ts p f = false := fun f => by
      unfold okP lapOk; simp [h]
    simp [hno, cnt]
  · rw [rests_out h r _ (fun f hf => okP_lap (List.mem_filter.1 hf).2)]
    exact cnt_split (okP ts p) r t l
theorem lap_valid {f : Fact} {p : Per} {t : Int} (hp : right p = true) (ht : has p t = true) (hv : validAt f t = true) : lapOk f.p p = true := by
  rw [← tch_lap]
  unfold validAt at hv
  simp only [Bool.and_eq_true] at hv
  unfold tchP
  have h1 := hv.2
  unfold has at h1 ht
  simp only [Bool.and_eq_true, decide_eq_true_eq] at h1 ht ⊢
  exact ⟨⟨⟨hv.1, hp⟩, by omega⟩, by omega⟩
theorem delete_in (hp : right p = true) (ht : has p t = true) (r : List Val) : cnt (afterD ts l p) r t = if holdsT r ts = true then 0 else cnt l r t := by
  rw [afterD_eq, cnt_append]
  have h0 : cnt ((l.filter (okP ts p)).flatMap fun f => restR f p) r t = 0 := cnt_zero (fun g hg => by
    obtain ⟨f, _, hg⟩ := List.mem_flatMap.1 hg
    exact rest_in ht g hg) r
  rw [h0, Nat.add_zero]
  unfold cnt
  rw [List.filter_filter]
  by_cases hh : holdsT r ts = true
  · rw [if_pos hh, List.length_eq_zero_iff, List.filter_eq_nil_iff]
    intro f _
    simp only [Bool.and_eq_true, decide_eq_true_eq, Bool.not_eq_true', not_and]
    rintro ⟨rfl, hv⟩
    unfold okP
    rw [lap_valid hp ht hv, hh]
    simp
  · rw [if_neg hh]
    congr 1
    refine List.filter_congr fun f _ => ?_
    by_cases hr : f.row = r
    · subst hr
      have : okP ts p f = false := by unfold okP; simp [hh]
      simp [this]
    · simp [hr]
end

/-! ### What an update leaves -/
theorem updR_ok {l : List Fact} {sets : List USet} : ∀ (L : List Part) (E E' : List Int) (A A' : List Fact), updR l sets L E A = .ok E' A' → E' = E ++ pE L ∧
    ∃ rows : List (List Val), rows.length = L.length ∧ A' = A ++ (L.zip rows).flatMap fun x => x.1.rests ++ [⟨false, x.2, x.1.p⟩]
  | [], E, E', A, A', h => by rw [updR] at h; cases h; exact ⟨by simp [pE], [], rfl, by simp⟩
  | x :: r, E, E', A, A', h => by
    rw [updR] at h
    cases hs : setRow (rowAt l x.at_) sets (rowAt l x.at_) with
    | no c => rw [hs] at h; cases h
    | ok row =>
      rw [hs] at h
      obtain ⟨h1, rows, h2, h3⟩ := updR_ok r _ _ _ _ h
      refine ⟨by rw [h1]; simp [pE], row :: rows, by simp [h2], ?_⟩
      rw [h3]
      simp
theorem zip_cnt (t : Int) (r : List Val) : ∀ (L : List Part) (rows : List (List Val)), rows.length = L.length → (∀ x ∈ L, has x.p t = false) → cnt ((L.zip rows).flatMap fun x => x.1.rests ++ [⟨false, x.2, x.1.p⟩]) r t = cnt (pA L) r t
  | [], rows, _, _ => by simp [pA]
  | x :: L, [], h, _ => by simp at h
  | x :: L, w :: rows, h, hx => by
    rw [List.zip_cons_cons, List.flatMap_cons, cnt_append, cnt_append, zip_cnt t r L rows (by simpa using h) (fun y hy => hx y (by simp [hy]))]
    have : cnt [(⟨false, w, x.p⟩ : Fact)] r t = 0 := cnt_zero (fun g hg => by simp at hg; subst hg; simp [validAt, hx x (by simp)]) r
    rw [this]
    simp [pA, cnt_append]
theorem zip_vcnt (t : Int) : ∀ (L : List Part) (rows : List (List Val)), rows.length = L.length → (∀ x ∈ L, ∀ g ∈ x.rests, validAt g t = false) →
    vcnt ((L.zip rows).flatMap fun x => x.1.rests ++ [⟨false, x.2, x.1.p⟩]) t = L.countP fun x => right x.p && has x.p t
  | [], rows, _, _ => by simp
  | x :: L, [], h, _ => by simp at h
  | x :: L, w :: rows, h, hx => by
    rw [List.zip_cons_cons, List.flatMap_cons, vcnt_append, vcnt_append, zip_vcnt t L rows (by simpa using h) (fun y hy => hx y (by simp [hy])), vcnt_zero (hx x (by simp)), vcnt_cons, List.countP_cons, vcnt_nil]
    have e : validAt (⟨false, w, x.p⟩ : Fact) t = (right x.p && has x.p t) := rfl
    show 0 + ((if validAt (⟨false, w, x.p⟩ : Fact) t = true then 1 else 0) + 0) + _ = _ + _
    rw [e]
    omega
section
variable {ts : List Tm} {l : List Fact} {p : Per} {t : Int} {sets : List USet} {E : List Int} {A : List Fact}
theorem update_E (hu : updR l sets (partsR ts l p l.length) [] [] = .ok E A) : E = pE (partsR ts l p l.length) := by
  simpa using (updR_ok _ _ _ _ _ hu).1
theorem update_out (hu : updR l sets (partsR ts l p l.length) [] [] = .ok E A) (h : right p = false ∨ has p t = false) (r : List Val) : cnt (applyF l E A) r t = cnt l r t := by
  have hE := update_E hu
  obtain ⟨_, rows, h2, h3⟩ := updR_ok _ _ _ _ _ hu
  rw [List.nil_append] at h3
  rw [hE, applyF_of, cnt_append, h3, zip_cnt t r _ _ h2 (fun x hx => ?_), pA_eq]
  · have := delete_out ts l p t h r
    rw [afterD_eq, cnt_append] at this
    exact this
  · obtain ⟨i, hi, _, hg, rfl⟩ := (partsR_mem _).1 hx
    rcases h with h | h
    · exfalso
      unfold okP lapOk at hg; simp [h] at hg
    · show has (lapP l[i].p p) t = false
      unfold has lapP at *
      simp only [Bool.and_eq_false_iff, decide_eq_false_iff_not] at h ⊢
      omega
theorem update_in (hu : updR l sets (partsR ts l p l.length) [] [] = .ok E A) (hp : right p = true) (ht : has p t = true) : vcnt (applyF l E A) t = vcnt l t := by
  have hE := update_E hu
  obtain ⟨_, rows, h2, h3⟩ := updR_ok _ _ _ _ _ hu
  rw [List.nil_append] at h3
  rw [hE, applyF_of, vcnt_append, h3, zip_vcnt t _ _ h2 (fun x hx => ?_)]
  · have e : (partsR ts l p l.length).countP (fun x => right x.p && has x.p t) = vcnt (l.filter (okP ts p)) t := by
      have e1 := partsR_map (ts := ts) (l := l) (p := p) (fun x : Part => right x.p && has x.p t) (fun f => right (lapP f.p p) && has (lapP f.p p) t) (fun i f => rfl)
      have e2 : ∀ (α : Type) (g : α → Bool) (m : List α), m.countP g = (m.map g).countP id := fun α g m => by rw [List.countP_map]; rfl
      rw [e2, e1, ← e2]
      unfold vcnt
      rw [List.countP_eq_length_filter]
      congr 1
      refine List.filter_congr fun f hf => ?_
      have hl := okP_lap (List.mem_filter.1 hf).2
      have hl2 := hl
      unfold lapOk at hl
      simp only [Bool.and_eq_true] at hl
      unfold validAt
      rw [hl.2, hl.1.1]
      unfold has lapP at *
      rw [Bool.eq_iff_iff]
      simp only [Bool.true_and, Bool.and_eq_true, decide_eq_true_eq] at ht ⊢
      omega
    rw [e]
    exact vcnt_split (okP ts p) t l
  · obtain ⟨i, hi, _, hg, rfl⟩ := (partsR_mem _).1 hx
    exact rest_in ht
end
/-! ### Filtered rows -/
theorem stay_eq {l : List Fact} {ts : List Tm} {p : Per} {t : Int} (hp : right p = true) (ht : has p t = true) : sliceL (afterD ts l p) t = (sliceL l t).filter fun r => !holdsT r ts := by
  refine (slice_up _ t).ext ((slice_up l t).sublist List.filter_sublist) fun r => ?_
  rw [slice_count, delete_in ts l p t hp ht r]
  by_cases h : holdsT r ts = true
  · rw [if_pos h, List.count_eq_zero.2 (by simp [h])]
  · rw [if_neg h, List.count_filter (by simpa using h), slice_count]
end Go.Proofs.Ytkfiiomdkljjnaa
/- Contract: DmlOutside. -/
set_option linter.unusedSimpArgs false
set_option linter.unusedVariables false
namespace Go.Proofs.Ytkfiiomdkljjnaa
open Go.VL Go.RowKit

theorem cnt_owned (l : List Fact) (r : List Val) (t : Int) : cnt (l.map owned) r t = cnt l r t := by
  unfold cnt
  rw [List.filter_map, List.length_map]
  rfl
theorem slice_owned (l : List Fact) (t : Int) : sliceL (l.map owned) t = sliceL l t := (slice_eq _ _ t).2 fun r => cnt_owned l r t
/-- a change, as it is told -/
def urP : UR → List Int × List Fact
  | .ok E A => (E, A)
  | .no _ => ([], [])
theorem urC_P (u : UR) : urC u = [.sl (urP u).1.isEmpty ((urP u).1.map icell), .sl (urP u).2.isEmpty (facts (urP u).2)] := by
  cases u <;> rfl
def afterU (l : List Fact) (u : UR) : List Fact := applyF l (urP u).1 (urP u).2
theorem applyF_none (l : List Fact) : applyF l [] [] = l := by
  unfold applyF
  rw [List.append_nil, keep_of (q := fun _ => false) (fun i h => rfl) l.length (Nat.le_refl _), List.take_length]
  simp
theorem afterU_out {ts : List Tm} {l : List Fact} {p : Per} {t : Int} {sets : List USet} (h : right p = false ∨ has p t = false) : sliceL (afterU l (updR l sets (partsR ts l p l.length) [] [])) t = sliceL l t := by
  rw [slice_eq]
  intro r
  unfold afterU
  cases hu : updR l sets (partsR ts l p l.length) [] [] with
  | ok E A => exact update_out hu h r
  | no c => rw [show (urP (.no c)).1 = [] from rfl, show (urP (.no c)).2 = [] from rfl, applyF_none]
theorem afterU_ends {ts : List Tm} {l : List Fact} {p : Per} {sets : List USet} : endsE l.length (urP (updR l sets (partsR ts l p l.length) [] [])).1 = 0 := by
  cases hu : updR l sets (partsR ts l p l.length) [] [] with
  | ok E A =>
    show endsE l.length E = 0
    rw [update_E hu]
    exact endsE_of pE_rise (fun e he => pE_range he)
  | no c => rfl
theorem setOne_ne {row0 row : List Val} {s : USet} {c : Int} (h : setOne row0 s row = .no c) : c ≠ 0 := by
  unfold setOne at h
  split at h
  · rename_i h1; cases h; exact h1
  · split at h
    · cases h; decide
    · split at h
      · cases h; decide
      · cases h
theorem setRow_ne (row0 : List Val) : ∀ (l : List USet) (row : List Val) (c : Int), setRow row0 l row = .no c → c ≠ 0
  | [], row, c, h => by rw [setRow] at h; cases h
  | s :: r, row, c, h => by
    rw [setRow] at h
    cases hs : setOne row0 s row with
    | no c' => rw [hs] at h; cases h; exact setOne_ne hs
    | ok row2 => rw [hs] at h; exact setRow_ne row0 r row2 c h
theorem updR_ne (l : List Fact) (sets : List USet) : ∀ (L : List Part) (E : List Int) (A : List Fact) (c : Int), updR l sets L E A = .no c → c ≠ 0
  | [], E, A, c, h => by rw [updR] at h; cases h
  | x :: r, E, A, c, h => by
    rw [updR] at h
    cases hs : setRow (rowAt l x.at_) sets (rowAt l x.at_) with
    | no c' => rw [hs] at h; cases h; exact setRow_ne _ _ _ _ hs
    | ok row => rw [hs] at h; exact updR_ne l sets r _ _ c h
def stayK (ts : List Tm) (rs : List (List Val)) (k : Nat) : List (List Val) := (rs.take k).filter fun r => !holdsT r ts
theorem stayK_step {ts : List Tm} {rs : List (List Val)} {k : Nat} (h : k < rs.length) : stayK ts rs (k + 1) = stayK ts rs k ++ (if holdsT rs[k] ts then [] else [rs[k]]) := by
  unfold stayK
  rw [take_snoc h, List.filter_append]
  cases hh : holdsT rs[k] ts <;> simp [hh]
theorem stayK_len (ts : List Tm) (rs : List (List Val)) (k : Nat) : (stayK ts rs k).length ≤ k := by
  unfold stayK
  refine Nat.le_trans (List.length_filter_le _ _) ?_
  rw [List.length_take]; omega

set_option maxRecDepth 4000 in
set_option maxHeartbeats 64000000 in
theorem outside_spec {sortP : List Per → List Per} (hs : Sorts sortP) (hf : SortsF) (nl : Bool) (l : List Fact) (p : Per) (nw : Bool) (wh : List Ex) (np : Bool) (pl : List Int) (nv : Bool) (vs : List Ex) (t : Int)
    (hl : l.length ≤ 200000000) (hr : Rows1 l) (hrow : ∀ f ∈ l, VFit f.row) (hw : Ex.fits wh) (hv : Ex.fits vs) (hwl : wh.length ≤ 1000000000) (hvl : vs.length ≤ 1000000000) (hpl : pl.length ≤ 1000000000) :
    Con Try.prog 6 [.c (.sl nl (facts l)), .agg (ask p nw wh np pl nv vs), .c (i64 t)] [.c (bln true)] := by
  obtain ⟨W, hW⟩ : ∃ W, W = bW scT wh wh.length := ⟨_, rfl⟩
  obtain ⟨V, hV⟩ : ∃ V, V = bV scT pl vs vs.length := ⟨_, rfl⟩
  have hWl : W.length ≤ 1000000000 := by rw [hW]; exact Nat.le_trans (bW_len _ _ _) hwl
  have hVl : V.length ≤ 1000000000 := by rw [hV]; exact Nat.le_trans (bV_len _ _ _ _) hvl
  have hB := bound_spec p nw wh np pl nv vs hw hv hwl hvl hpl
  have htw := bW_tok hw wh.length
  have htv := bV_tok (pl := pl) hv vs.length
  rw [← hW] at hB htw
  rw [← hV] at hB htv
  have hU := update_spec hs nl W.isEmpty V.isEmpty l p (bTs W) (bUs V) (by omega) hr hrow htw (by simpa using hWl) htv (by simpa using hVl)
  have hD := deleteT_spec hs nl W.isEmpty l p (bTs W) (by omega) hr hrow htw (by simpa using hWl)
  have eU : updT sortP (bTs W) (bUs V) l p = updR l (bUs V) (partsR (bTs W) l p l.length) [] [] := by
    unfold updT; rw [parts_eq hs]
  have eE : delET sortP (bTs W) l p = pE (partsR (bTs W) l p l.length) := by unfold delET pE; rw [parts_eq hs]
  have eA : delAT sortP (bTs W) l p = pA (partsR (bTs W) l p l.length) := by unfold delAT pA; rw [parts_eq hs]
  rw [eU] at hU
  rw [eE, eA] at hD
  have hLl := partsR_len (bTs W) l p l.length
  have hLr := partsR_rests (bTs W) l p l.length
  have hLw := partsR_rows (ts := bTs W) (p := p) hr l.length
  have hpAl := pA_len _ hLr
  have hpEl : (pE (partsR (bTs W) l p l.length)).length = (partsR (bTs W) l p l.length).length := by simp [pE]
  have hpAr : Rows1 (pA (partsR (bTs W) l p l.length)) := fun f hf => by
    unfold pA at hf
    obtain ⟨x, hx, hf⟩ := List.mem_flatMap.1 hf
    exact hLw x hx f hf
  have hUl : (urP (updR l (bUs V) (partsR (bTs W) l p l.length) [] [])).1.length ≤ l.length ∧ (urP (updR l (bUs V) (partsR (bTs W) l p l.length) [] [])).2.length ≤ 3 * l.length ∧ Rows1 (urP (updR l (bUs V) (partsR (bTs W) l p l.length) [] [])).2 := by
    cases hu : updR l (bUs V) (partsR (bTs W) l p l.length) [] [] with
    | no c => exact ⟨by simp [urP], by simp [urP], by intro f hf; simp [urP] at hf⟩
    | ok E A =>
      have hlen := updR_len l (bUs V) _ [] E [] A hLr hu
      simp at hlen
      refine ⟨by show E.length ≤ _; omega, by show A.length ≤ _; omega, updR_rows hr _ [] E [] A hLw (by intro f hf; simp at hf) hu⟩
  have hA1 := apply_ok nl (pE (partsR (bTs W) l p l.length)).isEmpty (pA (partsR (bTs W) l p l.length)).isEmpty l (pE (partsR (bTs W) l p l.length)) (pA (partsR (bTs W) l p l.length)) (by omega) hr (by omega) (by omega) hpAr (endsE_of pE_rise (fun e he => pE_range he))
  have hA2 := apply_ok nl (urP (updR l (bUs V) (partsR (bTs W) l p l.length) [] [])).1.isEmpty (urP (updR l (bUs V) (partsR (bTs W) l p l.length) [] [])).2.isEmpty l _ _ (by omega) hr (by omega) (by omega) hUl.2.2 (afterU_ends (ts := bTs W) (p := p) (sets := bUs V))
  have hdl : (afterD (bTs W) l p).length ≤ 1000000000 ∧ Rows1 (afterD (bTs W) l p) := by
    have := keep_len (goneE (pE (partsR (bTs W) l p l.length))) l l.length
    unfold afterD applyF
    exact ⟨by rw [List.length_append]; omega, (hr.keep _ _).app hpAr⟩
  have hul : (afterU l (updR l (bUs V) (partsR (bTs W) l p l.length) [] [])).length ≤ 1000000000 ∧ Rows1 (afterU l (updR l (bUs V) (partsR (bTs W) l p l.length) [] [])) := by
    have := keep_len (goneE (urP (updR l (bUs V) (partsR (bTs W) l p l.length) [] [])).1) l l.length
    unfold afterU applyF
    exact ⟨by rw [List.length_append]; omega, (hr.keep _ _).app hUl.2.2⟩
  have hS0 := slice_spec hf nl l t (by omega) hr
  have hS1 := slice_spec hf (afterD (bTs W) l p).isEmpty ((afterD (bTs W) l p).map owned) t (by simp; omega) hdl.2.owned
  have hS2 := slice_spec hf (afterU l (updR l (bUs V) (partsR (bTs W) l p l.length) [] [])).isEmpty ((afterU l (updR l (bUs V) (partsR (bTs W) l p l.length) [] [])).map owned) t (by simp; omega) hul.2.owned
  rw [slice_owned] at hS1 hS2
  have hvc : ∀ E A, updR l (bUs V) (partsR (bTs W) l p l.length) [] [] = .ok E A → right p = true → has p t = true → (sliceL (afterU l (updR l (bUs V) (partsR (bTs W) l p l.length) [] [])) t).length = (sliceL l t).length := fun E A hu h1 h2 => by
    rw [slice_vcnt, slice_vcnt, hu]
    exact update_in hu h1 h2
  have hno : ∀ c, updR l (bUs V) (partsR (bTs W) l p l.length) [] [] = .no c → sliceL (afterU l (updR l (bUs V) (partsR (bTs W) l p l.length) [] [])) t = sliceL l t := fun c hu => by
    rw [hu]; show sliceL (applyF l [] []) t = _; rw [applyF_none]
  have hne : ∀ c, updR l (bUs V) (partsR (bTs W) l p l.length) [] [] = .no c → c ≠ 0 := fun c hu => updR_ne _ _ _ _ _ c hu
  have hout1 : (right p = false ∨ has p t = false) → sliceL (afterD (bTs W) l p) t = sliceL l t := fun h => (slice_eq _ _ t).2 fun r => delete_out _ l p t h r
  have hout2 : (right p = false ∨ has p t = false) → sliceL (afterU l (updR l (bUs V) (partsR (bTs W) l p l.length) [] [])) t = sliceL l t := afterU_out
  have hin1 : right p = true → has p t = true → sliceL (afterD (bTs W) l p) t = (sliceL l t).filter fun r => !holdsT r (bTs W) := stay_eq
  have hsl := slice_len l t
  have hsr : ∀ r ∈ sliceL l t, VFit r ∧ r.length ≤ 4294967296 := fun r hr0 => by
    obtain ⟨f, hf, rfl⟩ := slice_row hr0
    exact ⟨hrow f hf, hr f hf⟩
  have hsame : ∀ a b : List (List Val), a.length ≤ 1000000000 → (∀ r ∈ a, r.length ≤ 4398046511104) → Con Try.prog 27 [.c (.sl a.isEmpty (rowsE a)), .c (.sl b.isEmpty (rowsE b))] [.c (bln (decide (a = b)))] := fun a b h1 h2 => by
    have := sameRows_spec a.isEmpty b.isEmpty (flE a) (flE b) (by simp [flE]; omega) (fun x hx => by
      obtain ⟨r, hr0, rfl⟩ := List.mem_map.1 hx
      exact h2 r hr0)
    rwa [flE_snd, flE_snd, flE_rows, flE_rows] at this
  have hsd : (sliceL (afterD (bTs W) l p) t).length ≤ 1000000000 ∧ ∀ r ∈ sliceL (afterD (bTs W) l p) t, r.length ≤ 4398046511104 := ⟨Nat.le_trans (slice_len _ t) hdl.1, fun r hr0 => by
    obtain ⟨f, hf, rfl⟩ := slice_row hr0
    have := hdl.2 f hf; omega⟩
  have hsu : (sliceL (afterU l (updR l (bUs V) (partsR (bTs W) l p l.length) [] [])) t).length ≤ 1000000000 ∧ ∀ r ∈ sliceL (afterU l (updR l (bUs V) (partsR (bTs W) l p l.length) [] [])) t, r.length ≤ 4398046511104 := ⟨Nat.le_trans (slice_len _ t) hul.1, fun r hr0 => by
    obtain ⟨f, hf, rfl⟩ := slice_row hr0
    have := hul.2 f hf; omega⟩
  rw [urC_P] at hU
  rw [show applyF l (pE (partsR (bTs W) l p l.length)) (pA (partsR (bTs W) l p l.length)) = afterD (bTs W) l p from rfl] at hA1
  rw [show applyF l (urP (updR l (bUs V) (partsR (bTs W) l p l.length) [] [])).1 (urP (updR l (bUs V) (partsR (bTs W) l p l.length) [] [])).2 = afterU l (updR l (bUs V) (partsR (bTs W) l p l.length) [] []) from rfl] at hA2
  generalize hUR : updR l (bUs V) (partsR (bTs W) l p l.length) [] [] = UR at *
  generalize afterD (bTs W) l p = D at *
  generalize afterU l UR = U at *
  generalize sliceL D t = sD at *
  generalize sliceL U t = sU at *
  generalize sliceL l t = sL at *
  generalize pE (partsR (bTs W) l p l.length) = E at *
  generalize pA (partsR (bTs W) l p l.length) = A at *
  generalize (urP UR).1 = UE at *
  generalize (urP UR).2 = UA at *
  generalize D.map owned = Do at *
  generalize U.map owned = Uo at *
  refine spec_of Try.func6 rfl (by kernel_rfl) (by simp [Try.f6]) (fun w0 K0 => vc_ok _ _ _ (by kernel_rfl) ?_)
  simp only [Try.f6]
  simp -dsimp [ask]
  refine VC.mk _ (awake_spec hs) ?_
  simp -dsimp
  refine VC.mk _ hB ?_
  simp -dsimp
  refine VC.mk _ hD ?_
  simp -dsimp
  refine VC.mk _ hA1 ?_
  simp -dsimp
  refine VC.mk _ hU ?_
  simp -dsimp
  refine VC.mk _ hA2 ?_
  simp -dsimp
  refine VC.mk _ hS0 ?_
  simp -dsimp
  refine VC.mk _ hS1 ?_
  simp -dsimp
  refine VC.mk _ hS2 ?_
  simp -dsimp
  refine VC.mk _ (refRight_spec p) ?_
  simp -dsimp
  refine VG.mk [.c (bln (has p t))] _ (fun _ => refHas_spec p t) rfl ?_
  simp -dsimp
  refine VIf.mk (fun h => ?_) (fun h => ?_)
  · have h1 : right p = false ∨ has p t = false := by
      revert h; cases right p <;> cases has p t <;> simp
    rw [hout1 h1] at hsd
    have k1 := hsame sL sL hsd.1 hsd.2
    rw [hout1 h1] at *
    rw [hout2 h1] at *
    simp only [decide_true] at k1
    simp -dsimp
    refine VC.mk _ k1 ?_
    simp -dsimp
    refine VG.mk [.c (bln true)] _ (fun _ => k1) rfl ?_
    simp -dsimp
  · have h1 : right p = true ∧ has p t = true := by
      revert h; cases right p <;> cases has p t <;> simp
    have hin := hin1 h1.1 h1.2
    simp -dsimp
    refine VL.loop (fun k : Nat => ⟨[(93, .c (i64 k)), (92, .c (i64 sL.length)), (91, .c (.sl sL.isEmpty (rowsE sL))), (7, .c (.sl W.isEmpty (terms (bTs W)))), (14, .c (i64 (urE UR))), (17, .c (.sl sL.isEmpty (rowsE sL))), (18, .c (.sl sD.isEmpty (rowsE sD))), (19, .c (.sl sU.isEmpty (rowsE sU))), (20, .own 1280 (stayK (bTs W) sL k).length)],
        [(1280, some (.arr (stayK (bTs W) sL k).isEmpty (gsz 1 (stayK (bTs W) sL k)) (rowsE (stayK (bTs W) sL k)) 0))]⟩)
      (fun k => k ≤ sL.length) (fun k => sL.length - k) 0 (by kernel_rfl) (by simp) (by simp [St.le, stayK, gsz, rowsE]) ?_
    intro k hk
    have hstl := stayK_len (bTs W) sL k
    simp -dsimp
    refine VIf.mk (fun h2 => ?_) (fun h2 => ?_)
    · have h3 : k < sL.length := by simpa using h2
      have hww : IntKind.i64.wrap ((k : Int) + 1) = (k : Int) + 1 := IntWalk.i64_in _ (by omega)
      have hst := stayK_step (ts := bTs W) h3
      have hH := Holds_spec sL[k].isEmpty W.isEmpty sL[k] (hsr _ (List.getElem_mem h3)).1 (bTs W) htw (by simp; omega)
      have hrk : (rowsE sL)[k]'(by simpa using h3) = [.sl sL[k].isEmpty (vals sL[k])] := by simp [rowsE, rowE]
      simp -dsimp [h3, hrk]
      refine VC.mk _ hH ?_
      simp -dsimp
      have hg1 := gsz_ok 1 (stayK (bTs W) sL k)
      refine VIf.mk (fun h4 => ?_) (fun h4 => ?_)
      · have h5 : holdsT sL[k] (bTs W) = false := by simpa using h4
        simp -dsimp
        refine ⟨by decide, fun e => hg1 (by simpa using e), by omega, k + 1, by omega, ?_, by omega⟩
        rw [hst, h5]
        have e3 : (stayK (bTs W) sL k ++ [sL[k]]).isEmpty = false := by simp
        simp [St.le, hww, rowsE, rowE, gsz]
      · have h5 : holdsT sL[k] (bTs W) = true := by simpa using h4
        simp -dsimp
        refine ⟨k + 1, by omega, ?_, by omega⟩
        rw [hst, h5]
        simp [St.le, hww]
    · simp at h2
      obtain rfl : k = sL.length := by omega
      have e0 : stayK (bTs W) sL sL.length = sD := by unfold stayK; rw [List.take_length, hin]
      rw [e0]
      simp -dsimp
      have k1 := hsame sD sD hsd.1 hsd.2
      simp only [decide_true] at k1
      cases UR with
      | ok E1 A1 =>
        have hvl := hvc E1 A1 rfl h1.1 h1.2
        simp -dsimp [urE]
        refine VCL.snap ?_
        simp -dsimp
        refine VC.mk _ k1 ?_
        simp -dsimp
        refine VG.mk [.c (bln true)] _ (fun h => by simp at h) rfl ?_
        simp -dsimp [hvl]
      | no c =>
        have hc := hne c rfl
        have hu := hno c rfl
        subst hu
        simp -dsimp [urE, hc]
        refine VCL.snap ?_
        simp -dsimp
        refine VC.mk _ k1 ?_
        simp -dsimp
        have k2 := hsame sU sU hsu.1 hsu.2
        simp only [decide_true] at k2
        refine VG.mk [.c (bln true)] _ (fun _ => k2) rfl ?_
        simp -dsimp [hc]
end Go.Proofs.Ytkfiiomdkljjnaa
