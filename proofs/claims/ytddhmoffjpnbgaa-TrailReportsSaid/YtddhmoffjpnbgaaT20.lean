/- Plain laws: the least, one after another; the document's reckoning of a page. -/
import Derived.Test.YtddhmoffjpnbgaaT18
import Derived.Test.YtddhmoffjpnbgaaT19
set_option linter.unusedSimpArgs false
set_option linter.unusedVariables false
namespace Go.Proofs.Ytddhmoffjpnbgaa
open Go.VL Go.RowKit

def okL (ab : Int) (fr : Bool) (x : Int) : Prop := fr = false ∨ ab < x
structure Least (c : List Int) (ab : Int) (fr : Bool) (s : Int × Bool) : Prop where
  no : s.2 = false → s.1 = 0 ∧ ∀ x ∈ c, ¬ okL ab fr x
  yes : s.2 = true → s.1 ∈ c ∧ okL ab fr s.1 ∧ ∀ x ∈ c, okL ab fr x → s.1 ≤ x
theorem least_law (c : List Int) (ab : Int) (fr : Bool) : ∀ k, k ≤ c.length → Least (c.take k) ab fr (leastL (c.take k) ab fr)
  | 0, _ => ⟨fun _ => ⟨rfl, by simp⟩, fun h => by simp [leastL] at h⟩
  | k + 1, h => by
    obtain ⟨h1, h2⟩ := least_law c ab fr k (by omega)
    rw [least_snoc c ab fr h, List.take_succ_eq_append_getElem h]
    generalize leastL (c.take k) ab fr = s at *
    unfold lstep
    split
    · rename_i hc
      refine ⟨fun e => by simp at e, fun _ => ⟨List.mem_append_right _ (List.mem_singleton.2 rfl), hc.1, fun x hx hxo => ?_⟩⟩
      rcases List.mem_append.1 hx with hx | hx
      · cases hs : s.2 with
        | false => exact ((h1 hs).2 x hx hxo).elim
        | true =>
          obtain ⟨_, _, q3⟩ := h2 hs
          have := q3 x hx hxo
          rcases hc.2 with e | e
          · rw [hs] at e; cases e
          · simp only; omega
      · simp at hx; subst hx; simp
    · rename_i hc
      refine ⟨fun e => ⟨(h1 e).1, fun x hx hxo => ?_⟩, fun e => ?_⟩
      · rcases List.mem_append.1 hx with hx | hx
        · exact (h1 e).2 x hx hxo
        · simp at hx; subst hx; exact hc ⟨hxo, .inl e⟩
      · obtain ⟨q1, q2, q3⟩ := h2 e
        refine ⟨List.mem_append_left _ q1, q2, fun x hx hxo => ?_⟩
        rcases List.mem_append.1 hx with hx | hx
        · exact q3 x hx hxo
        · simp at hx; subst hx
          have : ¬ c[k] < s.1 := fun q => hc ⟨hxo, .inr q⟩
          omega
theorem least_law' (c : List Int) (ab : Int) (fr : Bool) : Least c ab fr (leastL c ab fr) := by
  have := least_law c ab fr c.length (Nat.le_refl _)
  rwa [List.take_length] at this
/-- how a list is told in order -/
def nthL (S : List Int) (j : Nat) : Int × Bool := (S[j]?.getD 0, decide (j < S.length))
theorem least_uniq {c : List Int} {ab : Int} {fr : Bool} {s t : Int × Bool} (hs : Least c ab fr s) (ht : Least c ab fr t) : s = t := by
  obtain ⟨a, p⟩ := s
  obtain ⟨b, q⟩ := t
  cases p with
  | false =>
    cases q with
    | false =>
      have h1 := (hs.no rfl).1
      have h2 := (ht.no rfl).1
      simp only at h1 h2
      rw [h1, h2]
    | true =>
      obtain ⟨h1, h2, _⟩ := ht.yes rfl
      exact ((hs.no rfl).2 _ h1 h2).elim
  | true =>
    obtain ⟨h1, h2, h3⟩ := hs.yes rfl
    cases q with
    | false => exact ((ht.no rfl).2 _ h1 h2).elim
    | true =>
      obtain ⟨g1, g2, g3⟩ := ht.yes rfl
      have e1 := h3 _ g1 g2
      have e2 := g3 _ h1 h2
      simp only at e1 e2
      have : a = b := by omega
      rw [this]
theorem least_nth {c S : List Int} (hS : S.Pairwise (· < ·)) (hm : ∀ x, x ∈ S ↔ x ∈ c) : leastL c 0 false = nthL S 0 := by
  refine least_uniq (least_law' c 0 false) ?_
  unfold nthL
  cases S with
  | nil =>
    refine ⟨fun _ => ⟨rfl, fun x hx => ?_⟩, fun h => by simp at h⟩
    have := (hm x).2 hx; cases this
  | cons a S =>
    refine ⟨fun h => by simp at h, fun _ => ⟨(hm a).1 (by simp), .inl rfl, fun x hx _ => ?_⟩⟩
    rcases List.mem_cons.1 ((hm x).2 hx) with rfl | h
    · simp
    · have := (List.pairwise_cons.1 hS).1 x h; simp; omega
theorem least_next {c S : List Int} (hS : S.Pairwise (· < ·)) (hm : ∀ x, x ∈ S ↔ x ∈ c) (j : Nat) (hj : j < S.length) : leastL c S[j] true = nthL S (j + 1) := by
  refine least_uniq (least_law' c S[j] true) ?_
  have hlt := List.pairwise_iff_getElem.1 hS
  have hgt : ∀ i, (hi : i < S.length) → S[j] < S[i] → j < i := fun i hi h => by
    rcases Nat.lt_trichotomy i j with q | q | q
    · have := hlt i j hi hj q; omega
    · subst q; omega
    · exact q
  unfold nthL
  by_cases h : j + 1 < S.length
  · have e : S[j + 1]?.getD 0 = S[j + 1] := by simp [h]
    rw [e, decide_eq_true h]
    refine ⟨fun q => by simp at q, fun _ => ⟨(hm _).1 (List.getElem_mem h), .inr (hlt j (j + 1) hj h (by omega)), fun x hx hxo => ?_⟩⟩
    obtain ⟨i, hi, rfl⟩ := List.mem_iff_getElem.1 ((hm x).2 hx)
    have hji := hgt i hi (by rcases hxo with q | q; · cases q
                             · exact q)
    simp only
    rcases Nat.lt_or_ge (j + 1) i with q | q
    · have := hlt (j + 1) i h hi q; omega
    · have : i = j + 1 := by omega
      subst this; exact Int.le_refl _
  · rw [decide_eq_false h, List.getElem?_eq_none (by omega)]
    refine ⟨fun _ => ⟨rfl, fun x hx hxo => ?_⟩, fun q => by simp at q⟩
    obtain ⟨i, hi, rfl⟩ := List.mem_iff_getElem.1 ((hm x).2 hx)
    have hji := hgt i hi (by rcases hxo with q | q; · cases q
                             · exact q)
    omega

/-- of one page: is nothing found yet, the first mark, the last -/
def pstep (p : Int) (ms : List Int) (s : Bool × Int × Int) (x : Ent × Nat) : Bool × Int × Int :=
  if x.1.kind ≠ 3 ∧ x.1.page = p then (false, if s.1 = true then markOf ms x.2 else s.2.1, markOf ms x.2) else s
def pst (p : Int) (ms : List Int) (l : List Ent) : Bool × Int × Int := l.zipIdx.foldl (pstep p ms) (true, 0, 0)
theorem pst_snoc (p : Int) (ms : List Int) (l : List Ent) {k : Nat} (h : k < l.length) : pst p ms (l.take (k + 1)) = pstep p ms (pst p ms (l.take k)) (l[k], k) := by
  unfold pst
  rw [List.take_succ_eq_append_getElem h, List.zipIdx_append, List.foldl_append]
  simp [Nat.min_eq_left (Nat.le_of_lt h)]
theorem pst_law (p : Int) (ms : List Int) (l : List Ent) : ∀ k, k ≤ l.length → (kFnd Tou.page p (runA ms (l.take k)).pages).map (·.2) = if (pst p ms (l.take k)).1 = true then none else some ⟨p, (pst p ms (l.take k)).2.1, (pst p ms (l.take k)).2.2⟩
  | 0, _ => by simp [runA, AS.init, kFnd, pst]
  | k + 1, h => by
    have ih := pst_law p ms l k (by omega)
    rw [runA_snoc ms l h, pst_snoc p ms l h]
    generalize runA ms (l.take k) = s at *
    generalize pst p ms (l.take k) = q at *
    by_cases h3 : l[k].kind = 3
    · have e1 : pstep p ms q (l[k], k) = q := if_neg (fun h => h.1 h3)
      rw [e1]
      unfold AS.step
      simp only [h3, if_true]
      exact ih
    · unfold AS.step
      simp only [h3, if_false]
      rw [kFnd_put, touch_page]
      by_cases hp : l[k].page = p
      · have e1 : pstep p ms q (l[k], k) = (false, if q.1 = true then markOf ms k else q.2.1, markOf ms k) := if_pos ⟨h3, hp⟩
        rw [if_pos hp, e1]
        simp only [Bool.false_eq_true, if_false]
        unfold touch
        rw [hp]
        cases hf : kFnd Tou.page p s.pages with
        | none =>
          rw [hf] at ih
          have e : q.1 = true := by
            by_cases e : q.1 = true
            · exact e
            · rw [if_neg e] at ih; simp at ih
          simp [e]
        | some y =>
          rw [hf] at ih
          have e : ¬ q.1 = true := fun e => by rw [if_pos e] at ih; simp at ih
          rw [if_neg e] at ih
          simp only [Option.map_some, Option.some.injEq] at ih
          simp only [if_neg e, Option.some.injEq]
          rw [ih]
      · have e1 : pstep p ms q (l[k], k) = q := if_neg (fun h => hp h.2)
        rw [if_neg hp, e1]
        exact ih
theorem kFnd_mem {α : Type} (f : α → Int) : ∀ {l : List α} {y : α}, (l.map f).Nodup → y ∈ l → (kFnd f (f y) l).map (·.2) = some y
  | x :: l, y, hn, hy => by
    rw [List.map_cons, List.nodup_cons] at hn
    unfold kFnd
    rcases List.mem_cons.1 hy with rfl | h
    · simp
    · have hne : ¬ f x = f y := fun e => hn.1 (e ▸ List.mem_map.2 ⟨y, h, rfl⟩)
      rw [if_neg hne]
      have := kFnd_mem f hn.2 h
      simp only [Option.map_map, Function.comp_def]
      exact this
theorem page_is (ms : List Int) (l : List Ent) (y : Tou) (hy : y ∈ (runA ms l).pages) : y = ⟨y.page, (pst y.page ms l).2.1, (pst y.page ms l).2.2⟩ := by
  have h := pst_law y.page ms l l.length (Nat.le_refl _)
  rw [List.take_length, kFnd_mem Tou.page (runA_ok' ms l).np hy] at h
  split at h
  · cases h
  · exact Option.some.inj h
/-- which pages -/
def hasP (l : List Ent) (p : Int) : Prop := ∃ e ∈ l, e.kind ≠ 3 ∧ e.page = p
theorem pages_mem (ms : List Int) (l : List Ent) : ∀ k, k ≤ l.length → ∀ p, p ∈ (runA ms (l.take k)).pages.map Tou.page ↔ hasP (l.take k) p
  | 0, _, p => by simp [runA, AS.init, hasP]
  | k + 1, h, p => by
    have ih := pages_mem ms l k (by omega)
    rw [runA_snoc ms l h]
    have hh : hasP (l.take (k + 1)) p ↔ hasP (l.take k) p ∨ (l[k].kind ≠ 3 ∧ l[k].page = p) := by
      unfold hasP
      rw [List.take_succ_eq_append_getElem h]
      constructor
      · rintro ⟨e, he, q⟩
        rcases List.mem_append.1 he with he | he
        · exact .inl ⟨e, he, q⟩
        · simp at he; subst he; exact .inr q
      · rintro (⟨e, he, q⟩ | q)
        · exact ⟨e, List.mem_append_left _ he, q⟩
        · exact ⟨l[k], List.mem_append_right _ (List.mem_singleton.2 rfl), q⟩
    rw [hh]
    generalize runA ms (l.take k) = s at *
    unfold AS.step
    by_cases h3 : l[k].kind = 3
    · simp only [h3, if_true]
      rw [ih p]; simp
    · simp only [h3, if_false]
      rw [kPut_keys, touch_page]
      split
      · rename_i hm
        rw [ih p]
        constructor
        · exact .inl
        · rintro (q | q)
          · exact q
          · rw [← q.2]; exact (ih _).1 hm
      · rw [List.mem_append, ih p]
        simp [h3, eq_comm]
end Go.Proofs.Ytddhmoffjpnbgaa
