/- Maps as lists with keys: plain laws, and what the model's maps are by them. -/
import Derived.Test.YtddhmoffjpnbgaaT6
set_option linter.unusedSimpArgs false
set_option linter.unusedVariables false
namespace Go.Proofs.Ytddhmoffjpnbgaa
open Go.VL Go.RowKit

section
variable {α : Type} (f : α → Int)
def kFnd (k : Int) : List α → Option (Nat × α)
  | [] => none
  | x :: r => if f x = k then some (0, x) else (kFnd k r).map fun y => (y.1 + 1, y.2)
def kPut (x : α) (l : List α) : List α := match kFnd f (f x) l with
  | some y => l.set y.1 x
  | none => l ++ [x]
theorem kFnd_some {k : Int} : ∀ {l : List α} {j : Nat} {x : α}, kFnd f k l = some (j, x) → l[j]? = some x ∧ f x = k
  | [], j, x, h => by simp [kFnd] at h
  | y :: r, j, x, h => by
    unfold kFnd at h
    split at h
    · rename_i e
      simp at h
      obtain ⟨rfl, rfl⟩ := h
      exact ⟨rfl, e⟩
    · cases hr : kFnd f k r with
      | none => rw [hr] at h; simp at h
      | some z =>
        rw [hr] at h
        simp at h
        obtain ⟨rfl, rfl⟩ := h
        obtain ⟨h1, h2⟩ := kFnd_some (l := r) (j := z.1) (x := z.2) hr
        exact ⟨by simpa using h1, h2⟩
theorem kFnd_none {k : Int} : ∀ {l : List α}, kFnd f k l = none ↔ ∀ x ∈ l, f x ≠ k
  | [] => by simp [kFnd]
  | y :: r => by
    unfold kFnd
    split
    · rename_i e; simp; intro h; exact (h e).elim
    · rename_i e; simp [kFnd_none (l := r), e]
theorem kPut_len (x : α) (l : List α) : (kPut f x l).length ≤ l.length + 1 := by
  unfold kPut; split <;> simp
theorem kPut_keys (x : α) (l : List α) : (kPut f x l).map f = if f x ∈ l.map f then l.map f else l.map f ++ [f x] := by
  unfold kPut
  split
  · rename_i y hy
    obtain ⟨h1, h2⟩ := kFnd_some f (j := y.1) (x := y.2) hy
    have hj := (List.getElem?_eq_some_iff.1 h1).1
    have hjx := (List.getElem?_eq_some_iff.1 h1).2
    have hm : f x ∈ l.map f := by rw [← h2]; exact List.mem_map.2 ⟨y.2, List.mem_of_getElem? h1, rfl⟩
    rw [if_pos hm]
    refine List.ext_getElem (by simp) fun i a b => ?_
    simp only [List.getElem_map, List.getElem_set]
    split
    · rename_i e; subst e; rw [hjx, h2]
    · rfl
  · rename_i hn
    rw [kFnd_none] at hn
    have hm : ¬ f x ∈ l.map f := fun h => by
      obtain ⟨y, hy, e⟩ := List.mem_map.1 h
      exact hn y hy e
    rw [if_neg hm]
    simp
theorem kPut_nodup (x : α) (l : List α) (h : (l.map f).Nodup) : ((kPut f x l).map f).Nodup := by
  rw [kPut_keys]
  split
  · exact h
  · rename_i hm
    rw [List.nodup_append]
    exact ⟨h, by simp, fun a ha b hb => by simp at hb; subst hb; exact fun e => hm (e ▸ ha)⟩
/-- what is found behind a put -/
theorem kFnd_put (x : α) (k : Int) (l : List α) : (kFnd f k (kPut f x l)).map (·.2) = if f x = k then some x else (kFnd f k l).map (·.2) := by
  unfold kPut
  cases hy : kFnd f (f x) l with
  | none =>
    simp only
    have ha : ∀ (l : List α), (kFnd f (f x) l = none) → (kFnd f k (l ++ [x])).map (·.2) = if f x = k then some x else (kFnd f k l).map (·.2) := by
      intro l
      induction l with
      | nil => intro _; simp [kFnd]
      | cons z r ih =>
        intro hn
        unfold kFnd at hn
        split at hn
        · cases hn
        · rename_i hz
          have hr : kFnd f (f x) r = none := by
            cases h : kFnd f (f x) r with
            | none => rfl
            | some q => rw [h] at hn; simp at hn
          have := ih hr
          simp only [List.cons_append]
          unfold kFnd
          by_cases hk : f z = k
          · have hne : f x ≠ k := fun e => hz (by rw [hk, e])
            simp [hk, hne]
          · rw [if_neg hk, if_neg hk]
            simp only [Option.map_map, Function.comp_def]
            exact this
    exact ha l hy
  | some y =>
    simp only
    have ha : ∀ (l : List α) (j : Nat) (u : α), kFnd f (f x) l = some (j, u) → (kFnd f k (l.set j x)).map (·.2) = if f x = k then some x else (kFnd f k l).map (·.2) := by
      intro l
      induction l with
      | nil => intro j u h; simp [kFnd] at h
      | cons z r ih =>
        intro j u h
        unfold kFnd at h
        split at h
        · rename_i hz
          simp at h
          obtain ⟨rfl, rfl⟩ := h
          simp only [List.set_cons_zero]
          unfold kFnd
          by_cases hk : f x = k
          · simp [hk]
          · simp [hk, hz]
        · rename_i hz
          cases hr : kFnd f (f x) r with
          | none => rw [hr] at h; simp at h
          | some q =>
            rw [hr] at h
            simp at h
            obtain ⟨rfl, rfl⟩ := h
            have := ih q.1 q.2 hr
            simp only [List.set_cons_succ]
            unfold kFnd
            by_cases hk : f z = k
            · have hne : f x ≠ k := fun e => hz (by rw [hk, e])
              simp [hk, hne]
            · rw [if_neg hk, if_neg hk]
              simp only [Option.map_map, Function.comp_def]
              exact this
    exact ha l y.1 y.2 hy
theorem kPut_mem {x : α} {l : List α} {y : α} (h : y ∈ kPut f x l) : y = x ∨ y ∈ l := by
  unfold kPut at h
  split at h
  · rcases List.mem_or_eq_of_mem_set h with h | h
    · exact .inr h
    · exact .inl h
  · simp at h; exact h.symm
/-- a map whose keys are numbers, as entries -/
def entsE (cs : α → List C) (l : List α) : List (Value × List C) := l.map fun x => (.int .i64 (f x), cs x)
theorem findK_ents (cs : α → List C) (k : Int) : ∀ l : List α, findK (.int .i64 k) (mpE (entsE f cs l)) = (kFnd f k l).map fun y => (y.1, (cs y.2).map .c)
  | [] => rfl
  | x :: r => by
    have ih := findK_ents cs k r
    unfold entsE mpE at ih ⊢
    simp only [List.map_cons, findK, kFnd, keq]
    by_cases h : f x = k
    · simp [h]
    · have h' : ¬ k = f x := fun e => h e.symm
      simp only [h, h', if_false, beq_self_eq_true, Bool.true_and, beq_iff_eq]
      rw [ih]
      simp [Option.map_map, Function.comp_def]
theorem putK_ents (cs : α → List C) (x : α) (l : List α) : putK (.int .i64 (f x)) ((cs x).map .c) (mpE (entsE f cs l)) = mpE (entsE f cs (kPut f x l)) := by
  unfold putK kPut
  rw [findK_ents]
  cases h : kFnd f (f x) l with
  | none => simp [mpE, entsE]
  | some y => simp [mpE, entsE, List.map_set]
end
end Go.Proofs.Ytddhmoffjpnbgaa
