/- Plain law: there is a clash just if at some edge two rows are alike; deleting never makes one. -/
import Derived.Test.YtkfiiomdkljjnaaE4
set_option linter.unusedSimpArgs false
set_option linter.unusedVariables false
namespace Go.Proofs.Ytkfiiomdkljjnaa
open Go.VL Go.RowKit

theorem clashRow_none {l : List Fact} {keys : List Int} {i : Nat} : ∀ m, clashRow l keys i m = none ↔ ∀ j, j < m → clashes l[j]! l[i]! keys = false
  | 0 => by simp [clashRow]
  | m + 1 => by
    have ih := clashRow_none (l := l) (keys := keys) (i := i) m
    rw [clashRow]
    cases hx : clashRow l keys i m with
    | some r =>
      simp only [reduceCtorEq, false_iff]
      intro h
      rw [ih.2 (fun j hj => h j (by omega))] at hx
      cases hx
    | none =>
      have ih' := ih.1 hx
      show (if clashes l[m]! l[i]! keys then some (m, i) else none) = none ↔ _
      constructor
      · intro h j hj
        by_cases e : j = m
        · subst e
          cases hc : clashes l[j]! l[i]! keys with
          | false => rfl
          | true => rw [hc] at h; cases h
        · exact ih' j (by omega)
      · intro h; rw [h m (by omega)]; rfl
theorem clashUp_none {l : List Fact} {keys : List Int} : ∀ n, clashUp l keys n = none ↔ ∀ i, i < n → ∀ j, j < i → clashes l[j]! l[i]! keys = false
  | 0 => by simp [clashUp]
  | n + 1 => by
    have ih := clashUp_none (l := l) (keys := keys) n
    rw [clashUp]
    cases hx : clashUp l keys n with
    | some r =>
      simp only [reduceCtorEq, false_iff]
      intro h
      rw [ih.2 (fun i hi => h i (by omega))] at hx
      cases hx
    | none =>
      have ih' := ih.1 hx
      show clashRow l keys n n = none ↔ _
      rw [clashRow_none]
      constructor
      · intro h i hi
        by_cases e : i = n
        · subst e; exact h
        · exact ih' i (by omega)
      · intro h; exact h n (by omega)
/-- no two clash -/
def NC (keys : List Int) (f g : Fact) : Prop := clashes f g keys = false
theorem clashR_iff (l : List Fact) (keys : List Int) : (clashR l keys).isSome = false ↔ l.Pairwise (NC keys) := by
  have h := clashUp_none (l := l) (keys := keys) l.length
  rw [List.pairwise_iff_getElem]
  constructor
  · intro hs j i hj hi hlt
    have : clashR l keys = none := by cases hx : clashR l keys with
      | none => rfl
      | some r => rw [hx] at hs; cases hs
    have := h.1 this i hi j hlt
    rwa [getElem!_pos l j hj, getElem!_pos l i hi] at this
  · intro hp
    have : clashR l keys = none := h.2 fun i hi j hlt => by
      rw [getElem!_pos l j (by omega), getElem!_pos l i hi]
      exact hp j i (by omega) hi hlt
    rw [this]; rfl
theorem alikeK_comm (a b : List Val) (k : Int) : alikeK a b k = alikeK b a k := by
  unfold alikeK
  rw [Bool.eq_iff_iff]
  simp only [Bool.and_eq_true, decide_eq_true_eq, beq_iff_eq]
  exact ⟨fun ⟨⟨⟨h1, h2⟩, h3⟩, h4⟩ => ⟨⟨⟨h1, h3⟩, h2⟩, h4.symm⟩, fun ⟨⟨⟨h1, h2⟩, h3⟩, h4⟩ => ⟨⟨⟨h1, h3⟩, h2⟩, h4.symm⟩⟩
theorem alike_comm (a b : List Val) (keys : List Int) : alike a b keys = alike b a keys := by
  unfold alike
  rw [show alikeK a b = alikeK b a from funext (alikeK_comm a b)]
theorem lapOk_iff (a b : Per) : lapOk a b = true ↔ right a = true ∧ right b = true ∧ ∃ t, has a t = true ∧ has b t = true := by
  rw [lapOk_eq]
  simp only [Bool.and_eq_true, decide_eq_true_eq, has_iff]
  constructor
  · rintro ⟨h1, h2, h3, h4⟩
    refine ⟨h1, h2, max a.f b.f, ?_⟩
    rw [right_iff] at h1 h2
    omega
  · rintro ⟨h1, h2, t, h3, h4⟩
    exact ⟨h1, h2, by omega, by omega⟩
theorem lapOk_comm (a b : Per) : lapOk a b = lapOk b a := by
  rw [Bool.eq_iff_iff, lapOk_iff, lapOk_iff]
  exact ⟨fun ⟨h1, h2, t, h3, h4⟩ => ⟨h2, h1, t, h4, h3⟩, fun ⟨h1, h2, t, h3, h4⟩ => ⟨h2, h1, t, h4, h3⟩⟩
theorem NC.symm {keys : List Int} {f g : Fact} (h : NC keys f g) : NC keys g f := by
  unfold NC clashes at h ⊢
  rw [lapOk_comm, alike_comm]; exact h

/-! ### What the law finds, edge by edge -/
def NA (keys : List Int) (a b : List Val) : Prop := alike a b keys = false
theorem NA.symm {keys : List Int} {a b : List Val} (h : NA keys a b) : NA keys b a := by unfold NA at h ⊢; rw [alike_comm]; exact h
def anyJ (R : List (List Val)) (keys : List Int) (i j : Nat) : Bool := (List.range j).any fun j => alike R[i]! R[j]! keys
def foundI (R : List (List Val)) (keys : List Int) (i : Nat) : Bool := (List.range i).any fun i => anyJ R keys i i
def foundC (l : List Fact) (E : List Int) (keys : List Int) (c : Nat) : Bool := (List.range c).any fun c => foundI (rowsAt l (ge E c)) keys (rowsAt l (ge E c)).length
theorem foundI_iff (R : List (List Val)) (keys : List Int) : foundI R keys R.length = false ↔ R.Pairwise (NA keys) := by
  rw [List.pairwise_iff_getElem]
  unfold foundI anyJ
  constructor
  · intro h j i hj hi hlt
    rw [List.any_eq_false] at h
    have h2 := h i (by simpa using hi)
    simp only [Bool.not_eq_true, List.any_eq_false, List.mem_range] at h2
    have := h2 j hlt
    rw [getElem!_pos R i hi, getElem!_pos R j hj] at this
    exact NA.symm (by simpa [NA] using this)
  · intro h
    rw [List.any_eq_false]
    intro i hi
    simp only [List.mem_range] at hi
    simp only [Bool.not_eq_true, List.any_eq_false, List.mem_range]
    intro j hj
    rw [getElem!_pos R i hi, getElem!_pos R j (by omega)]
    have := (h j i (by omega) hi hj).symm
    simpa [NA] using this
theorem foundAt_iff (l : List Fact) (t : Int) (keys : List Int) : foundI (rowsAt l t) keys (rowsAt l t).length = false ↔ l.Pairwise fun f g => validAt f t = true → validAt g t = true → NA keys f.row g.row := by
  rw [foundI_iff, (rowsAt_perm l t).pairwise_iff (fun h => NA.symm h), List.pairwise_map, List.pairwise_filter]
theorem foundC_iff (l : List Fact) (E : List Int) (keys : List Int) (n : Nat) : foundC l E keys n = false ↔ ∀ c, c < n → l.Pairwise fun f g => validAt f (ge E c) = true → validAt g (ge E c) = true → NA keys f.row g.row := by
  unfold foundC
  rw [List.any_eq_false]
  constructor
  · intro h c hc
    exact (foundAt_iff l _ keys).1 (by simpa using h c (by simpa using hc))
  · intro h c hc
    simp only [List.mem_range] at hc
    simpa using (foundAt_iff l _ keys).2 (h c hc)
theorem found_law (l : List Fact) (keys : List Int) : (clashR l keys).isSome = foundC l (edgesL (pers l)) keys ((edgesL (pers l)).length - 1) := by
  suffices h : (clashR l keys).isSome = false ↔ foundC l (edgesL (pers l)) keys ((edgesL (pers l)).length - 1) = false by
    cases h1 : (clashR l keys).isSome <;> cases h2 : foundC l (edgesL (pers l)) keys ((edgesL (pers l)).length - 1) <;> simp_all
  rw [clashR_iff, foundC_iff]
  obtain ⟨hE, hmem⟩ := edgesL_ok (pers l)
  constructor
  · intro h c hc
    refine h.imp fun {f g} hn hf hg => ?_
    unfold validAt at hf hg
    simp only [Bool.and_eq_true] at hf hg
    have : lapOk f.p g.p = true := (lapOk_iff _ _).2 ⟨hf.1, hg.1, _, hf.2, hg.2⟩
    unfold NC clashes at hn
    rw [this, Bool.true_and] at hn
    exact hn
  · intro h
    rw [List.pairwise_iff_getElem]
    intro i j hi hj hij
    unfold NC clashes
    cases hl : lapOk l[i].p l[j].p with
    | false => rfl
    | true =>
      rw [Bool.true_and]
      obtain ⟨r1, r2, t0, h1, h2⟩ := (lapOk_iff _ _).1 hl
      rw [has_iff] at h1 h2
      have hmf : max l[i].p.f l[j].p.f ∈ edgesL (pers l) := by
        rw [hmem, mem_endsOf]
        rcases Int.le_total l[i].p.f l[j].p.f with hle | hle
        · exact ⟨l[j].p, List.mem_map.2 ⟨_, List.getElem_mem hj, rfl⟩, r2, .inl (by omega)⟩
        · exact ⟨l[i].p, List.mem_map.2 ⟨_, List.getElem_mem hi, rfl⟩, r1, .inl (by omega)⟩
      have hmt : l[i].p.t ∈ edgesL (pers l) := by
        rw [hmem, mem_endsOf]
        exact ⟨l[i].p, List.mem_map.2 ⟨_, List.getElem_mem hi, rfl⟩, r1, .inr rfl⟩
      obtain ⟨c, hc, hce⟩ := List.getElem_of_mem hmf
      obtain ⟨d, hd, hde⟩ := List.getElem_of_mem hmt
      have hcd : c < d := by
        rcases Nat.lt_or_ge c d with hlt | hge
        · exact hlt
        · by_cases e : c = d
          · subst e; omega
          · have := (List.pairwise_iff_getElem.1 hE) d c hd hc (by omega)
            omega
      have hp := (List.pairwise_iff_getElem.1 (h c (by omega))) i j hi hj hij
      rw [ge_pos _ c hc, hce] at hp
      have v1 : validAt l[i] (max l[i].p.f l[j].p.f) = true := by
        unfold validAt; rw [r1, Bool.true_and, has_iff]; omega
      have v2 : validAt l[j] (max l[i].p.f l[j].p.f) = true := by
        unfold validAt; rw [r2, Bool.true_and, has_iff]; omega
      exact hp v1 v2
end Go.Proofs.Ytkfiiomdkljjnaa
