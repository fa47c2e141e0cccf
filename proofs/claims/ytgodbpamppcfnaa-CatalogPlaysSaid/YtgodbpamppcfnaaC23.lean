/- Contracts of functions of the seat, proved in a logic on data over the model (part C23). -/
import Derived.Test.YtgodbpamppcfnaaC22
set_option linter.unusedSimpArgs false
set_option linter.unusedVariables false
namespace Go.Proofs.Ytgodbpamppcfnaa
open Go.VL Go.RowKit

theorem bad1_iff (v : Val) : badVal v 1 = false ↔ v = num v.int := by
  obtain ⟨k, i, s⟩ := v
  by_cases h : k = 1
  · subst h; simp [badVal, num]
  · simp [badVal, num, h]
theorem bad2_iff (v : Val) : badVal v 2 = false ↔ v = txt v.text := by
  obtain ⟨k, i, s⟩ := v
  by_cases h : k = 2
  · subst h; simp [badVal, txt]
  · simp [badVal, txt, h]
theorem head_iff (a b c d : Val) : kindsOk [a, b, c, d] [1, 2, 1, 1] = true ↔ a = num a.int ∧ b = txt b.text ∧ c = num c.int ∧ d = num d.int := by
  rw [badAt_iff]
  constructor
  · intro h
    exact ⟨(bad1_iff a).1 (h 0 (by simp)), (bad2_iff b).1 (h 1 (by simp)), (bad1_iff c).1 (h 2 (by simp)), (bad1_iff d).1 (h 3 (by simp))⟩
  · rintro ⟨h0, h1, h2, h3⟩ i hi
    match i, hi with
    | 0, _ => exact (bad1_iff a).2 h0
    | 1, _ => exact (bad2_iff b).2 h1
    | 2, _ => exact (bad1_iff c).2 h2
    | 3, _ => exact (bad1_iff d).2 h3

/-- the columns' part of a row is what its columns say -/
theorem cols_iff : ∀ (n : Nat) (l : List Val), l.length = 2 * n → (kindsOk l [2, 1] = true ↔ rowCols (colsOf l n) = l) := by
  intro n l hl
  have hi : ∀ i, (h : i < n) → (rowCols (colsOf l n))[2 * i]? = some (txt (l[2 * i]'(by omega)).text) ∧ (rowCols (colsOf l n))[2 * i + 1]? = some (num (l[2 * i + 1]'(by omega)).int) := by
    intro i h
    have h' : i < (colsOf l n).length := by simpa using h
    obtain ⟨h1, h2⟩ := rowCols_at (colsOf l n) i h'
    have e0 : ((colsOf l n)[i]).name = (l[2 * i]'(by omega)).text := by
      simp only [colsOf, List.getElem_map, List.getElem_range]
      rw [getElem!_pos l (2 * i) (by omega)]
    have e1 : ((colsOf l n)[i]).kind = (l[2 * i + 1]'(by omega)).int := by
      simp only [colsOf, List.getElem_map, List.getElem_range]
      rw [getElem!_pos l (2 * i + 1) (by omega)]
    rw [e0] at h1
    rw [e1] at h2
    exact ⟨h1, h2⟩
  rw [badAt_iff]
  constructor
  · intro h
    apply List.ext_getElem?
    intro m
    by_cases hm : m < l.length
    · have hm2 : m % 2 = 0 ∨ m % 2 = 1 := by omega
      rcases hm2 with h2 | h2
      · obtain ⟨k, rfl⟩ : ∃ k, m = 2 * k := ⟨m / 2, by omega⟩
        rw [(hi k (by omega)).1, List.getElem?_eq_getElem hm]
        have := h (2 * k) hm
        unfold badAt at this
        rw [getElem!_pos l (2 * k) hm, show (2 * k) % [(2 : Int), 1].length = 0 by simp] at this
        exact congrArg some ((bad2_iff _).1 this).symm
      · obtain ⟨k, rfl⟩ : ∃ k, m = 2 * k + 1 := ⟨m / 2, by omega⟩
        rw [(hi k (by omega)).2, List.getElem?_eq_getElem hm]
        have := h (2 * k + 1) hm
        unfold badAt at this
        rw [getElem!_pos l (2 * k + 1) hm, show (2 * k + 1) % [(2 : Int), 1].length = 1 by simp] at this
        exact congrArg some ((bad1_iff _).1 this).symm
    · rw [List.getElem?_eq_none (by simp; omega), List.getElem?_eq_none (by omega)]
  · intro h
    rw [← h]
    exact (badAt_iff _ _).1 (kinds_cols _)
theorem keys_iff (l : List Val) : kindsOk l [2] = true ↔ (l.map Val.text).map txt = l := by
  rw [badAt_iff]
  constructor
  · intro h
    apply List.ext_getElem (by simp)
    intro m h1 h2
    have := h m h2
    unfold badAt at this
    rw [getElem!_pos l m h2, show m % [(2 : Int)].length = 0 by simp [Nat.mod_one]] at this
    simp only [List.getElem_map]
    exact ((bad2_iff _).1 this).symm
  · intro h
    rw [← h]
    exact (badAt_iff _ _).1 (kinds_keys _)

theorem colsOf_take (r : List Val) (n : Nat) (h : 2 * n ≤ r.length) : colsOf (r.take (2 * n)) n = colsOf r n := by
  unfold colsOf
  apply List.map_congr_left
  intro i hi
  simp at hi
  rw [getElem!_pos r (2 * i) (by omega), getElem!_pos r (2 * i + 1) (by omega), getElem!_pos (r.take (2 * n)) (2 * i) (by simp; omega), getElem!_pos (r.take (2 * n)) (2 * i + 1) (by simp; omega)]
  simp

theorem chk_kinds (t : Tab) (h : chk t = 0) : ∀ c ∈ t.cols, c.kind = 1 ∨ c.kind = 2 := by
  unfold chk at h
  split at h
  · cases h
  · split at h
    · cases h
    · split at h
      · cases h
      · rename_i h3
        intro c hc
        refine Classical.byContradiction fun hh => h3 ?_
        rw [List.any_eq_true]
        refine ⟨c, hc, ?_⟩
        simp only [not_or] at hh
        simp [badKind, hh.1, hh.2]

/-- the two readings answer the same -/
theorem read_ref (row : List Val) : readOf row = refOf row := by
  match row with
  | [] => rfl
  | [_] => rfl
  | [_, _] => rfl
  | [_, _, _] => rfl
  | a :: b :: c :: d :: r =>
    have hne : ∀ (t : Tab), ((noTab, 31) : Tab × Int) ≠ (t, 0) := by intro t h; injection h with _ h; cases h
    -- when is each right
    have hA : readOf (a :: b :: c :: d :: r) = (noTab, 31) ∨ (readOf (a :: b :: c :: d :: r) = (tabOf a b c d r, 0) ∧ headOff a b c d = false ∧ 2 * d.int.toNat ≤ r.length ∧ kindsOk (r.take (2 * d.int.toNat)) [2, 1] = true ∧ kindsOk (r.drop (2 * d.int.toNat)) [2] = true ∧ chk (tabOf a b c d r) = 0) := by
      unfold readOf
      simp only
      split
      · exact .inl rfl
      · rename_i h1
        split
        · exact .inl rfl
        · rename_i h2
          split
          · exact .inl rfl
          · rename_i h3
            simp only [not_or, Bool.not_eq_false] at h2
            exact .inr ⟨rfl, by simpa using h1, by omega, h2.2.1, h2.2.2, by simpa using h3⟩
    have hB : refOf (a :: b :: c :: d :: r) = (noTab, 31) ∨ (refOf (a :: b :: c :: d :: r) = (tabOf a b c d r, 0) ∧ ¬ (d.int < 0 ∨ 8 < d.int ∨ r.length < 2 * d.int.toNat) ∧ ¬ (a.int < 1 ∨ 16 < a.int) ∧ rowOf (tabOf a b c d r) = a :: b :: c :: d :: r ∧ chk (tabOf a b c d r) = 0) := by
      rw [refOf]
      split
      · exact .inl rfl
      · rename_i h1
        split
        · exact .inl rfl
        · rename_i h2
          split
          · exact .inl rfl
          · split
            · exact .inl rfl
            · rename_i h3
              split
              · exact .inl rfl
              · rename_i h4
                exact .inr ⟨rfl, h1, h2, by simpa using h3, by simpa using h4⟩
    have row_eq : rowOf (tabOf a b c d r) = num a.int :: txt b.text :: num (if (c.int == 1) then 1 else 0) :: num (d.int.toNat : Int) :: (rowCols (colsOf r d.int.toNat) ++ ((r.drop (2 * d.int.toNat)).map Val.text).map txt) := by
      simp [rowOf, rowHead, tabOf, keysOf]
    have parts : ∀ (_ : 2 * d.int.toNat ≤ r.length), (kindsOk (r.take (2 * d.int.toNat)) [2, 1] = true ∧ kindsOk (r.drop (2 * d.int.toNat)) [2] = true) ↔ rowCols (colsOf r d.int.toNat) ++ ((r.drop (2 * d.int.toNat)).map Val.text).map txt = r := by
      intro hle
      rw [cols_iff d.int.toNat _ (by simp; omega), colsOf_take r _ hle, keys_iff]
      constructor
      · rintro ⟨h1, h2⟩
        rw [h1, h2, List.take_append_drop]
      · intro h
        have h' : rowCols (colsOf r d.int.toNat) ++ ((r.drop (2 * d.int.toNat)).map Val.text).map txt = r.take (2 * d.int.toNat) ++ r.drop (2 * d.int.toNat) := by rw [h, List.take_append_drop]
        exact List.append_inj h' (by simp; omega)
    rcases hA with hA | ⟨hA, h1, h2, h3, h4, h5⟩
    · rcases hB with hB | ⟨hB, g1, g2, g3, g4⟩
      · rw [hA, hB]
      · exfalso
        rw [row_eq] at g3
        injection g3 with ga g3
        injection g3 with gb g3
        injection g3 with gc g3
        injection g3 with gd g3
        simp only [not_or] at g1 g2
        have hle : 2 * d.int.toNat ≤ r.length := by omega
        obtain ⟨k1, k2⟩ := (parts hle).2 g3
        have hc : c.int = 0 ∨ c.int = 1 := by
          rw [← gc]
          show (if (c.int == 1) = true then (1 : Int) else 0) = 0 ∨ (if (c.int == 1) = true then (1 : Int) else 0) = 1
          split
          · exact .inr rfl
          · exact .inl rfl
        have hh : kindsOk [a, b, c, d] [1, 2, 1, 1] = true := by
          rw [head_iff]
          refine ⟨ga.symm, gb.symm, ?_, ?_⟩
          · conv => lhs; rw [← gc]
            conv => rhs; rw [← gc]
            rfl
          · conv => lhs; rw [← gd]
            conv => rhs; rw [← gd]
            rfl
        have hoff : headOff a b c d = false := by
          rw [headOff_eq a b c d hh (by omega) (by omega)]
          simp only [Bool.or_eq_false_iff, decide_eq_false_iff_not]
          omega
        have : readOf (a :: b :: c :: d :: r) = (tabOf a b c d r, 0) := by
          unfold readOf
          simp only
          rw [hoff, if_neg (by simp), if_neg (by rw [k1, k2]; simp; omega), if_neg (by simp [g4])]
        rw [this] at hA
        exact hne _ hA.symm
    · unfold headOff at h1
      simp only [Bool.or_eq_false_iff, decide_eq_false_iff_not, Bool.not_eq_false'] at h1
      obtain ⟨⟨⟨⟨⟨⟨hh, i1⟩, i2⟩, i3⟩, i4⟩, i5⟩, i6⟩ := h1
      rw [head_iff] at hh
      obtain ⟨ha, hb, hc, hd⟩ := hh
      have hr := (parts h2).1 ⟨h3, h4⟩
      have hrow : rowOf (tabOf a b c d r) = a :: b :: c :: d :: r := by
        rw [row_eq, hr]
        have e1 : num (if (c.int == 1) = true then (1 : Int) else 0) = c := by
          conv => rhs; rw [hc]
          congr 1
          split
          · rename_i h; simp at h; exact h.symm
          · rename_i h; simp at h; omega
        have e2 : num (d.int.toNat : Int) = d := by
          conv => rhs; rw [hd]
          congr 1
          omega
        rw [e1, e2, ← ha, ← hb]
      have hoffs : ¬ ∃ i, i < d.int.toNat ∧ offC r i = true := by
        rintro ⟨i, hi, ho⟩
        have hk := chk_kinds _ h5 ⟨(r[2 * i]!).text, (r[2 * i + 1]!).int⟩ (by
          simp only [tabOf, colsOf, List.mem_map, List.mem_range]
          exact ⟨i, hi, rfl⟩)
        unfold offC at ho
        simp only [Bool.or_eq_true, decide_eq_true_eq] at ho
        simp only at hk
        omega
      rw [hA, refOf, if_neg (by omega), if_neg (by omega), if_neg hoffs, if_neg (by simp [hrow]), if_neg (by simp [h5])]
end Go.Proofs.Ytgodbpamppcfnaa
