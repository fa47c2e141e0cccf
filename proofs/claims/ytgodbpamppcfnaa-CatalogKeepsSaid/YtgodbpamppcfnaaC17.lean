/- Contracts of functions of the seat, proved in a logic on data over the model (part C17). -/
import Derived.Test.YtgodbpamppcfnaaC7
import Derived.Test.YtgodbpamppcfnaaC6
set_option linter.unusedSimpArgs false
set_option linter.unusedVariables false
namespace Go.Proofs.Ytgodbpamppcfnaa
open Go.VL Go.RowKit

theorem rowCols_at : ∀ (l : List Col) (i : Nat), (hi : i < l.length) → (rowCols l)[2 * i]? = some (txt l[i].name) ∧ (rowCols l)[2 * i + 1]? = some (num l[i].kind)
  | c :: l, 0, _ => ⟨rfl, rfl⟩
  | c :: l, i + 1, hi => by
    have := rowCols_at l i (by simpa using hi)
    have e : rowCols (c :: l) = txt c.name :: num c.kind :: rowCols l := rfl
    rw [e, show 2 * (i + 1) = 2 * i + 1 + 1 by omega]
    simpa using this

theorem badAt_iff (l : List Val) (ws : List Int) : kindsOk l ws = true ↔ ∀ i, i < l.length → badAt l ws i = false := by simp [kindsOk]
theorem bad_txt (s : List UInt8) : badVal (txt s) 2 = false := by simp [badVal, txt]
theorem bad_num (n : Int) : badVal (num n) 1 = false := by simp [badVal, num]

theorem kinds_cols (l : List Col) : kindsOk (rowCols l) [2, 1] = true := by
  rw [badAt_iff]
  intro i hi
  rw [rowCols_len] at hi
  unfold badAt
  have h2 : i % 2 = 0 ∨ i % 2 = 1 := by omega
  rcases h2 with h | h
  · obtain ⟨k, rfl⟩ : ∃ k, i = 2 * k := ⟨i / 2, by omega⟩
    have := (rowCols_at l k (by omega)).1
    rw [getElem!_def, this]
    have e : (2 * k) % [(2 : Int), 1].length = 0 := by simp
    rw [e]
    exact bad_txt _
  · obtain ⟨k, rfl⟩ : ∃ k, i = 2 * k + 1 := ⟨i / 2, by omega⟩
    have := (rowCols_at l k (by omega)).2
    rw [getElem!_def, this]
    have e : (2 * k + 1) % [(2 : Int), 1].length = 1 := by simp
    rw [e]
    exact bad_num _
theorem kinds_keys (l : List (List UInt8)) : kindsOk (l.map txt) [2] = true := by
  rw [badAt_iff]
  intro i hi
  unfold badAt
  simp at hi
  have e : i % [(2 : Int)].length = 0 := by simp [Nat.mod_one]
  rw [e, getElem!_def, List.getElem?_map, List.getElem?_eq_getElem hi]
  exact bad_txt _

theorem kinds_head (t : Tab) : kindsOk (rowHead t) [1, 2, 1, 1] = true := by
  rw [badAt_iff]
  intro i hi
  simp at hi
  match i, hi with
  | 0, _ => exact bad_num _
  | 1, _ => exact bad_txt _
  | 2, _ => exact bad_num _
  | 3, _ => exact bad_num _

theorem headOff_eq (a b c d : Val) (hk : kindsOk [a, b, c, d] [1, 2, 1, 1] = true) (hc : ¬ c.int < 0 ∧ ¬ 1 < c.int) (hd : ¬ d.int < 0) : headOff a b c d = (decide (a.int < 1) || decide (16 < a.int) || decide (8 < d.int)) := by
  unfold headOff
  rw [hk]
  simp [hc, hd]
theorem num_int (n : Int) : (num n).int = n := rfl
/-- what is read of a table's row -/
theorem read_row (t : Tab) : readOf (rowOf t) = if chk t ≠ 0 ∨ t.id < 1 ∨ 16 < t.id then (noTab, 31) else (⟨t.id, t.name, t.cols.length == 0, t.cols, t.keys.isEmpty, t.keys, t.ix⟩, 0) := by
  have hk := kinds_head t
  have e1 : rowOf t = num t.id :: txt t.name :: num (if t.ix then 1 else 0) :: num t.cols.length :: (rowCols t.cols ++ t.keys.map txt) := rfl
  rw [e1]
  unfold readOf
  have hix : ∀ b : Bool, ¬ ((if b then (1 : Int) else 0) < 0) ∧ ¬ (1 < (if b then (1 : Int) else 0)) := by intro b; cases b <;> simp
  have hoff : headOff (num t.id) (txt t.name) (num (if t.ix then 1 else 0)) (num t.cols.length) = (decide (t.id < 1) || decide (16 < t.id) || decide (8 < t.cols.length)) := by
    have h2 : decide (8 < (t.cols.length : Int)) = decide (8 < t.cols.length) := decide_eq_decide.2 (by omega)
    refine (headOff_eq _ _ _ _ hk (hix t.ix) (by show ¬ ((t.cols.length : Int) < 0); omega)).trans ?_
    show (decide (t.id < 1) || decide (16 < t.id) || decide (8 < (t.cols.length : Int))) = _
    rw [h2]
  simp only [hoff]
  have hn : (num t.cols.length).int.toNat = t.cols.length := by simp [num]
  have ht : (rowCols t.cols ++ t.keys.map txt).take (2 * t.cols.length) = rowCols t.cols := by
    rw [← rowCols_len]; exact List.take_left
  have hd : (rowCols t.cols ++ t.keys.map txt).drop (2 * t.cols.length) = t.keys.map txt := by
    rw [← rowCols_len]; exact List.drop_left
  rw [hn, ht, hd, kinds_cols, kinds_keys]
  have hl : ¬ ((rowCols t.cols ++ t.keys.map txt).length < 2 * t.cols.length) := by simp
  have hcols : colsOf (rowCols t.cols ++ t.keys.map txt) t.cols.length = t.cols := by
    apply List.ext_getElem (by simp)
    intro i h1 h2
    have h3 := rowCols_at t.cols i h2
    simp only [colsOf, List.getElem_map, List.getElem_range]
    have p0 : 2 * i < (rowCols t.cols).length := by rw [rowCols_len]; omega
    have p1 : 2 * i + 1 < (rowCols t.cols).length := by rw [rowCols_len]; omega
    rw [getElem!_def, getElem!_def, List.getElem?_append_left p0, List.getElem?_append_left p1, h3.1, h3.2]
    rfl
  have htab : tabOf (num t.id) (txt t.name) (num (if t.ix then 1 else 0)) (num t.cols.length) (rowCols t.cols ++ t.keys.map txt) = ⟨t.id, t.name, t.cols.length == 0, t.cols, t.keys.isEmpty, t.keys, t.ix⟩ := by
    unfold tabOf keysOf
    rw [hn, hd, hcols]
    have e3 : (t.keys.map txt).map Val.text = t.keys := by
      rw [List.map_map]; exact List.map_id'' (fun _ => rfl) _
    rw [e3]
    congr 1
    · rw [Bool.eq_iff_iff, beq_iff_eq, beq_iff_eq]; show (t.cols.length : Int) = 0 ↔ _; omega
    · simp
    · cases t.ix <;> rfl
  rw [htab]
  have hchk : chk ⟨t.id, t.name, t.cols.length == 0, t.cols, t.keys.isEmpty, t.keys, t.ix⟩ = chk t := rfl
  rw [hchk]
  have h8 : 8 < t.cols.length → chk t ≠ 0 := by
    intro h
    unfold chk
    split
    · decide
    · rw [if_pos (.inr h)]; decide
  by_cases hc : chk t = 0
  · have : ¬ 8 < t.cols.length := fun h => h8 h hc
    by_cases h1 : t.id < 1 <;> by_cases h2 : 16 < t.id <;> simp [hc, this, h1, h2]
  · by_cases h3 : (decide (t.id < 1) || decide (16 < t.id) || decide (8 < t.cols.length)) = true
    · simp [h3, hc]
    · simp only [h3]; simp [hc]
end Go.Proofs.Ytgodbpamppcfnaa
