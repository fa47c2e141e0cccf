/- The same rows; the rows of an instant are in order, each as often as it is told. -/
import Derived.Test.YtkfiiomdkljjnaaGreatBB
import Derived.Test.YtkfiiomdkljjnaaGreatEA
set_option linter.unusedSimpArgs false
set_option linter.unusedVariables false
namespace Go.Proofs.YtkfiiomdkljjnaaGreat
open Go.VL Go.RowKit

theorem snds_step {xs ys : List (Bool × List Val)} {k : Nat} (h : k < xs.length) (h' : k < ys.length) (e : (xs.take k).map Prod.snd = (ys.take k).map Prod.snd) (e' : xs[k].2 = ys[k].2) : (xs.take (k + 1)).map Prod.snd = (ys.take (k + 1)).map Prod.snd := by
  rw [take_snoc h, take_snoc h', List.map_append, List.map_append, e]
  simp [e']
def flE (rs : List (List Val)) : List (Bool × List Val) := rs.map fun r => (r.isEmpty, r)
def flC (rs : List (List Val)) : List (Bool × List Val) := rs.map fun r => (false, r)
@[simp] theorem flE_snd (rs : List (List Val)) : (flE rs).map Prod.snd = rs := by unfold flE; rw [List.map_map]; exact List.map_id' rs
@[simp] theorem flC_snd (rs : List (List Val)) : (flC rs).map Prod.snd = rs := by unfold flC; rw [List.map_map]; exact List.map_id' rs
theorem flE_rows (rs : List (List Val)) : (flE rs).map rowV = rowsE rs := by unfold flE rowsE; rw [List.map_map]; rfl
theorem flC_rows (rs : List (List Val)) : (flC rs).map rowV = rowsC rs := by unfold flC rowsC; rw [List.map_map]; rfl

/-! ### Rows in order -/
abbrev RUp (rs : List (List Val)) : Prop := rs.Pairwise fun a b => cmpR a b ≤ 0
theorem slice_up (l : List Fact) (t : Int) : RUp (sliceL l t) := by
  unfold sliceL validR
  refine List.pairwise_map.2 ?_
  exact (sortF_up _).sublist List.filter_sublist
theorem slice_count (l : List Fact) (t : Int) (r : List Val) : (sliceL l t).count r = cnt l r t := by
  rw [← rightL_cnt]
  unfold sliceL validR cnt
  rw [List.count_eq_countP, List.countP_map, List.countP_eq_length_filter, List.filter_filter]
  congr 1
  refine List.filter_congr fun f hf => ?_
  obtain ⟨g, _, h1, rfl⟩ := rightL_mem.1 hf
  have h2 : right (norm g).p = true := h1
  simp only [Function.comp, validAt, h2, Bool.true_and]
  rw [Bool.eq_iff_iff]
  simp [and_comm]
theorem RUp.ext {a b : List (List Val)} (ha : RUp a) (hb : RUp b) (h : ∀ r, a.count r = b.count r) : a = b := by
  refine uniq_sorted (List.perm_iff_count.2 h) ha hb fun x _ y _ h1 h2 => ?_
  have := Cmp.row.anti x y
  exact (cmpR_0 x y).1 (by omega)
theorem slice_eq (a b : List Fact) (t : Int) : sliceL a t = sliceL b t ↔ ∀ r, cnt a r t = cnt b r t := by
  constructor
  · intro e r; rw [← slice_count, e, slice_count]
  · intro e; exact (slice_up a t).ext (slice_up b t) fun r => by rw [slice_count, slice_count, e]
theorem slice_len (l : List Fact) (t : Int) : (sliceL l t).length ≤ l.length := Nat.le_trans (validR_len _ t) (rightL_len l)
theorem slice_row {l : List Fact} {t : Int} {r : List Val} (h : r ∈ sliceL l t) : ∃ f ∈ l, f.row = r := by
  obtain ⟨f, hf, rfl⟩ := List.mem_map.1 h
  obtain ⟨g, hg, _, rfl⟩ := rightL_mem.1 (List.mem_filter.1 hf).1
  exact ⟨g, hg, rfl⟩

end Go.Proofs.YtkfiiomdkljjnaaGreat
