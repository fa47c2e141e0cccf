/- Contracts of functions of the seat, proved in a logic on data over the model (part Q9). -/
import Derived.Test.YtkfiiomdkljjnaaQL
set_option linter.unusedSimpArgs false
set_option linter.unusedVariables false
namespace Go.Proofs.Ytkfiiomdkljjnaa
open Go.VL Go.RowKit

theorem Canon.canonK {l : List Per} (h : Canon l) : canonK l l.length = true := by
  unfold Go.Proofs.Ytkfiiomdkljjnaa.canonK
  rw [List.all_eq_true]
  intro i hi
  rw [List.mem_range] at hi
  rw [getElem!_pos l i hi, h.ok _ (List.getElem_mem hi), Bool.true_and]
  cases i with
  | zero => rfl
  | succ j =>
    rw [show j + 1 - 1 = j from rfl, getElem!_pos l j (by omega)]
    have := List.pairwise_iff_getElem.1 h.apart j (j + 1) (by omega) hi (by omega)
    simp [this]

theorem unionL_len {sortP : List Per → List Per} (hs : Sorts sortP) (l : List Per) : (unionL sortP l).length ≤ l.length := by
  have h1 := hs.len (l.filter right)
  have h2 := sumP_len (sortP (l.filter right)) (sortP (l.filter right)).length (Nat.le_refl _)
  rw [List.take_length] at h2
  have h3 := List.length_filter_le right l
  unfold unionL
  omega
theorem minusL_len {sortP : List Per → List Per} (hs : Sorts sortP) (a : Per) (l : List Per) : (minusL sortP a l).length ≤ l.length + 1 := by
  have h1 := unionL_len hs l
  unfold minusL
  split
  · unfold minusP
    have e := takeWhile_split (fun p : Per => decide (p.f < a.t)) (unionL sortP l)
    obtain ⟨k, hk, e1, _⟩ := e
    rw [e1]
    have := subK_len a (unionL sortP l) k hk
    simp only
    split
    · simp; omega
    · omega
  · simp
theorem someP_snoc (l : List Per) (t : Int) {k : Nat} (h : k < l.length) : someP (l.take (k + 1)) t = (someP (l.take k) t || (right l[k] && has l[k] t)) := by
  unfold someP; rw [any_snoc _ h]

end Go.Proofs.Ytkfiiomdkljjnaa
