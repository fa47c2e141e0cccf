/- The document's committed, mark, least. -/
import Derived.Test.YtddhmoffjpnbgaaT14
set_option linter.unusedSimpArgs false
set_option linter.unusedVariables false
namespace Go.Proofs.Ytddhmoffjpnbgaa
open Go.VL Go.RowKit

set_option maxRecDepth 4000 in
set_option maxHeartbeats 8000000 in
theorem committed_spec (nl : Bool) (l : List Ent) (n : Nat) (t : Int) (hn : n ≤ l.length) (hl : l.length ≤ 2200000000000) : Con Try.prog 21 [.c (.sl nl (l.map Ent.rcells)), .c (i64 n), .c (i64 t)] [.c (bln (com (l.take n) t))] := by
  refine spec_of Try.func21 rfl (by kernel_rfl) (by simp [Try.f21]) (fun w0 K0 => vc_ok _ _ _ (by kernel_rfl) ?_)
  simp only [Try.f21]
  simp -dsimp
  refine VL.loop (fun k : Nat => ⟨[(7, .c (i64 k)), (0, .c (.sl nl (l.map Ent.rcells))), (1, .c (i64 n)), (2, .c (i64 t))], []⟩)
    (fun k => k ≤ n ∧ com (l.take k) t = false) (fun k => n - k) 0 (by kernel_rfl) (by simp [com]) (by simp [St.le]) ?_
  intro k ⟨hk, hc⟩
  simp -dsimp
  refine VIf.mk (fun g => ?_) (fun g => ?_)
  · have hlt : k < n := by simpa using g
    have hll : k < l.length := by omega
    have hw : IntKind.i64.wrap ((k : Int) + 1) = (k : Int) + 1 := IntWalk.i64_in _ (by omega)
    have hcs := com_snoc l t hll
    rw [hc] at hcs
    have hb : com (l.take (k + 1)) t = true → com (l.take n) t = true := fun h => by
      unfold com at h ⊢
      rw [List.any_eq_true] at h ⊢
      obtain ⟨x, hx, e⟩ := h
      have : l.take (k + 1) = (l.take n).take (k + 1) := by rw [List.take_take]; congr 1; omega
      rw [this] at hx
      exact ⟨x, List.mem_of_mem_take hx, e⟩
    by_cases h3 : l[k].kind = 3
    · by_cases h4 : l[k].txn = t
      · have hd := hb (by rw [hcs]; simp [h3, h4])
        simp -dsimp [hll, Ent.rcells, h3, h4, hd]
      · have h4' : (l[k].txn == t) = false := by simp [h4]
        simp -dsimp [hll, Ent.rcells, h3, h4', hw]
        exact ⟨k + 1, ⟨hlt, by rw [hcs]; simp [h4]⟩, by simp [St.le], by omega⟩
    · have h3' : (l[k].kind == 3) = false := by simp [h3]
      simp -dsimp [hll, Ent.rcells, h3', hw]
      exact ⟨k + 1, ⟨hlt, by rw [hcs]; simp [h3]⟩, by simp [St.le], by omega⟩
  · have hge : ¬ k < n := by simpa using g
    obtain rfl : k = n := by omega
    simp -dsimp [hc]

set_option maxRecDepth 4000 in
set_option maxHeartbeats 8000000 in
theorem mark_spec (nm : Bool) (ms : List Int) (k : Nat) : Con Try.prog 23 [.c (.sl nm (ints ms)), .c (i64 k)] [.c (i64 (markOf ms k))] := by
  refine spec_of Try.func23 rfl (by kernel_rfl) (by simp [Try.f23]) (fun w0 K0 => vc_ok _ _ _ (by kernel_rfl) ?_)
  simp only [Try.f23]
  simp -dsimp
  refine VIf.mk (fun g => ?_) (fun g => ?_)
  · have hlt : k < ms.length := by simpa using g
    have hm := markOf_lt ms k hlt
    simp -dsimp [hlt, hm]
  · have hlt : ¬ k < ms.length := by simpa using g
    have hm := markOf_ge ms k hlt
    simp -dsimp [hm]

def lstep (ab : Int) (fr : Bool) (s : Int × Bool) (x : Int) : Int × Bool := if (fr = false ∨ ab < x) ∧ (s.2 = false ∨ x < s.1) then (x, true) else s
def leastL (c : List Int) (ab : Int) (fr : Bool) : Int × Bool := c.foldl (lstep ab fr) (0, false)
theorem least_snoc (c : List Int) (ab : Int) (fr : Bool) {k : Nat} (h : k < c.length) : leastL (c.take (k + 1)) ab fr = lstep ab fr (leastL (c.take k) ab fr) c[k] := by
  unfold leastL; rw [List.take_succ_eq_append_getElem h, List.foldl_append]; rfl

set_option maxRecDepth 4000 in
set_option maxHeartbeats 8000000 in
theorem least_spec (nl : Bool) (c : List Int) (ab : Int) (fr : Bool) (hl : c.length ≤ 2200000000000) : Con Try.prog 22 [.c (.sl nl (ints c)), .c (i64 ab), .c (bln fr)] [.c (i64 (leastL c ab fr).1), .c (bln (leastL c ab fr).2)] := by
  refine spec_of Try.func22 rfl (by kernel_rfl) (by simp [Try.f22]) (fun w0 K0 => vc_ok _ _ _ (by kernel_rfl) ?_)
  simp only [Try.f22]
  simp -dsimp
  refine VL.loop (fun k : Nat => ⟨[(10, .c (i64 k)), (8, .c (i64 (leastL (c.take k) ab fr).1)), (9, .c (bln (leastL (c.take k) ab fr).2)), (0, .c (.sl nl (ints c))), (1, .c (i64 ab)), (2, .c (bln fr))], []⟩)
    (fun k => k ≤ c.length) (fun k => c.length - k) 0 (by kernel_rfl) (by simp) (by simp [St.le, leastL]) ?_
  intro k hk
  have hsn := fun h : k < c.length => least_snoc c ab fr h
  generalize hs : leastL (c.take k) ab fr = s at *
  obtain ⟨best, found⟩ := s
  simp -dsimp
  refine VIf.mk (fun g => ?_) (fun g => ?_)
  · have hlt : k < c.length := by simpa using g
    have hw : IntKind.i64.wrap ((k : Int) + 1) = (k : Int) + 1 := IntWalk.i64_in _ (by omega)
    replace hsn := hsn hlt
    have fin : ∀ st : St, st.le ⟨[(10, .c (i64 ((k + 1 : Nat) : Int))), (8, .c (i64 (lstep ab fr (best, found) c[k]).1)), (9, .c (bln (lstep ab fr (best, found) c[k]).2)), (0, .c (.sl nl (ints c))), (1, .c (i64 ab)), (2, .c (bln fr))], []⟩ → ∃ j, j ≤ c.length ∧ st.le ⟨[(10, .c (i64 j)), (8, .c (i64 (leastL (c.take j) ab fr).1)), (9, .c (bln (leastL (c.take j) ab fr).2)), (0, .c (.sl nl (ints c))), (1, .c (i64 ab)), (2, .c (bln fr))], []⟩ ∧ c.length - j < c.length - k :=
      fun st hst => ⟨k + 1, hlt, by rw [hsn]; exact hst, by omega⟩
    cases fr with
    | false =>
      cases found with
      | false =>
        simp -dsimp [hlt, hw]
        exact fin _ (by simp [St.le, lstep])
      | true =>
        by_cases h2 : c[k] < best
        · simp -dsimp [hlt, hw, h2]
          exact fin _ (by simp [St.le, lstep, h2])
        · simp -dsimp [hlt, hw, h2]
          exact fin _ (by simp [St.le, lstep, h2])
    | true =>
      by_cases h1 : ab < c[k]
      · cases found with
        | false =>
          simp -dsimp [hlt, hw, h1]
          exact fin _ (by simp [St.le, lstep, h1])
        | true =>
          by_cases h2 : c[k] < best
          · simp -dsimp [hlt, hw, h1, h2]
            exact fin _ (by simp [St.le, lstep, h1, h2])
          · simp -dsimp [hlt, hw, h1, h2]
            exact fin _ (by simp [St.le, lstep, h1, h2])
      · simp -dsimp [hlt, hw, h1]
        exact fin _ (by simp [St.le, lstep, h1])
  · have hge : ¬ k < c.length := by simpa using g
    obtain rfl : k = c.length := by omega
    rw [List.take_length] at hs
    simp -dsimp [hs]
end Go.Proofs.Ytddhmoffjpnbgaa
