/- Contracts: rows in order with one more; each row of one list with each of another; rows without as many as another list has. -/
import Derived.Test.YtmkbclnhopoiiaaGreatBQA
import Derived.Test.YtmkbclnhopoiiaaGreatBPA
import Derived.Test.YtmkbclnhopoiiaaGreatBVA
set_option linter.unusedSimpArgs false
set_option linter.unusedVariables false
namespace Go.Proofs.YtmkbclnhopoiiaaGreat
open Go.VL Go.RowKit

def rowW (fl : List Val → Bool) (r : List Val) : List C := [.sl (fl r) (vals r)]
@[simp] theorem rowW_len (fl : List Val → Bool) (r : List Val) : (rowW fl r).length = 1 := rfl
def rowsW (fl : List Val → Bool) (rs : List (List Val)) : List (List C) := rs.map (rowW fl)
@[simp] theorem rowsW_len (fl : List Val → Bool) (rs : List (List Val)) : (rowsW fl rs).length = rs.length := by simp [rowsW]
@[simp] theorem rowsW_get (fl : List Val → Bool) (rs : List (List Val)) (k : Nat) (h : k < (rowsW fl rs).length) : (rowsW fl rs)[k] = [.sl (fl (rs[k]'(by simpa using h))) (vals (rs[k]'(by simpa using h)))] := by simp [rowsW, rowW]
theorem rowsW_snoc (fl : List Val → Bool) (rs : List (List Val)) (r : List Val) : rowsW fl (rs ++ [r]) = rowsW fl rs ++ [[.sl (fl r) (vals r)]] := by simp [rowsW, rowW]

end Go.Proofs.YtmkbclnhopoiiaaGreat
/- Contract: each row of one list with each of another. -/
set_option linter.unusedSimpArgs false
set_option linter.unusedVariables false
namespace Go.Proofs.YtmkbclnhopoiiaaGreat
open Go.VL Go.RowKit

def pairX (x : List Val) (B : List (List Val)) : List (List Val) := B.map fun y => x ++ y
theorem pairX_snoc (x : List Val) (B : List (List Val)) {k : Nat} (h : k < B.length) : pairX x (B.take (k + 1)) = pairX x (B.take k) ++ [x ++ B[k]] := by
  unfold pairX; rw [take_snoc h, List.map_append]; rfl
theorem pairs_snoc (A B : List (List Val)) {k : Nat} (h : k < A.length) : pairsL (A.take (k + 1)) B = pairsL (A.take k) B ++ pairX A[k] B := by
  unfold pairsL pairX; rw [take_snoc h, List.flatMap_append]; simp
theorem pairs_len (B : List (List Val)) : ∀ (A : List (List Val)), (pairsL A B).length = A.length * B.length
  | [] => by simp [pairsL]
  | x :: A => by
    have := pairs_len B A
    unfold pairsL at *
    rw [List.flatMap_cons, List.length_append, this, List.length_map, List.length_cons, Nat.add_mul]; omega

set_option maxRecDepth 4000 in
set_option maxHeartbeats 16000000 in
theorem pairs_spec0 (fa fb : List Val → Bool) (na nb : Bool) (A B : List (List Val)) (la : A.length ≤ 4000000000000) (lb : B.length ≤ 4000000000000) (hl : A.length * B.length ≤ 4000000000000) (hr : ∀ x ∈ A, ∀ y ∈ B, x.length + y.length ≤ 4398046511104) :
    Con Tryz.prog 53 [.c (.sl na (rowsW fa A)), .c (.sl nb (rowsW fb B))] [.fr (pairsL A B).isEmpty (if (pairsL A B).isEmpty then 0 else 1) (rowsC (pairsL A B)) 0] := by
  refine spec_of Tryz.func53 rfl (by kernel_rfl) (by simp [Tryz.f53]) (fun w0 K0 => vc_ok _ _ _ (by kernel_rfl) ?_)
  simp only [Tryz.f53]
  simp -dsimp
  refine VL.loop (fun i : KI => ⟨[(6, .c (i64 i.k)), (5, .own 320 (pairsL (A.take i.k) B).length), (0, .c (.sl na (rowsW fa A))), (1, .c (.sl nb (rowsW fb B)))], [(320, some (.arr i.nl i.sz (rowsC (pairsL (A.take i.k) B)) 0))]⟩)
    (fun i => i.k ≤ A.length ∧ RI i (pairsL (A.take i.k) B)) (fun i => A.length - i.k) ⟨0, true, 0⟩ (by kernel_rfl) ⟨by simp, rfl, rfl⟩ (by simp [St.le, pairsL, rowsC]) ?_
  intro ⟨k, z, sz⟩ ⟨hk, hz, hsz⟩
  simp only at hk hz hsz
  by_cases h1 : k < A.length
  · have hw : IntKind.i64.wrap ((k : Int) + 1) = (k : Int) + 1 := IntWalk.i64_in _ (by omega)
    have hsn := pairs_snoc A B h1
    have hpl := pairs_len B (A.take k)
    rw [List.length_take, Nat.min_eq_left hk] at hpl
    have hmul : k * B.length + B.length ≤ A.length * B.length := by
      have := Nat.mul_le_mul_right B.length (show k + 1 ≤ A.length from h1)
      rw [Nat.add_mul] at this; omega
    have hrx := hr A[k] (List.getElem_mem h1)
    simp -dsimp [h1]
    generalize hP : pairsL (A.take k) B = P at *
    refine VL.loop (fun j : KI => ⟨[(7, .c (i64 j.k)), (6, .c (i64 k)), (5, .own 320 (P ++ pairX A[k] (B.take j.k)).length), (0, .c (.sl na (rowsW fa A))), (1, .c (.sl nb (rowsW fb B)))], [(320, some (.arr j.nl j.sz (rowsC (P ++ pairX A[k] (B.take j.k))) 0))]⟩)
      (fun j => j.k ≤ B.length ∧ RI j (P ++ pairX A[k] (B.take j.k))) (fun j => B.length - j.k) ⟨0, z, sz⟩ (by kernel_rfl) ⟨by simp, by simpa [RI, pairX] using ⟨hz, hsz⟩⟩ (by simp [St.le, pairX]) ?_
    intro ⟨j, y, sy⟩ ⟨hj, hy, hsy⟩
    simp only at hj hy hsy
    by_cases j1 : j < B.length
    · have hwj : IntKind.i64.wrap ((j : Int) + 1) = (j : Int) + 1 := IntWalk.i64_in _ (by omega)
      have hsj := pairX_snoc A[k] B j1
      have hrb := hrx _ (List.getElem_mem j1)
      have hlx : (pairX A[k] (B.take j)).length = j := by unfold pairX; rw [List.length_map, List.length_take]; omega
      simp -dsimp [j1, h1]
      refine VC.mk _ (copy_spec _ A[k] (by omega)) ?_
      simp -dsimp [j1, h1]
      refine ⟨by omega, by decide, fun e => by rw [hsy, e]; rfl, by omega, ⟨j + 1, false, 1⟩, ⟨by simp only; omega, by rw [hsj, ← List.append_assoc]; exact RI.next⟩, ?_, by simp only; omega⟩
      simp only [hsj, ← List.append_assoc, rowsC_snoc]
      simp [St.le, hwj]
      omega
    · obtain rfl : j = B.length := by omega
      rw [List.take_length, ← hsn] at *
      simp -dsimp [hw]
      refine ⟨⟨k + 1, y, sy⟩, ⟨by simp only; omega, hy, hsy⟩, ?_, by simp only; omega⟩
      simp [St.le]
  · obtain rfl : k = A.length := by omega
    rw [List.take_length] at *
    simp -dsimp
    exact ⟨hz, by rw [hsz, hz]; simp⟩
theorem pairs_spec (fa fb : List Val → Bool) (na nb : Bool) (A B : List (List Val)) (la : A.length ≤ 4000000000000) (lb : B.length ≤ 4000000000000) (hl : A.length * B.length ≤ 4000000000000) (hr : ∀ x ∈ A, ∀ y ∈ B, x.length + y.length ≤ 4398046511104) :
    Con Tryz.prog 53 [.c (.sl na (rowsW fa A)), .c (.sl nb (rowsW fb B))] [.c (.sl (pairsL A B).isEmpty (rowsC (pairsL A B)))] := (pairs_spec0 fa fb na nb A B la lb hl hr).frz 0 rfl

/-! ### Less -/
def lastI (T : List Bool) (B : List (List Val)) (x : List Val) : Nat → Int
  | 0 => -1
  | n + 1 => if (!T[n]! && decide (x = B[n]!)) = true then n else lastI T B x n
def stepI (B : List (List Val)) (s : List Bool × List (List Val)) (x : List Val) : List Bool × List (List Val) :=
  if 0 ≤ lastI s.1 B x B.length then (s.1.set (lastI s.1 B x B.length).toNat true, s.2) else (s.1, s.2 ++ [x])
def lessS (A B : List (List Val)) : List Bool × List (List Val) := A.foldl (stepI B) (List.replicate B.length false, [])
def lessL (A B : List (List Val)) : List (List Val) := (lessS A B).2
theorem lessS_snoc (A B : List (List Val)) {k : Nat} (h : k < A.length) : lessS (A.take (k + 1)) B = stepI B (lessS (A.take k) B) A[k] := by
  unfold lessS; rw [take_snoc h, List.foldl_append]; rfl
theorem lastI_lt (T : List Bool) (B : List (List Val)) (x : List Val) : ∀ n, lastI T B x n < n ∧ -1 ≤ lastI T B x n
  | 0 => by simp [lastI]
  | n + 1 => by
    have := lastI_lt T B x n
    rw [lastI]
    split <;> omega
theorem lessS_len (A B : List (List Val)) : (lessS A B).1.length = B.length ∧ (lessS A B).2.length ≤ A.length := by
  refine rev_ind (p := fun A => (lessS A B).1.length = B.length ∧ (lessS A B).2.length ≤ A.length) ?_ ?_ A
  · simp [lessS]
  · intro A x ih
    have e : lessS (A ++ [x]) B = stepI B (lessS A B) x := by unfold lessS; rw [List.foldl_append]; rfl
    rw [e]
    unfold stepI
    split
    · simp only [List.length_set, List.length_append, List.length_singleton]; omega
    · simp only [List.length_append, List.length_singleton]; omega
def boolsC (T : List Bool) : List (List C) := T.map fun b => [bln b]
@[simp] theorem boolsC_len (T : List Bool) : (boolsC T).length = T.length := by simp [boolsC]
@[simp] theorem boolsC_get (T : List Bool) (k : Nat) (h : k < (boolsC T).length) : (boolsC T)[k] = [bln (T[k]'(by simpa using h))] := by simp [boolsC]

set_option maxRecDepth 4000 in
set_option maxHeartbeats 16000000 in
theorem less_spec0 (fa fb : List Val → Bool) (na nb : Bool) (A B : List (List Val)) (la : A.length ≤ 4000000000000) (lb : B.length ≤ 4000000000000) (hr : ∀ x ∈ A, x.length ≤ 140737488355328) :
    Con Tryz.prog 51 [.c (.sl na (rowsW fa A)), .c (.sl nb (rowsW fb B))] [.fr (lessL A B).isEmpty (if (lessL A B).isEmpty then 0 else 1) (rowsW fa (lessL A B)) 0] := by
  refine spec_of Tryz.func51 rfl (by kernel_rfl) (by simp [Tryz.f51]) (fun w0 K0 => vc_ok _ _ _ (by kernel_rfl) ?_)
  simp only [Tryz.f51]
  simp -dsimp
  refine ⟨by omega, ?_⟩
  refine VL.loop (fun i : KI => ⟨[(7, .c (i64 i.k)), (5, .own 768 B.length), (6, .own 384 (lessS (A.take i.k) B).2.length), (0, .c (.sl na (rowsW fa A))), (1, .c (.sl nb (rowsW fb B)))],
      [(768, some (.arr false 1 (boolsC (lessS (A.take i.k) B).1) 0)), (384, some (.arr i.nl i.sz (rowsW fa (lessS (A.take i.k) B).2) 0))]⟩)
    (fun i => i.k ≤ A.length ∧ RI i (lessS (A.take i.k) B).2) (fun i => A.length - i.k) ⟨0, true, 0⟩ (by kernel_rfl) ⟨by simp, rfl, rfl⟩ (by simp [St.le, lessS, rowsW, boolsC]) ?_
  intro ⟨k, z, sz⟩ ⟨hk, hz, hsz⟩
  simp only at hk hz hsz
  have hll := lessS_len (A.take k) B
  rw [List.length_take, Nat.min_eq_left hk] at hll
  by_cases h1 : k < A.length
  · have hw : IntKind.i64.wrap ((k : Int) + 1) = (k : Int) + 1 := IntWalk.i64_in _ (by omega)
    have hsn := lessS_snoc A B h1
    have hrx := hr A[k] (List.getElem_mem h1)
    simp -dsimp [h1]
    generalize lessS (A.take k) B = s at *
    obtain ⟨T, O⟩ := s
    simp only at hll hz hsz hsn ⊢
    refine VL.loop (fun j : Nat => ⟨[(9, .c (i64 j)), (8, .c (i64 (lastI T B A[k] j))), (7, .c (i64 k)), (5, .own 768 B.length), (6, .own 384 O.length), (0, .c (.sl na (rowsW fa A))), (1, .c (.sl nb (rowsW fb B)))],
        [(768, some (.arr false 1 (boolsC T) 0)), (384, some (.arr z sz (rowsW fa O) 0))]⟩)
      (fun j => j ≤ B.length) (fun j => B.length - j) 0 (by kernel_rfl) (by simp) (by simp [St.le, lastI]) ?_
    intro j hj
    by_cases j1 : j < B.length
    · have hwj : IntKind.i64.wrap ((j : Int) + 1) = (j : Int) + 1 := IntWalk.i64_in _ (by omega)
      have jT : j < T.length := by omega
      simp -dsimp [j1]
      refine VL.draw (by kernel_rfl) [(0, false), (0, false), (3, true), (7, true), (15, true), (31, true), (63, false), (63, false), (255, false), (511, false), (63, false), (63, false), (3135, false), (7231, false), (16383, true), (32767, true)] (by kernel_rfl) ?_
      simp -dsimp [j1, h1, jT]
      refine ⟨hll.1, VG.mk [.c (bln (decide (A[k] = B[j])))] _ (fun _ => refSame_spec _ _ A[k] B[j] hrx) rfl ?_⟩
      have hls : lastI T B A[k] (j + 1) = if (!T[j] && decide (A[k] = B[j])) = true then (j : Int) else lastI T B A[k] j := by
        rw [lastI, getElem!_pos T j jT, getElem!_pos B j j1]
      simp -dsimp
      refine VIf.mk (fun h => ?_) (fun h => ?_)
      · rw [if_pos h] at hls
        simp -dsimp [hwj]
        refine ⟨j + 1, by omega, ?_, by omega⟩
        simp [St.le, hls]
      · rw [if_neg (by rw [h]; simp)] at hls
        simp -dsimp [hwj]
        refine ⟨j + 1, by omega, ?_, by omega⟩
        simp [St.le, hls]
    · obtain rfl : j = B.length := by omega
      have hlt := lastI_lt T B A[k] B.length
      unfold stepI at hsn
      simp only at hsn
      simp -dsimp
      refine VIf.mk (fun h => ?_) (fun h => ?_)
      · rw [decide_eq_true_eq] at h
        rw [if_pos h] at hsn
        generalize lastI T B A[k] B.length = c at *
        obtain ⟨c', rfl⟩ := Int.eq_ofNat_of_zero_le h
        have h2 : c' < B.length := by omega
        have h2' : c' < T.length := by omega
        simp -dsimp [h2, h2', hw]
        refine ⟨hll.1, ⟨k + 1, z, sz⟩, ⟨by simp only; omega, by rw [hsn]; exact ⟨hz, hsz⟩⟩, ?_, by simp only; omega⟩
        have hb : (boolsC T).set c' [C.v (.bool true)] = boolsC (T.set c' true) := by unfold boolsC; rw [List.map_set]
        simp [St.le, hsn, hb]
      · rw [decide_eq_false_iff_not] at h
        rw [if_neg h] at hsn
        simp -dsimp [h1, hw, maxLen]
        refine ⟨fun e => by rw [hsz, e]; rfl, by omega, ⟨k + 1, false, 1⟩, ⟨by simp only; omega, by rw [hsn]; exact RI.next⟩, ?_, by simp only; omega⟩
        simp [St.le, hsn, rowsW_snoc]
  · obtain rfl : k = A.length := by omega
    rw [List.take_length] at *
    simp -dsimp
    exact ⟨⟨hz, by rw [hsz, hz]; unfold lessL; cases (lessS A B).2 <;> rfl, rfl⟩, rfl⟩
theorem less_spec (fa fb : List Val → Bool) (na nb : Bool) (A B : List (List Val)) (la : A.length ≤ 4000000000000) (lb : B.length ≤ 4000000000000) (hr : ∀ x ∈ A, x.length ≤ 140737488355328) :
    Con Tryz.prog 51 [.c (.sl na (rowsW fa A)), .c (.sl nb (rowsW fb B))] [.c (.sl (lessL A B).isEmpty (rowsW fa (lessL A B)))] := (less_spec0 fa fb na nb A B la lb hr).frz 0 rfl

/-! ### What Less leaves -/
def freeC (T : List Bool) (B : List (List Val)) (r : List Val) : Nat := ((List.range B.length).filter fun k => !T[k]! && decide (r = B[k]!)).length
theorem lastI_some (T : List Bool) (B : List (List Val)) (x : List Val) : ∀ n, 0 ≤ lastI T B x n → T[(lastI T B x n).toNat]! = false ∧ x = B[(lastI T B x n).toNat]!
  | 0, h => by simp [lastI] at h
  | n + 1, h => by
    rw [lastI] at h ⊢
    split
    · rename_i h1
      rw [Bool.and_eq_true, Bool.not_eq_true', decide_eq_true_eq] at h1
      exact h1
    · rename_i h1
      rw [if_neg h1] at h
      exact lastI_some T B x n h
theorem lastI_none (T : List Bool) (B : List (List Val)) (x : List Val) : ∀ n, ¬ 0 ≤ lastI T B x n → ∀ k, k < n → ¬ (!T[k]! && decide (x = B[k]!)) = true
  | 0, _, k, hk => by omega
  | n + 1, h, k, hk => by
    rw [lastI] at h
    split at h
    · omega
    · rename_i h1
      by_cases e : k = n
      · subst e; exact h1
      · exact lastI_none T B x n h k (by omega)
theorem range_count (p q : Nat → Bool) (j : Nat) : ∀ n, (∀ k, k < n → k ≠ j → p k = q k) → p j = true → q j = false → ((List.range n).filter p).length = ((List.range n).filter q).length + if j < n then 1 else 0
  | 0, _, _, _ => by simp
  | n + 1, h, h1, h2 => by
    have ih := range_count p q j n (fun k hk => h k (by omega)) h1 h2
    rw [List.range_succ, List.filter_append, List.filter_append, List.length_append, List.length_append, ih]
    by_cases e : n = j
    · subst e
      rw [List.filter_cons, List.filter_cons, h1, h2]
      simp
    · rw [List.filter_cons, List.filter_cons, h n (by omega) e, List.filter_nil, List.filter_nil]
      have : (j < n + 1) ↔ j < n := by omega
      simp only [this]
      omega
theorem free_set {T : List Bool} {B : List (List Val)} {j : Nat} (hT : T.length = B.length) (hj : j < B.length) (hf : T[j]! = false) (r : List Val) : freeC T B r = freeC (T.set j true) B r + if r = B[j]! then 1 else 0 := by
  unfold freeC
  by_cases e : r = B[j]!
  · rw [if_pos e, range_count _ (fun k => !(T.set j true)[k]! && decide (r = B[k]!)) j B.length, if_pos hj]
    · intro k hk hne
      rw [getElem!_pos T k (by omega), getElem!_pos (T.set j true) k (by rw [List.length_set]; omega), List.getElem_set_ne (by omega)]
    · rw [hf, ← e]; simp
    · rw [getElem!_pos (T.set j true) j (by rw [List.length_set]; omega), List.getElem_set_self]; rfl
  · rw [if_neg e, Nat.add_zero]
    congr 1
    refine List.filter_congr fun k hk => ?_
    have hk := List.mem_range.1 hk
    by_cases e2 : k = j
    · subst e2; rw [decide_eq_false e, Bool.and_false, Bool.and_false]
    · rw [getElem!_pos T k (by omega), getElem!_pos (T.set j true) k (by rw [List.length_set]; omega), List.getElem_set_ne (by omega)]
theorem free_all (B : List (List Val)) (r : List Val) : freeC (List.replicate B.length false) B r = B.count r := by
  unfold freeC
  rw [List.count_eq_length_filter]
  refine Eq.trans ?_ (congrArg List.length (show ((List.range B.length).map fun k => B[k]!).filter (· == r) = B.filter (· == r) by
    congr 1
    refine List.ext_getElem (by simp) fun k h1 h2 => ?_
    simp only [List.getElem_map, List.getElem_range]
    exact getElem!_pos B k h2))
  rw [List.filter_map, List.length_map]
  congr 1
  refine List.filter_congr fun k hk => ?_
  have hk := List.mem_range.1 hk
  rw [getElem!_pos (List.replicate B.length false) k (by rw [List.length_replicate]; exact hk), List.getElem_replicate]
  rw [Bool.eq_iff_iff, Bool.not_false, Bool.true_and, decide_eq_true_eq]
  show _ ↔ (B[k]! == r) = true
  rw [beq_iff_eq]
  exact ⟨Eq.symm, Eq.symm⟩
theorem less_inv (B : List (List Val)) (A : List (List Val)) (r : List Val) : A.count r + freeC (lessS A B).1 B r = (lessS A B).2.count r + B.count r ∧ (0 < (lessS A B).2.count r → freeC (lessS A B).1 B r = 0) := by
  refine rev_ind (p := fun A => A.count r + freeC (lessS A B).1 B r = (lessS A B).2.count r + B.count r ∧ (0 < (lessS A B).2.count r → freeC (lessS A B).1 B r = 0)) ?_ ?_ A
  · simp [lessS, free_all]
  · intro A x ⟨i1, i2⟩
    have e : lessS (A ++ [x]) B = stepI B (lessS A B) x := by unfold lessS; rw [List.foldl_append]; rfl
    have hl := lessS_len A B
    rw [e]
    unfold stepI
    have hs := lastI_some (lessS A B).1 B x B.length
    have hn := lastI_none (lessS A B).1 B x B.length
    have hlt := lastI_lt (lessS A B).1 B x B.length
    generalize lastI (lessS A B).1 B x B.length = c at *
    rw [List.count_append, List.count_singleton]
    by_cases h : 0 ≤ c
    · obtain ⟨h1, h2⟩ := hs h
      have := free_set hl.1 (show c.toNat < B.length by omega) h1 r
      rw [← h2] at this
      rw [if_pos h]
      simp only
      by_cases hr : r = x
      · subst hr
        rw [if_pos rfl] at this
        simp only [beq_self_eq_true, if_true]
        exact ⟨by omega, fun h => by have := i2 h; omega⟩
      · rw [if_neg hr] at this
        have : (x == r) = false := beq_eq_false_iff_ne.2 fun e => hr e.symm
        rw [this]
        simp only [Bool.false_eq_true, if_false]
        exact ⟨by omega, fun h => by have := i2 h; omega⟩
    · rw [if_neg h]
      simp only [List.count_append, List.count_singleton]
      by_cases hr : r = x
      · subst hr
        have h0 : freeC (lessS A B).1 B r = 0 := by
          unfold freeC
          rw [List.length_eq_zero_iff, List.filter_eq_nil_iff]
          intro k hk
          exact hn h k (List.mem_range.1 hk)
        simp only [beq_self_eq_true, if_true]
        exact ⟨by omega, fun _ => h0⟩
      · have : (x == r) = false := beq_eq_false_iff_ne.2 fun e => hr e.symm
        rw [this]
        simp only [Bool.false_eq_true, if_false, Nat.add_zero]
        exact ⟨i1, i2⟩
theorem less_count (A B : List (List Val)) (r : List Val) : (lessL A B).count r = A.count r - B.count r := by
  obtain ⟨h1, h2⟩ := less_inv B A r
  unfold lessL
  rcases Nat.eq_zero_or_pos ((lessS A B).2.count r) with h | h
  · omega
  · have := h2 h; omega
theorem less_sub (A B : List (List Val)) : (lessL A B).Sublist A := by
  refine rev_ind (p := fun A => (lessL A B).Sublist A) ?_ ?_ A
  · simp [lessL, lessS]
  · intro A x ih
    have e : lessS (A ++ [x]) B = stepI B (lessS A B) x := by unfold lessS; rw [List.foldl_append]; rfl
    unfold lessL at *
    rw [e]
    unfold stepI
    split
    · exact ih.trans (List.sublist_append_left _ _)
    · exact ih.append (List.Sublist.refl _)
theorem less_len (A B : List (List Val)) : (lessL A B).length ≤ A.length := (less_sub A B).length_le
end Go.Proofs.YtmkbclnhopoiiaaGreat
/- Contracts: the periods of facts; Count. -/
set_option linter.unusedSimpArgs false
set_option linter.unusedVariables false
namespace Go.Proofs.YtmkbclnhopoiiaaGreat
open Go.VL Go.RowKit

def perR (l : List Fact) : List Per := (rightL l).map Fact.p
set_option maxRecDepth 4000 in
set_option maxHeartbeats 16000000 in
theorem periods_spec0 (hf : SortsF) (nl : Bool) (l : List Fact) (hl : l.length ≤ 3518437208883) (hr : Rows1 l) :
    Con Tryz.prog 32 [.c (.sl nl (facts l))] [.fr (perR l).isEmpty (if (perR l).isEmpty then 0 else 2) ((perR l).map Per.cells) 0] := by
  refine spec_of Tryz.func32 rfl (by kernel_rfl) (by simp [Tryz.f32]) (fun w0 K0 => vc_ok _ _ _ (by kernel_rfl) ?_)
  simp only [Tryz.f32]
  have hri := right_spec hf nl l hl hr
  have hrl := rightL_len l
  unfold perR
  generalize rightL l = r at *
  simp -dsimp
  refine VC.mk _ hri ?_
  simp -dsimp
  refine VL.loop (fun i : KI => ⟨[(9, .c (i64 i.k)), (8, .c (i64 r.length)), (7, .c (.sl r.isEmpty (facts r))), (3, .own 192 i.k)], [(192, some (.arr i.nl i.sz (((r.take i.k).map Fact.p).map Per.cells) 0))]⟩)
    (fun i => i.k ≤ r.length ∧ i.nl = decide (i.k = 0) ∧ i.sz = if i.nl then 0 else 2) (fun i => r.length - i.k) ⟨0, true, 0⟩ (by kernel_rfl) ⟨by simp, rfl, rfl⟩ (by simp [St.le]) ?_
  intro ⟨k, z, sz⟩ ⟨hk, hz, hsz⟩
  simp only at hk hz hsz
  by_cases h1 : k < r.length
  · have hw : IntKind.i64.wrap ((k : Int) + 1) = (k : Int) + 1 := IntWalk.i64_in _ (by omega)
    have hsn : ((r.take (k + 1)).map Fact.p).map Per.cells = ((r.take k).map Fact.p).map Per.cells ++ [r[k].p.cells] := by rw [take_snoc h1, List.map_append, List.map_append]; rfl
    simp -dsimp [h1, Fact.cells]
    refine ⟨by decide, by omega, fun e => by rw [hsz, e]; rfl, by omega, ⟨k + 1, false, 2⟩, ⟨by simp only; omega, by simp, rfl⟩, ?_, by simp only; omega⟩
    simp at hsn
    simp [St.le, hsn, Per.cells, hw]
  · obtain rfl : k = r.length := by omega
    rw [List.take_length] at *
    simp -dsimp
    have e : z = r.isEmpty := by rw [hz]; cases r <;> simp
    exact ⟨e, by rw [hsz, e]; cases r <;> simp⟩
theorem periods_spec (hf : SortsF) (nl : Bool) (l : List Fact) (hl : l.length ≤ 3518437208883) (hr : Rows1 l) :
    Con Tryz.prog 32 [.c (.sl nl (facts l))] [.c (.sl (perR l).isEmpty ((perR l).map Per.cells))] := (periods_spec0 hf nl l hl hr).frz 0 rfl

/-! ### Count -/
def num (n : Int) : List Val := [⟨1, n, []⟩]
def cntF (s : Per × Int) : Fact := ⟨false, num s.2, s.1⟩
def cntS (st : List (Per × Int)) : List Fact := (st.filter fun s => decide (0 < s.2)).map cntF
def countP (l : List Fact) : List Fact := cntS (stepsL (perR l) [])
def countL (sortP : List Per → List Per) (l : List Fact) : List Fact := normalL sortP (countP l)
theorem cntS_snoc (st : List (Per × Int)) {k : Nat} (h : k < st.length) : cntS (st.take (k + 1)) = cntS (st.take k) ++ if decide (0 < st[k].2) then [cntF st[k]] else [] := by
  unfold cntS
  rw [take_snoc h, List.filter_append, List.map_append]
  by_cases e : 0 < st[k].2 <;> simp [e]
theorem cntS_len (st : List (Per × Int)) : (cntS st).length ≤ st.length := by unfold cntS; rw [List.length_map]; exact List.length_filter_le _ _
theorem countP_len (l : List Fact) : (countP l).length ≤ 2 * l.length := by
  have h1 := cntS_len (stepsL (perR l) [])
  have h2 := stepsL_len (perR l) []
  have h3 := edgesL_len (perR l ++ [])
  have h4 := rightL_len l
  rw [List.append_nil] at h2 h3
  have h5 : (perR l).length = (rightL l).length := List.length_map ..
  unfold countP
  omega
theorem countP_rows (l : List Fact) : Rows1 (countP l) := fun f hf => by
  obtain ⟨s, _, rfl⟩ := List.mem_map.1 hf
  show 1 ≤ _
  omega
set_option maxRecDepth 4000 in
set_option maxHeartbeats 16000000 in
theorem count_spec {sortP : List Per → List Per} (hs : Sorts sortP) (hi : SortsI) (hf : SortsF) (nl : Bool) (l : List Fact) (hl : l.length ≤ 1500000000000) (hr : Rows1 l) :
    Con Tryz.prog 23 [.c (.sl nl (facts l))] [.c (.sl (countL sortP l).isEmpty (facts (countL sortP l)))] := by
  refine spec_of Tryz.func23 rfl (by kernel_rfl) (by simp [Tryz.f23]) (fun w0 K0 => vc_ok _ _ _ (by kernel_rfl) ?_)
  simp only [Tryz.f23]
  have hp := periods_spec hf nl l (by omega) hr
  have hrl := rightL_len l
  have hpl : (perR l).length = (rightL l).length := List.length_map ..
  have hst := steps_spec hi (perR l).isEmpty true (perR l) [] (by simp) (by simp) (by omega) (by simp)
  have hsl := stepsL_len (perR l) []
  have hel := edgesL_len (perR l ++ [])
  rw [List.append_nil] at hsl hel
  have hcr := countP_rows l
  have hcl := countP_len l
  have hno := fun z => normal_con hs hi hf false z _ (countP l) rfl (by omega) hcr
  unfold countL
  unfold countP at *
  generalize stepsL (perR l) [] = st at *
  generalize perR l = ps at *
  simp -dsimp
  refine VC.mk _ hp ?_
  simp -dsimp
  refine VC.mk _ hst ?_
  simp -dsimp
  refine VL.loop (fun i : KI => ⟨[(10, .c (i64 i.k)), (9, .c (i64 st.length)), (8, .c (.sl st.isEmpty (stepCs st))), (3, .own 192 (cntS (st.take i.k)).length)], [(192, some (.arr i.nl i.sz (facts (cntS (st.take i.k))) 0))]⟩)
    (fun i => i.k ≤ st.length ∧ i.nl = (cntS (st.take i.k)).isEmpty ∧ i.sz = if i.nl then 0 else 3) (fun i => st.length - i.k) ⟨0, true, 0⟩ (by kernel_rfl) ⟨by simp, rfl, rfl⟩ (by simp [St.le, cntS]) ?_
  intro ⟨k, z, sz⟩ ⟨hk, hz, hsz⟩
  simp only at hk hz hsz
  have hck := cntS_len (st.take k)
  rw [List.length_take] at hck
  by_cases h1 : k < st.length
  · have hw : IntKind.i64.wrap ((k : Int) + 1) = (k : Int) + 1 := IntWalk.i64_in _ (by omega)
    have hsn := cntS_snoc st h1
    simp -dsimp [h1, stepC]
    generalize st[k] = s at *
    refine VIf.mk (fun h => ?_) (fun h => ?_)
    · rw [h, if_pos rfl] at hsn
      simp -dsimp [hw, maxLen]
      refine ⟨fun e => by rw [hsz, e]; rfl, by omega, ⟨k + 1, false, 3⟩, ⟨by simp only; omega, by rw [hsn]; simp, rfl⟩, ?_, by simp only; omega⟩
      simp [St.le, hsn, cntF, num, Fact.cells, Val.cells]
    · rw [h, if_neg (by simp), List.append_nil] at hsn
      simp -dsimp [hw]
      refine ⟨⟨k + 1, z, sz⟩, ⟨by simp only; omega, by rw [hsn]; exact hz, hsz⟩, ?_, by simp only; omega⟩
      simp [St.le, hsn]
  · obtain rfl : k = st.length := by omega
    rw [List.take_length] at *
    generalize cntS st = c at *
    generalize normalL sortP c = d at *
    simp -dsimp
    refine ⟨by decide, VCL.snap ?_⟩
    simp -dsimp
    refine VC.mk _ (hno z) ?_
    simp -dsimp
end Go.Proofs.YtmkbclnhopoiiaaGreat
/- Plain law: facts between edges at an instant; a count at an instant; rows put in order. -/
set_option linter.unusedSimpArgs false
set_option linter.unusedVariables false
namespace Go.Proofs.YtmkbclnhopoiiaaGreat
open Go.VL Go.RowKit

/-- facts from edge to edge -/
def cellF (E : List Int) (G : Nat → Option (List Val)) (n : Nat) : List Fact := (List.range n).flatMap fun i => match G i with
  | some r => [⟨false, r, ⟨E[i]!, E[i + 1]!⟩⟩]
  | none => []
theorem cellF_succ (E : List Int) (G : Nat → Option (List Val)) (n : Nat) : cellF E G (n + 1) = cellF E G n ++ match G n with
  | some r => [⟨false, r, ⟨E[n]!, E[n + 1]!⟩⟩]
  | none => [] := by unfold cellF; rw [List.range_succ, List.flatMap_append]; simp
theorem at_none {E : List Int} (hE : Rise E) (G : Nat → Option (List Val)) {t : Int} : ∀ n, n < E.length ∨ n = 0 → (∀ i, i < n → ¬ (E[i]! ≤ t ∧ t < E[i + 1]!)) → atT (cellF E G n) t = []
  | 0, _, _ => rfl
  | n + 1, hn, h => by
    rw [cellF_succ, atT_append, at_none hE G n (by omega) fun i hi => h i (by omega)]
    split
    · rw [atT_cons, if_neg]
      · rfl
      · intro hv
        unfold validAt at hv
        rw [Bool.and_eq_true, has_iff] at hv
        exact h n (by omega) hv.2
    · rfl
theorem at_some {E : List Int} (hE : Rise E) (hr : ∀ i, i + 1 < E.length → right ⟨E[i]!, E[i + 1]!⟩ = true) (G : Nat → Option (List Val)) {t : Int} {i : Nat} (h1 : E[i]! ≤ t) (h2 : t < E[i + 1]!) : ∀ n, n < E.length → i < n → atT (cellF E G n) t = (G i).toList
  | 0, _, hi => by omega
  | n + 1, hn, hi => by
    rw [cellF_succ, atT_append]
    by_cases e : i = n
    · subst e
      rw [at_none hE G i (by omega) fun j hj => ?_]
      · have hv : validAt ⟨false, [], ⟨E[i]!, E[i + 1]!⟩⟩ t = true := by
          unfold validAt
          rw [Bool.and_eq_true, has_iff]
          exact ⟨hr i hn, h1, h2⟩
        split
        · rename_i r hr2
          rw [atT_cons, if_pos (by exact hv), hr2]; rfl
        · rename_i hr2
          rw [hr2]; rfl
      · rintro ⟨a, b⟩
        have := rise_le hE (show j + 1 ≤ i by omega) (by omega)
        omega
    · rw [at_some hE hr G h1 h2 n (by omega) (by omega)]
      have : ¬ (E[n]! ≤ t ∧ t < E[n + 1]!) := by
        rintro ⟨a, b⟩
        have := rise_le hE (show i + 1 ≤ n by omega) (by omega)
        omega
      split
      · rw [atT_cons, if_neg]
        · simp [atT]
        · intro hv
          unfold validAt at hv
          rw [Bool.and_eq_true, has_iff] at hv
          exact this hv.2
      · simp [atT]

/-! ### Count -/
theorem steps_none {ps : List Per} (hp : ∀ p ∈ ps, right p = true) {t : Int} (h : ∀ i, i < (edgesL ps).length - 1 → ¬ ((edgesL ps)[i]! ≤ t ∧ t < (edgesL ps)[i + 1]!)) : cntP ps t = 0 := by
  rcases Nat.eq_zero_or_pos (cntP ps t) with e | e
  · exact e
  · obtain ⟨p, h1, h2⟩ := cntP_pos e
    rw [has_iff] at h2
    obtain ⟨hE, hmE⟩ := edgesL_ok ps
    obtain ⟨jf, f1, f2⟩ := mem_get! ((hmE p.f).2 ((mem_endsOf _ _).2 ⟨p, h1, hp p h1, .inl rfl⟩))
    obtain ⟨jt, t1, t2⟩ := mem_get! ((hmE p.t).2 ((mem_endsOf _ _).2 ⟨p, h1, hp p h1, .inr rfl⟩))
    obtain ⟨i, i1, i2, i3⟩ := rise_between hE (t := t) (i := jf) jt t1 f1 (by omega) (by omega)
    exact absurd ⟨i2, i3⟩ (h i (by omega))
theorem perR_right (l : List Fact) : ∀ p ∈ perR l, right p = true := by
  intro p hp
  obtain ⟨f, hf, rfl⟩ := List.mem_map.1 hp
  obtain ⟨g, _, h, rfl⟩ := rightL_mem.1 hf
  exact h
theorem perR_cnt (l : List Fact) (t : Int) : cntP (perR l) t = (sliceL l t).length := by
  unfold cntP perR sliceL validR
  rw [List.filter_map, List.length_map, List.length_map]
  rfl
theorem countP_eq (l : List Fact) : countP l = cellF (edgesL (perR l)) (fun i => if 0 < cntP (perR l) (edgesL (perR l))[i]! then some (num (cntP (perR l) (edgesL (perR l))[i]!)) else none) ((edgesL (perR l)).length - 1) := by
  unfold countP cntS stepsL cellF
  rw [List.append_nil]
  generalize edgesL (perR l) = E
  generalize List.range (E.length - 1) = is
  induction is with
  | nil => rfl
  | cons i is ih =>
    rw [List.map_cons, List.filter_cons, List.flatMap_cons, ← ih]
    have e0 : (cntP [] E[i]! : Int) = 0 := rfl
    simp only [e0, Int.sub_zero]
    by_cases h : 0 < cntP (perR l) E[i]!
    · have h' : (0 : Int) < (cntP (perR l) E[i]! : Nat) := by omega
      rw [if_pos (by simpa using h'), if_pos h, List.map_cons]
      rfl
    · have h' : ¬ (0 : Int) < (cntP (perR l) E[i]! : Nat) := by omega
      rw [if_neg (by simpa using h'), if_neg h]
      rfl
theorem count_at (l : List Fact) (t : Int) : atT (countP l) t = if 0 < (sliceL l t).length then [num (sliceL l t).length] else [] := by
  rw [countP_eq, ← perR_cnt]
  have hp := perR_right l
  obtain ⟨hE, _⟩ := edgesL_ok (perR l)
  by_cases h : ∃ i, i < (edgesL (perR l)).length - 1 ∧ (edgesL (perR l))[i]! ≤ t ∧ t < (edgesL (perR l))[i + 1]!
  · obtain ⟨i, h1, h2, h3⟩ := h
    have hb := cntP_between (ps := perR l) (qs := perR l) (fun p h => h) hp (i := i) (by omega) h2 h3
    rw [at_some hE (fun i hi => edge_right hi) _ h2 h3 _ (by omega) h1, hb]
    split <;> rfl
  · have h' : ∀ i, i < (edgesL (perR l)).length - 1 → ¬ ((edgesL (perR l))[i]! ≤ t ∧ t < (edgesL (perR l))[i + 1]!) := fun i hi h2 => h ⟨i, hi, h2⟩
    rw [at_none hE _ _ (by omega) h', steps_none hp h']
    rfl
/-! ### Rows put in order -/
theorem insR_up (r : List Val) : ∀ (l : List (List Val)), RUp l → RUp (insR r l)
  | [], _ => by simp [insR]
  | x :: l, h => by
    obtain ⟨h1, h2⟩ := List.pairwise_cons.1 h
    rw [insR]
    split
    · rename_i hb
      have hb : cmpR r x < 0 := of_decide_eq_true hb
      refine List.pairwise_cons.2 ⟨fun y hy => ?_, h⟩
      rcases List.mem_cons.1 hy with rfl | hy
      · omega
      · exact Cmp.row.trans r x y (by omega) (h1 y hy)
    · rename_i hb
      have hb : ¬ cmpR r x < 0 := fun e => hb (decide_eq_true e)
      refine List.pairwise_cons.2 ⟨fun y hy => ?_, insR_up r l h2⟩
      rcases List.mem_cons.1 ((insR_perm r l).mem_iff.1 hy) with rfl | hy
      · have := Cmp.row.anti x y
        omega
      · exact h1 y hy
def putAll (l rs : List (List Val)) : List (List Val) := rs.foldl (fun acc r => insR r acc) l
theorem putAll_snoc (l rs : List (List Val)) {k : Nat} (h : k < rs.length) : putAll l (rs.take (k + 1)) = insR rs[k] (putAll l (rs.take k)) := by
  unfold putAll; rw [take_snoc h, List.foldl_append]; rfl
theorem putAll_up : ∀ (rs l : List (List Val)), RUp l → RUp (putAll l rs)
  | [], l, h => h
  | r :: rs, l, h => putAll_up rs (insR r l) (insR_up r l h)
theorem putAll_perm : ∀ (rs l : List (List Val)), (putAll l rs).Perm (rs ++ l)
  | [], l => .refl _
  | r :: rs, l => (putAll_perm rs (insR r l)).trans ((List.Perm.append_left rs (insR_perm r l)).trans List.perm_middle)
theorem putAll_len (l rs : List (List Val)) : (putAll l rs).length = rs.length + l.length := by rw [(putAll_perm rs l).length_eq, List.length_append]

section
variable {sortP : List Per → List Per}
theorem slice_at (l : List Fact) (t : Int) : (sliceL l t).Perm (atT l t) := List.perm_iff_count.2 fun r => by rw [slice_count, cnt_at]
theorem slice_perm {l : List Fact} {t : Int} {rs : List (List Val)} (hu : RUp rs) (h : rs.Perm (atT l t)) : sliceL l t = rs := (slice_up l t).ext hu fun r => List.perm_iff_count.1 ((slice_at l t).trans h.symm) r
theorem sl_count (hs : Sorts sortP) (l : List Fact) (t : Int) : sliceL (countL sortP l) t = if 0 < (sliceL l t).length then [num (sliceL l t).length] else [] := by
  refine slice_perm (by split <;> simp) ?_
  rw [← count_at]
  exact (normal_at hs _ t).symm
theorem sl_both (hs : Sorts sortP) (a b : List Fact) (t : Int) : sliceL (normalL sortP (a ++ b)) t = putAll (sliceL a t) (sliceL b t) := by
  refine slice_perm (putAll_up _ _ (slice_up a t)) ((putAll_perm _ _).trans ?_)
  refine List.Perm.trans ?_ (normal_at hs _ t).symm
  rw [atT_append]
  exact List.perm_append_comm.trans ((slice_at a t).append (slice_at b t))
theorem sl_less (hs : Sorts sortP) (a b : List Fact) (t : Int) : sliceL (exceptL sortP a b) t = lessL (sliceL a t) (sliceL b t) := by
  refine (slice_up _ t).ext ((slice_up a t).sublist (less_sub _ _)) fun r => ?_
  rw [slice_count, less_count, slice_count, slice_count, except_cnt hs]
theorem sl_pairs (hs : Sorts sortP) (a b : List Fact) (t : Int) : sliceL (joinL sortP a b) t = putAll [] (pairsL (sliceL a t) (sliceL b t)) := by
  refine slice_perm (putAll_up _ _ (by simp)) ((putAll_perm _ _).trans ?_)
  refine List.Perm.trans ?_ (normal_at hs _ t).symm
  rw [atT_join, List.append_nil]
  exact pairs_perm (slice_at a t) (slice_at b t)
theorem sl_self (hs : Sorts sortP) (a : List Fact) (t : Int) : sliceL (normalL sortP a) t = sliceL a t := (slice_eq _ _ t).2 fun r => normal_cnt hs a r t
end
end Go.Proofs.YtmkbclnhopoiiaaGreat
