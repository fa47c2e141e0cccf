/- Contracts of package bind, part 16: the columns of some tables. -/
import Derived.Test.YtkfiiomdkljjnaaGreatXC
import Derived.Test.YtkfiiomdkljjnaaGreatDB
set_option linter.unusedSimpArgs false
set_option linter.unusedVariables false
namespace Go.Proofs.YtkfiiomdkljjnaaGreat
open Go.VL Go.RowKit

def colsOf (t : Tab) (j : Nat) : List SCol := (t.cols.take j).map fun c => ⟨t.name, c.name, c.kind⟩
def scopeK (l : List Tab) : Nat → List SCol
  | 0 => []
  | k + 1 => scopeK l k ++ (match l[k]? with | some t => colsOf t t.cols.length | none => [])
def scopeOf (l : List Tab) : List SCol := scopeK l l.length
theorem scopeK_step {l : List Tab} {k : Nat} (h : k < l.length) : scopeK l (k + 1) = scopeK l k ++ colsOf l[k] l[k].cols.length := by
  rw [scopeK, List.getElem?_eq_getElem h]
theorem colsOf_step {t : Tab} {j : Nat} (h : j < t.cols.length) : colsOf t (j + 1) = colsOf t j ++ [⟨t.name, t.cols[j].name, t.cols[j].kind⟩] := by
  unfold colsOf; rw [take_snoc h, List.map_append]; rfl
theorem colsOf_len (t : Tab) (j : Nat) : (colsOf t j).length ≤ t.cols.length := by
  unfold colsOf; rw [List.length_map, List.length_take]; omega
theorem scopeK_len {l : List Tab} {n : Nat} (h : ∀ t ∈ l, t.cols.length ≤ n) : ∀ k, k ≤ l.length → (scopeK l k).length ≤ k * n
  | 0, _ => by simp [scopeK]
  | k + 1, hk => by
    have h1 := scopeK_len h k (by omega)
    have h2 := h l[k] (List.getElem_mem hk)
    have h3 := colsOf_len l[k] l[k].cols.length
    rw [scopeK_step hk, List.length_append, Nat.add_mul]
    omega
abbrev tabs (l : List Tab) : List (List C) := l.map Tab.cells
/-- the rows of a loop: is it nil, the cells of an element -/
def RJ (sz : Nat) (nl : Bool) (s : Nat) {α : Type} (row : List α) : Prop := nl = row.isEmpty ∧ s = if nl then 0 else sz
theorem RJ.next {α : Type} {sz : Nat} {row : List α} {x : α} : RJ sz false sz (row ++ [x]) := ⟨by cases row <;> rfl, rfl⟩

set_option maxRecDepth 4000 in
set_option maxHeartbeats 16000000 in
theorem scope_spec (nl : Bool) (l : List Tab) (hl : l.length ≤ 1000) (hc : ∀ t ∈ l, t.cols.length ≤ 1000000) :
    Con Tryz.prog 17 [.c (.sl nl (tabs l))] [.c (.sl (scopeOf l).isEmpty (scols (scopeOf l)))] := by
  refine Con.frz (rs := [.fr (scopeOf l).isEmpty (if (scopeOf l).isEmpty then 0 else 3) (scols (scopeOf l)) 0]) ?_ 0 rfl
  refine spec_of Tryz.func17 rfl (by kernel_rfl) (by simp [Tryz.f17]) (fun w0 K0 => vc_ok _ _ _ (by kernel_rfl) ?_)
  simp only [Tryz.f17]
  simp -dsimp
  refine VL.loop (fun i : KI => ⟨[(10, .c (i64 i.k)), (9, .c (i64 l.length)), (8, .c (.sl nl (tabs l))), (3, .own 192 (scopeK l i.k).length)],
      [(192, some (.arr i.nl i.sz (scols (scopeK l i.k)) 0))]⟩)
    (fun i => i.k ≤ l.length ∧ RJ 3 i.nl i.sz (scopeK l i.k)) (fun i => l.length - i.k) ⟨0, true, 0⟩ (by kernel_rfl) ⟨by simp, rfl, rfl⟩ (by simp [St.le, scopeK]) ?_
  intro ⟨k, z, sz⟩ ⟨hk, hz, hsz⟩
  simp only at hk hz hsz
  simp -dsimp
  refine VIf.mk (fun h => ?_) (fun h => ?_)
  · have hlt : k < l.length := by simpa using h
    have hw : IntKind.i64.wrap ((k : Int) + 1) = (k : Int) + 1 := IntWalk.i64_in _ (by omega)
    have hck := hc l[k] (List.getElem_mem hlt)
    have hkl := scopeK_len hc k (by omega)
    have hkl' : (scopeK l k).length ≤ 1000000000 := Nat.le_trans hkl (Nat.le_trans (Nat.mul_le_mul_right _ (by omega : k ≤ 1000)) (by decide))
    simp -dsimp [hlt, Tab.cells]
    generalize hL : scopeK l k = L at hkl' hz ⊢
    refine VL.loop (fun i : KI => ⟨[(17, .c (i64 i.k)), (16, .c (i64 l[k].cols.length)), (15, .c (.sl l[k].nc (l[k].cols.map Col.cells))), (5, .ptr 320 0), (10, .c (i64 k)), (9, .c (i64 l.length)), (8, .c (.sl nl (tabs l))), (3, .own 192 (L ++ colsOf l[k] i.k).length)],
        [(192, some (.arr i.nl i.sz (scols (L ++ colsOf l[k] i.k)) 0)), (320, some (.box false [.c (i64 l[k].id), .c (str l[k].name), .c (.sl l[k].nc (l[k].cols.map Col.cells)), .c (.sl l[k].nk (l[k].keys.map keyc)), .c (bln l[k].ix)]))]⟩)
      (fun i => i.k ≤ l[k].cols.length ∧ RJ 3 i.nl i.sz (L ++ colsOf l[k] i.k)) (fun i => l[k].cols.length - i.k) ⟨0, z, sz⟩ (by kernel_rfl) ⟨by simp, by simpa [colsOf] using hz, hsz⟩ (by simp [St.le, colsOf]) ?_
    intro ⟨j, z2, sz2⟩ ⟨hj, hz2, hsz2⟩
    simp only at hj hz2 hsz2
    have hcl := colsOf_len l[k] j
    simp -dsimp
    refine VIf.mk (fun h2 => ?_) (fun h2 => ?_)
    · have hlt2 : j < l[k].cols.length := by simpa using h2
      have hw2 : IntKind.i64.wrap ((j : Int) + 1) = (j : Int) + 1 := IntWalk.i64_in _ (by omega)
      have hcs := colsOf_step hlt2
      simp -dsimp [hlt2, Col.cells]
      refine ⟨by decide, fun e => by rw [hsz2, e]; rfl, by omega, ⟨j + 1, false, 3⟩, ⟨by simp only; omega, ?_⟩, ?_, by simp only; omega⟩
      · rw [hcs, ← List.append_assoc]; exact RJ.next
      · simp only [hcs]
        simp [St.le, hw2, SCol.cells, Nat.add_assoc]
    · simp at h2
      obtain rfl : j = l[k].cols.length := by omega
      simp -dsimp [hw]
      refine ⟨⟨k + 1, z2, sz2⟩, ⟨by simp only; omega, ?_⟩, ?_, by simp only; omega⟩
      · rw [scopeK_step hlt, hL]; exact ⟨hz2, hsz2⟩
      · simp only [scopeK_step hlt, hL]
        simp [St.le]
  · simp at h
    obtain rfl : k = l.length := by omega
    simp -dsimp
    exact ⟨⟨hz, by rw [hsz, hz]; simp [scopeOf]; rfl, rfl⟩, rfl⟩
end Go.Proofs.YtkfiiomdkljjnaaGreat
/- Contracts of the document's package 17, part 1: scopes, names, numbers. -/
set_option linter.unusedSimpArgs false
set_option linter.unusedVariables false
namespace Go.Proofs.YtkfiiomdkljjnaaGreat
open Go.VL Go.RowKit

def refAt (sc : List SCol) (of name : List UInt8) (k : Nat) : Int := if hitsN sc of name k = 0 then 0 else hitAt sc of name k
def refTab (sc : List SCol) (of : List UInt8) (k : Nat) : Bool := decide (of = []) || decide (tabsN sc of k ≠ 0)

end Go.Proofs.YtkfiiomdkljjnaaGreat
/- Contracts of the document's package 17, part 2: sums, differences, products. -/
set_option linter.unusedSimpArgs false
set_option linter.unusedVariables false
namespace Go.Proofs.YtkfiiomdkljjnaaGreat
open Go.VL Go.RowKit

theorem wrap_in (n : Int) : fits64 (IntKind.i64.wrap n) = true := by
  rw [fits64_iff]
  simp only [IntKind.wrap, IntKind.signed, IntKind.bits]
  simp
  omega
/-- a product fits just if dividing it back does -/
theorem times_fits (a b : Int) (ha : fits64 a = true) (hb : fits64 b = true) (hb0 : b ≠ 0) :
    (IntKind.i64.wrap ((IntKind.i64.wrap (a * b)).tdiv b) = a ∧ (IntKind.i64.wrap (a * b)).tmod b = 0 ∧ ¬ (a = -1 ∧ b = -9223372036854775808) ∧ ¬ (b = -1 ∧ a = -9223372036854775808)) ↔ fits64 (a * b) = true := by
  constructor
  · rintro ⟨h1, h2, h3, h4⟩
    have hn := wrap_in (a * b)
    generalize hN : IntKind.i64.wrap (a * b) = n at h1 h2 hn
    have hmul : b * n.tdiv b = n := by have := Int.mul_tdiv_add_tmod n b; omega
    generalize n.tdiv b = q at h1 hmul
    rw [fits64_iff] at ha hb hn
    -- q is at most as great as n
    by_cases hq : fits64 q = true
    · rw [wrap_fits hq] at h1
      subst h1
      rw [Int.mul_comm, hmul, fits64_iff]; exact hn
    · exfalso
      have hq' : ¬ (-9223372036854775808 ≤ q ∧ q ≤ 9223372036854775807) := by rw [← fits64_iff]; exact hq
      -- then b is -1 and n the least
      have hb1 : b = -1 := by
        rcases (by omega : q < 0 ∨ 0 ≤ q) with hs | hs
        · have hq2 : q ≤ -9223372036854775809 := by omega
          rcases (by omega : b < 0 ∨ 0 < b) with hb2 | hb2
          · have : 9223372036854775809 ≤ b * q := by
              have h5 : (1 : Int) * 9223372036854775809 ≤ (-b) * (-q) := Int.mul_le_mul (by omega) (by omega) (by omega) (by omega)
              rw [Int.neg_mul_neg] at h5; omega
            omega
          · have : 1 * 9223372036854775809 ≤ b * (-q) := Int.mul_le_mul (by omega) (by omega) (by omega) (by omega)
            rw [Int.mul_neg] at this; omega
        · have hq2 : 9223372036854775808 ≤ q := by omega
          rcases (by omega : b < 0 ∨ 0 < b) with hb2 | hb2
          · by_cases hb3 : b = -1
            · exact hb3
            · have : 2 * 9223372036854775808 ≤ (-b) * q := Int.mul_le_mul (by omega) (by omega) (by omega) (by omega)
              rw [Int.neg_mul] at this; omega
          · have : 1 * 9223372036854775808 ≤ b * q := Int.mul_le_mul (by omega) (by omega) (by omega) (by omega)
            omega
      subst hb1
      have hq3 : q = -n := by omega
      have hq4 : q = 9223372036854775808 := by omega
      rw [hq4] at h1
      have : IntKind.i64.wrap 9223372036854775808 = -9223372036854775808 := by decide
      rw [this] at h1
      exact h4 ⟨rfl, h1.symm⟩
  · intro h
    rw [wrap_fits h]
    refine ⟨?_, ?_, ?_, ?_⟩
    · rw [Int.mul_tdiv_cancel _ hb0, wrap_fits ha]
    · exact Int.mul_tmod_left a b
    · rintro ⟨rfl, rfl⟩; rw [fits64_iff] at h; omega
    · rintro ⟨rfl, rfl⟩; rw [fits64_iff] at h; omega

def mulOk (a b : Int) : Bool := fits64 (a * b)

theorem add_cond (a b : Int) (ha : fits64 a = true) (hb : fits64 b = true) : (decide (0 < b) && decide (IntKind.i64.wrap (9223372036854775807 - b) < a) || decide (b < 0) && decide (a < IntKind.i64.wrap (-9223372036854775808 - b))) = !fits64 (a + b) := by
  rw [fits64_iff] at ha hb
  rw [wrap_cases _ (by omega) (by omega), wrap_cases _ (by omega) (by omega), Bool.eq_iff_iff]
  simp only [Bool.or_eq_true, Bool.and_eq_true, decide_eq_true_eq, Bool.not_eq_true', ← Bool.not_eq_true, fits64_iff]
  split <;> split <;> (try split) <;> (try split) <;> omega
theorem sub_cond (a b : Int) (ha : fits64 a = true) (hb : fits64 b = true) : (decide (b < 0) && decide (IntKind.i64.wrap (9223372036854775807 + b) < a) || decide (0 < b) && decide (a < IntKind.i64.wrap (-9223372036854775808 + b))) = !fits64 (a - b) := by
  rw [fits64_iff] at ha hb
  rw [wrap_cases _ (by omega) (by omega), wrap_cases _ (by omega) (by omega), Bool.eq_iff_iff]
  simp only [Bool.or_eq_true, Bool.and_eq_true, decide_eq_true_eq, Bool.not_eq_true', ← Bool.not_eq_true, fits64_iff]
  split <;> split <;> (try split) <;> (try split) <;> omega

end Go.Proofs.YtkfiiomdkljjnaaGreat
