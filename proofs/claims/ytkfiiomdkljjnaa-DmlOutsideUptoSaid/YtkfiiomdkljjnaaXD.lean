/- Contracts of package bind, part 16: the columns of some tables. -/
import Derived.Test.YtkfiiomdkljjnaaXC
import Derived.Test.YtkfiiomdkljjnaaDB
set_option linter.unusedSimpArgs false
set_option linter.unusedVariables false
namespace Go.Proofs.Ytkfiiomdkljjnaa
open Go.VL Go.RowKit

def colsOf (t : Tab) (j : Nat) : List SCol := (t.cols.take j).map fun c => ⟨t.name, c.name, c.kind⟩
def scopeK (l : List Tab) : Nat → List SCol
  | 0 => []
  | k + 1 => scopeK l k ++ (match l[k]? with | some t => colsOf t t.cols.length | none => [])
def scopeOf (l : List Tab) : List SCol := scopeK l l.length
theorem scopeK_step {l : List Tab} {k : Nat} (h : k < l.length) : scopeK l (k + 1) = scopeK l k ++ colsOf l[k] l[k].cols.length := by
  rw [scopeK, List.getElem?_eq_getElem h]
theorem colsOf_step {t : Tab} {j : Nat} (h : j < t.cols.length) : colsOf t (j + 1) = colsOf t j ++ [⟨t.name, t.cols[j].name, t.cols[j].kind⟩] := by
  unfold colsOf; rw [take_snoc h, List.map_append]; rfl
theorem colsOf_len (t : Tab) (j : Nat) : (colsOf t j).length ≤ t.cols.length := by
  unfold colsOf; rw [List.length_map, List.length_take]; omega
theorem scopeK_len {l : List Tab} {n : Nat} (h : ∀ t ∈ l, t.cols.length ≤ n) : ∀ k, k ≤ l.length → (scopeK l k).length ≤ k * n
  | 0, _ => by simp [scopeK]
  | k + 1, hk => by
    have h1 := scopeK_len h k (by omega)
    have h2 := h l[k] (List.getElem_mem hk)
    have h3 := colsOf_len l[k] l[k].cols.length
    rw [scopeK_step hk, List.length_append, Nat.add_mul]
    omega
abbrev tabs (l : List Tab) : List (List C) := l.map Tab.cells
/-- the rows of a loop: is it nil, the cells of an element -/
def RJ (sz : Nat) (nl : Bool) (s : Nat) {α : Type} (row : List α) : Prop := nl = row.isEmpty ∧ s = if nl then 0 else sz
theorem RJ.next {α : Type} {sz : Nat} {row : List α} {x : α} : RJ sz false sz (row ++ [x]) := ⟨by cases row <;> rfl, rfl⟩

set_option maxRecDepth 4000 in
set_option maxHeartbeats 16000000 in
theorem scope_spec (nl : Bool) (l : List Tab) (hl : l.length ≤ 1000) (hc : ∀ t ∈ l, t.cols.length ≤ 1000000) :
    Con Try.prog 42 [.c (.sl nl (tabs l))] [.c (.sl (scopeOf l).isEmpty (scols (scopeOf l)))] := by
  refine Con.frz (rs := [.fr (scopeOf l).isEmpty (if (scopeOf l).isEmpty then 0 else 3) (scols (scopeOf l)) 0]) ?_ 0 rfl
  refine spec_of Try.func42 rfl (by kernel_rfl) (by simp [Try.f42]) (fun w0 K0 => vc_ok _ _ _ (by kernel_rfl) ?_)
  simp only [Try.f42]
  simp -dsimp
  refine VL.loop (fun i : KI => ⟨[(10, .c (i64 i.k)), (9, .c (i64 l.length)), (8, .c (.sl nl (tabs l))), (3, .own 192 (scopeK l i.k).length)],
      [(192, some (.arr i.nl i.sz (scols (scopeK l i.k)) 0))]⟩)
    (fun i => i.k ≤ l.length ∧ RJ 3 i.nl i.sz (scopeK l i.k)) (fun i => l.length - i.k) ⟨0, true, 0⟩ (by kernel_rfl) ⟨by simp, rfl, rfl⟩ (by simp [St.le, scopeK]) ?_
  intro ⟨k, z, sz⟩ ⟨hk, hz, hsz⟩
  simp only at hk hz hsz
  simp -dsimp
  refine VIf.mk (fun h => ?_) (fun h => ?_)
  · have hlt : k < l.length := by simpa using h
    have hw : IntKind.i64.wrap ((k : Int) + 1) = (k : Int) + 1 := IntWalk.i64_in _ (by omega)
    have hck := hc l[k] (List.getElem_mem hlt)
    have hkl := scopeK_len hc k (by omega)
    have hkl' : (scopeK l k).length ≤ 1000000000 := Nat.le_trans hkl (Nat.le_trans (Nat.mul_le_mul_right _ (by omega : k ≤ 1000)) (by decide))
    simp -dsimp [hlt, Tab.cells]
    generalize hL : scopeK l k = L at hkl' hz ⊢
    refine VL.loop (fun i : KI => ⟨[(17, .c (i64 i.k)), (16, .c (i64 l[k].cols.length)), (15, .c (.sl l[k].nc (l[k].cols.map Col.cells))), (5, .ptr 320 0), (10, .c (i64 k)), (9, .c (i64 l.length)), (8, .c (.sl nl (tabs l))), (3, .own 192 (L ++ colsOf l[k] i.k).length)],
        [(192, some (.arr i.nl i.sz (scols (L ++ colsOf l[k] i.k)) 0)), (320, some (.box false [.c (i64 l[k].id), .c (str l[k].name), .c (.sl l[k].nc (l[k].cols.map Col.cells)), .c (.sl l[k].nk (l[k].keys.map keyc)), .c (bln l[k].ix)]))]⟩)
      (fun i => i.k ≤ l[k].cols.length ∧ RJ 3 i.nl i.sz (L ++ colsOf l[k] i.k)) (fun i => l[k].cols.length - i.k) ⟨0, z, sz⟩ (by kernel_rfl) ⟨by simp, by simpa [colsOf] using hz, hsz⟩ (by simp [St.le, colsOf]) ?_
    intro ⟨j, z2, sz2⟩ ⟨hj, hz2, hsz2⟩
    simp only at hj hz2 hsz2
    have hcl := colsOf_len l[k] j
    simp -dsimp
    refine VIf.mk (fun h2 => ?_) (fun h2 => ?_)
    · have hlt2 : j < l[k].cols.length := by simpa using h2
      have hw2 : IntKind.i64.wrap ((j : Int) + 1) = (j : Int) + 1 := IntWalk.i64_in _ (by omega)
      have hcs := colsOf_step hlt2
      simp -dsimp [hlt2, Col.cells]
      refine ⟨by decide, fun e => by rw [hsz2, e]; rfl, by omega, ⟨j + 1, false, 3⟩, ⟨by simp only; omega, ?_⟩, ?_, by simp only; omega⟩
      · rw [hcs, ← List.append_assoc]; exact RJ.next
      · simp only [hcs]
        simp [St.le, hw2, SCol.cells, Nat.add_assoc]
    · simp at h2
      obtain rfl : j = l[k].cols.length := by omega
      simp -dsimp [hw]
      refine ⟨⟨k + 1, z2, sz2⟩, ⟨by simp only; omega, ?_⟩, ?_, by simp only; omega⟩
      · rw [scopeK_step hlt, hL]; exact ⟨hz2, hsz2⟩
      · simp only [scopeK_step hlt, hL]
        simp [St.le]
  · simp at h
    obtain rfl : k = l.length := by omega
    simp -dsimp
    exact ⟨⟨hz, by rw [hsz, hz]; simp [scopeOf]; rfl, rfl⟩, rfl⟩
end Go.Proofs.Ytkfiiomdkljjnaa
/- Contracts of the document's package 17, part 1: scopes, names, numbers. -/
set_option linter.unusedSimpArgs false
set_option linter.unusedVariables false
namespace Go.Proofs.Ytkfiiomdkljjnaa
open Go.VL Go.RowKit

set_option maxRecDepth 4000 in
set_option maxHeartbeats 16000000 in
theorem refScope_spec (nl : Bool) (l : List Tab) (hl : l.length ≤ 1000) (hc : ∀ t ∈ l, t.cols.length ≤ 1000000) :
    Con Try.prog 50 [.c (.sl nl (tabs l))] [.c (.sl (scopeOf l).isEmpty (scols (scopeOf l)))] := by
  refine Con.frz (rs := [.fr (scopeOf l).isEmpty (if (scopeOf l).isEmpty then 0 else 3) (scols (scopeOf l)) 0]) ?_ 0 rfl
  refine spec_of Try.func50 rfl (by kernel_rfl) (by simp [Try.f50]) (fun w0 K0 => vc_ok _ _ _ (by kernel_rfl) ?_)
  simp only [Try.f50]
  simp -dsimp
  refine VL.loop (fun i : KI => ⟨[(4, .c (i64 i.k)), (0, .c (.sl nl (tabs l))), (3, .own 192 (scopeK l i.k).length)],
      [(192, some (.arr i.nl i.sz (scols (scopeK l i.k)) 0))]⟩)
    (fun i => i.k ≤ l.length ∧ RJ 3 i.nl i.sz (scopeK l i.k)) (fun i => l.length - i.k) ⟨0, true, 0⟩ (by kernel_rfl) ⟨by simp, rfl, rfl⟩ (by simp [St.le, scopeK]) ?_
  intro ⟨k, z, sz⟩ ⟨hk, hz, hsz⟩
  simp only at hk hz hsz
  simp -dsimp
  refine VIf.mk (fun h => ?_) (fun h => ?_)
  · have hlt : k < l.length := by simpa using h
    have hw : IntKind.i64.wrap ((k : Int) + 1) = (k : Int) + 1 := IntWalk.i64_in _ (by omega)
    have hck := hc l[k] (List.getElem_mem hlt)
    have hkl := scopeK_len hc k (by omega)
    have hkl' : (scopeK l k).length ≤ 1000000000 := Nat.le_trans hkl (Nat.le_trans (Nat.mul_le_mul_right _ (by omega : k ≤ 1000)) (by decide))
    simp -dsimp
    generalize hL : scopeK l k = L at hkl' hz ⊢
    refine VL.loop (fun i : KI => ⟨[(5, .c (i64 i.k)), (4, .c (i64 k)), (0, .c (.sl nl (tabs l))), (3, .own 192 (L ++ colsOf l[k] i.k).length)],
        [(192, some (.arr i.nl i.sz (scols (L ++ colsOf l[k] i.k)) 0))]⟩)
      (fun i => i.k ≤ l[k].cols.length ∧ RJ 3 i.nl i.sz (L ++ colsOf l[k] i.k)) (fun i => l[k].cols.length - i.k) ⟨0, z, sz⟩ (by kernel_rfl) ⟨by simp, by simpa [colsOf] using hz, hsz⟩ (by simp [St.le, colsOf]) ?_
    intro ⟨j, z2, sz2⟩ ⟨hj, hz2, hsz2⟩
    simp only at hj hz2 hsz2
    have hcl := colsOf_len l[k] j
    simp -dsimp [hlt, Tab.cells]
    refine VIf.mk (fun h2 => ?_) (fun h2 => ?_)
    · have hlt2 : j < l[k].cols.length := by simpa using h2
      have hw2 : IntKind.i64.wrap ((j : Int) + 1) = (j : Int) + 1 := IntWalk.i64_in _ (by omega)
      have hcs := colsOf_step hlt2
      simp -dsimp [hlt, hlt2, Tab.cells, Col.cells]
      refine VL.draw (by kernel_rfl) [(0, false), (0, false), (0, false), (6, false), (14, false), (30, false), (0, false), (64, false), (0, false), (256, false), (1022, false), (2046, false), (4095, true), (8191, true)] (by kernel_rfl) ?_
      simp -dsimp [hlt, hlt2, Tab.cells, Col.cells, maxLen]
      refine ⟨fun e => by rw [hsz2, e]; rfl, by omega, ⟨j + 1, false, 3⟩, ⟨by simp only; omega, ?_⟩, ?_, by simp only; omega⟩
      · rw [hcs, ← List.append_assoc]; exact RJ.next
      · simp only [hcs]
        simp [St.le, hw2, SCol.cells, Nat.add_assoc]
    · simp at h2
      obtain rfl : j = l[k].cols.length := by omega
      simp -dsimp [hw]
      refine ⟨⟨k + 1, z2, sz2⟩, ⟨by simp only; omega, ?_⟩, ?_, by simp only; omega⟩
      · rw [scopeK_step hlt, hL]; exact ⟨hz2, hsz2⟩
      · simp only [scopeK_step hlt, hL]
        simp [St.le]
  · simp at h
    obtain rfl : k = l.length := by omega
    simp -dsimp
    exact ⟨⟨hz, by rw [hsz, hz]; simp [scopeOf]; rfl, rfl⟩, rfl⟩

def refAt (sc : List SCol) (of name : List UInt8) (k : Nat) : Int := if hitsN sc of name k = 0 then 0 else hitAt sc of name k
def refTab (sc : List SCol) (of : List UInt8) (k : Nat) : Bool := decide (of = []) || decide (tabsN sc of k ≠ 0)

set_option maxRecDepth 4000 in
set_option maxHeartbeats 16000000 in
theorem refFind_spec (nl : Bool) (sc : List SCol) (of name : List UInt8) (hl : sc.length ≤ 1000000000000) :
    Con Try.prog 62 [.c (.sl nl (scols sc)), .c (str of), .c (str name)] [.c (i64 (fdI (findC sc of name))), .c (i64 (fdC (findC sc of name)))] := by
  refine spec_of Try.func62 rfl (by kernel_rfl) (by simp [Try.f62]) (fun w0 K0 => vc_ok _ _ _ (by kernel_rfl) ?_)
  simp only [Try.f62]
  simp -dsimp
  refine VL.loop (fun k : Nat => ⟨[(11, .c (i64 k)), (0, .c (.sl nl (scols sc))), (1, .c (str of)), (2, .c (str name)), (8, .c (bln (refTab sc of k))), (9, .c (i64 (hitsN sc of name k))), (10, .c (i64 (refAt sc of name k)))], []⟩)
    (fun k => k ≤ sc.length) (fun k => sc.length - k) 0 (by kernel_rfl) (by simp) (by simp [St.le, refTab, refAt, hitsN, tabsN]) ?_
  intro k hk
  have hhl : hitsN sc of name k ≤ k := by
    unfold hitsN; refine Nat.le_trans List.countP_le_length ?_; rw [List.length_take]; omega
  simp -dsimp
  refine VIf.mk (fun h => ?_) (fun h => ?_)
  · have hlt : k < sc.length := by simpa using h
    have hw : IntKind.i64.wrap ((k : Int) + 1) = (k : Int) + 1 := IntWalk.i64_in _ (by omega)
    have hw2 : IntKind.i64.wrap ((hitsN sc of name k : Int) + 1) = (hitsN sc of name k : Int) + 1 := IntWalk.i64_in _ (by omega)
    have s1 : tabsN sc of (k + 1) = tabsN sc of k + (if tabOk of sc[k] = true then 1 else 0) := countP_step hlt
    have s2 : hitsN sc of name (k + 1) = hitsN sc of name k + (if hit of name sc[k] = true then 1 else 0) := countP_step hlt
    simp -dsimp [hlt, SCol.cells]
    refine VIf.mk (fun h2 => ?_) (fun h2 => ?_)
    · have ht : tabOk of sc[k] = true := by simp at h2; simp [tabOk, h2]
      have t1 : refTab sc of (k + 1) = true := by simp [refTab, s1, ht]
      simp -dsimp [hlt, SCol.cells]
      refine VIf.mk (fun h3 => ?_) (fun h3 => ?_)
      · have hh : hit of name sc[k] = true := by simp at h3; simp [hit, ht, h3]
        simp -dsimp
        refine VIf.mk (fun h4 => ?_) (fun h4 => ?_)
        · have h5 : hitsN sc of name k = 0 := by simp at h4; omega
          have h6 : refAt sc of name (k + 1) = k := by
            unfold refAt hitAt
            rw [if_neg (by rw [s2, if_pos hh]; omega)]
            exact idxI_snoc hlt h5 hh
          simp -dsimp [hw, hw2]
          refine ⟨k + 1, by omega, ?_, by omega⟩
          simp [St.le, t1, h6, s2, hh]
        · have h5 : ¬ hitsN sc of name k = 0 := by simp at h4; omega
          have h6 : refAt sc of name (k + 1) = refAt sc of name k := by
            unfold refAt hitAt
            rw [if_neg (by rw [s2, if_pos hh]; omega), if_neg h5]
            rw [take_snoc hlt]
            unfold idxI
            rw [List.findIdx?_append]
            have hne : (sc.take k).findIdx? (hit of name) ≠ none := by
              intro e
              rw [List.findIdx?_eq_none_iff] at e
              exact h5 (by unfold hitsN; rw [List.countP_eq_zero]; intro x hx; simp [e x hx])
            cases hf : (sc.take k).findIdx? (hit of name) with
            | none => exact absurd hf hne
            | some i => rfl
          simp -dsimp [hw, hw2]
          refine ⟨k + 1, by omega, ?_, by omega⟩
          simp [St.le, t1, h6, s2, hh]
      · have hh : hit of name sc[k] = false := by simp at h3; simp [hit, h3]
        have h6 : refAt sc of name (k + 1) = refAt sc of name k := by
          unfold refAt hitAt
          rw [idxI_snoc_no hlt hh, s2, hh]; simp
        simp -dsimp [hw]
        refine ⟨k + 1, by omega, ?_, by omega⟩
        simp [St.le, t1, h6, s2, hh]
    · have ht : tabOk of sc[k] = false := by simp at h2; simp [tabOk, h2]
      have hh : hit of name sc[k] = false := by simp [hit, ht]
      have t1 : refTab sc of (k + 1) = refTab sc of k := by simp [refTab, s1, ht]
      have h6 : refAt sc of name (k + 1) = refAt sc of name k := by
        unfold refAt hitAt
        rw [idxI_snoc_no hlt hh, s2, hh]; simp
      simp -dsimp [hw]
      refine ⟨k + 1, by omega, ?_, by omega⟩
      simp [St.le, t1, h6, s2, hh]
  · simp at h
    obtain rfl : k = sc.length := by omega
    have e1 : tabsN sc of sc.length = sc.countP (tabOk of) := by simp [tabsN]
    have e2 : hitsN sc of name sc.length = sc.countP (hit of name) := by simp [hitsN]
    simp -dsimp
    refine VIf.mk (fun h2 => ?_) (fun h2 => ?_)
    · have h3 : 2 ≤ sc.countP (hit of name) := by have h2' := of_decide_eq_true h2; rw [e2] at h2'; omega
      rw [findC_twice h3]
      simp -dsimp
      simp [fdI, fdC]
    · have h3 : sc.countP (hit of name) ≤ 1 := by have h2' := of_decide_eq_false h2; rw [e2] at h2'; omega
      rw [findC_end h3]
      simp -dsimp
      refine VIf.mk (fun h4 => ?_) (fun h4 => ?_)
      · have h5 : of ≠ [] ∧ sc.countP (tabOk of) = 0 := by simpa [refTab, e1] using h4
        rw [if_pos h5]
        simp -dsimp
        simp [fdI, fdC]
      · have h5 : ¬ (of ≠ [] ∧ sc.countP (tabOk of) = 0) := by
          intro e; simp [refTab, e1, e.1, e.2] at h4
        rw [if_neg h5]
        simp -dsimp
        refine VIf.mk (fun h6 => ?_) (fun h6 => ?_)
        · have h7 : sc.countP (hit of name) = 0 := by have h6' := beq_iff_eq.1 h6; rw [e2] at h6'; omega
          rw [if_pos h7]
          simp -dsimp
          simp [fdI, fdC]
        · have h7 : ¬ sc.countP (hit of name) = 0 := by have h6' := beq_eq_false_iff_ne.1 h6; rw [e2] at h6'; omega
          rw [if_neg h7]
          have h8 : ¬ idxI (hit of name) sc < 0 := fun e => h7 (idxI_lt.1 e)
          have h9 : refAt sc of name sc.length = idxI (hit of name) sc := by unfold refAt hitAt; rw [e2, if_neg h7, List.take_length]
          simp -dsimp [h9]
          simp [fdI, fdC]
          omega

set_option maxRecDepth 4000 in
set_option maxHeartbeats 4000000 in
theorem refTruth_spec (b : Bool) : Con Try.prog 63 [.c (bln b)] [.ag (truthV b).cells] := by
  refine spec_of Try.func63 rfl (by kernel_rfl) (by simp [Try.f63]) (fun w0 K0 => vc_ok _ _ _ (by kernel_rfl) ?_)
  simp only [Try.f63]
  simp -dsimp
  refine VIf.mk (fun h => ?_) (fun h => ?_)
  · subst h; simp -dsimp [truthV, Val.cells]
  · subst h; simp -dsimp [truthV, Val.cells]
end Go.Proofs.Ytkfiiomdkljjnaa
/- Contracts of the document's package 17, part 2: sums, differences, products. -/
set_option linter.unusedSimpArgs false
set_option linter.unusedVariables false
namespace Go.Proofs.Ytkfiiomdkljjnaa
open Go.VL Go.RowKit

theorem wrap_in (n : Int) : fits64 (IntKind.i64.wrap n) = true := by
  rw [fits64_iff]
  simp only [IntKind.wrap, IntKind.signed, IntKind.bits]
  simp
  omega
/-- a product fits just if dividing it back does -/
theorem times_fits (a b : Int) (ha : fits64 a = true) (hb : fits64 b = true) (hb0 : b ≠ 0) :
    (IntKind.i64.wrap ((IntKind.i64.wrap (a * b)).tdiv b) = a ∧ (IntKind.i64.wrap (a * b)).tmod b = 0 ∧ ¬ (a = -1 ∧ b = -9223372036854775808) ∧ ¬ (b = -1 ∧ a = -9223372036854775808)) ↔ fits64 (a * b) = true := by
  constructor
  · rintro ⟨h1, h2, h3, h4⟩
    have hn := wrap_in (a * b)
    generalize hN : IntKind.i64.wrap (a * b) = n at h1 h2 hn
    have hmul : b * n.tdiv b = n := by have := Int.mul_tdiv_add_tmod n b; omega
    generalize n.tdiv b = q at h1 hmul
    rw [fits64_iff] at ha hb hn
    -- q is at most as great as n
    by_cases hq : fits64 q = true
    · rw [wrap_fits hq] at h1
      subst h1
      rw [Int.mul_comm, hmul, fits64_iff]; exact hn
    · exfalso
      have hq' : ¬ (-9223372036854775808 ≤ q ∧ q ≤ 9223372036854775807) := by rw [← fits64_iff]; exact hq
      -- then b is -1 and n the least
      have hb1 : b = -1 := by
        rcases (by omega : q < 0 ∨ 0 ≤ q) with hs | hs
        · have hq2 : q ≤ -9223372036854775809 := by omega
          rcases (by omega : b < 0 ∨ 0 < b) with hb2 | hb2
          · have : 9223372036854775809 ≤ b * q := by
              have h5 : (1 : Int) * 9223372036854775809 ≤ (-b) * (-q) := Int.mul_le_mul (by omega) (by omega) (by omega) (by omega)
              rw [Int.neg_mul_neg] at h5; omega
            omega
          · have : 1 * 9223372036854775809 ≤ b * (-q) := Int.mul_le_mul (by omega) (by omega) (by omega) (by omega)
            rw [Int.mul_neg] at this; omega
        · have hq2 : 9223372036854775808 ≤ q := by omega
          rcases (by omega : b < 0 ∨ 0 < b) with hb2 | hb2
          · by_cases hb3 : b = -1
            · exact hb3
            · have : 2 * 9223372036854775808 ≤ (-b) * q := Int.mul_le_mul (by omega) (by omega) (by omega) (by omega)
              rw [Int.neg_mul] at this; omega
          · have : 1 * 9223372036854775808 ≤ b * q := Int.mul_le_mul (by omega) (by omega) (by omega) (by omega)
            omega
      subst hb1
      have hq3 : q = -n := by omega
      have hq4 : q = 9223372036854775808 := by omega
      rw [hq4] at h1
      have : IntKind.i64.wrap 9223372036854775808 = -9223372036854775808 := by decide
      rw [this] at h1
      exact h4 ⟨rfl, h1.symm⟩
  · intro h
    rw [wrap_fits h]
    refine ⟨?_, ?_, ?_, ?_⟩
    · rw [Int.mul_tdiv_cancel _ hb0, wrap_fits ha]
    · exact Int.mul_tmod_left a b
    · rintro ⟨rfl, rfl⟩; rw [fits64_iff] at h; omega
    · rintro ⟨rfl, rfl⟩; rw [fits64_iff] at h; omega

def mulOk (a b : Int) : Bool := fits64 (a * b)

set_option maxRecDepth 4000 in
set_option maxHeartbeats 16000000 in
theorem times_spec (a b : Int) (ha : fits64 a = true) (hb : fits64 b = true) : Con Try.prog 76 [.c (i64 a), .c (i64 b)] [.c (i64 (IntKind.i64.wrap (a * b))), .c (bln (mulOk a b))] := by
  refine spec_of Try.func76 rfl (by kernel_rfl) (by simp [Try.f76]) (fun w0 K0 => vc_ok _ _ _ (by kernel_rfl) ?_)
  simp only [Try.f76]
  simp -dsimp
  refine VIf.mk (fun h => ?_) (fun h => ?_)
  · have h0 : a * b = 0 := by
      simp at h
      rcases h with h | h <;> simp [h]
    simp -dsimp
    rw [mulOk, h0]
    decide
  · have hb0 : b ≠ 0 := by simp at h; exact h.2
    have hk := times_fits a b ha hb hb0
    simp -dsimp [hb0]
    refine ⟨fun h1 h2 => ⟨⟨h1, h2⟩, fun h3 => ⟨⟨h1, h2⟩, h3⟩⟩, fun h1 h2 h3 => ⟨⟨⟨h1, h2⟩, h3⟩, fun h4 => ⟨⟨⟨h1, h2⟩, h3⟩, h4⟩⟩, ?_⟩
    rw [Bool.eq_iff_iff]
    unfold mulOk
    rw [← hk]
    generalize IntKind.i64.wrap ((IntKind.i64.wrap (a * b)).tdiv b) = X
    generalize (IntKind.i64.wrap (a * b)).tmod b = Y
    simp only [Bool.and_eq_true, Bool.or_eq_true, beq_iff_eq, Bool.not_eq_true', beq_eq_false_iff_ne, ne_eq]
    omega
theorem add_cond (a b : Int) (ha : fits64 a = true) (hb : fits64 b = true) : (decide (0 < b) && decide (IntKind.i64.wrap (9223372036854775807 - b) < a) || decide (b < 0) && decide (a < IntKind.i64.wrap (-9223372036854775808 - b))) = !fits64 (a + b) := by
  rw [fits64_iff] at ha hb
  rw [wrap_cases _ (by omega) (by omega), wrap_cases _ (by omega) (by omega), Bool.eq_iff_iff]
  simp only [Bool.or_eq_true, Bool.and_eq_true, decide_eq_true_eq, Bool.not_eq_true', ← Bool.not_eq_true, fits64_iff]
  split <;> split <;> (try split) <;> (try split) <;> omega
theorem sub_cond (a b : Int) (ha : fits64 a = true) (hb : fits64 b = true) : (decide (b < 0) && decide (IntKind.i64.wrap (9223372036854775807 + b) < a) || decide (0 < b) && decide (a < IntKind.i64.wrap (-9223372036854775808 + b))) = !fits64 (a - b) := by
  rw [fits64_iff] at ha hb
  rw [wrap_cases _ (by omega) (by omega), wrap_cases _ (by omega) (by omega), Bool.eq_iff_iff]
  simp only [Bool.or_eq_true, Bool.and_eq_true, decide_eq_true_eq, Bool.not_eq_true', ← Bool.not_eq_true, fits64_iff]
  split <;> split <;> (try split) <;> (try split) <;> omega

set_option maxRecDepth 4000 in
set_option maxHeartbeats 16000000 in
theorem refNumber_spec (op : List UInt8) (hop : op = wADD ∨ op = wSUB ∨ op = wMUL) (a b : Int) (ha : fits64 a = true) (hb : fits64 b = true) :
    Con Try.prog 64 [.c (str op), .c (i64 a), .c (i64 b)] [.ag (evV (arithV op a b)).cells, .c (i64 (evC (arithV op a b)))] := by
  have ht := times_spec a b ha hb
  have hr : arithV op a b = if fits64 (arithI op a b) = true then .ok (numV (arithI op a b)) else .no 171 := rfl
  refine spec_of Try.func64 rfl (by kernel_rfl) (by simp [Try.f64]) (fun w0 K0 => vc_ok _ _ _ (by kernel_rfl) ?_)
  simp only [Try.f64]
  rcases hop with rfl | rfl | rfl
  · have e : arithI wADD a b = a + b := by simp [arithI]
    rw [hr, e]
    simp -dsimp
    refine ⟨fun h => ⟨h, fun h2 => ⟨h, h2⟩⟩, fun h => ?_, ?_⟩
    · by_cases h0 : 0 < b
      · exact .inr (h h0)
      · exact .inl (by omega)
    · rw [add_cond a b ha hb]
      cases hf : fits64 (a + b) with
      | true =>
        simp -dsimp [wrap_fits hf, evV, evC, numV, Val.cells]
      | false =>
        simp -dsimp [evV, evC, Val.cells]
  · have e : arithI wSUB a b = a - b := by simp [arithI]
    rw [hr, e]
    simp -dsimp
    refine ⟨fun h => ⟨h, fun h2 => ⟨h, h2⟩⟩, fun h => ?_, ?_⟩
    · by_cases h0 : b < 0
      · exact .inr (h h0)
      · exact .inl (by omega)
    · rw [sub_cond a b ha hb]
      cases hf : fits64 (a - b) with
      | true =>
        simp -dsimp [wrap_fits hf, evV, evC, numV, Val.cells]
      | false =>
        simp -dsimp [evV, evC, Val.cells]
  · have e : arithI wMUL a b = a * b := by simp [arithI]
    rw [hr, e]
    simp -dsimp
    refine VC.mk _ ht ?_
    have hm : mulOk a b = fits64 (a * b) := rfl
    rw [hm]
    cases hf : fits64 (a * b) with
    | true =>
      simp -dsimp [wrap_fits hf, evV, evC, numV, Val.cells]
    | false =>
      simp -dsimp [evV, evC, Val.cells]
end Go.Proofs.Ytkfiiomdkljjnaa
