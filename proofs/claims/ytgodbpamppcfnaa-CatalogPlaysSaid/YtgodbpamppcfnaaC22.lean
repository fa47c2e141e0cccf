/- Contracts of functions of the seat, proved in a logic on data over the model (part C22). -/
import Derived.Test.YtgodbpamppcfnaaC21
import Derived.Test.YtgodbpamppcfnaaC13
set_option linter.unusedSimpArgs false
set_option linter.unusedVariables false
namespace Go.Proofs.Ytgodbpamppcfnaa
open Go.VL Go.RowKit

@[simp] theorem ft_eqT_44 : eqT Try.prog 44 = some [.i, .i, .s] := by kernel_rfl
theorem rowRef_at (cs : List C) (t : Tab) (h : cs = t.cells) (hc : t.cols.length ≤ 800000000000) (hk : t.keys.length ≤ 800000000000) : Con Try.prog 19 [.agg cs] [.fr false 3 ((rowOf t).map Val.cells) 0] := by rw [h]; exact rowRef_spec t hc hk
theorem checkRef_at (cs : List C) (t : Tab) (h : cs = t.cells) (hc : t.cols.length ≤ 8000000000000) (hk0 : t.keys.length ≤ 140737488355328) : Con Try.prog 15 [.agg cs] [.c (i64 (chk t))] := by rw [h]; exact checkRef_spec t hc hk0

instance : DecidableEq Val := fun a b => decidable_of_iff (a.kind = b.kind ∧ a.int = b.int ∧ a.text = b.text) ⟨fun h => by cases a; cases b; simp at h; simp [h], fun h => by rw [h]; simp⟩
/-- is the i-th column's kind off? -/
def offC (r : List Val) (i : Nat) : Bool := decide ((r[2 * i + 1]!).int < 0) || decide (9 < (r[2 * i + 1]!).int)
def refOf : List Val → Tab × Int
  | a :: b :: c :: d :: r =>
    if d.int < 0 ∨ 8 < d.int ∨ r.length < 2 * d.int.toNat then (noTab, 31)
    else if a.int < 1 ∨ 16 < a.int then (noTab, 31)
    else if ∃ i, i < d.int.toNat ∧ offC r i = true then (noTab, 31)
    else if rowOf (tabOf a b c d r) ≠ a :: b :: c :: d :: r then (noTab, 31)
    else if chk (tabOf a b c d r) ≠ 0 then (noTab, 31) else (tabOf a b c d r, 0)
  | _ => (noTab, 31)

set_option maxRecDepth 4000 in
set_option maxHeartbeats 8000000 in
theorem readRef_short (nl : Bool) (row : List Val) (hl : row.length < 4) :
    Con Try.prog 20 [.c (.sl nl (row.map Val.cells))] [.ag noTab.cells, .c (i64 31)] := by
  refine spec_of Try.func20 rfl (by kernel_rfl) (by simp [Try.f20]) (fun w0 K0 => vc_ok _ _ _ (by kernel_rfl) ?_)
  simp only [Try.f20]
  match row, hl with
  | [], _ =>
    simp -dsimp
    simp -dsimp [noTab, Tab.cells]
  | [a], _ =>
    simp -dsimp [Val.cells]
    simp -dsimp [noTab, Tab.cells]
  | [a, b], _ =>
    simp -dsimp [Val.cells]
    simp -dsimp [noTab, Tab.cells]
  | [a, b, c], _ =>
    simp -dsimp [Val.cells]
    simp -dsimp [noTab, Tab.cells]

set_option maxRecDepth 4000 in
set_option maxHeartbeats 8000000 in
theorem readRef_long (nl : Bool) (a b c d : Val) (r : List Val) (hl : r.length ≤ 140737488355) :
    Con Try.prog 20 [.c (.sl nl ((a :: b :: c :: d :: r).map Val.cells))] [.ag (refOf (a :: b :: c :: d :: r)).1.cells, .c (i64 (refOf (a :: b :: c :: d :: r)).2)] := by
  refine spec_of Try.func20 rfl (by kernel_rfl) (by simp [Try.f20]) (fun w0 K0 => vc_ok _ _ _ (by kernel_rfl) ?_)
  simp only [Try.f20]
  have h4' : ((r.length : Int) + 1 + 1 + 1 + 1 < 4) = False := eq_false (by omega)
  by_cases g1 : d.int < 0
  · have e : refOf (a :: b :: c :: d :: r) = (noTab, 31) := by rw [refOf, if_pos (Or.inl g1)]
    simp -dsimp [h4', Val.cells, g1, e]
    rfl
  · by_cases g2 : 8 < d.int
    · have e : refOf (a :: b :: c :: d :: r) = (noTab, 31) := by rw [refOf, if_pos (Or.inr (Or.inl g2))]
      simp -dsimp [h4', Val.cells, g1, g2, e]
      rfl
    · obtain ⟨n, hn⟩ : ∃ n : Nat, d.int = n := ⟨d.int.toNat, by omega⟩
      have hn8 : n ≤ 8 := by omega
      have hw2 : IntKind.i64.wrap (2 * (n : Int)) = 2 * (n : Int) := IntWalk.i64_in _ (by omega)
      have hw4 : IntKind.i64.wrap (4 + 2 * (n : Int)) = 4 + 2 * (n : Int) := IntWalk.i64_in _ (by omega)
      have hd : d.cells = [i64 d.kind, i64 n, str d.text] := by rw [Val.cells, hn]
      have g1' : ((n : Int) < 0) = False := eq_false (by omega)
      have g2' : (8 < (n : Int)) = False := eq_false (by omega)
      by_cases g3 : r.length < 2 * n
      · have g3' : ((r.length : Int) + 1 + 1 + 1 + 1 < 4 + 2 * (n : Int)) = True := eq_true (by omega)
        have e : refOf (a :: b :: c :: d :: r) = (noTab, 31) := by rw [refOf, if_pos (Or.inr (Or.inr (by rw [hn]; simpa using g3)))]
        simp -dsimp [h4', hd, g1', g2', g3', hw2, hw4, e]
        rfl
      · have g3' : ((r.length : Int) + 1 + 1 + 1 + 1 < 4 + 2 * (n : Int)) = False := eq_false (by omega)
        have ha : a.cells = [i64 a.kind, i64 a.int, str a.text] := rfl
        have hb : b.cells = [i64 b.kind, i64 b.int, str b.text] := rfl
        have hcc : c.cells = [i64 c.kind, i64 c.int, str c.text] := rfl
        simp -dsimp [h4', ha, hb, hcc, hd, g1', g2', g3', hw2, hw4]
        refine VIf.mk (fun h => ?_) (fun h => ?_)
        · have h' : a.int < 1 ∨ 16 < a.int := by simp only [Bool.or_eq_true, decide_eq_true_eq] at h; omega
          have e : refOf (a :: b :: c :: d :: r) = (noTab, 31) := by rw [refOf, if_neg (by rw [hn]; simp only [Int.toNat_natCast]; omega), if_pos h']
          simp -dsimp [e]
          rfl
        · have ha16 : ¬ (a.int < 1 ∨ 16 < a.int) := by simp only [Bool.or_eq_false_iff, decide_eq_false_iff_not] at h; omega
          simp -dsimp
          refine VL.to ⟨[(0, .c (.sl nl (a.cells :: b.cells :: c.cells :: d.cells :: r.map Val.cells))), (2, .ptr 128 0), (3, .c (i64 0))],
            [(128, some (.box false [.c (i64 0), .c (str []), .own 131 0, .own 132 0, .c (bln false)])), (132, some (.arr true 0 [] 0)), (131, some (.arr true 0 [] 0))]⟩ (by simp [St.le, ha, hb, hcc, hd]) ?_
          refine VL.draw (by kernel_rfl) [(0, false), (1, false), (3, false), (7, false), (0, false), (16, false), (48, false), (112, false), (0, false), (256, false), (768, false), (1792, false), (3840, false), (8191, false), (0, false), (32767, true)] (by kernel_rfl) ?_
          simp -dsimp [ha, hb, hcc, hd]
          refine ⟨by simp [Value.cells], ?_⟩
          refine VL.nilcell 256 2 300 (by decide) ?_
          simp -dsimp
          refine VL.nilcell 256 3 301 (by decide) ?_
          simp -dsimp
          have hdn : d.int.toNat = n := by omega
          have eb : refOf (a :: b :: c :: d :: r) = if ∃ i, i < n ∧ offC r i = true then (noTab, 31)
              else if rowOf (tabOf a b c d r) ≠ a :: b :: c :: d :: r then (noTab, 31)
              else if chk (tabOf a b c d r) ≠ 0 then (noTab, 31) else (tabOf a b c d r, 0) := by
            rw [refOf, if_neg (by rw [hdn]; omega), if_neg ha16, hdn]
          obtain ⟨row, hrow⟩ : ∃ row, row = a :: b :: c :: d :: r := ⟨_, rfl⟩
          have hrl : row.length = r.length + 4 := by rw [hrow]; simp
          have hr3 : ∀ h : 3 < row.length, row[3]'h = d := by subst hrow; intro h; rfl
          have hx0 : ∀ k, (h : 2 * k < r.length) → ∃ h' : 4 + 2 * k < row.length, row[4 + 2 * k] = r[2 * k] := fun k h => by
            subst hrow
            refine ⟨by simp; omega, ?_⟩
            have : 4 + 2 * k = 2 * k + 1 + 1 + 1 + 1 := by omega
            simp only [this, List.getElem_cons_succ]
          have hx1 : ∀ k, (h : 2 * k + 1 < r.length) → ∃ h' : 4 + 2 * k + 1 < row.length, row[4 + 2 * k + 1] = r[2 * k + 1] := fun k h => by
            subst hrow
            refine ⟨by simp; omega, ?_⟩
            have : 4 + 2 * k + 1 = 2 * k + 1 + 1 + 1 + 1 + 1 := by omega
            simp only [this, List.getElem_cons_succ]
          refine VL.loop (fun i : LI => ⟨[(6, .c (i64 i.k)), (5, .c (i64 (4 + 2 * (i.k : Int)))), (0, .c (.sl nl (row.map Val.cells))), (2, .ptr 128 0), (3, .c (i64 0)), (4, .ptr 256 0)],
            [(256, some (.box false [.c (i64 a.int), .c (str b.text), .own 300 i.k, .own 301 0, .c (bln (c.int == 1))])), (300, some (.arr i.nl i.sz (((colsOf r n).take i.k).map Col.cells) 0)), (301, some (.arr true 0 [] 0)),
             (128, some (.box false [.c (i64 0), .c (str []), .own 131 0, .own 132 0, .c (bln false)])), (132, some (.arr true 0 [] 0)), (131, some (.arr true 0 [] 0))]⟩)
            (fun i => i.k ≤ n ∧ i.nl = (i.k == 0) ∧ (i.nl = false → i.sz = 2) ∧ ∀ j, j < i.k → offC r j = false) (fun i => n - i.k) ⟨0, true, 0⟩ (by kernel_rfl) (by simp) (by simp [St.le, hrow, ha, hb, hcc, hd]) ?_
          intro ⟨k, z, sz⟩ ⟨hk, hz, hsz, hoffs⟩
          simp at hk hz hsz hoffs
          have hmin : min k n = k := by omega
          simp -dsimp [hrl, hr3, hd]
          refine VIf.mk (fun g => ?_) (fun g => ?_)
          · have hlt : k < n := by simpa using g
            have hw5 : IntKind.i64.wrap (4 + 2 * (k : Int) + 1) = 4 + 2 * (k : Int) + 1 := IntWalk.i64_in _ (by omega)
            have hw6 : IntKind.i64.wrap (4 + 2 * (k : Int) + 2) = 4 + 2 * (k : Int) + 2 := IntWalk.i64_in _ (by omega)
            have hw7 : IntKind.i64.wrap ((k : Int) + 1) = (k : Int) + 1 := IntWalk.i64_in _ (by omega)
            have ht5 : (4 + 2 * (k : Int) + 1).toNat = 4 + 2 * k + 1 := by omega
            have ht6 : (4 + 2 * (k : Int)).toNat = 4 + 2 * k := by omega
            obtain ⟨q0, e0⟩ := hx0 k (by omega)
            obtain ⟨q1, e1⟩ := hx1 k (by omega)
            have f0 : row[4 + 2 * k]? = some r[2 * k] := by rw [List.getElem?_eq_getElem q0, e0]
            have f1 : row[4 + 2 * k + 1]? = some r[2 * k + 1] := by rw [List.getElem?_eq_getElem q1, e1]
            have b0 : 2 * k < r.length := by omega
            have b1 : 2 * k + 1 < r.length := by omega
            simp -dsimp [hrl, hw5, ht5, ht6, f0, f1, Val.cells]
            have ho : offC r k = (decide (r[2 * k + 1].int < 0) || decide (9 < r[2 * k + 1].int)) := by
              unfold offC; rw [getElem!_pos r (2 * k + 1) b1]
            refine ⟨⟨by omega, by omega⟩, fun _ => ⟨by omega, by omega⟩, ?_⟩
            rw [← ho]
            refine VIf.mk (fun h9 => ?_) (fun h9 => ?_)
            · have e : refOf (a :: b :: c :: d :: r) = (noTab, 31) := by rw [eb, if_pos ⟨k, hlt, h9⟩]
              simp -dsimp [e]
              rfl
            · simp -dsimp
              refine VL.draw (by kernel_rfl) [(0, false), (1, false), (0, false), (0, false), (12, false), (28, false), (60, false), (0, false), (0, false), (256, false), (896, false), (1920, false), (3968, false), (8188, false), (16380, false), (32767, true), (65535, true), (131071, true)] (by kernel_rfl) ?_
              simp -dsimp [hrl, hw5, hw6, hw7, ht5, ht6, f0, f1, Val.cells, hmin, maxLen]
              refine ⟨⟨by omega, by omega⟩, ⟨by omega, by omega⟩, hsz, by omega, ⟨k + 1, false, 2⟩, ⟨by simp only; omega, by simp, by simp, fun j hj => ?_⟩, ?_, by simp only; omega⟩
              · by_cases hjk : j = k
                · rw [hjk]; exact h9
                · exact hoffs j (by simp only at hj; omega)
              · have e : List.take (k + 1) (List.map Col.cells (colsOf r n)) = List.take k (List.map Col.cells (colsOf r n)) ++ [[str r[2 * k].text, i64 r[2 * k + 1].int]] := by
                  rw [List.take_add_one, List.getElem?_map]
                  simp [colsOf, hlt, Col.cells, b0, b1]
                have e4 : (4 : Int) + 2 * k + 2 = 4 + 2 * (k + 1) := by omega
                simp [St.le, e4]
                exact e.symm
          · simp at g
            obtain rfl : k = n := by omega
            have e1 : List.take k (List.map Col.cells (colsOf r k)) = List.map Col.cells (colsOf r k) := List.take_of_length_le (by simp)
            have eb2 : refOf (a :: b :: c :: d :: r) = if rowOf (tabOf a b c d r) ≠ a :: b :: c :: d :: r then (noTab, 31)
              else if chk (tabOf a b c d r) ≠ 0 then (noTab, 31) else (tabOf a b c d r, 0) := by
              rw [eb, if_neg]
              rintro ⟨i, hi, hi2⟩
              rw [hoffs i hi] at hi2
              cases hi2
            have hx2 : ∀ m, (h : 2 * k + m < r.length) → ∃ h' : 4 + 2 * k + m < row.length, row[4 + 2 * k + m] = r[2 * k + m] := fun m h => by
              subst hrow
              refine ⟨by simp; omega, ?_⟩
              have : 4 + 2 * k + m = 2 * k + m + 1 + 1 + 1 + 1 := by omega
              simp only [this, List.getElem_cons_succ]
            simp -dsimp [e1]
            refine VL.loop (fun i : LI => ⟨[(5, .c (i64 (4 + 2 * (k : Int) + i.k))), (0, .c (.sl nl (row.map Val.cells))), (2, .ptr 128 0), (3, .c (i64 0)), (4, .ptr 256 0)],
              [(256, some (.box false [.c (i64 a.int), .c (str b.text), .own 300 k, .own 301 i.k, .c (bln (c.int == 1))])), (300, some (.arr z sz ((colsOf r k).map Col.cells) 0)), (301, some (.arr i.nl i.sz (((keysOf r k).take i.k).map keyc) 0)),
               (128, some (.box false [.c (i64 0), .c (str []), .own 131 0, .own 132 0, .c (bln false)])), (132, some (.arr true 0 [] 0)), (131, some (.arr true 0 [] 0))]⟩)
              (fun i => i.k ≤ r.length - 2 * k ∧ i.nl = (i.k == 0) ∧ (i.nl = false → i.sz = 1)) (fun i => r.length - 2 * k - i.k) ⟨0, true, 0⟩ (by kernel_rfl) (by simp) (by simp [St.le]) ?_
            intro ⟨m, z2, sz2⟩ ⟨hm, hz2, hsz2⟩
            simp at hm hz2 hsz2
            have hklen : (keysOf r k).length = r.length - 2 * k := by simp [keysOf]
            have hmin2 : min m (keysOf r k).length = m := by omega
            simp -dsimp [hrl]
            refine VIf.mk (fun g4 => ?_) (fun g4 => ?_)
            · have hlt : 2 * k + m < r.length := by simp at g4; omega
              obtain ⟨q2, e2⟩ := hx2 m hlt
              have f2 : row[4 + 2 * k + m]? = some r[2 * k + m] := by rw [List.getElem?_eq_getElem q2, e2]
              have hw : IntKind.i64.wrap (4 + 2 * (k : Int) + m + 1) = 4 + 2 * (k : Int) + m + 1 := IntWalk.i64_in _ (by omega)
              have ht : (4 + 2 * (k : Int) + m).toNat = 4 + 2 * k + m := by omega
              simp -dsimp
              refine VL.draw (by kernel_rfl) [(0, false), (1, false), (0, false), (0, false), (12, false), (28, false), (60, false), (124, false), (255, true), (511, true), (1023, true)] (by kernel_rfl) ?_
              simp -dsimp [hrl, hw, ht, f2, Val.cells, hmin2, maxLen]
              refine ⟨⟨by omega, by omega⟩, hsz2, by omega, ⟨m + 1, false, 1⟩, ⟨by simp only; omega, by simp, by simp⟩, ?_, by simp only; omega⟩
              have e : List.take (m + 1) (List.map keyc (keysOf r k)) = List.take m (List.map keyc (keysOf r k)) ++ [[str r[2 * k + m].text]] := by
                rw [List.take_add_one, List.getElem?_map]
                simp [keysOf, hlt, keyc]
              have e4 : (4 : Int) + 2 * k + m + 1 = 4 + 2 * k + (m + 1) := by omega
              simp [St.le, e4]
              exact e.symm
            · have hme : m = r.length - 2 * k := by simp at g4; omega
              subst hme
              have e2 : List.take (r.length - 2 * k) (List.map keyc (keysOf r k)) = List.map keyc (keysOf r k) := List.take_of_length_le (by simp [hklen])
              have hz3 : (d.int == 0) = z := by rw [hz, hn, Bool.eq_iff_iff]; simp
              have hz4 : (r.drop (2 * k)).isEmpty = z2 := by
                rw [hz2, Bool.eq_iff_iff]; simp; omega
              have hcells : (tabOf a b c d r).cells = [i64 a.int, str b.text, .sl z ((colsOf r k).map Col.cells), .sl z2 ((keysOf r k).map keyc), bln (c.int == 1)] := by
                simp only [tabOf, Tab.cells, hdn, hz3, hz4]
              have hcl : (tabOf a b c d r).cols.length = k := by simp [tabOf, hdn]
              have hkl : (tabOf a b c d r).keys.length = r.length - 2 * k := by simp [tabOf, hdn, hklen]
              simp -dsimp [e2]
              refine ⟨hklen, ?_⟩
              refine VC.mk _ (rowRef_at _ (tabOf a b c d r) hcells.symm (by omega) (by omega)) ?_
              simp -dsimp
              refine VL.snap 7 ?_
              simp -dsimp
              obtain ⟨bk, hbk⟩ : ∃ bk, bk = rowOf (tabOf a b c d r) := ⟨_, rfl⟩
              have hbl : bk.length = row.length := by rw [hbk, rowOf_len, hrl]; omega
              rw [← hbk]
              refine VL.loop (fun j : Nat => ⟨[(8, .c (i64 j)), (7, .c (.sl false (bk.map Val.cells))), (0, .c (.sl nl (row.map Val.cells))), (2, .ptr 128 0), (3, .c (i64 0)), (4, .ptr 256 0)],
                [(256, some (.box false [.c (i64 a.int), .c (str b.text), .own 300 k, .own 301 (r.length - 2 * k), .c (bln (c.int == 1))])), (300, some (.arr z sz ((colsOf r k).map Col.cells) k)), (301, some (.arr z2 sz2 ((keysOf r k).map keyc) (r.length - 2 * k))),
                 (128, some (.box false [.c (i64 0), .c (str []), .own 131 0, .own 132 0, .c (bln false)])), (132, some (.arr true 0 [] 0)), (131, some (.arr true 0 [] 0))]⟩)
                (fun j => j ≤ row.length ∧ bk.take j = row.take j) (fun j => row.length - j) 0 (by kernel_rfl) (by simp) (by simp [St.le, hklen]) ?_
              intro j ⟨hj, heq⟩
              simp -dsimp
              refine VIf.mk (fun g5 => ?_) (fun g5 => ?_)
              · have hlt : j < row.length := by simpa using g5
                have hlt' : j < bk.length := by omega
                have hw : IntKind.i64.wrap ((j : Int) + 1) = (j : Int) + 1 := IntWalk.i64_in _ (by omega)
                simp -dsimp
                refine VL.draw (by kernel_rfl) [(0, false), (0, false), (3, false), (7, false), (0, false), (0, false), (48, false), (112, false), (255, true)] (by kernel_rfl) ?_
                simp -dsimp [hlt, hlt', Val.cells]
                refine VIf.mk (fun g6 => ?_) (fun g6 => ?_)
                · have hne : bk ≠ row := fun e => by
                    have : bk[j] = row[j] := by simp only [e]
                    rw [this] at g6
                    simp at g6
                  have e : refOf (a :: b :: c :: d :: r) = (noTab, 31) := by rw [eb2, if_pos (by rw [← hbk, ← hrow]; exact hne)]
                  simp -dsimp [e]
                  rfl
                · simp at g6
                  have hc : bk[j] = row[j] := by
                    cases hx : bk[j]; cases hy : row[j]
                    rw [hx, hy] at g6; simp at g6; simp [g6]
                  simp -dsimp [hw]
                  refine ⟨j + 1, ⟨by omega, take_step hlt' hlt heq hc⟩, ?_, by omega⟩
                  simp [St.le]
              · simp at g5
                obtain rfl : j = row.length := by omega
                have hbe : bk = row := by
                  have := heq
                  rw [List.take_of_length_le (by omega), List.take_of_length_le (by omega)] at this
                  exact this
                have eb3 : refOf (a :: b :: c :: d :: r) = if chk (tabOf a b c d r) ≠ 0 then (noTab, 31) else (tabOf a b c d r, 0) := by
                  rw [eb2, if_neg (by rw [← hbk, ← hrow, hbe]; simp)]
                simp -dsimp
                refine ⟨hklen, ?_⟩
                refine VC.mk _ (checkRef_at _ (tabOf a b c d r) hcells.symm (by omega) (by omega)) ?_
                simp -dsimp
                refine VIf.mk (fun g7 => ?_) (fun g7 => ?_)
                · have hne : chk (tabOf a b c d r) ≠ 0 := by simpa using g7
                  have e : refOf (a :: b :: c :: d :: r) = (noTab, 31) := by rw [eb3, if_pos hne]
                  simp -dsimp [e]
                  rfl
                · have he : chk (tabOf a b c d r) = 0 := by simpa using g7
                  have e : refOf (a :: b :: c :: d :: r) = (tabOf a b c d r, 0) := by rw [eb3, if_neg (by simp [he])]
                  simp -dsimp [e]
                  refine ⟨hklen, ?_⟩
                  exact hcells.symm
/-- the document's Read, of every row -/
theorem readRef_spec (nl : Bool) (row : List Val) (hl : row.length ≤ 140737488355) : Con Try.prog 20 [.c (.sl nl (row.map Val.cells))] [.ag (refOf row).1.cells, .c (i64 (refOf row).2)] := by
  match row, hl with
  | [], _ => exact readRef_short nl [] (by simp)
  | [a], _ => exact readRef_short nl [a] (by simp)
  | [a, b], _ => exact readRef_short nl [a, b] (by simp)
  | [a, b, c], _ => exact readRef_short nl [a, b, c] (by simp)
  | a :: b :: c :: d :: r, hl => exact readRef_long nl a b c d r (by simp at hl; omega)
end Go.Proofs.Ytgodbpamppcfnaa
