/- Contracts of functions of the seat, proved in a logic on data over the model (part C6). -/
import Derived.Test.YtgodbpamppcfnaaC5
set_option linter.unusedSimpArgs false
set_option linter.unusedVariables false
namespace Go.Proofs.Ytgodbpamppcfnaa
open Go.VL Go.RowKit

theorem check_at (cs : List C) (t : Tab) (h : cs = t.cells) (hc : t.cols.length ≤ 8000000000000) (hk0 : t.keys.length ≤ 140737488355328) : Con Try.prog 12 [.agg cs] [.c (i64 (chk t))] := by rw [h]; exact check_spec t hc hk0

set_option maxRecDepth 4000 in
set_option maxHeartbeats 8000000 in
theorem read_long (nl : Bool) (a b c d : Val) (r : List Val) (hl : r.length ≤ 140737488355) :
    Con Try.prog 10 [.c (.sl nl ((a :: b :: c :: d :: r).map Val.cells))] [.ag (readOf (a :: b :: c :: d :: r)).1.cells, .c (i64 (readOf (a :: b :: c :: d :: r)).2)] := by
  refine spec_of Try.func10 rfl (by kernel_rfl) (by simp [Try.f10]) (fun w0 K0 => vc_ok _ _ _ (by kernel_rfl) ?_)
  simp only [Try.f10]
  have h4' : ((r.length : Int) + 1 + 1 + 1 + 1 < 4) = False := eq_false (by omega)
  simp -dsimp [h4', Val.cells]
  refine ⟨by omega, by decide, ?_⟩
  refine VGL.call (args := [.tmp 17, .tmp 18]) _ _ _ _ _ ?_ ?_ ?_ ?_
  · rfl
  · rfl
  · rfl
  simp -dsimp
  refine VCL.snap ?_
  simp -dsimp
  refine VC.mk _ (kinds_at nl false _ _ [a, b, c, d] [1, 2, 1, 1] rfl rfl (by simp) (by simp) (by simp)) ?_
  simp -dsimp
  refine VIf.mk (fun h => ?_) (fun h => ?_)
  · simp -dsimp
    simp only [readOf, headOff, h, if_true]
    simp -dsimp [noTab, Tab.cells]
  · have hoff : headOff a b c d = false := h
    have hb : ¬ a.int < 1 ∧ ¬ 16 < a.int ∧ ¬ c.int < 0 ∧ ¬ 1 < c.int ∧ ¬ d.int < 0 ∧ ¬ 8 < d.int := by
      simp at h
      omega
    obtain ⟨n, hn⟩ : ∃ n : Nat, d.int = n := ⟨d.int.toNat, by omega⟩
    have hn8 : n ≤ 8 := by omega
    have hw2 : IntKind.i64.wrap (2 * (n : Int)) = 2 * (n : Int) := IntWalk.i64_in _ (by omega)
    have hd : d.cells = [i64 d.kind, i64 n, str d.text] := by rw [Val.cells, hn]
    simp -dsimp
    refine VL.to ⟨[(0, .c (.sl nl (a.cells :: b.cells :: c.cells :: d.cells :: r.map Val.cells))), (2, .ptr 128 0), (4, .ptr 256 0), (5, .c (.fn 29 []))],
      [(256, some (.box false [.c (i64 0), .c (str []), .own 259 0, .own 260 0, .c (bln false)])), (260, some (.arr true 0 [] 0)), (259, some (.arr true 0 [] 0)),
       (128, some (.box false [.c (i64 0), .c (str []), .own 131 0, .own 132 0, .c (bln false)])), (132, some (.arr true 0 [] 0)), (131, some (.arr true 0 [] 0))]⟩ (by simp [St.le, Val.cells, hn]) ?_
    refine VL.draw (by kernel_rfl) [(0, false), (1, false), (0, false), (4, false), (12, false), (28, false), (3, false), (127, true)] (by kernel_rfl) ?_
    simp -dsimp [hd]
    have ht : ((r.length : Int) + 1 + 1 + 1 + 1).toNat = r.length + 4 := by omega
    have ht2 : (2 * (n : Int)).toNat = 2 * n := by omega
    have htk : List.take r.length (r.map Val.cells) = r.map Val.cells := List.take_of_length_le (by simp)
    by_cases h5 : r.length < 2 * n
    · have h5' : ((r.length : Int) < 2 * (n : Int)) = True := eq_true (by omega)
      simp -dsimp [hw2, h5', ht, ht2, htk]
      refine ⟨by omega, fun h => ⟨by omega, h⟩, ?_⟩
      refine VG.mk [.c (bln false)] _ (fun h => Bool.noConfusion h) rfl ?_
      simp -dsimp [hw2, ht2]
      refine VG.mk [.c (bln false)] _ (fun h => Bool.noConfusion h) rfl ?_
      simp -dsimp
      have e : readOf (a :: b :: c :: d :: r) = (noTab, 31) := by
        simp only [readOf, hoff]
        rw [if_neg (by simp), if_pos (by left; omega)]
      rw [e]
      exact ⟨rfl, rfl⟩
    · have h5' : ((r.length : Int) < 2 * (n : Int)) = False := eq_false (by omega)
      simp -dsimp [hw2, h5', ht, ht2, htk]
      refine ⟨by omega, fun h => ⟨by omega, h⟩, by decide, ?_⟩
      refine VGL.call (args := [.tmp 81, .tmp 82]) _ _ _ _ _ ?_ ?_ ?_ ?_
      · rfl
      · rfl
      · rfl
      simp -dsimp
      refine VCL.snap ?_
      simp -dsimp
      refine VC.mk _ (kinds_at nl false _ _ (r.take (2 * n)) [2, 1] (by simp) rfl (by simp; omega) (by simp) (by simp)) ?_
      cases hk1 : kindsOk (r.take (2 * n)) [2, 1]
      · simp -dsimp [hw2, ht2]
        refine VG.mk [.c (bln false)] _ (fun h => Bool.noConfusion h) rfl ?_
        simp -dsimp
        have e : readOf (a :: b :: c :: d :: r) = (noTab, 31) := by
          simp only [readOf, hoff]
          rw [if_neg (by simp), if_pos (by right; left; rw [show d.int.toNat = n by omega]; exact hk1)]
        rw [e]
        exact ⟨rfl, rfl⟩
      · simp -dsimp [hw2, ht2]
        refine ⟨by omega, by decide, ?_⟩
        refine VGL.call (args := [.tmp 91, .tmp 92]) _ _ _ _ _ ?_ ?_ ?_ ?_
        · rfl
        · rfl
        · rfl
        simp -dsimp
        refine VCL.snap ?_
        simp -dsimp
        refine VC.mk _ (kinds_at nl false _ _ (r.drop (2 * n)) [2] (by simp) rfl (by simp; omega) (by simp) (by simp)) ?_
        cases hk2 : kindsOk (r.drop (2 * n)) [2]
        · simp -dsimp [hw2, ht2]
          have e : readOf (a :: b :: c :: d :: r) = (noTab, 31) := by
            simp only [readOf, hoff]
            rw [if_neg (by simp), if_pos (by right; right; rw [show d.int.toNat = n by omega]; exact hk2)]
          rw [e]
          exact ⟨rfl, rfl⟩
        · simp -dsimp [hw2, ht2]
          refine VL.to ⟨[(0, .c (.sl nl (a.cells :: b.cells :: c.cells :: d.cells :: r.map Val.cells))), (2, .ptr 128 0), (4, .ptr 256 0), (6, .c (.sl nl (r.map Val.cells))), (7, .c (i64 n))],
            [(256, some (.box false [.c (i64 0), .c (str []), .own 259 0, .own 260 0, .c (bln false)])), (260, some (.arr true 0 [] 0)), (259, some (.arr true 0 [] 0)),
             (128, some (.box false [.c (i64 0), .c (str []), .own 131 0, .own 132 0, .c (bln false)])), (132, some (.arr true 0 [] 0)), (131, some (.arr true 0 [] 0))]⟩ (by simp [St.le, Val.cells, hn]) ?_
          refine VL.draw (by kernel_rfl) [(0, false), (1, false), (3, false), (7, false), (0, false), (16, false), (48, false), (112, false), (0, false), (256, false), (768, false), (1792, false), (3840, false), (8191, true), (16383, true)] (by kernel_rfl) ?_
          simp -dsimp [Val.cells]
          refine VL.nilcell 256 2 300 (by decide) ?_
          simp -dsimp
          refine VL.nilcell 256 3 301 (by decide) ?_
          simp -dsimp
          refine VL.loop (fun i : LI => ⟨[(112, .c (i64 i.k)), (111, .c (i64 n)), (2, .ptr 128 0), (4, .ptr 256 0), (6, .c (.sl nl (r.map Val.cells))), (7, .c (i64 n))],
            [(256, some (.box false [.c (i64 a.int), .c (str b.text), .own 300 i.k, .own 301 0, .c (bln (c.int == 1))])), (300, some (.arr i.nl i.sz (((colsOf r n).take i.k).map Col.cells) 0)), (301, some (.arr true 0 [] 0)),
             (128, some (.box false [.c (i64 0), .c (str []), .own 131 0, .own 132 0, .c (bln false)])), (132, some (.arr true 0 [] 0)), (131, some (.arr true 0 [] 0))]⟩)
            (fun i => i.k ≤ n ∧ i.nl = (i.k == 0) ∧ (i.nl = false → i.sz = 2)) (fun i => n - i.k) ⟨0, true, 0⟩ (by kernel_rfl) (by simp) (by simp [St.le]) ?_
          intro ⟨k, z, sz⟩ ⟨hk, hz, hsz⟩
          simp at hk hz hsz
          have hmin : min k n = k := by omega
          simp -dsimp
          refine VIf.mk (fun g => ?_) (fun g => ?_)
          · have hlt : k < n := by simpa using g
            have hw : IntKind.i64.wrap ((k : Int) + 1) = (k : Int) + 1 := IntWalk.i64_in _ (by omega)
            have hw3 : IntKind.i64.wrap (2 * (k : Int)) = 2 * (k : Int) := IntWalk.i64_in _ (by omega)
            have hw4 : IntKind.i64.wrap (2 * (k : Int) + 1) = 2 * (k : Int) + 1 := IntWalk.i64_in _ (by omega)
            have ht3 : (2 * (k : Int)).toNat = 2 * k := by omega
            have ht4 : (2 * (k : Int) + 1).toNat = 2 * k + 1 := by omega
            have hl1 : 2 * k < r.length := by omega
            have hl2 : 2 * k + 1 < r.length := by omega
            simp -dsimp
            refine VL.draw (by kernel_rfl) [(0, false), (1, false), (0, false), (0, false), (8, false), (28, false), (60, false), (124, false), (0, false), (0, false), (512, false), (1536, false), (3840, false), (7936, false), (16128, false), (32764, false), (65532, false), (131071, true), (262143, true), (524287, true)] (by kernel_rfl) ?_
            simp -dsimp [hw, hw3, hw4, ht3, ht4, hl1, hl2, Val.cells, hmin, maxLen]
            refine ⟨by omega, by omega, hsz, by omega, ⟨k + 1, false, 2⟩, ⟨by simp only; omega, by simp, by simp⟩, ?_, by simp only; omega⟩
            have e : List.take (k + 1) (List.map Col.cells (colsOf r n)) = List.take k (List.map Col.cells (colsOf r n)) ++ [[str r[2 * k].text, i64 r[2 * k + 1].int]] := by
              rw [List.take_add_one, List.getElem?_map]
              simp [colsOf, hlt, Col.cells, hl1, hl2]
            simp [St.le]
            exact e.symm
          · simp at g
            obtain rfl : k = n := by omega
            have e1 : List.take k (List.map Col.cells (colsOf r k)) = List.map Col.cells (colsOf r k) := List.take_of_length_le (by simp)
            simp -dsimp [e1, hw2, ht2]
            refine ⟨by omega, ?_⟩
            refine VL.loop (fun i : LI => ⟨[(140, .c (i64 i.k)), (139, .c (i64 (r.length - 2 * k : Nat))), (138, .c (.sl nl ((r.drop (2 * k)).map Val.cells))), (2, .ptr 128 0), (4, .ptr 256 0)],
              [(256, some (.box false [.c (i64 a.int), .c (str b.text), .own 300 k, .own 301 i.k, .c (bln (c.int == 1))])), (300, some (.arr z sz ((colsOf r k).map Col.cells) 0)), (301, some (.arr i.nl i.sz (((keysOf r k).take i.k).map keyc) 0)),
               (128, some (.box false [.c (i64 0), .c (str []), .own 131 0, .own 132 0, .c (bln false)])), (132, some (.arr true 0 [] 0)), (131, some (.arr true 0 [] 0))]⟩)
              (fun i => i.k ≤ r.length - 2 * k ∧ i.nl = (i.k == 0) ∧ (i.nl = false → i.sz = 1)) (fun i => r.length - 2 * k - i.k) ⟨0, true, 0⟩ (by kernel_rfl) (by simp) (by simp [St.le, htk]) ?_
            intro ⟨m, z2, sz2⟩ ⟨hm, hz2, hsz2⟩
            simp at hm hz2 hsz2
            have hklen : (keysOf r k).length = r.length - 2 * k := by simp [keysOf]
            have hmin2 : min m (keysOf r k).length = m := by omega
            simp -dsimp
            refine VIf.mk (fun g2 => ?_) (fun g2 => ?_)
            · have hlt : m < r.length - 2 * k := by simpa using g2
              have hw : IntKind.i64.wrap ((m : Int) + 1) = (m : Int) + 1 := IntWalk.i64_in _ (by omega)
              have hl3 : 2 * k + m < r.length := by omega
              simp -dsimp [hw, hlt, hl3, Val.cells, hmin2, maxLen]
              refine ⟨hsz2, by omega, ⟨m + 1, false, 1⟩, ⟨by simp only; omega, by simp, by simp⟩, ?_, by simp only; omega⟩
              have e : List.take (m + 1) (List.map keyc (keysOf r k)) = List.take m (List.map keyc (keysOf r k)) ++ [[str r[2 * k + m].text]] := by
                rw [List.take_add_one, List.getElem?_map]
                simp [keysOf, hl3, keyc]
              simp [St.le]
              exact e.symm
            · simp at g2
              obtain rfl : m = r.length - 2 * k := by omega
              have e2 : List.take (r.length - 2 * k) (List.map keyc (keysOf r k)) = List.map keyc (keysOf r k) := List.take_of_length_le (by simp [hklen])
              have hdn : d.int.toNat = k := by omega
              have hz3 : (d.int == 0) = z := by rw [hz, hn, Bool.eq_iff_iff]; simp
              have hz4 : (r.drop (2 * k)).isEmpty = z2 := by
                rw [hz2, Bool.eq_iff_iff]; simp; omega
              have hcells : (tabOf a b c d r).cells = [i64 a.int, str b.text, .sl z ((colsOf r k).map Col.cells), .sl z2 ((keysOf r k).map keyc), bln (c.int == 1)] := by
                simp only [tabOf, Tab.cells, hdn, hz3, hz4]
              simp -dsimp [e2]
              refine ⟨hklen, ?_⟩
              refine VC.mk _ (check_at _ (tabOf a b c d r) hcells.symm (by simp [tabOf, hdn]; omega) (by simp [tabOf, hdn, hklen]; omega)) ?_
              simp -dsimp
              refine VIf.mk (fun g3 => ?_) (fun g3 => ?_)
              · have hne : chk (tabOf a b c d r) ≠ 0 := by simpa using g3
                have e : readOf (a :: b :: c :: d :: r) = (noTab, 31) := by
                  simp only [readOf, hoff, hdn, hk1, hk2]
                  rw [if_neg (by simp), if_neg (by simp; omega), if_pos hne]
                simp -dsimp
                rw [e]
                exact ⟨rfl, rfl⟩
              · have he : chk (tabOf a b c d r) = 0 := by simpa using g3
                have e : readOf (a :: b :: c :: d :: r) = (tabOf a b c d r, 0) := by
                  simp only [readOf, hoff, hdn, hk1, hk2]
                  rw [if_neg (by simp), if_neg (by simp; omega), if_neg (by simp [he])]
                simp -dsimp [e2]
                rw [e]
                simp only [hcells]
                exact ⟨hklen, trivial, trivial⟩
end Go.Proofs.Ytgodbpamppcfnaa
