/- Contracts of functions of the seat, proved in a logic on data over the model (part C19). -/
import Derived.Test.YtgodbpamppcfnaaC18
import Derived.Test.YtgodbpamppcfnaaC7
set_option linter.unusedSimpArgs false
set_option linter.unusedVariables false
namespace Go.Proofs.Ytgodbpamppcfnaa
open Go.VL Go.RowKit

/-- Read, of every row -/
theorem read_spec (nl : Bool) (row : List Val) (hl : row.length ≤ 140737488355) : Con Try.prog 10 [.c (.sl nl (row.map Val.cells))] [.ag (readOf row).1.cells, .c (i64 (readOf row).2)] := by
  match row, hl with
  | [], _ => exact read_short nl [] (by simp)
  | [a], _ => exact read_short nl [a] (by simp)
  | [a, b], _ => exact read_short nl [a, b] (by simp)
  | [a, b, c], _ => exact read_short nl [a, b, c] (by simp)
  | a :: b :: c :: d :: r, hl => exact read_long nl a b c d r (by simp at hl; omega)

theorem row_at (cs : List C) (t : Tab) (h : cs = t.cells) (hc : t.cols.length ≤ 800000000000) (hk : t.keys.length ≤ 800000000000) : Con Try.prog 11 [.agg cs] [.fr false 3 ((rowOf t).map Val.cells) 0] := by rw [h]; exact row_spec t hc hk
theorem plain_at (cs : List C) (t : Tab) (h : cs = t.cells) : Con Try.prog 14 [.agg cs] [.ag t.cells] := by rw [h]; exact plain_spec t
theorem same_at (cs ds : List C) (t u : Tab) (h : cs = t.cells) (h' : ds = u.cells) (h1 : t.cols.length ≤ 140737488355328) (h2 : t.keys.length ≤ 140737488355328) : Con Try.prog 13 [.agg cs, .agg ds] [.c (bln (same t u))] := by rw [h, h']; exact same_spec t u h1 h2
theorem rowOf_len (t : Tab) : (rowOf t).length = 4 + (2 * t.cols.length + t.keys.length) := by simp [rowOf]

set_option maxRecDepth 4000 in
set_option maxHeartbeats 8000000 in
theorem back_spec (t : Tab) (hc : t.cols.length ≤ 4294967296) (hk : t.keys.length ≤ 4294967296) : Con Try.prog 3 [.agg t.cells] [.c (bln true)] := by
  refine spec_of Try.func3 rfl (by kernel_rfl) (by simp [Try.f3]) (fun w0 K0 => vc_ok _ _ _ (by kernel_rfl) ?_)
  simp only [Try.f3]
  simp -dsimp [Tab.cells]
  refine VC.mk _ awake_spec ?_
  simp -dsimp
  refine VC.mk _ (row_at _ t (by simp [Tab.cells]) (by omega) (by omega)) ?_
  simp -dsimp
  refine VCL.snap ?_
  simp -dsimp
  refine VC.mk _ (read_spec _ (rowOf t) (by rw [rowOf_len]; omega)) ?_
  by_cases hg : chk t ≠ 0 ∨ t.id < 1 ∨ 16 < t.id
  · have hr : readOf (rowOf t) = (noTab, 31) := by rw [read_row, if_pos hg]
    simp -dsimp [hr, noTab, Tab.cells]
    refine VC.mk _ (check_at _ t (by simp [Tab.cells]) (by omega) (by omega)) ?_
    simp -dsimp
    refine VIf.mk (fun _ => ?_) (fun h => ?_)
    · simp -dsimp
    · exfalso
      simp only [bne_iff_ne, Bool.or_eq_true, decide_eq_true_eq, Bool.or_eq_false_iff, bne_eq_false_iff_eq, decide_eq_false_iff_not] at h
      omega
  · have hr : readOf (rowOf t) = (⟨t.id, t.name, t.cols.length == 0, t.cols, t.keys.isEmpty, t.keys, t.ix⟩, 0) := by rw [read_row, if_neg hg]
    simp -dsimp [hr, Tab.cells]
    refine VC.mk _ (check_at _ t (by simp [Tab.cells]) (by omega) (by omega)) ?_
    simp -dsimp
    refine VIf.mk (fun h => ?_) (fun _ => ?_)
    · exfalso
      simp only [bne_iff_ne, Bool.or_eq_true, decide_eq_true_eq] at h
      omega
    · simp -dsimp
      refine VL.draw (by kernel_rfl) [(0, true), (1, true), (3, true), (7, false), (15, false), (7, false), (63, true), (127, true), (255, true), (511, true)] (by kernel_rfl) ?_
      simp -dsimp
      refine VG.mk [.ag _] _ (fun _ => plain_at _ ⟨t.id, t.name, t.cols.length == 0, t.cols, t.keys.isEmpty, t.keys, t.ix⟩ rfl) rfl ?_
      simp -dsimp [Tab.cells]
      refine VG.mk [.ag _] _ (fun _ => plain_at _ t (by simp [Tab.cells])) rfl ?_
      simp -dsimp [Tab.cells]
      refine VG.mk [.c (bln true)] _ (fun _ => ?_) rfl ?_
      · have := same_at _ _ ⟨t.id, t.name, t.cols.length == 0, t.cols, t.keys.isEmpty, t.keys, t.ix⟩ t rfl rfl (by simp; omega) (by simp; omega)
        have e : same ⟨t.id, t.name, t.cols.length == 0, t.cols, t.keys.isEmpty, t.keys, t.ix⟩ t = true := by simp [same]
        rw [e] at this
        exact this
      · simp -dsimp
end Go.Proofs.Ytgodbpamppcfnaa
