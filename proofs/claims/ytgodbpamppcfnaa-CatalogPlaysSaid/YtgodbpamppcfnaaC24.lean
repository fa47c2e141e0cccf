/- Contracts of functions of the seat, proved in a logic on data over the model (part C24). -/
import Derived.Test.YtgodbpamppcfnaaC23
import Derived.Test.YtgodbpamppcfnaaC18
set_option linter.unusedSimpArgs false
set_option linter.unusedVariables false
namespace Go.Proofs.Ytgodbpamppcfnaa
open Go.VL Go.RowKit

theorem column_at (cs : List C) (t : Tab) (h : cs = t.cells) (s : List UInt8) (hl : t.cols.length ≤ 140737488355328) : Con Try.prog 16 [.agg cs, .c (str s)] [.c (i64 (place t s))] := by rw [h]; exact column_spec t s hl

theorem read_len (row : List Val) : (readOf row).1.cols.length ≤ 8 ∧ (readOf row).1.keys.length ≤ row.length := by
  match row with
  | [] => exact ⟨by decide, by decide⟩
  | [_] => exact ⟨by simp [readOf, noTab], by simp [readOf, noTab]⟩
  | [_, _] => exact ⟨by simp [readOf, noTab], by simp [readOf, noTab]⟩
  | [_, _, _] => exact ⟨by simp [readOf, noTab], by simp [readOf, noTab]⟩
  | a :: b :: c :: d :: r =>
    unfold readOf
    simp only
    split
    · exact ⟨by simp [noTab], by simp [noTab]⟩
    · rename_i h
      split
      · exact ⟨by simp [noTab], by simp [noTab]⟩
      · split
        · exact ⟨by simp [noTab], by simp [noTab]⟩
        · simp only [headOff, Bool.or_eq_true, decide_eq_true_eq, not_or] at h
          refine ⟨?_, ?_⟩
          · simp [tabOf]; omega
          · simp [tabOf, keysOf]; omega
theorem places_at (cs : List C) (t : Tab) (h : cs = t.cells) (hl : t.cols.length ≤ 140737488355328) (hk : t.keys.length ≤ 1000000000000) : Con Try.prog 18 [.agg cs] [.fr (t.keys.isEmpty) (if t.keys.isEmpty then 0 else 1) (t.keys.map fun k => [i64 (place t k)]) 0] := by rw [h]; exact places_spec t hl hk
set_option maxRecDepth 4000 in
set_option maxHeartbeats 8000000 in
theorem rows_spec (t : Tab) (nr : Bool) (row : List Val) (name : List UInt8) (hc : t.cols.length ≤ 4294967296) (hk : t.keys.length ≤ 4294967296) (hr : row.length ≤ 4294967296) :
    Con Try.prog 4 [.agg t.cells, .c (.sl nr (row.map Val.cells)), .c (str name)] [.c (bln true)] := by
  refine spec_of Try.func4 rfl (by kernel_rfl) (by simp [Try.f4]) (fun w0 K0 => vc_ok _ _ _ (by kernel_rfl) ?_)
  simp only [Try.f4]
  simp -dsimp [Tab.cells]
  refine VC.mk _ awake_spec ?_
  simp -dsimp
  refine VL.draw (by kernel_rfl) [(0, false), (1, false), (0, false), (7, true), (15, true), (31, true), (63, true), (127, false), (127, false), (511, false), (127, false), (2047, false), (127, false), (8191, true), (16383, true), (32767, true)] (by kernel_rfl) ?_
  simp -dsimp
  refine VCE.mk _ (check_at _ t (by simp [Tab.cells]) (by omega) (by omega)) ?_
  simp -dsimp
  refine VC.mk _ (plain_at _ t (by simp [Tab.cells])) ?_
  simp -dsimp [Tab.cells]
  refine VC.mk _ (checkRef_at _ t (by simp [Tab.cells]) (by omega) (by omega)) ?_
  simp -dsimp
  refine VG.mk [.c (i64 (place t name))] _ (fun _ => column_at _ t (by simp [Tab.cells]) _ (by omega)) rfl ?_
  simp -dsimp
  refine VG.mk [.ag t.cells] _ (fun _ => plain_at _ t (by simp [Tab.cells])) rfl ?_
  simp -dsimp [Tab.cells]
  refine VG.mk [.c (i64 (place t name))] _ (fun _ => place_at _ t (by simp [Tab.cells]) _ (by omega)) rfl ?_
  simp -dsimp
  refine VC.mk _ (places_at _ t (by simp [Tab.cells]) (by omega) (by omega)) ?_
  simp -dsimp
  refine VL.snap 7 ?_
  simp -dsimp
  refine VL.loop (fun k : Nat => ⟨[(40, .c (i64 k)), (39, .c (i64 t.keys.length)), (38, .c (.sl t.nk (t.keys.map keyc))), (7, .c (.sl t.keys.isEmpty (t.keys.map fun k => [i64 (place t k)]))), (3, .ptr 192 0), (1, .c (.sl nr (row.map Val.cells)))], [(192, some t.box)]⟩) (fun k => k ≤ t.keys.length) (fun k => t.keys.length - k) 0 (by kernel_rfl) (by simp) (by simp [St.le, Tab.box]) ?_
  intro k hkk
  simp -dsimp [Tab.box]
  refine VIf.mk (fun g => ?_) (fun g => ?_)
  · have hlt : k < t.keys.length := by simpa using g
    have hw : IntKind.i64.wrap ((k : Int) + 1) = (k : Int) + 1 := IntWalk.i64_in _ (by omega)
    simp -dsimp [hlt, keyc]
    refine VL.draw (by kernel_rfl) [(0, false), (1, false), (0, false), (4, false), (12, false), (31, true), (63, true), (127, false), (127, false), (511, false), (1023, false), (127, false), (2175, false), (127, false), (14463, false), (32767, true), (65535, true)] (by kernel_rfl) ?_
    simp -dsimp [hlt]
    refine VG.mk [.ag t.cells] _ (fun _ => plain_at _ t (by simp [Tab.cells])) rfl ?_
    simp -dsimp [Tab.cells]
    refine VG.mk [.c (i64 (place t t.keys[k]))] _ (fun _ => place_at _ t (by simp [Tab.cells]) _ (by omega)) rfl ?_
    simp -dsimp [hw]
    refine ⟨k + 1, by omega, ?_, by omega⟩
    simp [St.le, Tab.box]
  · simp at g
    obtain rfl : k = t.keys.length := by omega
    simp -dsimp
    refine VL.draw (by kernel_rfl) [(0, false), (1, false), (0, false), (7, true), (15, true), (31, true), (63, true)] (by kernel_rfl) ?_
    simp -dsimp
    refine VCE.mk _ (row_at _ t (by simp [Tab.cells]) (by omega) (by omega)) ?_
    simp -dsimp
    refine VC.mk _ (plain_at _ t (by simp [Tab.cells])) ?_
    simp -dsimp [Tab.cells]
    refine VC.mk _ (rowRef_at _ t (by simp [Tab.cells]) (by omega) (by omega)) ?_
    simp -dsimp
    refine VL.snap 10 ?_
    simp -dsimp
    refine VL.snap 11 ?_
    simp -dsimp
    obtain ⟨bk, hbk⟩ : ∃ bk, bk = rowOf t := ⟨_, rfl⟩
    have hbl : bk.length ≤ 20000000000 := by rw [hbk, rowOf_len]; omega
    rw [← hbk]
    refine VL.loop (fun j : Nat => ⟨[(75, .c (i64 j)), (74, .c (i64 bk.length)), (10, .c (.sl false (bk.map Val.cells))), (11, .c (.sl false (bk.map Val.cells))), (1, .c (.sl nr (row.map Val.cells)))], []⟩) (fun j => j ≤ bk.length) (fun j => bk.length - j) 0 (by kernel_rfl) (by simp) (by simp [St.le]) ?_
    intro j hj
    simp -dsimp
    refine VIf.mk (fun g5 => ?_) (fun g5 => ?_)
    · have hlt : j < bk.length := by simpa using g5
      have hw : IntKind.i64.wrap ((j : Int) + 1) = (j : Int) + 1 := IntWalk.i64_in _ (by omega)
      simp -dsimp
      refine VL.draw (by kernel_rfl) [(0, false), (0, false), (3, false), (7, false), (0, false), (0, false), (48, false), (112, false), (255, true)] (by kernel_rfl) ?_
      simp -dsimp [hlt, Val.cells, hw]
      refine ⟨j + 1, by omega, ?_, by omega⟩
      simp [St.le]
    · simp at g5
      obtain rfl : j = bk.length := by omega
      simp -dsimp
      have hlen := read_len row
      have hR := read_spec nr row (by omega)
      have hR2 := readRef_spec nr row (by omega)
      rw [← read_ref] at hR2
      obtain ⟨⟨u, e⟩, hu⟩ : ∃ x, x = readOf row := ⟨_, rfl⟩
      rw [← hu] at hR hR2 hlen
      simp only [Tab.cells] at hR hR2
      refine VC.mk _ hR ?_
      simp -dsimp
      refine VC.mk _ hR2 ?_
      simp -dsimp
      refine VL.draw (by kernel_rfl) [(0, false), (0, false), (3, true), (7, true), (15, false), (31, false), (15, false), (127, true), (255, true), (511, true)] (by kernel_rfl) ?_
      simp -dsimp
      refine VG.mk [.ag u.cells] _ (fun _ => plain_at _ u (by simp [Tab.cells])) rfl ?_
      simp -dsimp [Tab.cells]
      refine VG.mk [.c (bln true)] _ (fun _ => ?_) rfl ?_
      · have := same_at _ _ u u rfl rfl (by have := hlen.1; simp only at this; omega) (by have := hlen.2; simp only at this; omega)
        have e : same u u = true := by simp [same]
        rw [e] at this
        exact this
      · simp -dsimp
end Go.Proofs.Ytgodbpamppcfnaa
