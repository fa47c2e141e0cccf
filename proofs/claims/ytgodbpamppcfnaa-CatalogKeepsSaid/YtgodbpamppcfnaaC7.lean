/- Contracts of functions of the seat, proved in a logic on data over the model (part C7). -/
import Derived.Test.YtgodbpamppcfnaaC5
set_option linter.unusedSimpArgs false
set_option linter.unusedVariables false
namespace Go.Proofs.Ytgodbpamppcfnaa
open Go.VL Go.RowKit

deriving instance DecidableEq for Col
def same (t u : Tab) : Bool := decide (t.id = u.id ∧ t.name = u.name ∧ t.ix = u.ix ∧ t.cols = u.cols ∧ t.keys = u.keys)
def Tab.box (t : Tab) : Res := .box false [.c (i64 t.id), .c (str t.name), .c (.sl t.nc (t.cols.map Col.cells)), .c (.sl t.nk (t.keys.map keyc)), .c (bln t.ix)]

theorem take_snoc {α : Type} {l : List α} {k : Nat} (h : k < l.length) : l.take (k + 1) = l.take k ++ [l[k]] := by
  rw [List.take_add_one, List.getElem?_eq_getElem h]; rfl
theorem take_step {α : Type} {l m : List α} {k : Nat} (h : k < l.length) (h' : k < m.length) (e : l.take k = m.take k) (e' : l[k] = m[k]) : l.take (k + 1) = m.take (k + 1) := by
  rw [take_snoc h, take_snoc h', e, e']

set_option maxRecDepth 4000 in
set_option maxHeartbeats 8000000 in
theorem same_spec (t u : Tab) (h1 : t.cols.length ≤ 140737488355328) (h2 : t.keys.length ≤ 140737488355328) : Con Try.prog 13 [.agg t.cells, .agg u.cells] [.c (bln (same t u))] := by
  refine spec_of Try.func13 rfl (by kernel_rfl) (by simp [Try.f13]) (fun w0 K0 => vc_ok _ _ _ (by kernel_rfl) ?_)
  simp only [Try.f13]
  simp -dsimp [Tab.cells]
  refine VIf.mk (fun h => ?_) (fun h => ?_)
  · simp -dsimp
    unfold same
    refine decide_eq_false fun hh => ?_
    obtain ⟨e1, e2, e3, e4, e5⟩ := hh
    simp [e1, e2, e3, e4, e5] at h
  · simp -dsimp
    simp at h
    obtain ⟨⟨⟨⟨a1, a2⟩, a3⟩, a4⟩, a5⟩ := h
    have a4' : t.cols.length = u.cols.length := by omega
    have a5' : t.keys.length = u.keys.length := by omega
    refine VL.loop (fun k : Nat => ⟨[(5, .c (i64 k)), (2, .ptr 128 0), (3, .ptr 192 0)], [(128, some t.box), (192, some u.box)]⟩) (fun k => k ≤ t.cols.length ∧ t.cols.take k = u.cols.take k) (fun k => t.cols.length - k) 0 (by kernel_rfl) (by simp) (by simp [St.le, Tab.box]) ?_
    intro k ⟨hk, heq⟩
    simp -dsimp [Tab.box]
    refine VIf.mk (fun g => ?_) (fun g => ?_)
    · have hlt : k < t.cols.length := by simpa using g
      have hlt' : k < u.cols.length := by omega
      have hw : IntKind.i64.wrap ((k : Int) + 1) = (k : Int) + 1 := IntWalk.i64_in _ (by omega)
      simp -dsimp
      refine VL.draw (by kernel_rfl) [(0, false), (1, false), (0, false), (7, false), (15, false), (0, false), (32, false), (0, false), (224, false), (480, false), (1023, true)] (by kernel_rfl) ?_
      simp -dsimp [hlt, hlt', Col.cells]
      refine VIf.mk (fun g2 => ?_) (fun g2 => ?_)
      · simp -dsimp
        unfold same
        refine decide_eq_false fun hh => ?_
        obtain ⟨_, _, _, e4, _⟩ := hh
        simp [e4] at g2
      · simp at g2
        have hc : t.cols[k] = u.cols[k] := by
          cases hx : t.cols[k]; cases hy : u.cols[k]
          rw [hx, hy] at g2; simp at g2; simp [g2]
        simp -dsimp [hw]
        refine ⟨k + 1, ⟨by omega, take_step hlt hlt' heq hc⟩, ?_, by omega⟩
        simp [St.le, Tab.box]
    · simp at g
      obtain rfl : k = t.cols.length := by omega
      have hcols : t.cols = u.cols := by
        have := heq
        rw [List.take_of_length_le (by omega), List.take_of_length_le (by omega)] at this
        exact this
      simp -dsimp
      refine VL.loop (fun k : Nat => ⟨[(6, .c (i64 k)), (2, .ptr 128 0), (3, .ptr 192 0)], [(128, some t.box), (192, some u.box)]⟩) (fun k => k ≤ t.keys.length ∧ t.keys.take k = u.keys.take k) (fun k => t.keys.length - k) 0 (by kernel_rfl) (by simp) (by simp [St.le, Tab.box]) ?_
      intro k ⟨hk, heq⟩
      simp -dsimp [Tab.box]
      refine VIf.mk (fun g => ?_) (fun g => ?_)
      · have hlt : k < t.keys.length := by simpa using g
        have hlt' : k < u.keys.length := by omega
        have hw : IntKind.i64.wrap ((k : Int) + 1) = (k : Int) + 1 := IntWalk.i64_in _ (by omega)
        simp -dsimp
        refine VL.draw (by kernel_rfl) [(0, false), (1, false), (0, false), (7, false), (15, false), (0, false), (32, false), (0, false), (224, false), (480, false), (1023, true)] (by kernel_rfl) ?_
        simp -dsimp [hlt, hlt', keyc]
        refine VIf.mk (fun g2 => ?_) (fun g2 => ?_)
        · simp -dsimp
          unfold same
          refine decide_eq_false fun hh => ?_
          obtain ⟨_, _, _, _, e5⟩ := hh
          simp [e5] at g2
        · simp at g2
          simp -dsimp [hw]
          refine ⟨k + 1, ⟨by omega, take_step hlt hlt' heq g2⟩, ?_, by omega⟩
          simp [St.le, Tab.box]
      · simp at g
        obtain rfl : k = t.keys.length := by omega
        have hkeys : t.keys = u.keys := by
          have := heq
          rw [List.take_of_length_le (by omega), List.take_of_length_le (by omega)] at this
          exact this
        simp -dsimp
        unfold same
        refine (decide_eq_true ?_)
        exact ⟨a1, a2, a3, hcols, hkeys⟩
end Go.Proofs.Ytgodbpamppcfnaa
