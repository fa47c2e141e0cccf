/- Contracts of functions of the seat, proved in a logic on data over the model (part C12). -/
import Derived.Test.YtgodbpamppcfnaaC7
set_option linter.unusedSimpArgs false
set_option linter.unusedVariables false
namespace Go.Proofs.Ytgodbpamppcfnaa
open Go.VL Go.RowKit

set_option maxRecDepth 4000 in
set_option maxHeartbeats 4000000 in
theorem wrong_spec (s : List UInt8) : Con Try.prog 38 [.c (str s)] [.c (bln (long s))] := by
  refine spec_of Try.func38 rfl (by kernel_rfl) (by simp [Try.f38]) (fun w0 K0 => vc_ok _ _ _ (by kernel_rfl) ?_)
  simp only [Try.f38]
  simp -dsimp
  unfold long
  congr 1
  · rw [Bool.eq_iff_iff]; simp
  · exact decide_eq_decide.2 (by omega)

set_option maxRecDepth 4000 in
set_option maxHeartbeats 4000000 in
theorem place_spec (t : Tab) (name : List UInt8) (hl : t.cols.length ≤ 140737488355328) : Con Try.prog 17 [.agg t.cells, .c (str name)] [.c (i64 (place t name))] := by
  refine spec_of Try.func17 rfl (by kernel_rfl) (by simp [Try.f17]) (fun w0 K0 => vc_ok _ _ _ (by kernel_rfl) ?_)
  simp only [Try.f17]
  simp -dsimp [Tab.cells]
  refine VL.loop (fun k : Nat => ⟨[(5, .c (i64 k)), (2, .ptr 128 0), (1, .c (str name))], [(128, some t.box)]⟩) (fun k => k ≤ t.cols.length ∧ ∀ j, (hj : j < t.cols.length) → j < k → t.cols[j].name ≠ name) (fun k => t.cols.length - k) 0 (by kernel_rfl) (by simp) (by simp [St.le, Tab.box]) ?_
  intro k ⟨hk, hb⟩
  simp -dsimp [Tab.box]
  refine VIf.mk (fun h => ?_) (fun h => ?_)
  · have hlt : k < t.cols.length := by simpa using h
    have hw : IntKind.i64.wrap ((k : Int) + 1) = (k : Int) + 1 := IntWalk.i64_in _ (by omega)
    simp -dsimp [hlt, Col.cells]
    refine VIf.mk (fun h2 => ?_) (fun h2 => ?_)
    · have h2' : t.cols[k].name = name := by simpa using h2
      simp -dsimp
      have e : place t name = (k : Int) := idxI_at hlt (by simp [h2']) (fun j hj => by simpa using hb j (by omega) hj)
      rw [e]
    · have h2' : t.cols[k].name ≠ name := by simpa using h2
      simp -dsimp [hw]
      refine ⟨k + 1, ⟨by omega, fun j hj hlt' => ?_⟩, ?_, by omega⟩
      · by_cases e : j = k
        · subst e; exact h2'
        · exact hb j hj (by omega)
      · simp [St.le, Tab.box]
  · simp at h
    simp -dsimp
    have e : place t name = -1 := idxI_none fun j hj => by simpa using hb j hj (by omega)
    rw [e]

set_option maxRecDepth 4000 in
set_option maxHeartbeats 4000000 in
theorem places_spec (t : Tab) (hl : t.cols.length ≤ 140737488355328) (hk : t.keys.length ≤ 1000000000000) : Con Try.prog 18 [.agg t.cells] [.fr (t.keys.isEmpty) (if t.keys.isEmpty then 0 else 1) (t.keys.map fun k => [i64 (place t k)]) 0] := by
  refine spec_of Try.func18 rfl (by kernel_rfl) (by simp [Try.f18]) (fun w0 K0 => vc_ok _ _ _ (by kernel_rfl) ?_)
  simp only [Try.f18]
  simp -dsimp [Tab.cells]
  refine VL.loop (fun i : LI => ⟨[(9, .c (i64 i.k)), (8, .c (i64 t.keys.length)), (7, .c (.sl t.nk (t.keys.map keyc))), (3, .own 192 i.k), (1, .ptr 64 0)],
      [(192, some (.arr i.nl i.sz ((t.keys.take i.k).map fun k => [i64 (place t k)]) 0)), (64, some t.box)]⟩)
    (fun i => i.k ≤ t.keys.length ∧ i.nl = (i.k == 0) ∧ i.sz = if i.nl then 0 else 1) (fun i => t.keys.length - i.k) ⟨0, true, 0⟩ (by kernel_rfl) (by simp) (by simp [St.le, Tab.box]) ?_
  intro ⟨k, z, sz⟩ ⟨hk2, hz, hsz⟩
  simp at hk2 hz hsz
  have hmin : min k t.keys.length = k := by omega
  simp -dsimp [Tab.box]
  refine VIf.mk (fun h => ?_) (fun h => ?_)
  · have hlt : k < t.keys.length := by simpa using h
    have hw : IntKind.i64.wrap ((k : Int) + 1) = (k : Int) + 1 := IntWalk.i64_in _ (by omega)
    simp -dsimp [hlt, keyc]
    refine VC.mk _ (column_spec t t.keys[k] hl) ?_
    simp -dsimp [hmin, hw, maxLen]
    refine ⟨fun e => by rw [hsz, e]; rfl, by omega, ⟨k + 1, false, 1⟩, ⟨by simp only; omega, by simp, rfl⟩, ?_, by simp only; omega⟩
    have e : List.take (k + 1) (List.map (fun k => [i64 (place t k)]) t.keys) = List.take k (List.map (fun k => [i64 (place t k)]) t.keys) ++ [[i64 (place t t.keys[k])]] := by
      rw [List.take_add_one, List.getElem?_map, List.getElem?_eq_getElem hlt]; rfl
    simp [St.le, Tab.box]
    exact e.symm
  · simp at h
    obtain rfl : k = t.keys.length := by omega
    simp -dsimp
    have hz2 : z = t.keys.isEmpty := by rw [hz]; cases t.keys <;> rfl
    refine ⟨hz2, ?_, List.take_of_length_le (by simp)⟩
    rw [hsz, hz2]
    cases t.keys <;> simp
end Go.Proofs.Ytgodbpamppcfnaa
