/- Contracts of functions of the seat, proved in a logic on data over the model (part C13). -/
import Derived.Test.YtgodbpamppcfnaaC12
import Derived.Test.YtgodbpamppcfnaaC3
set_option linter.unusedSimpArgs false
set_option linter.unusedVariables false
namespace Go.Proofs.Ytgodbpamppcfnaa
open Go.VL Go.RowKit

set_option maxRecDepth 4000 in
set_option maxHeartbeats 8000000 in
theorem rowRef_spec (t : Tab) (hc : t.cols.length ≤ 800000000000) (hk : t.keys.length ≤ 800000000000) : Con Try.prog 19 [.agg t.cells] [.fr false 3 ((rowOf t).map Val.cells) 0] := by
  refine spec_of Try.func19 rfl (by kernel_rfl) (by simp [Try.f19]) (fun w0 K0 => vc_ok _ _ _ (by kernel_rfl) ?_)
  simp only [Try.f19]
  simp -dsimp [Tab.cells]
  refine VIf.mk (fun hix => ?_) (fun hix => ?_)
  all_goals simp -dsimp
  all_goals refine ⟨by decide, ?_⟩
  all_goals refine VL.loop (fun k : Nat => ⟨[(5, .c (i64 k)), (4, .own 1344 (4 + 2 * k)), (1, .ptr 64 0)], [(1344, some (.arr false 3 ((rowHead t ++ rowCols (t.cols.take k)).map Val.cells) 0)), (64, some t.box)]⟩) (fun k => k ≤ t.cols.length) (fun k => t.cols.length - k) 0 (by kernel_rfl) (by simp) (by simp [St.le, rowHead, rowCols, num, txt, Val.cells, hix, Tab.box]) ?_
  all_goals intro k hk
  all_goals have hmin : min k t.cols.length = k := by omega
  all_goals simp -dsimp [Tab.box]
  all_goals refine VIf.mk (fun h => ?_) (fun h => ?_)
  · have hlt : k < t.cols.length := by simpa using h
    have hw : IntKind.i64.wrap ((k : Int) + 1) = (k : Int) + 1 := IntWalk.i64_in _ (by omega)
    simp -dsimp [hlt, Col.cells, Val.cells, hmin, hw, maxLen]
    refine ⟨by omega, by omega, by omega, k + 1, by omega, ?_, by omega⟩
    have e : t.cols.take (k + 1) = t.cols.take k ++ [t.cols[k]] := take_snoc hlt
    rw [e, rowCols_snoc]
    simp [St.le, txt, num, Val.cells, Tab.box]
    first | omega | exact ⟨by omega, rfl⟩ | trace_state
  · simp at h
    obtain rfl : k = t.cols.length := by omega
    simp -dsimp
    refine VL.loop (fun k : Nat => ⟨[(6, .c (i64 k)), (4, .own 1344 (4 + 2 * t.cols.length + k)), (1, .ptr 64 0)], [(1344, some (.arr false 3 ((rowHead t ++ rowCols t.cols ++ (t.keys.take k).map txt).map Val.cells) 0)), (64, some t.box)]⟩) (fun k => k ≤ t.keys.length) (fun k => t.keys.length - k) 0 (by kernel_rfl) (by simp) (by simp [St.le, Tab.box]) ?_
    intro k hk
    have hmink : min k t.keys.length = k := by omega
    simp -dsimp [Tab.box]
    refine VIf.mk (fun h2 => ?_) (fun h2 => ?_)
    · have hlt : k < t.keys.length := by simpa using h2
      have hw : IntKind.i64.wrap ((k : Int) + 1) = (k : Int) + 1 := IntWalk.i64_in _ (by omega)
      simp -dsimp [hlt, keyc, Val.cells, hmink, hw, maxLen]
      refine ⟨by omega, by omega, k + 1, by omega, ?_, by omega⟩
      have e : List.take (k + 1) (List.map (Val.cells ∘ txt) t.keys) = List.take k (List.map (Val.cells ∘ txt) t.keys) ++ [(txt t.keys[k]).cells] := by
        rw [List.take_add_one, List.getElem?_map, List.getElem?_eq_getElem hlt]; rfl
      simp [St.le, Tab.box]
      rw [e]
      first | omega | exact ⟨by omega, rfl⟩ | (simp [txt, Val.cells]; done) | (simp [txt, Val.cells]; omega) | trace_state
    · simp at h2
      obtain rfl : k = t.keys.length := by omega
      simp -dsimp
      have e1 : List.take t.keys.length (List.map (Val.cells ∘ txt) t.keys) = List.map (Val.cells ∘ txt) t.keys := List.take_of_length_le (by simp)
      simp [e1, rowOf]
      try omega
  · have hlt : k < t.cols.length := by simpa using h
    have hw : IntKind.i64.wrap ((k : Int) + 1) = (k : Int) + 1 := IntWalk.i64_in _ (by omega)
    simp -dsimp [hlt, Col.cells, Val.cells, hmin, hw, maxLen]
    refine ⟨by omega, by omega, by omega, k + 1, by omega, ?_, by omega⟩
    have e : t.cols.take (k + 1) = t.cols.take k ++ [t.cols[k]] := take_snoc hlt
    rw [e, rowCols_snoc]
    simp [St.le, txt, num, Val.cells, Tab.box]
    first | omega | exact ⟨by omega, rfl⟩ | trace_state
  · simp at h
    obtain rfl : k = t.cols.length := by omega
    simp -dsimp
    refine VL.loop (fun k : Nat => ⟨[(6, .c (i64 k)), (4, .own 1344 (4 + 2 * t.cols.length + k)), (1, .ptr 64 0)], [(1344, some (.arr false 3 ((rowHead t ++ rowCols t.cols ++ (t.keys.take k).map txt).map Val.cells) 0)), (64, some t.box)]⟩) (fun k => k ≤ t.keys.length) (fun k => t.keys.length - k) 0 (by kernel_rfl) (by simp) (by simp [St.le, Tab.box]) ?_
    intro k hk
    have hmink : min k t.keys.length = k := by omega
    simp -dsimp [Tab.box]
    refine VIf.mk (fun h2 => ?_) (fun h2 => ?_)
    · have hlt : k < t.keys.length := by simpa using h2
      have hw : IntKind.i64.wrap ((k : Int) + 1) = (k : Int) + 1 := IntWalk.i64_in _ (by omega)
      simp -dsimp [hlt, keyc, Val.cells, hmink, hw, maxLen]
      refine ⟨by omega, by omega, k + 1, by omega, ?_, by omega⟩
      have e : List.take (k + 1) (List.map (Val.cells ∘ txt) t.keys) = List.take k (List.map (Val.cells ∘ txt) t.keys) ++ [(txt t.keys[k]).cells] := by
        rw [List.take_add_one, List.getElem?_map, List.getElem?_eq_getElem hlt]; rfl
      simp [St.le, Tab.box]
      rw [e]
      first | omega | exact ⟨by omega, rfl⟩ | (simp [txt, Val.cells]; done) | (simp [txt, Val.cells]; omega) | trace_state
    · simp at h2
      obtain rfl : k = t.keys.length := by omega
      simp -dsimp
      have e1 : List.take t.keys.length (List.map (Val.cells ∘ txt) t.keys) = List.map (Val.cells ∘ txt) t.keys := List.take_of_length_le (by simp)
      simp [e1, rowOf]
      try omega
end Go.Proofs.Ytgodbpamppcfnaa
