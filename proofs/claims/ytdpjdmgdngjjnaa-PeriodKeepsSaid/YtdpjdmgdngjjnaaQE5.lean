/- PeriodSets: every Union, Minus, Edges is the document's. -/
import Derived.Test.YtdpjdmgdngjjnaaQE4
import Derived.Test.YtdpjdmgdngjjnaaQ8
import Derived.Test.YtdpjdmgdngjjnaaQ11
set_option linter.unusedSimpArgs false
set_option linter.unusedVariables false
namespace Go.Proofs.Ytdpjdmgdngjjnaa
open Go.VL Go.RowKit

theorem refMinus_at {sortP : List Per → List Per} (hs : Sorts sortP) (cs : List C) (nl : Bool) (xs : List (List C)) (a : Per) (l : List Per) (h : cs = a.cells) (hx : xs = l.map Per.cells) (hl : l.length ≤ 8796093022206) :
    Con Try.prog 26 [.agg cs, .c (.sl nl xs)] [.fr (minusL sortP a l).isEmpty (esz (minusL sortP a l)) ((minusL sortP a l).map Per.cells) 0] := by rw [h, hx]; exact refMinus_spec hs a nl l hl
theorem frz1 {f : FuncId} {args : List S} {nil : Bool} {sz : Nat} {xs : List (List C)} {fx : Nat} (h : Con Try.prog f args [.fr nil sz xs fx]) : Con Try.prog f args [.c (.sl nil xs)] := h.frz 0 rfl

set_option maxRecDepth 4000 in
set_option maxHeartbeats 16000000 in
theorem sets_spec {sortP : List Per → List Per} (hs : Sorts sortP) (hi : SortsI) (a : Per) (nl : Bool) (l : List Per) (hn : nl = true → l = []) (hl : l.length ≤ 8796093021952) :
    Con Try.prog 9 [.agg a.cells, .c (.sl nl (l.map Per.cells))] [.c (bln true)] := by
  refine spec_of Try.func9 rfl (by kernel_rfl) (by simp [Try.f9]) (fun w0 K0 => vc_ok _ _ _ (by kernel_rfl) ?_)
  simp only [Try.f9]
  simp -dsimp [Per.cells]
  refine VC.mk _ (awake_spec hs) ?_
  simp -dsimp
  refine VC.mk _ (edges_spec hi nl l hn (by omega)) ?_
  simp -dsimp
  refine VC.mk _ (refEdges_spec nl l (by omega)) ?_
  simp -dsimp
  have hel := edgesL_len l
  generalize edgesL l = E at *
  refine VL.loop (fun k : Nat => ⟨[(21, .c (i64 k)), (20, .c (i64 E.length)), (5, .own 704 E.length), (6, .own 832 E.length), (2, .ptr 128 0), (1, .c (.sl nl (l.map Per.cells)))],
      [(704, some (.arr E.isEmpty (ez E) (ints E) 0)), (832, some (.arr E.isEmpty (ez E) (ints E) 0)), (128, some (.box false [.c (i64 a.f), .c (i64 a.t)]))]⟩)
    (fun k => k ≤ E.length) (fun k => E.length - k) 0 (by kernel_rfl) (by simp) (by simp [St.le]) ?_
  intro k hk
  by_cases hlt : k < E.length
  · have hw : IntKind.i64.wrap ((k : Int) + 1) = (k : Int) + 1 := IntWalk.i64_in _ (by omega)
    have hEe : E.isEmpty = false := by cases E with | nil => simp at hlt | cons => rfl
    have hEz : ez E = 1 := by simp [ez, hEe]
    simp -dsimp [hlt, hEe, hEz]
    refine VL.draw (by kernel_rfl) [(0, false), (0, false), (3, false), (7, false), (0, false), (0, false), (48, false), (112, false), (255, true)] (by kernel_rfl) ?_
    simp -dsimp [hlt, hw]
    refine ⟨k + 1, by omega, ?_, by omega⟩
    simp [St.le, hEe, hEz]
  · obtain rfl : k = E.length := by omega
    simp -dsimp
    refine VL.draw (by kernel_rfl) [(0, false), (1, false), (0, false), (7, true), (15, true), (31, true), (63, false), (63, false), (255, false), (63, false), (63, false), (2047, true), (4095, true), (8191, true), (16383, true)] (by kernel_rfl) ?_
    simp -dsimp
    have hul := unionL_len hs l
    have hml := minusL_len hs a l
    refine VCE.mk _ (frz1 (union_spec hs nl l hn hl)) ?_
    simp -dsimp
    refine VC.mk _ (frz1 (refUnion_spec hs nl l (by omega))) ?_
    simp -dsimp
    refine VC.mk _ (same_at _ _ _ _ (unionL sortP l) rfl rfl (by omega)) ?_
    simp -dsimp
    refine VG.mk _ _ (fun _ => frz1 (minus_at hs _ nl _ a l rfl rfl hn hl)) rfl ?_
    simp -dsimp
    refine VG.mk _ _ (fun _ => frz1 (refMinus_at hs _ nl _ a l rfl rfl (by omega))) rfl ?_
    simp -dsimp
    refine VG.mk [.c (bln true)] _ (fun _ => same_at _ _ _ _ (minusL sortP a l) rfl rfl (by omega)) rfl ?_
    simp -dsimp
end Go.Proofs.Ytdpjdmgdngjjnaa
