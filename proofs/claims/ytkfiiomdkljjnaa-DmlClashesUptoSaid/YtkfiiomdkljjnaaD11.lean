/- Contract: awake. -/
import Derived.Test.YtkfiiomdkljjnaaD10
set_option linter.unusedSimpArgs false
set_option linter.unusedVariables false
namespace Go.Proofs.Ytkfiiomdkljjnaa
open Go.VL Go.RowKit

def row2 (n : Int) : List Val := [⟨1, n, []⟩, ⟨2, 0, []⟩]
def fact2 (n f t : Int) : Fact := ⟨false, row2 n, ⟨f, t⟩⟩
def table2 : Tab := ⟨1, [84], false, [⟨[65], 1⟩, ⟨[66], 2⟩], true, [], false⟩

set_option maxRecDepth 4000 in
set_option maxHeartbeats 16000000 in
theorem fact_spec (n f t : Int) : Con Try.prog 29 [.c (i64 n), .c (i64 f), .c (i64 t)] [.ag (fact2 n f t).cells] := by
  refine spec_of Try.func29 rfl (by kernel_rfl) (by simp [Try.f29]) (fun w0 K0 => vc_ok _ _ _ (by kernel_rfl) ?_)
  simp only [Try.f29]
  simp -dsimp
  exact ⟨by decide, rfl⟩

set_option maxRecDepth 4000 in
set_option maxHeartbeats 16000000 in
theorem table_spec : Con Try.prog 30 [] [.ag table2.cells] := by
  refine spec_of Try.func30 rfl (by kernel_rfl) (by simp [Try.f30]) (fun w0 K0 => vc_ok _ _ _ (by kernel_rfl) ?_)
  simp only [Try.f30]
  simp -dsimp
  exact ⟨by decide, rfl⟩

theorem minus_03 {sortP : List Per → List Per} (hs : Sorts sortP) : minusL sortP ⟨0, 9⟩ [⟨3, 5⟩] = [⟨0, 3⟩, ⟨5, 9⟩] := by
  have e : unionL sortP [⟨3, 5⟩] = [⟨3, 5⟩] := by
    unfold unionL
    have : sortP [⟨3, 5⟩] = [⟨3, 5⟩] := List.perm_singleton.1 (hs.perm [⟨3, 5⟩])
    rw [show [(⟨3, 5⟩ : Per)].filter right = [⟨3, 5⟩] from by decide, this]
    decide
  unfold minusL
  rw [e]
  decide
theorem del_awake {sortP : List Per → List Per} (hs : Sorts sortP) : delE sortP [fact2 1 0 9] ⟨3, 5⟩ = [0] ∧ delA sortP [fact2 1 0 9] ⟨3, 5⟩ = [fact2 1 0 3, fact2 1 5 9] := by
  have e : partsK sortP [fact2 1 0 9] ⟨3, 5⟩ 1 = [partOf sortP 0 (fact2 1 0 9) ⟨3, 5⟩] := partsK_yes (k := 0) (by decide) (by decide)
  unfold delE delA
  rw [show [fact2 1 0 9].length = 1 from rfl, e]
  refine ⟨rfl, ?_⟩
  simp only [List.flatMap_cons, List.flatMap_nil, List.append_nil, partOf, restsOf]
  rw [show (fact2 1 0 9).p = ⟨0, 9⟩ from rfl, minus_03 hs]
  rfl
theorem clash_awake : clashR [fact2 1 0 5, fact2 1 4 9] [0] = some (0, 1) := by decide
theorem fits_awake : fitsOf table2 (fact2 1 0 5) = 0 := by
  unfold fitsOf
  rw [if_neg (by decide), if_pos, if_neg (by decide)]
  · decide
  · intro j h h' _
    have : j = 0 ∨ j = 1 := by have : j < 2 := h; omega
    rcases this with rfl | rfl <;> rfl

set_option maxRecDepth 4000 in
set_option maxHeartbeats 16000000 in
theorem awake_spec {sortP : List Per → List Per} (hs : Sorts sortP) : Con Try.prog 7 [] [.c (bln true)] := by
  refine spec_of Try.func7 rfl (by kernel_rfl) (by simp [Try.f7]) (fun w0 K0 => vc_ok _ _ _ (by kernel_rfl) ?_)
  simp only [Try.f7]
  simp -dsimp
  refine VC.mk _ (fact_spec 1 0 9) ?_
  simp -dsimp
  refine ⟨by decide, VCL.snap ?_⟩
  simp -dsimp
  have hd := delete_spec hs false true [fact2 1 0 9] ⟨3, 5⟩ (by simp) (by intro f hf; simp at hf; subst hf; decide)
  rw [(del_awake hs).1, (del_awake hs).2] at hd
  refine VC.mk _ hd ?_
  simp -dsimp
  refine VC.mk _ (fact_spec 1 0 5) ?_
  simp -dsimp
  refine VC.mk _ (fact_spec 1 4 9) ?_
  simp -dsimp
  refine ⟨by decide, by decide, VCL.snap ?_⟩
  simp -dsimp
  have hc := clash_spec false false [fact2 1 0 5, fact2 1 4 9] [0] (by simp) (by intro f hf; simp at hf; rcases hf with rfl | rfl <;> decide) (by simp)
  rw [show clashI [fact2 1 0 5, fact2 1 4 9] [0] = 0 from by unfold clashI; rw [clash_awake]; rfl, show clashJ [fact2 1 0 5, fact2 1 4 9] [0] = 1 from by unfold clashJ; rw [clash_awake]; rfl, clash_awake] at hc
  refine VC.mk _ hc ?_
  simp -dsimp [fact2, Fact.cells]
  refine VG.mk [.ag table2.cells] _ (fun _ => table_spec) rfl ?_
  simp -dsimp
  refine VG.mk [.ag (fact2 1 0 5).cells] _ (fun _ => fact_spec 1 0 5) rfl ?_
  simp -dsimp
  have hf := fits_spec table2 (fact2 1 0 5) (by decide)
  rw [fits_awake] at hf
  refine VG.mk [.c (i64 0)] _ (fun _ => hf) rfl ?_
  simp -dsimp
end Go.Proofs.Ytkfiiomdkljjnaa
