/- Contract: BagLaws. -/
import Derived.Test.YtmkbclnhopoiiaaBQA
import Derived.Test.YtmkbclnhopoiiaaBJ2
set_option linter.unusedSimpArgs false
set_option linter.unusedVariables false
namespace Go.Proofs.Ytmkbclnhopoiiaa
open Go.VL Go.RowKit

set_option maxRecDepth 4000 in
set_option maxHeartbeats 16000000 in
theorem laws_spec {sortP : List Per → List Per} (hs : Sorts sortP) (hi : SortsI) (hf : SortsF) (na nb : Bool) (a b : List Fact) (la : a.length ≤ 200000000) (lb : b.length ≤ 200000000) (ra1 : ∀ f ∈ a, f.row.length ≤ 1000000000) (rb : Rows1 b) : Con Try.prog 6 [.c (.sl na (facts a)), .c (.sl nb (facts b))] [.c (bln true)] := by
  refine spec_of Try.func6 rfl (by kernel_rfl) (by simp [Try.f6]) (fun w0 K0 => vc_ok _ _ _ (by kernel_rfl) ?_)
  have ra : Rows1 a := fun f hf => by have := ra1 f hf; omega
  have ke := except_con hs hi hf na nb _ _ a b rfl rfl (by omega) (by omega) ra rb
  have le := except_len hs a b
  have re := except_rows1 (sortP := sortP) (b := b) ra
  have ko := except_con hs hi hf na (exceptL sortP a b).isEmpty _ _ a (exceptL sortP a b) rfl rfl (by omega) (by omega) ra re
  have lo := except_len hs a (exceptL sortP a b)
  have ro := except_rows1 (sortP := sortP) (b := exceptL sortP a b) ra
  have r2 : Rows2 a [ever] := fun x hx y hy => by
    have := ra1 x hx
    simp at hy
    subst hy
    show x.row.length + 1 ≤ _
    omega
  have lj := joinP_len a [ever]
  rw [List.length_singleton, Nat.mul_one] at lj
  have kj := join_spec hs hi hf na false a [ever] (by omega) (by simp) (by omega) r2
  have lJ := normal_len hs (joinP a [ever])
  have rJ := normal_rows1 (sortP := sortP) (join_rows1 r2)
  have nJ := (normal_form (sortP := sortP) (joinP a [ever])).normed
  have eJ := fun f (h : f ∈ joinL sortP a [ever]) => join_ever_rows h
  have kn2 := normal_two hs hi hf _ (exceptL sortP a b).isEmpty (exceptL sortP a (exceptL sortP a b)).isEmpty (exceptL sortP a b) (exceptL sortP a (exceptL sortP a b)) rfl (by omega) (by omega) re ro
  rw [law_both hs] at kn2
  have kna := normal_con hs hi hf false na _ a rfl (by omega) ra
  have ln := normal_len hs a
  have rn := normal_rows1 (sortP := sortP) ra
  have ks := sameF_true (normalL sortP a).isEmpty (normalL sortP a).isEmpty _ _ rfl (by omega) rn
  have kaa := except_con hs hi hf na na _ _ a a rfl rfl (by omega) (by omega) ra ra
  rw [law_self hs] at kaa
  have kan := except_con hs hi hf na true _ _ a [] rfl rfl (by omega) (by simp) ra (fun f hf => by simp at hf)
  rw [law_none hs] at kan
  have kob := except_con hs hi hf (exceptL sortP a (exceptL sortP a b)).isEmpty nb _ _ (exceptL sortP a (exceptL sortP a b)) b rfl rfl (by omega) (by omega) ro rb
  rw [law_off hs] at kob
  have hD : Rows1 ((joinL sortP a [ever]).map dropF) := fun f hf => by
    obtain ⟨g, hg, rfl⟩ := List.mem_map.1 hf
    have := rJ g hg
    show g.row.dropLast.length ≤ _
    rw [List.length_dropLast]; omega
  have knb := fun z => normal_con hs hi hf false z _ ((joinL sortP a [ever]).map dropF) rfl (by rw [List.length_map]; unfold joinL; omega) hD
  rw [law_ever hs] at knb
  change (joinL sortP a [ever]).length ≤ _ at lJ
  change ∀ f ∈ joinL sortP a [ever], _ at nJ
  change Rows1 (joinL sortP a [ever]) at rJ
  generalize joinL sortP a [ever] = J at *
  generalize exceptL sortP a (exceptL sortP a b) = off at *
  generalize exceptL sortP a b = left at *
  generalize normalL sortP a = n at *
  simp only [Try.f6]
  simp -dsimp
  refine VC.mk _ (awake_spec hs hi hf) ?_
  simp -dsimp
  refine VC.mk _ ke ?_
  simp -dsimp
  refine VC.mk _ ko ?_
  simp -dsimp
  refine VC.mk _ (fact_spec 7 0 1099511627776) ?_
  simp -dsimp
  refine ⟨by decide, VCL.snap ?_⟩
  simp -dsimp
  refine VC.mk _ kj ?_
  simp -dsimp
  refine VL.loop (fun i : KI => ⟨[(27, .c (i64 i.k)), (26, .c (i64 J.length)), (25, .c (.sl J.isEmpty (facts J))), (9, .own 576 i.k), (5, .c (.sl left.isEmpty (facts left))), (6, .c (.sl off.isEmpty (facts off))), (0, .c (.sl na (facts a))), (1, .c (.sl nb (facts b)))], [(576, some (.arr i.nl i.sz (facts ((J.take i.k).map dropF)) 0))]⟩)
    (fun i => i.k ≤ J.length ∧ i.nl = decide (i.k = 0) ∧ i.sz = if i.nl then 0 else 3) (fun i => J.length - i.k) ⟨0, true, 0⟩ (by kernel_rfl) ⟨by simp, rfl, rfl⟩ (by simp [St.le]) ?_
  intro ⟨k, z, sz⟩ ⟨hk, hz, hsz⟩
  simp only at hk hz hsz
  by_cases h1 : k < J.length
  · have hw : IntKind.i64.wrap ((k : Int) + 1) = (k : Int) + 1 := IntWalk.i64_in _ (by omega)
    have hsn : (J.take (k + 1)).map dropF = (J.take k).map dropF ++ [dropF J[k]] := by rw [take_snoc h1, List.map_append]; rfl
    obtain ⟨r, hr, _⟩ := eJ _ (List.getElem_mem h1)
    have hnl := nJ _ (List.getElem_mem h1)
    have hrl := rJ _ (List.getElem_mem h1)
    unfold Normed at hnl
    unfold dropF at hsn
    simp -dsimp [h1, Fact.cells]
    generalize J[k] = f at *
    obtain ⟨fn, fr, fp⟩ := f
    simp only at hr hnl hrl hsn
    subst hr
    rw [List.length_append, List.length_singleton] at hrl
    have hnl : fn = false := by rw [hnl]; simp
    rw [List.dropLast_concat] at hsn
    subst hnl
    have hwl : IntKind.i64.wrap (r.length : Int) = r.length := IntWalk.i64_in _ (by omega)
    have hz0 : ((r.length : Int) + 1 == 0) = false := by rw [beq_eq_false_iff_ne]; omega
    have hlt : (r.length : Int) < (r.length : Int) + 1 := by omega
    simp -dsimp [hwl, hz0, hlt, v7, Val.cells]
    refine VL.draw (by kernel_rfl) [(0, false), (0, false), (2, false), (0, false), (8, false), (24, false), (56, false), (126, false), (0, false), (256, false), (1022, false), (2046, false), (4095, true), (8191, true)] (by kernel_rfl) ?_
    simp -dsimp [hwl, hlt, hw, maxLen]
    refine ⟨⟨by omega, ?_⟩, by omega, fun e => by rw [hsz, e]; rfl, by omega, ⟨k + 1, false, 3⟩, ⟨by simp only; omega, by simp, rfl⟩, ?_, by simp only; omega⟩
    · rintro e (⟨x, _, rfl⟩ | rfl) <;> rfl
    have hsc := congrArg facts hsn
    rw [facts, facts, List.map_append, List.map_map, List.map_map, List.map_take, List.map_take] at hsc
    simp [St.le, Fact.cells]
    exact hsc.symm
  · obtain rfl : k = J.length := by omega
    rw [List.take_length] at *
    simp -dsimp
    refine ⟨by decide, VCL.snap ?_⟩
    simp -dsimp
    refine VC.mk _ kn2 ?_
    simp -dsimp
    refine ⟨by decide, VCL.snap ?_⟩
    simp -dsimp
    refine VC.mk _ kna ?_
    simp -dsimp
    refine VC.mk _ ks ?_
    simp -dsimp
    refine VG.mk [.c (.sl true [])] _ (fun _ => kaa) rfl ?_
    simp -dsimp
    refine VG.mk [.c (.sl n.isEmpty (facts n))] _ (fun _ => kan) rfl ?_
    simp -dsimp
    refine ⟨by decide, VGL.call (args := [.tmp 80]) _ _ _ _ _ rfl rfl rfl ?_⟩
    simp -dsimp
    refine VCL.snap ?_
    simp -dsimp
    refine VC.mk _ kna ?_
    simp -dsimp
    refine VG.mk [.c (bln true)] _ (fun _ => ks) rfl ?_
    simp -dsimp
    refine ⟨by decide, VGL.call (args := [.tmp 86]) _ _ _ _ _ rfl rfl rfl ?_⟩
    simp -dsimp
    refine VCL.snap ?_
    simp -dsimp
    refine VC.mk _ (by simpa [facts] using knb z) ?_
    simp -dsimp
    refine ⟨by decide, VGL.call (args := [.tmp 89]) _ _ _ _ _ rfl rfl rfl ?_⟩
    simp -dsimp
    refine VCL.snap ?_
    simp -dsimp
    refine VC.mk _ kna ?_
    simp -dsimp
    refine VG.mk [.c (bln true)] _ (fun _ => ks) rfl ?_
    simp -dsimp
    refine VG.mk [.c (.sl true [])] _ (fun _ => kob) rfl ?_
    simp -dsimp
end Go.Proofs.Ytmkbclnhopoiiaa
