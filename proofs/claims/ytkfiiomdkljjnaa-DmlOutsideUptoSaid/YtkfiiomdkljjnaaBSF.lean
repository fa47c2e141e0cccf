/- The library's sort of facts, as a contract of this logic. -/
import Derived.Test.YtkfiiomdkljjnaaBB
import Derived.Test.YtkfiiomdkljjnaaV35
set_option linter.unusedSimpArgs false
set_option linter.unusedVariables false
namespace Go.Proofs.Ytkfiiomdkljjnaa
open Go.Shelf Go.RowKit Go.Lib Go.Sort
def Try.sortFact_ren : Go.Shelf.Ren := ⟨fun | 6 => 67 | 15 => 78 | 14 => 77 | 28 => 99 | 29 => 100 | 20 => 91 | 21 => 92 | 22 => 93 | 23 => 94 | 24 => 95 | 25 => 96 | 26 => 97 | 27 => 98 | 46 => 107 | 47 => 108 | 48 => 109 | 49 => 110 | 50 => 111 | 57 => 122 | n => n, fun | 22 => 22 | 24 => 34 | 25 => 151 | 3 => 3 | 39 => 163 | 0 => 0 | 53 => 184 | 55 => 171 | 4 => 4 | 46 => 178 | 45 => 177 | 50 => 135 | 5 => 5 | 9 => 9 | 66 => 191 | 70 => 195 | 76 => 202 | 77 => 142 | n => n, fun | n => n⟩
theorem Try.sortFact : Go.Proofs.SlLaysF0.n6 Try.prog Try.sortFact_ren := { mixed := by kernel_rfl, f6 := ⟨Try.f67.name, by decide, Try.func67.trans (congrArg some (by kernel_rfl))⟩, f14 := ⟨Try.f77.name, by decide, Try.func77.trans (congrArg some (by kernel_rfl))⟩, f15 := Try.func78.trans (congrArg some (by kernel_rfl)), f20 := ⟨Try.f91.name, by decide, Try.func91.trans (congrArg some (by kernel_rfl))⟩, f21 := ⟨Try.f92.name, by decide, Try.func92.trans (congrArg some (by kernel_rfl))⟩, f22 := ⟨Try.f93.name, by decide, Try.func93.trans (congrArg some (by kernel_rfl))⟩, f23 := ⟨Try.f94.name, by decide, Try.func94.trans (congrArg some (by kernel_rfl))⟩, f24 := ⟨Try.f95.name, by decide, Try.func95.trans (congrArg some (by kernel_rfl))⟩, f25 := ⟨Try.f96.name, by decide, Try.func96.trans (congrArg some (by kernel_rfl))⟩, f26 := ⟨Try.f97.name, by decide, Try.func97.trans (congrArg some (by kernel_rfl))⟩, f27 := ⟨Try.f98.name, by decide, Try.func98.trans (congrArg some (by kernel_rfl))⟩, f28 := Try.func99.trans (congrArg some (by kernel_rfl)), f29 := Try.func100.trans (congrArg some (by kernel_rfl)), f46 := ⟨Try.f107.name, by decide, Try.func107.trans (congrArg some (by kernel_rfl))⟩, f47 := Try.func108.trans (congrArg some (by kernel_rfl)), f48 := Try.func109.trans (congrArg some (by kernel_rfl)), f49 := ⟨Try.f110.name, by decide, Try.func110.trans (congrArg some (by kernel_rfl))⟩, f50 := ⟨Try.f111.name, by decide, Try.func111.trans (congrArg some (by kernel_rfl))⟩, f57 := ⟨Try.f122.name, by decide, Try.func122.trans (congrArg some (by kernel_rfl))⟩, t0 := Try.underlying0, a0 := Try.isAgg0, z0 := Try.sizeOf0, v0 := Try.zeroValue0, t3 := Try.underlying3, a3 := Try.isAgg3, z3 := Try.sizeOf3, v3 := Try.zeroValue3, t4 := Try.underlying4, a4 := Try.isAgg4, z4 := Try.sizeOf4, v4 := Try.zeroValue4, t5 := Try.underlying5, a5 := Try.isAgg5, z5 := Try.sizeOf5, v5 := Try.zeroValue5, t9 := Try.underlying9, a9 := Try.isAgg9, z9 := Try.sizeOf9, v9 := Try.zeroValue9, t22 := Try.underlying22, a22 := Try.isAgg22, z22 := Try.sizeOf22, v22 := Try.zeroValue22, t25 := Try.underlying151, a25 := Try.isAgg151, z25 := Try.sizeOf151, v25 := Try.zeroValue151, t39 := Try.underlying163, a39 := Try.isAgg163, z39 := Try.sizeOf163, v39 := Try.zeroValue163, t45 := Try.underlying177, a45 := Try.isAgg177, z45 := Try.sizeOf177, v45 := Try.zeroValue177, t46 := Try.underlying178, a46 := Try.isAgg178, z46 := Try.sizeOf178, v46 := Try.zeroValue178, t50 := Try.underlying135, a50 := Try.isAgg135, z50 := Try.sizeOf135, v50 := Try.zeroValue135, t53 := Try.underlying184, a53 := Try.isAgg184, z53 := Try.sizeOf184, v53 := Try.zeroValue184, t55 := Try.underlying171, a55 := Try.isAgg171, z55 := Try.sizeOf171, v55 := Try.zeroValue171, t66 := Try.underlying191, a66 := Try.isAgg191, z66 := Try.sizeOf191, v66 := Try.zeroValue191, t70 := Try.underlying195, a70 := Try.isAgg195, z70 := Try.sizeOf195, v70 := Try.zeroValue195, t76 := Try.underlying202, a76 := Try.isAgg202, z76 := Try.sizeOf202, v76 := Try.zeroValue202, t77 := Try.underlying142, a77 := Try.isAgg142, z77 := Try.sizeOf142, v77 := Try.zeroValue142 }

theorem ltO (x y : Fact) : ltOf ordF x y = decide (ordF x y < 0) := rfl
theorem swoO : SWO (ltOf ordF) where
  irrefl x := by rw [ltO, Cmp.fact.self]; rfl
  trans x y z h1 h2 := by
    rw [ltO] at *
    simp only [decide_eq_true_eq] at *
    exact Cmp.fact.lt (b := y) h1 (by omega)
  ntrans x y z h1 h2 := by
    rw [ltO] at *
    simp only [decide_eq_false_iff_not] at *
    have a1 := Cmp.fact.anti x y
    have a2 := Cmp.fact.anti y z
    have a3 := Cmp.fact.anti x z
    have := Cmp.fact.trans z y x (by omega) (by omega)
    omega
theorem sortsF_ok : SortsF := by
  refine ⟨fun l hne hN hl => ?_, ?_⟩
  · have eg : ∀ args w, (callFunc 68 args).run Try.prog w = .ok (.enter 68 args) w := enters_of Try.func68 (by kernel_rfl) rfl
    have h := Go.VL.ConB.sortD Try.sortFact (k := 3) Try.isAgg34 Try.sizeOf34 (by kernel_rfl) (fv := 68) eg (cells := Fact.cells) (fun _ => rfl) (cf := ordF) (Q := fun f => Normed f ∧ f.row.length ≤ 140737488355328)
      (fun x y hx hy => order_spec x y hx.2 hy.2) swoO l (sortF l) hne hN (by omega) (fun m hp hs => sortF_uniq (fun f hf => (hN f hf).1) hp (hs.imp fun {x y} hxy => by
        rw [ltO] at hxy
        simp only [decide_eq_false_iff_not] at hxy
        have := Cmp.fact.anti y x
        omega))
    exact h
  · refine Go.VL.Con.same (by kernel_rfl) fun w K us hd => ?_
    unfold Go.VL.DRs at hd
    rw [Go.VL.SRs] at hd
    obtain ⟨u, us', rfl, hu, hd⟩ := hd
    rw [Go.VL.SRs] at hd
    obtain ⟨u2, us'', rfl, hu2, hd⟩ := hd
    rw [Go.VL.SRs] at hd
    subst hd
    rw [Go.VL.SR, Go.VL.CR] at hu
    have hu' : u = .slice none 0 0 := by
      rcases hu with ⟨_, _, h⟩ | ⟨h, _⟩
      · exact h
      · cases h
    subst hu'
    have h := AnyF.slices_SortFunc_none Try.sortFact none 0 u2 w
    exact h
end Go.Proofs.Ytkfiiomdkljjnaa
