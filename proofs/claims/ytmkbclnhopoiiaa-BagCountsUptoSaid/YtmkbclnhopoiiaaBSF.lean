/- The library's sort of facts, as a contract of this logic. -/
import Derived.Test.YtmkbclnhopoiiaaBRA
import Derived.Test.YtmkbclnhopoiiaaV35
set_option linter.unusedSimpArgs false
set_option linter.unusedVariables false
namespace Go.Proofs.Ytmkbclnhopoiiaa
open Go.Shelf Go.RowKit Go.Lib Go.Sort
def Try.sortFact_ren : Go.Shelf.Ren := ⟨fun | 6 => 37 | 15 => 57 | 14 => 56 | 28 => 81 | 29 => 82 | 20 => 73 | 21 => 74 | 22 => 75 | 23 => 76 | 24 => 77 | 25 => 78 | 26 => 79 | 27 => 80 | 46 => 89 | 47 => 90 | 48 => 91 | 49 => 92 | 50 => 93 | 57 => 112 | n => n, fun | 22 => 22 | 24 => 38 | 25 => 65 | 3 => 3 | 39 => 88 | 0 => 0 | 53 => 112 | 55 => 98 | 4 => 4 | 46 => 105 | 45 => 104 | 50 => 109 | 5 => 5 | 9 => 9 | 66 => 120 | 70 => 124 | 76 => 137 | 77 => 138 | n => n, fun | n => n⟩
theorem Try.sortFact : Go.Proofs.SlLaysF0.n6 Try.prog Try.sortFact_ren := { mixed := by kernel_rfl, f6 := ⟨Try.f37.name, by decide, Try.func37.trans (congrArg some (by kernel_rfl))⟩, f14 := ⟨Try.f56.name, by decide, Try.func56.trans (congrArg some (by kernel_rfl))⟩, f15 := Try.func57.trans (congrArg some (by kernel_rfl)), f20 := ⟨Try.f73.name, by decide, Try.func73.trans (congrArg some (by kernel_rfl))⟩, f21 := ⟨Try.f74.name, by decide, Try.func74.trans (congrArg some (by kernel_rfl))⟩, f22 := ⟨Try.f75.name, by decide, Try.func75.trans (congrArg some (by kernel_rfl))⟩, f23 := ⟨Try.f76.name, by decide, Try.func76.trans (congrArg some (by kernel_rfl))⟩, f24 := ⟨Try.f77.name, by decide, Try.func77.trans (congrArg some (by kernel_rfl))⟩, f25 := ⟨Try.f78.name, by decide, Try.func78.trans (congrArg some (by kernel_rfl))⟩, f26 := ⟨Try.f79.name, by decide, Try.func79.trans (congrArg some (by kernel_rfl))⟩, f27 := ⟨Try.f80.name, by decide, Try.func80.trans (congrArg some (by kernel_rfl))⟩, f28 := Try.func81.trans (congrArg some (by kernel_rfl)), f29 := Try.func82.trans (congrArg some (by kernel_rfl)), f46 := ⟨Try.f89.name, by decide, Try.func89.trans (congrArg some (by kernel_rfl))⟩, f47 := Try.func90.trans (congrArg some (by kernel_rfl)), f48 := Try.func91.trans (congrArg some (by kernel_rfl)), f49 := ⟨Try.f92.name, by decide, Try.func92.trans (congrArg some (by kernel_rfl))⟩, f50 := ⟨Try.f93.name, by decide, Try.func93.trans (congrArg some (by kernel_rfl))⟩, f57 := ⟨Try.f112.name, by decide, Try.func112.trans (congrArg some (by kernel_rfl))⟩, t0 := Try.underlying0, a0 := Try.isAgg0, z0 := Try.sizeOf0, v0 := Try.zeroValue0, t3 := Try.underlying3, a3 := Try.isAgg3, z3 := Try.sizeOf3, v3 := Try.zeroValue3, t4 := Try.underlying4, a4 := Try.isAgg4, z4 := Try.sizeOf4, v4 := Try.zeroValue4, t5 := Try.underlying5, a5 := Try.isAgg5, z5 := Try.sizeOf5, v5 := Try.zeroValue5, t9 := Try.underlying9, a9 := Try.isAgg9, z9 := Try.sizeOf9, v9 := Try.zeroValue9, t22 := Try.underlying22, a22 := Try.isAgg22, z22 := Try.sizeOf22, v22 := Try.zeroValue22, t25 := Try.underlying65, a25 := Try.isAgg65, z25 := Try.sizeOf65, v25 := Try.zeroValue65, t39 := Try.underlying88, a39 := Try.isAgg88, z39 := Try.sizeOf88, v39 := Try.zeroValue88, t45 := Try.underlying104, a45 := Try.isAgg104, z45 := Try.sizeOf104, v45 := Try.zeroValue104, t46 := Try.underlying105, a46 := Try.isAgg105, z46 := Try.sizeOf105, v46 := Try.zeroValue105, t50 := Try.underlying109, a50 := Try.isAgg109, z50 := Try.sizeOf109, v50 := Try.zeroValue109, t53 := Try.underlying112, a53 := Try.isAgg112, z53 := Try.sizeOf112, v53 := Try.zeroValue112, t55 := Try.underlying98, a55 := Try.isAgg98, z55 := Try.sizeOf98, v55 := Try.zeroValue98, t66 := Try.underlying120, a66 := Try.isAgg120, z66 := Try.sizeOf120, v66 := Try.zeroValue120, t70 := Try.underlying124, a70 := Try.isAgg124, z70 := Try.sizeOf124, v70 := Try.zeroValue124, t76 := Try.underlying137, a76 := Try.isAgg137, z76 := Try.sizeOf137, v76 := Try.zeroValue137, t77 := Try.underlying138, a77 := Try.isAgg138, z77 := Try.sizeOf138, v77 := Try.zeroValue138 }

theorem ltO (x y : Fact) : ltOf ordF x y = decide (ordF x y < 0) := rfl
theorem swoO : SWO (ltOf ordF) where
  irrefl x := by rw [ltO, Cmp.fact.self]; rfl
  trans x y z h1 h2 := by
    rw [ltO] at *
    simp only [decide_eq_true_eq] at *
    exact Cmp.fact.lt (b := y) h1 (by omega)
  ntrans x y z h1 h2 := by
    rw [ltO] at *
    simp only [decide_eq_false_iff_not] at *
    have a1 := Cmp.fact.anti x y
    have a2 := Cmp.fact.anti y z
    have a3 := Cmp.fact.anti x z
    have := Cmp.fact.trans z y x (by omega) (by omega)
    omega
theorem sortsF_ok : SortsF := by
  refine ⟨fun l hne hN hl => ?_, ?_⟩
  · have eg : ∀ args w, (callFunc 38 args).run Try.prog w = .ok (.enter 38 args) w := enters_of Try.func38 (by kernel_rfl) rfl
    have h := Go.VL.ConB.sortD Try.sortFact (k := 3) Try.isAgg38 Try.sizeOf38 (by kernel_rfl) (fv := 38) eg (cells := Fact.cells) (fun _ => rfl) (cf := ordF) (Q := fun f => Normed f ∧ f.row.length ≤ 140737488355328)
      (fun x y hx hy => order_spec x y hx.2 hy.2) swoO l (sortF l) hne hN (by omega) (fun m hp hs => sortF_uniq (fun f hf => (hN f hf).1) hp (hs.imp fun {x y} hxy => by
        rw [ltO] at hxy
        simp only [decide_eq_false_iff_not] at hxy
        have := Cmp.fact.anti y x
        omega))
    exact h
  · refine Go.VL.Con.same (by kernel_rfl) fun w K us hd => ?_
    unfold Go.VL.DRs at hd
    rw [Go.VL.SRs] at hd
    obtain ⟨u, us', rfl, hu, hd⟩ := hd
    rw [Go.VL.SRs] at hd
    obtain ⟨u2, us'', rfl, hu2, hd⟩ := hd
    rw [Go.VL.SRs] at hd
    subst hd
    rw [Go.VL.SR, Go.VL.CR] at hu
    have hu' : u = .slice none 0 0 := by
      rcases hu with ⟨_, _, h⟩ | ⟨h, _⟩
      · exact h
      · cases h
    subst hu'
    have h := AnyF.slices_SortFunc_none Try.sortFact none 0 u2 w
    exact h
end Go.Proofs.Ytmkbclnhopoiiaa
