/- The library's sort of facts, as a contract of this logic. -/
import Derived.Test.YtmkbclnhopoiiaaGreatBRA
import Derived.Test.YtmkbclnhopoiiaaGreatV35
set_option linter.unusedSimpArgs false
set_option linter.unusedVariables false
namespace Go.Proofs.YtmkbclnhopoiiaaGreat
open Go.Shelf Go.RowKit Go.Lib Go.Sort
def Tryz.sortFact_ren : Go.Shelf.Ren := ⟨fun | 6 => 43 | 15 => 68 | 14 => 67 | 28 => 91 | 29 => 92 | 20 => 83 | 21 => 84 | 22 => 85 | 23 => 86 | 24 => 87 | 25 => 88 | 26 => 89 | 27 => 90 | 46 => 100 | 47 => 101 | 48 => 102 | 49 => 103 | 50 => 104 | 57 => 123 | n => n, fun | 22 => 22 | 24 => 48 | 25 => 75 | 3 => 3 | 39 => 92 | 0 => 0 | 53 => 120 | 55 => 88 | 4 => 4 | 46 => 113 | 45 => 112 | 50 => 117 | 5 => 5 | 9 => 9 | 66 => 129 | 70 => 133 | 76 => 146 | 77 => 147 | n => n, fun | n => n⟩
theorem Tryz.sortFact : Go.Proofs.SlLaysF0.n6 Tryz.prog Tryz.sortFact_ren := { mixed := by kernel_rfl, f6 := ⟨Tryz.f43.name, by decide, Tryz.func43.trans (congrArg some (by kernel_rfl))⟩, f14 := ⟨Tryz.f67.name, by decide, Tryz.func67.trans (congrArg some (by kernel_rfl))⟩, f15 := Tryz.func68.trans (congrArg some (by kernel_rfl)), f20 := ⟨Tryz.f83.name, by decide, Tryz.func83.trans (congrArg some (by kernel_rfl))⟩, f21 := ⟨Tryz.f84.name, by decide, Tryz.func84.trans (congrArg some (by kernel_rfl))⟩, f22 := ⟨Tryz.f85.name, by decide, Tryz.func85.trans (congrArg some (by kernel_rfl))⟩, f23 := ⟨Tryz.f86.name, by decide, Tryz.func86.trans (congrArg some (by kernel_rfl))⟩, f24 := ⟨Tryz.f87.name, by decide, Tryz.func87.trans (congrArg some (by kernel_rfl))⟩, f25 := ⟨Tryz.f88.name, by decide, Tryz.func88.trans (congrArg some (by kernel_rfl))⟩, f26 := ⟨Tryz.f89.name, by decide, Tryz.func89.trans (congrArg some (by kernel_rfl))⟩, f27 := ⟨Tryz.f90.name, by decide, Tryz.func90.trans (congrArg some (by kernel_rfl))⟩, f28 := Tryz.func91.trans (congrArg some (by kernel_rfl)), f29 := Tryz.func92.trans (congrArg some (by kernel_rfl)), f46 := ⟨Tryz.f100.name, by decide, Tryz.func100.trans (congrArg some (by kernel_rfl))⟩, f47 := Tryz.func101.trans (congrArg some (by kernel_rfl)), f48 := Tryz.func102.trans (congrArg some (by kernel_rfl)), f49 := ⟨Tryz.f103.name, by decide, Tryz.func103.trans (congrArg some (by kernel_rfl))⟩, f50 := ⟨Tryz.f104.name, by decide, Tryz.func104.trans (congrArg some (by kernel_rfl))⟩, f57 := ⟨Tryz.f123.name, by decide, Tryz.func123.trans (congrArg some (by kernel_rfl))⟩, t0 := Tryz.underlying0, a0 := Tryz.isAgg0, z0 := Tryz.sizeOf0, v0 := Tryz.zeroValue0, t3 := Tryz.underlying3, a3 := Tryz.isAgg3, z3 := Tryz.sizeOf3, v3 := Tryz.zeroValue3, t4 := Tryz.underlying4, a4 := Tryz.isAgg4, z4 := Tryz.sizeOf4, v4 := Tryz.zeroValue4, t5 := Tryz.underlying5, a5 := Tryz.isAgg5, z5 := Tryz.sizeOf5, v5 := Tryz.zeroValue5, t9 := Tryz.underlying9, a9 := Tryz.isAgg9, z9 := Tryz.sizeOf9, v9 := Tryz.zeroValue9, t22 := Tryz.underlying22, a22 := Tryz.isAgg22, z22 := Tryz.sizeOf22, v22 := Tryz.zeroValue22, t25 := Tryz.underlying75, a25 := Tryz.isAgg75, z25 := Tryz.sizeOf75, v25 := Tryz.zeroValue75, t39 := Tryz.underlying92, a39 := Tryz.isAgg92, z39 := Tryz.sizeOf92, v39 := Tryz.zeroValue92, t45 := Tryz.underlying112, a45 := Tryz.isAgg112, z45 := Tryz.sizeOf112, v45 := Tryz.zeroValue112, t46 := Tryz.underlying113, a46 := Tryz.isAgg113, z46 := Tryz.sizeOf113, v46 := Tryz.zeroValue113, t50 := Tryz.underlying117, a50 := Tryz.isAgg117, z50 := Tryz.sizeOf117, v50 := Tryz.zeroValue117, t53 := Tryz.underlying120, a53 := Tryz.isAgg120, z53 := Tryz.sizeOf120, v53 := Tryz.zeroValue120, t55 := Tryz.underlying88, a55 := Tryz.isAgg88, z55 := Tryz.sizeOf88, v55 := Tryz.zeroValue88, t66 := Tryz.underlying129, a66 := Tryz.isAgg129, z66 := Tryz.sizeOf129, v66 := Tryz.zeroValue129, t70 := Tryz.underlying133, a70 := Tryz.isAgg133, z70 := Tryz.sizeOf133, v70 := Tryz.zeroValue133, t76 := Tryz.underlying146, a76 := Tryz.isAgg146, z76 := Tryz.sizeOf146, v76 := Tryz.zeroValue146, t77 := Tryz.underlying147, a77 := Tryz.isAgg147, z77 := Tryz.sizeOf147, v77 := Tryz.zeroValue147 }

theorem ltO (x y : Fact) : ltOf ordF x y = decide (ordF x y < 0) := rfl
theorem swoO : SWO (ltOf ordF) where
  irrefl x := by rw [ltO, Cmp.fact.self]; rfl
  trans x y z h1 h2 := by
    rw [ltO] at *
    simp only [decide_eq_true_eq] at *
    exact Cmp.fact.lt (b := y) h1 (by omega)
  ntrans x y z h1 h2 := by
    rw [ltO] at *
    simp only [decide_eq_false_iff_not] at *
    have a1 := Cmp.fact.anti x y
    have a2 := Cmp.fact.anti y z
    have a3 := Cmp.fact.anti x z
    have := Cmp.fact.trans z y x (by omega) (by omega)
    omega
theorem sortsF_ok : SortsF := by
  refine ⟨fun l hne hN hl => ?_, ?_⟩
  · have eg : ∀ args w, (callFunc 44 args).run Tryz.prog w = .ok (.enter 44 args) w := enters_of Tryz.func44 (by kernel_rfl) rfl
    have h := Go.VL.ConB.sortD Tryz.sortFact (k := 3) Tryz.isAgg48 Tryz.sizeOf48 (by kernel_rfl) (fv := 44) eg (cells := Fact.cells) (fun _ => rfl) (cf := ordF) (Q := fun f => Normed f ∧ f.row.length ≤ 140737488355328)
      (fun x y hx hy => order_spec x y hx.2 hy.2) swoO l (sortF l) hne hN (by omega) (fun m hp hs => sortF_uniq (fun f hf => (hN f hf).1) hp (hs.imp fun {x y} hxy => by
        rw [ltO] at hxy
        simp only [decide_eq_false_iff_not] at hxy
        have := Cmp.fact.anti y x
        omega))
    exact h
  · refine Go.VL.Con.same (by kernel_rfl) fun w K us hd => ?_
    unfold Go.VL.DRs at hd
    rw [Go.VL.SRs] at hd
    obtain ⟨u, us', rfl, hu, hd⟩ := hd
    rw [Go.VL.SRs] at hd
    obtain ⟨u2, us'', rfl, hu2, hd⟩ := hd
    rw [Go.VL.SRs] at hd
    subst hd
    rw [Go.VL.SR, Go.VL.CR] at hu
    have hu' : u = .slice none 0 0 := by
      rcases hu with ⟨_, _, h⟩ | ⟨h, _⟩
      · exact h
      · cases h
    subst hu'
    have h := AnyF.slices_SortFunc_none Tryz.sortFact none 0 u2 w
    exact h
end Go.Proofs.YtmkbclnhopoiiaaGreat
