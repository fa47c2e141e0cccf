/- Contracts of functions of the seat, proved in a logic on data over the model (part BSF). -/
import Derived.Test.YtlphpbcafplnbaaGreatBB
import Derived.Test.YtlphpbcafplnbaaGreatV35
set_option linter.unusedSimpArgs false
set_option linter.unusedVariables false
namespace Go.Proofs.YtlphpbcafplnbaaGreat
open Go.Shelf Go.RowKit Go.Lib Go.Sort
def Tryz.sortFact_ren : Go.Shelf.Ren := ⟨fun | 6 => 90 | 15 => 116 | 14 => 115 | 28 => 142 | 29 => 75 | 20 => 117 | 21 => 135 | 22 => 136 | 23 => 137 | 24 => 138 | 25 => 139 | 26 => 140 | 27 => 141 | 46 => 151 | 47 => 152 | 48 => 153 | 49 => 154 | 50 => 155 | 57 => 175 | n => n, fun | 22 => 22 | 24 => 40 | 25 => 148 | 3 => 3 | 39 => 205 | 0 => 0 | 53 => 241 | 55 => 179 | 4 => 4 | 46 => 235 | 45 => 234 | 50 => 156 | 5 => 5 | 9 => 9 | 66 => 249 | 70 => 253 | 76 => 267 | 77 => 221 | n => n, fun | n => n⟩
theorem Tryz.sortFact : Go.Proofs.SlLaysF0.n6 Tryz.prog Tryz.sortFact_ren := { mixed := by kernel_rfl, f6 := ⟨Tryz.f90.name, by decide, Tryz.func90.trans (congrArg some (by kernel_rfl))⟩, f14 := ⟨Tryz.f115.name, by decide, Tryz.func115.trans (congrArg some (by kernel_rfl))⟩, f15 := Tryz.func116.trans (congrArg some (by kernel_rfl)), f20 := ⟨Tryz.f117.name, by decide, Tryz.func117.trans (congrArg some (by kernel_rfl))⟩, f21 := ⟨Tryz.f135.name, by decide, Tryz.func135.trans (congrArg some (by kernel_rfl))⟩, f22 := ⟨Tryz.f136.name, by decide, Tryz.func136.trans (congrArg some (by kernel_rfl))⟩, f23 := ⟨Tryz.f137.name, by decide, Tryz.func137.trans (congrArg some (by kernel_rfl))⟩, f24 := ⟨Tryz.f138.name, by decide, Tryz.func138.trans (congrArg some (by kernel_rfl))⟩, f25 := ⟨Tryz.f139.name, by decide, Tryz.func139.trans (congrArg some (by kernel_rfl))⟩, f26 := ⟨Tryz.f140.name, by decide, Tryz.func140.trans (congrArg some (by kernel_rfl))⟩, f27 := ⟨Tryz.f141.name, by decide, Tryz.func141.trans (congrArg some (by kernel_rfl))⟩, f28 := Tryz.func142.trans (congrArg some (by kernel_rfl)), f29 := Tryz.func75.trans (congrArg some (by kernel_rfl)), f46 := ⟨Tryz.f151.name, by decide, Tryz.func151.trans (congrArg some (by kernel_rfl))⟩, f47 := Tryz.func152.trans (congrArg some (by kernel_rfl)), f48 := Tryz.func153.trans (congrArg some (by kernel_rfl)), f49 := ⟨Tryz.f154.name, by decide, Tryz.func154.trans (congrArg some (by kernel_rfl))⟩, f50 := ⟨Tryz.f155.name, by decide, Tryz.func155.trans (congrArg some (by kernel_rfl))⟩, f57 := ⟨Tryz.f175.name, by decide, Tryz.func175.trans (congrArg some (by kernel_rfl))⟩, t0 := Tryz.underlying0, a0 := Tryz.isAgg0, z0 := Tryz.sizeOf0, v0 := Tryz.zeroValue0, t3 := Tryz.underlying3, a3 := Tryz.isAgg3, z3 := Tryz.sizeOf3, v3 := Tryz.zeroValue3, t4 := Tryz.underlying4, a4 := Tryz.isAgg4, z4 := Tryz.sizeOf4, v4 := Tryz.zeroValue4, t5 := Tryz.underlying5, a5 := Tryz.isAgg5, z5 := Tryz.sizeOf5, v5 := Tryz.zeroValue5, t9 := Tryz.underlying9, a9 := Tryz.isAgg9, z9 := Tryz.sizeOf9, v9 := Tryz.zeroValue9, t22 := Tryz.underlying22, a22 := Tryz.isAgg22, z22 := Tryz.sizeOf22, v22 := Tryz.zeroValue22, t25 := Tryz.underlying148, a25 := Tryz.isAgg148, z25 := Tryz.sizeOf148, v25 := Tryz.zeroValue148, t39 := Tryz.underlying205, a39 := Tryz.isAgg205, z39 := Tryz.sizeOf205, v39 := Tryz.zeroValue205, t45 := Tryz.underlying234, a45 := Tryz.isAgg234, z45 := Tryz.sizeOf234, v45 := Tryz.zeroValue234, t46 := Tryz.underlying235, a46 := Tryz.isAgg235, z46 := Tryz.sizeOf235, v46 := Tryz.zeroValue235, t50 := Tryz.underlying156, a50 := Tryz.isAgg156, z50 := Tryz.sizeOf156, v50 := Tryz.zeroValue156, t53 := Tryz.underlying241, a53 := Tryz.isAgg241, z53 := Tryz.sizeOf241, v53 := Tryz.zeroValue241, t55 := Tryz.underlying179, a55 := Tryz.isAgg179, z55 := Tryz.sizeOf179, v55 := Tryz.zeroValue179, t66 := Tryz.underlying249, a66 := Tryz.isAgg249, z66 := Tryz.sizeOf249, v66 := Tryz.zeroValue249, t70 := Tryz.underlying253, a70 := Tryz.isAgg253, z70 := Tryz.sizeOf253, v70 := Tryz.zeroValue253, t76 := Tryz.underlying267, a76 := Tryz.isAgg267, z76 := Tryz.sizeOf267, v76 := Tryz.zeroValue267, t77 := Tryz.underlying221, a77 := Tryz.isAgg221, z77 := Tryz.sizeOf221, v77 := Tryz.zeroValue221 }
theorem ltO (x y : Fact) : ltOf ordF x y = decide (ordF x y < 0) := rfl
theorem swoO : SWO (ltOf ordF) where
  irrefl x := by rw [ltO, Cmp.fact.self]; rfl
  trans x y z h1 h2 := by
    rw [ltO] at *
    simp only [decide_eq_true_eq] at *
    exact Cmp.fact.lt (b := y) h1 (by omega)
  ntrans x y z h1 h2 := by
    rw [ltO] at *
    simp only [decide_eq_false_iff_not] at *
    have a1 := Cmp.fact.anti x y
    have a2 := Cmp.fact.anti y z
    have a3 := Cmp.fact.anti x z
    have := Cmp.fact.trans z y x (by omega) (by omega)
    omega
theorem sortsF_ok : SortsF := by
  refine ⟨fun l hne hN hl => ?_, ?_⟩
  · have eg : ∀ args w, (callFunc 91 args).run Tryz.prog w = .ok (.enter 91 args) w := enters_of Tryz.func91 (by kernel_rfl) rfl
    have h := Go.VL.ConB.sortD Tryz.sortFact (k := 3) Tryz.isAgg40 Tryz.sizeOf40 (by kernel_rfl) (fv := 91) eg (cells := Fact.cells) (fun _ => rfl) (cf := ordF) (Q := fun f => Normed f ∧ f.row.length ≤ 140737488355328)
      (fun x y hx hy => order_spec x y hx.2 hy.2) swoO l (sortF l) hne hN (by omega) (fun m hp hs => sortF_uniq (fun f hf => (hN f hf).1) hp (hs.imp fun {x y} hxy => by
        rw [ltO] at hxy
        simp only [decide_eq_false_iff_not] at hxy
        have := Cmp.fact.anti y x
        omega))
    exact h
  · refine Go.VL.Con.same (by kernel_rfl) fun w K us hd => ?_
    unfold Go.VL.DRs at hd
    rw [Go.VL.SRs] at hd
    obtain ⟨u, us', rfl, hu, hd⟩ := hd
    rw [Go.VL.SRs] at hd
    obtain ⟨u2, us'', rfl, hu2, hd⟩ := hd
    rw [Go.VL.SRs] at hd
    subst hd
    rw [Go.VL.SR, Go.VL.CR] at hu
    have hu' : u = .slice none 0 0 := by
      rcases hu with ⟨_, _, h⟩ | ⟨h, _⟩
      · exact h
      · cases h
    subst hu'
    have h := AnyF.slices_SortFunc_none Tryz.sortFact none 0 u2 w
    exact h
end Go.Proofs.YtlphpbcafplnbaaGreat
