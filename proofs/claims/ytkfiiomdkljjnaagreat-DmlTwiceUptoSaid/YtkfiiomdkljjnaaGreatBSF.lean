/- The library's sort of facts, as a contract of this logic. -/
import Derived.Test.YtkfiiomdkljjnaaGreatBB
import Derived.Test.YtkfiiomdkljjnaaGreatV35
set_option linter.unusedSimpArgs false
set_option linter.unusedVariables false
namespace Go.Proofs.YtkfiiomdkljjnaaGreat
open Go.Shelf Go.RowKit Go.Lib Go.Sort
def Tryz.sortFact_ren : Go.Shelf.Ren := ⟨fun | 6 => 28 | 15 => 47 | 14 => 46 | 28 => 71 | 29 => 72 | 20 => 63 | 21 => 64 | 22 => 65 | 23 => 66 | 24 => 67 | 25 => 68 | 26 => 69 | 27 => 70 | 46 => 82 | 47 => 83 | 48 => 84 | 49 => 85 | 50 => 86 | 57 => 108 | n => n, fun | 22 => 22 | 24 => 47 | 25 => 89 | 3 => 3 | 39 => 117 | 0 => 0 | 53 => 142 | 55 => 144 | 4 => 4 | 46 => 136 | 45 => 135 | 50 => 102 | 5 => 5 | 9 => 9 | 66 => 154 | 70 => 158 | 76 => 174 | 77 => 175 | n => n, fun | n => n⟩
theorem Tryz.sortFact : Go.Proofs.SlLaysF0.n6 Tryz.prog Tryz.sortFact_ren := { mixed := by kernel_rfl, f6 := ⟨Tryz.f28.name, by decide, Tryz.func28.trans (congrArg some (by kernel_rfl))⟩, f14 := ⟨Tryz.f46.name, by decide, Tryz.func46.trans (congrArg some (by kernel_rfl))⟩, f15 := Tryz.func47.trans (congrArg some (by kernel_rfl)), f20 := ⟨Tryz.f63.name, by decide, Tryz.func63.trans (congrArg some (by kernel_rfl))⟩, f21 := ⟨Tryz.f64.name, by decide, Tryz.func64.trans (congrArg some (by kernel_rfl))⟩, f22 := ⟨Tryz.f65.name, by decide, Tryz.func65.trans (congrArg some (by kernel_rfl))⟩, f23 := ⟨Tryz.f66.name, by decide, Tryz.func66.trans (congrArg some (by kernel_rfl))⟩, f24 := ⟨Tryz.f67.name, by decide, Tryz.func67.trans (congrArg some (by kernel_rfl))⟩, f25 := ⟨Tryz.f68.name, by decide, Tryz.func68.trans (congrArg some (by kernel_rfl))⟩, f26 := ⟨Tryz.f69.name, by decide, Tryz.func69.trans (congrArg some (by kernel_rfl))⟩, f27 := ⟨Tryz.f70.name, by decide, Tryz.func70.trans (congrArg some (by kernel_rfl))⟩, f28 := Tryz.func71.trans (congrArg some (by kernel_rfl)), f29 := Tryz.func72.trans (congrArg some (by kernel_rfl)), f46 := ⟨Tryz.f82.name, by decide, Tryz.func82.trans (congrArg some (by kernel_rfl))⟩, f47 := Tryz.func83.trans (congrArg some (by kernel_rfl)), f48 := Tryz.func84.trans (congrArg some (by kernel_rfl)), f49 := ⟨Tryz.f85.name, by decide, Tryz.func85.trans (congrArg some (by kernel_rfl))⟩, f50 := ⟨Tryz.f86.name, by decide, Tryz.func86.trans (congrArg some (by kernel_rfl))⟩, f57 := ⟨Tryz.f108.name, by decide, Tryz.func108.trans (congrArg some (by kernel_rfl))⟩, t0 := Tryz.underlying0, a0 := Tryz.isAgg0, z0 := Tryz.sizeOf0, v0 := Tryz.zeroValue0, t3 := Tryz.underlying3, a3 := Tryz.isAgg3, z3 := Tryz.sizeOf3, v3 := Tryz.zeroValue3, t4 := Tryz.underlying4, a4 := Tryz.isAgg4, z4 := Tryz.sizeOf4, v4 := Tryz.zeroValue4, t5 := Tryz.underlying5, a5 := Tryz.isAgg5, z5 := Tryz.sizeOf5, v5 := Tryz.zeroValue5, t9 := Tryz.underlying9, a9 := Tryz.isAgg9, z9 := Tryz.sizeOf9, v9 := Tryz.zeroValue9, t22 := Tryz.underlying22, a22 := Tryz.isAgg22, z22 := Tryz.sizeOf22, v22 := Tryz.zeroValue22, t25 := Tryz.underlying89, a25 := Tryz.isAgg89, z25 := Tryz.sizeOf89, v25 := Tryz.zeroValue89, t39 := Tryz.underlying117, a39 := Tryz.isAgg117, z39 := Tryz.sizeOf117, v39 := Tryz.zeroValue117, t45 := Tryz.underlying135, a45 := Tryz.isAgg135, z45 := Tryz.sizeOf135, v45 := Tryz.zeroValue135, t46 := Tryz.underlying136, a46 := Tryz.isAgg136, z46 := Tryz.sizeOf136, v46 := Tryz.zeroValue136, t50 := Tryz.underlying102, a50 := Tryz.isAgg102, z50 := Tryz.sizeOf102, v50 := Tryz.zeroValue102, t53 := Tryz.underlying142, a53 := Tryz.isAgg142, z53 := Tryz.sizeOf142, v53 := Tryz.zeroValue142, t55 := Tryz.underlying144, a55 := Tryz.isAgg144, z55 := Tryz.sizeOf144, v55 := Tryz.zeroValue144, t66 := Tryz.underlying154, a66 := Tryz.isAgg154, z66 := Tryz.sizeOf154, v66 := Tryz.zeroValue154, t70 := Tryz.underlying158, a70 := Tryz.isAgg158, z70 := Tryz.sizeOf158, v70 := Tryz.zeroValue158, t76 := Tryz.underlying174, a76 := Tryz.isAgg174, z76 := Tryz.sizeOf174, v76 := Tryz.zeroValue174, t77 := Tryz.underlying175, a77 := Tryz.isAgg175, z77 := Tryz.sizeOf175, v77 := Tryz.zeroValue175 }

theorem ltO (x y : Fact) : ltOf ordF x y = decide (ordF x y < 0) := rfl
theorem swoO : SWO (ltOf ordF) where
  irrefl x := by rw [ltO, Cmp.fact.self]; rfl
  trans x y z h1 h2 := by
    rw [ltO] at *
    simp only [decide_eq_true_eq] at *
    exact Cmp.fact.lt (b := y) h1 (by omega)
  ntrans x y z h1 h2 := by
    rw [ltO] at *
    simp only [decide_eq_false_iff_not] at *
    have a1 := Cmp.fact.anti x y
    have a2 := Cmp.fact.anti y z
    have a3 := Cmp.fact.anti x z
    have := Cmp.fact.trans z y x (by omega) (by omega)
    omega
theorem sortsF_ok : SortsF := by
  refine ⟨fun l hne hN hl => ?_, ?_⟩
  · have eg : ∀ args w, (callFunc 29 args).run Tryz.prog w = .ok (.enter 29 args) w := enters_of Tryz.func29 (by kernel_rfl) rfl
    have h := Go.VL.ConB.sortD Tryz.sortFact (k := 3) Tryz.isAgg47 Tryz.sizeOf47 (by kernel_rfl) (fv := 29) eg (cells := Fact.cells) (fun _ => rfl) (cf := ordF) (Q := fun f => Normed f ∧ f.row.length ≤ 140737488355328)
      (fun x y hx hy => order_spec x y hx.2 hy.2) swoO l (sortF l) hne hN (by omega) (fun m hp hs => sortF_uniq (fun f hf => (hN f hf).1) hp (hs.imp fun {x y} hxy => by
        rw [ltO] at hxy
        simp only [decide_eq_false_iff_not] at hxy
        have := Cmp.fact.anti y x
        omega))
    exact h
  · refine Go.VL.Con.same (by kernel_rfl) fun w K us hd => ?_
    unfold Go.VL.DRs at hd
    rw [Go.VL.SRs] at hd
    obtain ⟨u, us', rfl, hu, hd⟩ := hd
    rw [Go.VL.SRs] at hd
    obtain ⟨u2, us'', rfl, hu2, hd⟩ := hd
    rw [Go.VL.SRs] at hd
    subst hd
    rw [Go.VL.SR, Go.VL.CR] at hu
    have hu' : u = .slice none 0 0 := by
      rcases hu with ⟨_, _, h⟩ | ⟨h, _⟩
      · exact h
      · cases h
    subst hu'
    have h := AnyF.slices_SortFunc_none Tryz.sortFact none 0 u2 w
    exact h
end Go.Proofs.YtkfiiomdkljjnaaGreat
