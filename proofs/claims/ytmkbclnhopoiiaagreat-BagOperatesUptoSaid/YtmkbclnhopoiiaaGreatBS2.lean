/- The library's Sort and Compact of whole numbers, as contracts of this logic. -/
import Derived.Test.YtmkbclnhopoiiaaGreatEA
import Derived.Test.YtmkbclnhopoiiaaGreatV34
import Derived.Shelf.SortM.Plain
import Derived.Shelf.SortM.SortNone
import Derived.Shelf.SlicesG.CompactI
set_option linter.unusedSimpArgs false
set_option linter.unusedVariables false
namespace Go.Proofs.YtmkbclnhopoiiaaGreat
open Go.Shelf Go.RowKit Go.Lib Go.Sort
def Tryz.sortInt_ren : Go.Shelf.Ren := ⟨fun | 5 => 77 | 8 => 68 | 7 => 98 | 19 => 91 | 20 => 92 | 10 => 114 | 11 => 115 | 12 => 116 | 13 => 117 | 14 => 118 | 15 => 119 | 16 => 120 | 17 => 121 | 18 => 122 | 30 => 127 | 31 => 101 | 32 => 102 | 33 => 128 | 34 => 129 | 35 => 93 | 40 => 131 | n => n, fun | 23 => 65 | 25 => 2 | 3 => 3 | 32 => 92 | 22 => 65 | 0 => 0 | 44 => 120 | 46 => 88 | 4 => 4 | 36 => 113 | 35 => 112 | 41 => 117 | 5 => 5 | 9 => 9 | 53 => 129 | 57 => 133 | 63 => 146 | 64 => 147 | n => n, fun | n => n⟩
theorem Tryz.sortInt : Go.Proofs.SlLaysM.n5 Tryz.prog Tryz.sortInt_ren := { mixed := by kernel_rfl, f5 := ⟨Tryz.f77.name, by decide, Tryz.func77.trans (congrArg some (by kernel_rfl))⟩, f7 := ⟨Tryz.f98.name, by decide, Tryz.func98.trans (congrArg some (by kernel_rfl))⟩, f8 := Tryz.func68.trans (congrArg some (by kernel_rfl)), f10 := ⟨Tryz.f114.name, by decide, Tryz.func114.trans (congrArg some (by kernel_rfl))⟩, f11 := ⟨Tryz.f115.name, by decide, Tryz.func115.trans (congrArg some (by kernel_rfl))⟩, f12 := ⟨Tryz.f116.name, by decide, Tryz.func116.trans (congrArg some (by kernel_rfl))⟩, f13 := ⟨Tryz.f117.name, by decide, Tryz.func117.trans (congrArg some (by kernel_rfl))⟩, f14 := ⟨Tryz.f118.name, by decide, Tryz.func118.trans (congrArg some (by kernel_rfl))⟩, f15 := ⟨Tryz.f119.name, by decide, Tryz.func119.trans (congrArg some (by kernel_rfl))⟩, f16 := ⟨Tryz.f120.name, by decide, Tryz.func120.trans (congrArg some (by kernel_rfl))⟩, f17 := ⟨Tryz.f121.name, by decide, Tryz.func121.trans (congrArg some (by kernel_rfl))⟩, f18 := ⟨Tryz.f122.name, by decide, Tryz.func122.trans (congrArg some (by kernel_rfl))⟩, f19 := Tryz.func91.trans (congrArg some (by kernel_rfl)), f20 := Tryz.func92.trans (congrArg some (by kernel_rfl)), f30 := ⟨Tryz.f127.name, by decide, Tryz.func127.trans (congrArg some (by kernel_rfl))⟩, f31 := Tryz.func101.trans (congrArg some (by kernel_rfl)), f32 := Tryz.func102.trans (congrArg some (by kernel_rfl)), f33 := ⟨Tryz.f128.name, by decide, Tryz.func128.trans (congrArg some (by kernel_rfl))⟩, f34 := ⟨Tryz.f129.name, by decide, Tryz.func129.trans (congrArg some (by kernel_rfl))⟩, f35 := ⟨Tryz.f93.name, by decide, Tryz.func93.trans (congrArg some (by kernel_rfl))⟩, f40 := ⟨Tryz.f131.name, by decide, Tryz.func131.trans (congrArg some (by kernel_rfl))⟩, t0 := Tryz.underlying0, a0 := Tryz.isAgg0, z0 := Tryz.sizeOf0, v0 := Tryz.zeroValue0, t3 := Tryz.underlying3, a3 := Tryz.isAgg3, z3 := Tryz.sizeOf3, v3 := Tryz.zeroValue3, t4 := Tryz.underlying4, a4 := Tryz.isAgg4, z4 := Tryz.sizeOf4, v4 := Tryz.zeroValue4, t5 := Tryz.underlying5, a5 := Tryz.isAgg5, z5 := Tryz.sizeOf5, v5 := Tryz.zeroValue5, t9 := Tryz.underlying9, a9 := Tryz.isAgg9, z9 := Tryz.sizeOf9, v9 := Tryz.zeroValue9, t22 := Tryz.underlying65, a22 := Tryz.isAgg65, z22 := Tryz.sizeOf65, v22 := Tryz.zeroValue65, t23 := Tryz.underlying65, a23 := Tryz.isAgg65, z23 := Tryz.sizeOf65, v23 := Tryz.zeroValue65, t25 := Tryz.underlying2, a25 := Tryz.isAgg2, z25 := Tryz.sizeOf2, v25 := Tryz.zeroValue2, t32 := Tryz.underlying92, a32 := Tryz.isAgg92, z32 := Tryz.sizeOf92, v32 := Tryz.zeroValue92, t35 := Tryz.underlying112, a35 := Tryz.isAgg112, z35 := Tryz.sizeOf112, v35 := Tryz.zeroValue112, t36 := Tryz.underlying113, a36 := Tryz.isAgg113, z36 := Tryz.sizeOf113, v36 := Tryz.zeroValue113, t41 := Tryz.underlying117, a41 := Tryz.isAgg117, z41 := Tryz.sizeOf117, v41 := Tryz.zeroValue117, t44 := Tryz.underlying120, a44 := Tryz.isAgg120, z44 := Tryz.sizeOf120, v44 := Tryz.zeroValue120, t46 := Tryz.underlying88, a46 := Tryz.isAgg88, z46 := Tryz.sizeOf88, v46 := Tryz.zeroValue88, t53 := Tryz.underlying129, a53 := Tryz.isAgg129, z53 := Tryz.sizeOf129, v53 := Tryz.zeroValue129, t57 := Tryz.underlying133, a57 := Tryz.isAgg133, z57 := Tryz.sizeOf133, v57 := Tryz.zeroValue133, t63 := Tryz.underlying146, a63 := Tryz.isAgg146, z63 := Tryz.sizeOf146, v63 := Tryz.zeroValue146, t64 := Tryz.underlying147, a64 := Tryz.isAgg147, z64 := Tryz.sizeOf147, v64 := Tryz.zeroValue147 }
def Tryz.compactInt_ren : Go.Shelf.Ren := ⟨fun | 43 => 78 | n => n, fun | 22 => 65 | 23 => 2 | 3 => 3 | 4 => 4 | 0 => 0 | n => n, fun | n => n⟩
theorem Tryz.compactInt : Go.Proofs.SlLaysN.n43 Tryz.prog Tryz.compactInt_ren := { mixed := by kernel_rfl, f43 := ⟨Tryz.f78.name, by decide, Tryz.func78.trans (congrArg some (by kernel_rfl))⟩, t0 := Tryz.underlying0, a0 := Tryz.isAgg0, z0 := Tryz.sizeOf0, v0 := Tryz.zeroValue0, t3 := Tryz.underlying3, a3 := Tryz.isAgg3, z3 := Tryz.sizeOf3, v3 := Tryz.zeroValue3, t4 := Tryz.underlying4, a4 := Tryz.isAgg4, z4 := Tryz.sizeOf4, v4 := Tryz.zeroValue4, t22 := Tryz.underlying65, a22 := Tryz.isAgg65, z22 := Tryz.sizeOf65, v22 := Tryz.zeroValue65, t23 := Tryz.underlying2, a23 := Tryz.isAgg2, z23 := Tryz.sizeOf2, v23 := Tryz.zeroValue2, i23 := by kernel_rfl }

theorem sortsI_ok : Go.Proofs.YtmkbclnhopoiiaaGreat.SortsI := by
  refine ⟨fun l hl => ?_, ?_, fun l hl => ?_, ?_⟩
  · have h := Go.VL.ConB.ints (P := Tryz.prog) (f := 77) (by kernel_rfl) l (sortI l) l.length (sortI_len l) (Nat.le_refl _) false ?_
    · rw [if_neg (by simp), if_pos rfl, List.take_of_length_le (by rw [sortI_len]; exact Nat.le_refl _)] at h
      exact h
    · intro w b cap hH hb _
      have hcon := AnyM.slices_Sort_int Tryz.sortInt b 0 cap l w hH hb (by omega)
      change Calls Tryz.prog 77 _ _ _ at hcon
      exact hcon
  · refine Go.VL.Con.same (by kernel_rfl) fun w K us hd => ?_
    unfold Go.VL.DRs at hd
    rw [Go.VL.SRs] at hd
    obtain ⟨u, us', rfl, hu, hd⟩ := hd
    rw [Go.VL.SRs] at hd
    subst hd
    rw [Go.VL.SR, Go.VL.CR] at hu
    have hu' : u = .slice none 0 0 := by
      rcases hu with ⟨_, _, h⟩ | ⟨h, _⟩
      · exact h
      · cases h
    subst hu'
    exact AnyM.slices_Sort_int_none Tryz.sortInt none 0 w
  · have hcl := compact_len l
    have h := Go.VL.ConB.ints (P := Tryz.prog) (f := 78) (by kernel_rfl) l (compact l ++ List.replicate (l.length - (compact l).length) 0) (compact l).length (by simp; omega) hcl true ?_
    · rw [if_pos rfl, List.take_left] at h
      exact h
    · intro w b cap hH hb hcap
      have hcon := AnyG.slices_Compact_int Tryz.compactInt b 0 cap l w hH (by omega) hcap
      change Calls Tryz.prog 78 _ _ _ at hcon
      refine hcon.mono ?_
      rintro e w' ⟨he, q, hw⟩
      refine ⟨by rw [he]; rfl, q, #[], ?_⟩
      rw [hw]
      simp [grow]
      rfl
  · exact compact_nil
end Go.Proofs.YtmkbclnhopoiiaaGreat
