/- The library's Sort and Compact of whole numbers, as contracts of this logic. -/
import Derived.Test.YtmkbclnhopoiiaaEA
import Derived.Test.YtmkbclnhopoiiaaV34
import Derived.Shelf.SortM.Plain
import Derived.Shelf.SortM.SortNone
import Derived.Shelf.SlicesG.CompactI
set_option linter.unusedSimpArgs false
set_option linter.unusedVariables false
namespace Go.Proofs.Ytmkbclnhopoiiaa
open Go.Shelf Go.RowKit Go.Lib Go.Sort
def Try.sortInt_ren : Go.Shelf.Ren := ⟨fun | 5 => 71 | 8 => 57 | 7 => 88 | 19 => 81 | 20 => 82 | 10 => 103 | 11 => 104 | 12 => 105 | 13 => 106 | 14 => 107 | 15 => 108 | 16 => 109 | 17 => 110 | 18 => 111 | 30 => 116 | 31 => 90 | 32 => 91 | 33 => 117 | 34 => 118 | 35 => 83 | 40 => 120 | n => n, fun | 23 => 66 | 25 => 2 | 3 => 3 | 32 => 88 | 22 => 66 | 0 => 0 | 44 => 112 | 46 => 98 | 4 => 4 | 36 => 105 | 35 => 104 | 41 => 109 | 5 => 5 | 9 => 9 | 53 => 120 | 57 => 124 | 63 => 137 | 64 => 138 | n => n, fun | n => n⟩
theorem Try.sortInt : Go.Proofs.SlLaysM.n5 Try.prog Try.sortInt_ren := { mixed := by kernel_rfl, f5 := ⟨Try.f71.name, by decide, Try.func71.trans (congrArg some (by kernel_rfl))⟩, f7 := ⟨Try.f88.name, by decide, Try.func88.trans (congrArg some (by kernel_rfl))⟩, f8 := Try.func57.trans (congrArg some (by kernel_rfl)), f10 := ⟨Try.f103.name, by decide, Try.func103.trans (congrArg some (by kernel_rfl))⟩, f11 := ⟨Try.f104.name, by decide, Try.func104.trans (congrArg some (by kernel_rfl))⟩, f12 := ⟨Try.f105.name, by decide, Try.func105.trans (congrArg some (by kernel_rfl))⟩, f13 := ⟨Try.f106.name, by decide, Try.func106.trans (congrArg some (by kernel_rfl))⟩, f14 := ⟨Try.f107.name, by decide, Try.func107.trans (congrArg some (by kernel_rfl))⟩, f15 := ⟨Try.f108.name, by decide, Try.func108.trans (congrArg some (by kernel_rfl))⟩, f16 := ⟨Try.f109.name, by decide, Try.func109.trans (congrArg some (by kernel_rfl))⟩, f17 := ⟨Try.f110.name, by decide, Try.func110.trans (congrArg some (by kernel_rfl))⟩, f18 := ⟨Try.f111.name, by decide, Try.func111.trans (congrArg some (by kernel_rfl))⟩, f19 := Try.func81.trans (congrArg some (by kernel_rfl)), f20 := Try.func82.trans (congrArg some (by kernel_rfl)), f30 := ⟨Try.f116.name, by decide, Try.func116.trans (congrArg some (by kernel_rfl))⟩, f31 := Try.func90.trans (congrArg some (by kernel_rfl)), f32 := Try.func91.trans (congrArg some (by kernel_rfl)), f33 := ⟨Try.f117.name, by decide, Try.func117.trans (congrArg some (by kernel_rfl))⟩, f34 := ⟨Try.f118.name, by decide, Try.func118.trans (congrArg some (by kernel_rfl))⟩, f35 := ⟨Try.f83.name, by decide, Try.func83.trans (congrArg some (by kernel_rfl))⟩, f40 := ⟨Try.f120.name, by decide, Try.func120.trans (congrArg some (by kernel_rfl))⟩, t0 := Try.underlying0, a0 := Try.isAgg0, z0 := Try.sizeOf0, v0 := Try.zeroValue0, t3 := Try.underlying3, a3 := Try.isAgg3, z3 := Try.sizeOf3, v3 := Try.zeroValue3, t4 := Try.underlying4, a4 := Try.isAgg4, z4 := Try.sizeOf4, v4 := Try.zeroValue4, t5 := Try.underlying5, a5 := Try.isAgg5, z5 := Try.sizeOf5, v5 := Try.zeroValue5, t9 := Try.underlying9, a9 := Try.isAgg9, z9 := Try.sizeOf9, v9 := Try.zeroValue9, t22 := Try.underlying66, a22 := Try.isAgg66, z22 := Try.sizeOf66, v22 := Try.zeroValue66, t23 := Try.underlying66, a23 := Try.isAgg66, z23 := Try.sizeOf66, v23 := Try.zeroValue66, t25 := Try.underlying2, a25 := Try.isAgg2, z25 := Try.sizeOf2, v25 := Try.zeroValue2, t32 := Try.underlying88, a32 := Try.isAgg88, z32 := Try.sizeOf88, v32 := Try.zeroValue88, t35 := Try.underlying104, a35 := Try.isAgg104, z35 := Try.sizeOf104, v35 := Try.zeroValue104, t36 := Try.underlying105, a36 := Try.isAgg105, z36 := Try.sizeOf105, v36 := Try.zeroValue105, t41 := Try.underlying109, a41 := Try.isAgg109, z41 := Try.sizeOf109, v41 := Try.zeroValue109, t44 := Try.underlying112, a44 := Try.isAgg112, z44 := Try.sizeOf112, v44 := Try.zeroValue112, t46 := Try.underlying98, a46 := Try.isAgg98, z46 := Try.sizeOf98, v46 := Try.zeroValue98, t53 := Try.underlying120, a53 := Try.isAgg120, z53 := Try.sizeOf120, v53 := Try.zeroValue120, t57 := Try.underlying124, a57 := Try.isAgg124, z57 := Try.sizeOf124, v57 := Try.zeroValue124, t63 := Try.underlying137, a63 := Try.isAgg137, z63 := Try.sizeOf137, v63 := Try.zeroValue137, t64 := Try.underlying138, a64 := Try.isAgg138, z64 := Try.sizeOf138, v64 := Try.zeroValue138 }
def Try.compactInt_ren : Go.Shelf.Ren := ⟨fun | 43 => 72 | n => n, fun | 22 => 66 | 23 => 2 | 3 => 3 | 4 => 4 | 0 => 0 | n => n, fun | n => n⟩
theorem Try.compactInt : Go.Proofs.SlLaysN.n43 Try.prog Try.compactInt_ren := { mixed := by kernel_rfl, f43 := ⟨Try.f72.name, by decide, Try.func72.trans (congrArg some (by kernel_rfl))⟩, t0 := Try.underlying0, a0 := Try.isAgg0, z0 := Try.sizeOf0, v0 := Try.zeroValue0, t3 := Try.underlying3, a3 := Try.isAgg3, z3 := Try.sizeOf3, v3 := Try.zeroValue3, t4 := Try.underlying4, a4 := Try.isAgg4, z4 := Try.sizeOf4, v4 := Try.zeroValue4, t22 := Try.underlying66, a22 := Try.isAgg66, z22 := Try.sizeOf66, v22 := Try.zeroValue66, t23 := Try.underlying2, a23 := Try.isAgg2, z23 := Try.sizeOf2, v23 := Try.zeroValue2, i23 := by kernel_rfl }

theorem sortsI_ok : Go.Proofs.Ytmkbclnhopoiiaa.SortsI := by
  refine ⟨fun l hl => ?_, ?_, fun l hl => ?_, ?_⟩
  · have h := Go.VL.ConB.ints (P := Try.prog) (f := 71) (by kernel_rfl) l (sortI l) l.length (sortI_len l) (Nat.le_refl _) false ?_
    · rw [if_neg (by simp), if_pos rfl, List.take_of_length_le (by rw [sortI_len]; exact Nat.le_refl _)] at h
      exact h
    · intro w b cap hH hb _
      have hcon := AnyM.slices_Sort_int Try.sortInt b 0 cap l w hH hb (by omega)
      change Calls Try.prog 71 _ _ _ at hcon
      exact hcon
  · refine Go.VL.Con.same (by kernel_rfl) fun w K us hd => ?_
    unfold Go.VL.DRs at hd
    rw [Go.VL.SRs] at hd
    obtain ⟨u, us', rfl, hu, hd⟩ := hd
    rw [Go.VL.SRs] at hd
    subst hd
    rw [Go.VL.SR, Go.VL.CR] at hu
    have hu' : u = .slice none 0 0 := by
      rcases hu with ⟨_, _, h⟩ | ⟨h, _⟩
      · exact h
      · cases h
    subst hu'
    exact AnyM.slices_Sort_int_none Try.sortInt none 0 w
  · have hcl := compact_len l
    have h := Go.VL.ConB.ints (P := Try.prog) (f := 72) (by kernel_rfl) l (compact l ++ List.replicate (l.length - (compact l).length) 0) (compact l).length (by simp; omega) hcl true ?_
    · rw [if_pos rfl, List.take_left] at h
      exact h
    · intro w b cap hH hb hcap
      have hcon := AnyG.slices_Compact_int Try.compactInt b 0 cap l w hH (by omega) hcap
      change Calls Try.prog 72 _ _ _ at hcon
      refine hcon.mono ?_
      rintro e w' ⟨he, q, hw⟩
      refine ⟨by rw [he]; rfl, q, #[], ?_⟩
      rw [hw]
      simp [grow]
      rfl
  · exact compact_nil
end Go.Proofs.Ytmkbclnhopoiiaa
