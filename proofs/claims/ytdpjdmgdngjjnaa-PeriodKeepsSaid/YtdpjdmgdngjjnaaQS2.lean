/- The library's Sort and Compact of whole numbers, as contracts of this logic. -/
import Derived.Test.YtdpjdmgdngjjnaaQE3
import Derived.Test.YtdpjdmgdngjjnaaV34
import Derived.Shelf.SortM.Plain
import Derived.Shelf.SortM.SortNone
import Derived.Shelf.SlicesG.CompactI
set_option linter.unusedSimpArgs false
set_option linter.unusedVariables false
namespace Go.Proofs.Ytdpjdmgdngjjnaa
open Go.Shelf Go.RowKit Go.Lib Go.Sort
def Try.sortInt_ren : Go.Shelf.Ren := ⟨fun | 5 => 33 | 8 => 38 | 7 => 40 | 19 => 50 | 20 => 51 | 10 => 52 | 11 => 53 | 12 => 54 | 13 => 55 | 14 => 56 | 15 => 57 | 16 => 58 | 17 => 59 | 18 => 60 | 30 => 66 | 31 => 62 | 32 => 63 | 33 => 67 | 34 => 68 | 35 => 39 | 40 => 70 | n => n, fun | 23 => 45 | 25 => 2 | 3 => 3 | 32 => 63 | 22 => 45 | 0 => 0 | 44 => 76 | 46 => 78 | 4 => 4 | 36 => 69 | 35 => 68 | 41 => 73 | 5 => 5 | 9 => 9 | 53 => 85 | 57 => 89 | 63 => 93 | 64 => 42 | n => n, fun | n => n⟩
theorem Try.sortInt : Go.Proofs.SlLaysM.n5 Try.prog Try.sortInt_ren := { mixed := by kernel_rfl, f5 := ⟨Try.f33.name, by decide, Try.func33.trans (congrArg some (by kernel_rfl))⟩, f7 := ⟨Try.f40.name, by decide, Try.func40.trans (congrArg some (by kernel_rfl))⟩, f8 := Try.func38.trans (congrArg some (by kernel_rfl)), f10 := ⟨Try.f52.name, by decide, Try.func52.trans (congrArg some (by kernel_rfl))⟩, f11 := ⟨Try.f53.name, by decide, Try.func53.trans (congrArg some (by kernel_rfl))⟩, f12 := ⟨Try.f54.name, by decide, Try.func54.trans (congrArg some (by kernel_rfl))⟩, f13 := ⟨Try.f55.name, by decide, Try.func55.trans (congrArg some (by kernel_rfl))⟩, f14 := ⟨Try.f56.name, by decide, Try.func56.trans (congrArg some (by kernel_rfl))⟩, f15 := ⟨Try.f57.name, by decide, Try.func57.trans (congrArg some (by kernel_rfl))⟩, f16 := ⟨Try.f58.name, by decide, Try.func58.trans (congrArg some (by kernel_rfl))⟩, f17 := ⟨Try.f59.name, by decide, Try.func59.trans (congrArg some (by kernel_rfl))⟩, f18 := ⟨Try.f60.name, by decide, Try.func60.trans (congrArg some (by kernel_rfl))⟩, f19 := Try.func50.trans (congrArg some (by kernel_rfl)), f20 := Try.func51.trans (congrArg some (by kernel_rfl)), f30 := ⟨Try.f66.name, by decide, Try.func66.trans (congrArg some (by kernel_rfl))⟩, f31 := Try.func62.trans (congrArg some (by kernel_rfl)), f32 := Try.func63.trans (congrArg some (by kernel_rfl)), f33 := ⟨Try.f67.name, by decide, Try.func67.trans (congrArg some (by kernel_rfl))⟩, f34 := ⟨Try.f68.name, by decide, Try.func68.trans (congrArg some (by kernel_rfl))⟩, f35 := ⟨Try.f39.name, by decide, Try.func39.trans (congrArg some (by kernel_rfl))⟩, f40 := ⟨Try.f70.name, by decide, Try.func70.trans (congrArg some (by kernel_rfl))⟩, t0 := Try.underlying0, a0 := Try.isAgg0, z0 := Try.sizeOf0, v0 := Try.zeroValue0, t3 := Try.underlying3, a3 := Try.isAgg3, z3 := Try.sizeOf3, v3 := Try.zeroValue3, t4 := Try.underlying4, a4 := Try.isAgg4, z4 := Try.sizeOf4, v4 := Try.zeroValue4, t5 := Try.underlying5, a5 := Try.isAgg5, z5 := Try.sizeOf5, v5 := Try.zeroValue5, t9 := Try.underlying9, a9 := Try.isAgg9, z9 := Try.sizeOf9, v9 := Try.zeroValue9, t22 := Try.underlying45, a22 := Try.isAgg45, z22 := Try.sizeOf45, v22 := Try.zeroValue45, t23 := Try.underlying45, a23 := Try.isAgg45, z23 := Try.sizeOf45, v23 := Try.zeroValue45, t25 := Try.underlying2, a25 := Try.isAgg2, z25 := Try.sizeOf2, v25 := Try.zeroValue2, t32 := Try.underlying63, a32 := Try.isAgg63, z32 := Try.sizeOf63, v32 := Try.zeroValue63, t35 := Try.underlying68, a35 := Try.isAgg68, z35 := Try.sizeOf68, v35 := Try.zeroValue68, t36 := Try.underlying69, a36 := Try.isAgg69, z36 := Try.sizeOf69, v36 := Try.zeroValue69, t41 := Try.underlying73, a41 := Try.isAgg73, z41 := Try.sizeOf73, v41 := Try.zeroValue73, t44 := Try.underlying76, a44 := Try.isAgg76, z44 := Try.sizeOf76, v44 := Try.zeroValue76, t46 := Try.underlying78, a46 := Try.isAgg78, z46 := Try.sizeOf78, v46 := Try.zeroValue78, t53 := Try.underlying85, a53 := Try.isAgg85, z53 := Try.sizeOf85, v53 := Try.zeroValue85, t57 := Try.underlying89, a57 := Try.isAgg89, z57 := Try.sizeOf89, v57 := Try.zeroValue89, t63 := Try.underlying93, a63 := Try.isAgg93, z63 := Try.sizeOf93, v63 := Try.zeroValue93, t64 := Try.underlying42, a64 := Try.isAgg42, z64 := Try.sizeOf42, v64 := Try.zeroValue42 }
def Try.compInt_ren : Go.Shelf.Ren := ⟨fun | 43 => 34 | n => n, fun | 22 => 45 | 23 => 2 | 3 => 3 | 4 => 4 | 0 => 0 | n => n, fun | n => n⟩
theorem Try.compInt : Go.Proofs.SlLaysN.n43 Try.prog Try.compInt_ren := { mixed := by kernel_rfl, f43 := ⟨Try.f34.name, by decide, Try.func34.trans (congrArg some (by kernel_rfl))⟩, t0 := Try.underlying0, a0 := Try.isAgg0, z0 := Try.sizeOf0, v0 := Try.zeroValue0, t3 := Try.underlying3, a3 := Try.isAgg3, z3 := Try.sizeOf3, v3 := Try.zeroValue3, t4 := Try.underlying4, a4 := Try.isAgg4, z4 := Try.sizeOf4, v4 := Try.zeroValue4, t22 := Try.underlying45, a22 := Try.isAgg45, z22 := Try.sizeOf45, v22 := Try.zeroValue45, t23 := Try.underlying2, a23 := Try.isAgg2, z23 := Try.sizeOf2, v23 := Try.zeroValue2, i23 := by kernel_rfl }

theorem sortsI_ok : Go.Proofs.Ytdpjdmgdngjjnaa.SortsI := by
  refine ⟨fun l hl => ?_, ?_, fun l hl => ?_, ?_⟩
  · have h := Go.VL.ConB.ints (P := Try.prog) (f := 33) (by kernel_rfl) l (sortI l) l.length (sortI_len l) (Nat.le_refl _) false ?_
    · rw [if_neg (by simp), if_pos rfl, List.take_of_length_le (by rw [sortI_len]; exact Nat.le_refl _)] at h
      exact h
    · intro w b cap hH hb _
      have hcon := AnyM.slices_Sort_int Try.sortInt b 0 cap l w hH hb (by omega)
      change Calls Try.prog 33 _ _ _ at hcon
      exact hcon
  · refine Go.VL.Con.same (by kernel_rfl) fun w K us hd => ?_
    unfold Go.VL.DRs at hd
    rw [Go.VL.SRs] at hd
    obtain ⟨u, us', rfl, hu, hd⟩ := hd
    rw [Go.VL.SRs] at hd
    subst hd
    rw [Go.VL.SR, Go.VL.CR] at hu
    have hu' : u = .slice none 0 0 := by
      rcases hu with ⟨_, _, h⟩ | ⟨h, _⟩
      · exact h
      · cases h
    subst hu'
    exact AnyM.slices_Sort_int_none Try.sortInt none 0 w
  · have hcl := compact_len l
    have h := Go.VL.ConB.ints (P := Try.prog) (f := 34) (by kernel_rfl) l (compact l ++ List.replicate (l.length - (compact l).length) 0) (compact l).length (by simp; omega) hcl true ?_
    · rw [if_pos rfl, List.take_left] at h
      exact h
    · intro w b cap hH hb hcap
      have hcon := AnyG.slices_Compact_int Try.compInt b 0 cap l w hH (by omega) hcap
      change Calls Try.prog 34 _ _ _ at hcon
      refine hcon.mono ?_
      rintro e w' ⟨he, q, hw⟩
      refine ⟨by rw [he]; rfl, q, #[], ?_⟩
      rw [hw]
      simp [grow]
      rfl
  · exact compact_nil
end Go.Proofs.Ytdpjdmgdngjjnaa
