/- The library's Sort and Compact of whole numbers, as contracts of this logic. -/
import Derived.Test.YtkfiiomdkljjnaaGreatGA
import Derived.Test.YtkfiiomdkljjnaaGreatVE
import Derived.Shelf.SortM.Plain
import Derived.Shelf.SortM.SortNone
import Derived.Shelf.SlicesG.CompactI
set_option linter.unusedSimpArgs false
set_option linter.unusedVariables false
namespace Go.Proofs.YtkfiiomdkljjnaaGreat
open Go.Shelf Go.RowKit Go.Lib Go.Sort
def Tryz.sortInt_ren : Go.Shelf.Ren := ⟨fun | 5 => 61 | 8 => 47 | 7 => 81 | 19 => 71 | 20 => 72 | 10 => 99 | 11 => 100 | 12 => 101 | 13 => 102 | 14 => 103 | 15 => 104 | 16 => 105 | 17 => 106 | 18 => 107 | 30 => 115 | 31 => 83 | 32 => 84 | 33 => 116 | 34 => 117 | 35 => 73 | 40 => 120 | n => n, fun | 23 => 111 | 25 => 2 | 3 => 3 | 32 => 117 | 22 => 111 | 0 => 0 | 44 => 142 | 46 => 144 | 4 => 4 | 36 => 136 | 35 => 135 | 41 => 102 | 5 => 5 | 9 => 9 | 53 => 154 | 57 => 158 | 63 => 174 | 64 => 175 | n => n, fun | n => n⟩
theorem Tryz.sortInt : Go.Proofs.SlLaysM.n5 Tryz.prog Tryz.sortInt_ren := { mixed := by kernel_rfl, f5 := ⟨Tryz.f61.name, by decide, Tryz.func61.trans (congrArg some (by kernel_rfl))⟩, f7 := ⟨Tryz.f81.name, by decide, Tryz.func81.trans (congrArg some (by kernel_rfl))⟩, f8 := Tryz.func47.trans (congrArg some (by kernel_rfl)), f10 := ⟨Tryz.f99.name, by decide, Tryz.func99.trans (congrArg some (by kernel_rfl))⟩, f11 := ⟨Tryz.f100.name, by decide, Tryz.func100.trans (congrArg some (by kernel_rfl))⟩, f12 := ⟨Tryz.f101.name, by decide, Tryz.func101.trans (congrArg some (by kernel_rfl))⟩, f13 := ⟨Tryz.f102.name, by decide, Tryz.func102.trans (congrArg some (by kernel_rfl))⟩, f14 := ⟨Tryz.f103.name, by decide, Tryz.func103.trans (congrArg some (by kernel_rfl))⟩, f15 := ⟨Tryz.f104.name, by decide, Tryz.func104.trans (congrArg some (by kernel_rfl))⟩, f16 := ⟨Tryz.f105.name, by decide, Tryz.func105.trans (congrArg some (by kernel_rfl))⟩, f17 := ⟨Tryz.f106.name, by decide, Tryz.func106.trans (congrArg some (by kernel_rfl))⟩, f18 := ⟨Tryz.f107.name, by decide, Tryz.func107.trans (congrArg some (by kernel_rfl))⟩, f19 := Tryz.func71.trans (congrArg some (by kernel_rfl)), f20 := Tryz.func72.trans (congrArg some (by kernel_rfl)), f30 := ⟨Tryz.f115.name, by decide, Tryz.func115.trans (congrArg some (by kernel_rfl))⟩, f31 := Tryz.func83.trans (congrArg some (by kernel_rfl)), f32 := Tryz.func84.trans (congrArg some (by kernel_rfl)), f33 := ⟨Tryz.f116.name, by decide, Tryz.func116.trans (congrArg some (by kernel_rfl))⟩, f34 := ⟨Tryz.f117.name, by decide, Tryz.func117.trans (congrArg some (by kernel_rfl))⟩, f35 := ⟨Tryz.f73.name, by decide, Tryz.func73.trans (congrArg some (by kernel_rfl))⟩, f40 := ⟨Tryz.f120.name, by decide, Tryz.func120.trans (congrArg some (by kernel_rfl))⟩, t0 := Tryz.underlying0, a0 := Tryz.isAgg0, z0 := Tryz.sizeOf0, v0 := Tryz.zeroValue0, t3 := Tryz.underlying3, a3 := Tryz.isAgg3, z3 := Tryz.sizeOf3, v3 := Tryz.zeroValue3, t4 := Tryz.underlying4, a4 := Tryz.isAgg4, z4 := Tryz.sizeOf4, v4 := Tryz.zeroValue4, t5 := Tryz.underlying5, a5 := Tryz.isAgg5, z5 := Tryz.sizeOf5, v5 := Tryz.zeroValue5, t9 := Tryz.underlying9, a9 := Tryz.isAgg9, z9 := Tryz.sizeOf9, v9 := Tryz.zeroValue9, t22 := Tryz.underlying111, a22 := Tryz.isAgg111, z22 := Tryz.sizeOf111, v22 := Tryz.zeroValue111, t23 := Tryz.underlying111, a23 := Tryz.isAgg111, z23 := Tryz.sizeOf111, v23 := Tryz.zeroValue111, t25 := Tryz.underlying2, a25 := Tryz.isAgg2, z25 := Tryz.sizeOf2, v25 := Tryz.zeroValue2, t32 := Tryz.underlying117, a32 := Tryz.isAgg117, z32 := Tryz.sizeOf117, v32 := Tryz.zeroValue117, t35 := Tryz.underlying135, a35 := Tryz.isAgg135, z35 := Tryz.sizeOf135, v35 := Tryz.zeroValue135, t36 := Tryz.underlying136, a36 := Tryz.isAgg136, z36 := Tryz.sizeOf136, v36 := Tryz.zeroValue136, t41 := Tryz.underlying102, a41 := Tryz.isAgg102, z41 := Tryz.sizeOf102, v41 := Tryz.zeroValue102, t44 := Tryz.underlying142, a44 := Tryz.isAgg142, z44 := Tryz.sizeOf142, v44 := Tryz.zeroValue142, t46 := Tryz.underlying144, a46 := Tryz.isAgg144, z46 := Tryz.sizeOf144, v46 := Tryz.zeroValue144, t53 := Tryz.underlying154, a53 := Tryz.isAgg154, z53 := Tryz.sizeOf154, v53 := Tryz.zeroValue154, t57 := Tryz.underlying158, a57 := Tryz.isAgg158, z57 := Tryz.sizeOf158, v57 := Tryz.zeroValue158, t63 := Tryz.underlying174, a63 := Tryz.isAgg174, z63 := Tryz.sizeOf174, v63 := Tryz.zeroValue174, t64 := Tryz.underlying175, a64 := Tryz.isAgg175, z64 := Tryz.sizeOf175, v64 := Tryz.zeroValue175 }
def Tryz.compactInt_ren : Go.Shelf.Ren := ⟨fun | 43 => 62 | n => n, fun | 22 => 111 | 23 => 2 | 3 => 3 | 4 => 4 | 0 => 0 | n => n, fun | n => n⟩
theorem Tryz.compactInt : Go.Proofs.SlLaysN.n43 Tryz.prog Tryz.compactInt_ren := { mixed := by kernel_rfl, f43 := ⟨Tryz.f62.name, by decide, Tryz.func62.trans (congrArg some (by kernel_rfl))⟩, t0 := Tryz.underlying0, a0 := Tryz.isAgg0, z0 := Tryz.sizeOf0, v0 := Tryz.zeroValue0, t3 := Tryz.underlying3, a3 := Tryz.isAgg3, z3 := Tryz.sizeOf3, v3 := Tryz.zeroValue3, t4 := Tryz.underlying4, a4 := Tryz.isAgg4, z4 := Tryz.sizeOf4, v4 := Tryz.zeroValue4, t22 := Tryz.underlying111, a22 := Tryz.isAgg111, z22 := Tryz.sizeOf111, v22 := Tryz.zeroValue111, t23 := Tryz.underlying2, a23 := Tryz.isAgg2, z23 := Tryz.sizeOf2, v23 := Tryz.zeroValue2, i23 := by kernel_rfl }

theorem sortsI_ok : Go.Proofs.YtkfiiomdkljjnaaGreat.SortsI := by
  refine ⟨fun l hl => ?_, ?_, fun l hl => ?_, ?_⟩
  · have h := Go.VL.ConB.ints (P := Tryz.prog) (f := 61) (by kernel_rfl) l (sortI l) l.length (sortI_len l) (Nat.le_refl _) false ?_
    · rw [if_neg (by simp), if_pos rfl, List.take_of_length_le (by rw [sortI_len]; exact Nat.le_refl _)] at h
      exact h
    · intro w b cap hH hb _
      have hcon := AnyM.slices_Sort_int Tryz.sortInt b 0 cap l w hH hb (by omega)
      change Calls Tryz.prog 61 _ _ _ at hcon
      exact hcon
  · refine Go.VL.Con.same (by kernel_rfl) fun w K us hd => ?_
    unfold Go.VL.DRs at hd
    rw [Go.VL.SRs] at hd
    obtain ⟨u, us', rfl, hu, hd⟩ := hd
    rw [Go.VL.SRs] at hd
    subst hd
    rw [Go.VL.SR, Go.VL.CR] at hu
    have hu' : u = .slice none 0 0 := by
      rcases hu with ⟨_, _, h⟩ | ⟨h, _⟩
      · exact h
      · cases h
    subst hu'
    exact AnyM.slices_Sort_int_none Tryz.sortInt none 0 w
  · have hcl := compact_len l
    have h := Go.VL.ConB.ints (P := Tryz.prog) (f := 62) (by kernel_rfl) l (compact l ++ List.replicate (l.length - (compact l).length) 0) (compact l).length (by simp; omega) hcl true ?_
    · rw [if_pos rfl, List.take_left] at h
      exact h
    · intro w b cap hH hb hcap
      have hcon := AnyG.slices_Compact_int Tryz.compactInt b 0 cap l w hH (by omega) hcap
      change Calls Tryz.prog 62 _ _ _ at hcon
      refine hcon.mono ?_
      rintro e w' ⟨he, q, hw⟩
      refine ⟨by rw [he]; rfl, q, #[], ?_⟩
      rw [hw]
      simp [grow]
      rfl
  · exact compact_nil
end Go.Proofs.YtkfiiomdkljjnaaGreat
