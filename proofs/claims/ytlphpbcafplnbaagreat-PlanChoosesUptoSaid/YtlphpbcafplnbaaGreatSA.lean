/- Contracts of functions of the seat, proved in a logic on data over the model (part SA). -/
import Derived.Test.YtlphpbcafplnbaaGreatGA
import Derived.Test.YtlphpbcafplnbaaGreatVE
import Derived.Shelf.SortM.Plain
import Derived.Shelf.SortM.SortNone
import Derived.Shelf.SlicesG.CompactI
import Derived.Test.YtlphpbcafplnbaaGreatPB
set_option linter.unusedSimpArgs false
set_option linter.unusedVariables false
namespace Go.Proofs.YtlphpbcafplnbaaGreat
open Go.Shelf Go.RowKit Go.Lib Go.Sort
def Tryz.sortInt_ren : Go.Shelf.Ren := ⟨fun | 5 => 133 | 8 => 116 | 7 => 150 | 19 => 142 | 20 => 75 | 10 => 166 | 11 => 167 | 12 => 168 | 13 => 169 | 14 => 170 | 15 => 171 | 16 => 172 | 17 => 173 | 18 => 174 | 30 => 188 | 31 => 152 | 32 => 153 | 33 => 189 | 34 => 190 | 35 => 93 | 40 => 195 | n => n, fun | 23 => 185 | 25 => 2 | 3 => 3 | 32 => 205 | 22 => 185 | 0 => 0 | 44 => 241 | 46 => 179 | 4 => 4 | 36 => 235 | 35 => 234 | 41 => 156 | 5 => 5 | 9 => 9 | 53 => 249 | 57 => 253 | 63 => 267 | 64 => 221 | n => n, fun | n => n⟩
theorem Tryz.sortInt : Go.Proofs.SlLaysM.n5 Tryz.prog Tryz.sortInt_ren := { mixed := by kernel_rfl, f5 := ⟨Tryz.f133.name, by decide, Tryz.func133.trans (congrArg some (by kernel_rfl))⟩, f7 := ⟨Tryz.f150.name, by decide, Tryz.func150.trans (congrArg some (by kernel_rfl))⟩, f8 := Tryz.func116.trans (congrArg some (by kernel_rfl)), f10 := ⟨Tryz.f166.name, by decide, Tryz.func166.trans (congrArg some (by kernel_rfl))⟩, f11 := ⟨Tryz.f167.name, by decide, Tryz.func167.trans (congrArg some (by kernel_rfl))⟩, f12 := ⟨Tryz.f168.name, by decide, Tryz.func168.trans (congrArg some (by kernel_rfl))⟩, f13 := ⟨Tryz.f169.name, by decide, Tryz.func169.trans (congrArg some (by kernel_rfl))⟩, f14 := ⟨Tryz.f170.name, by decide, Tryz.func170.trans (congrArg some (by kernel_rfl))⟩, f15 := ⟨Tryz.f171.name, by decide, Tryz.func171.trans (congrArg some (by kernel_rfl))⟩, f16 := ⟨Tryz.f172.name, by decide, Tryz.func172.trans (congrArg some (by kernel_rfl))⟩, f17 := ⟨Tryz.f173.name, by decide, Tryz.func173.trans (congrArg some (by kernel_rfl))⟩, f18 := ⟨Tryz.f174.name, by decide, Tryz.func174.trans (congrArg some (by kernel_rfl))⟩, f19 := Tryz.func142.trans (congrArg some (by kernel_rfl)), f20 := Tryz.func75.trans (congrArg some (by kernel_rfl)), f30 := ⟨Tryz.f188.name, by decide, Tryz.func188.trans (congrArg some (by kernel_rfl))⟩, f31 := Tryz.func152.trans (congrArg some (by kernel_rfl)), f32 := Tryz.func153.trans (congrArg some (by kernel_rfl)), f33 := ⟨Tryz.f189.name, by decide, Tryz.func189.trans (congrArg some (by kernel_rfl))⟩, f34 := ⟨Tryz.f190.name, by decide, Tryz.func190.trans (congrArg some (by kernel_rfl))⟩, f35 := ⟨Tryz.f93.name, by decide, Tryz.func93.trans (congrArg some (by kernel_rfl))⟩, f40 := ⟨Tryz.f195.name, by decide, Tryz.func195.trans (congrArg some (by kernel_rfl))⟩, t0 := Tryz.underlying0, a0 := Tryz.isAgg0, z0 := Tryz.sizeOf0, v0 := Tryz.zeroValue0, t3 := Tryz.underlying3, a3 := Tryz.isAgg3, z3 := Tryz.sizeOf3, v3 := Tryz.zeroValue3, t4 := Tryz.underlying4, a4 := Tryz.isAgg4, z4 := Tryz.sizeOf4, v4 := Tryz.zeroValue4, t5 := Tryz.underlying5, a5 := Tryz.isAgg5, z5 := Tryz.sizeOf5, v5 := Tryz.zeroValue5, t9 := Tryz.underlying9, a9 := Tryz.isAgg9, z9 := Tryz.sizeOf9, v9 := Tryz.zeroValue9, t22 := Tryz.underlying185, a22 := Tryz.isAgg185, z22 := Tryz.sizeOf185, v22 := Tryz.zeroValue185, t23 := Tryz.underlying185, a23 := Tryz.isAgg185, z23 := Tryz.sizeOf185, v23 := Tryz.zeroValue185, t25 := Tryz.underlying2, a25 := Tryz.isAgg2, z25 := Tryz.sizeOf2, v25 := Tryz.zeroValue2, t32 := Tryz.underlying205, a32 := Tryz.isAgg205, z32 := Tryz.sizeOf205, v32 := Tryz.zeroValue205, t35 := Tryz.underlying234, a35 := Tryz.isAgg234, z35 := Tryz.sizeOf234, v35 := Tryz.zeroValue234, t36 := Tryz.underlying235, a36 := Tryz.isAgg235, z36 := Tryz.sizeOf235, v36 := Tryz.zeroValue235, t41 := Tryz.underlying156, a41 := Tryz.isAgg156, z41 := Tryz.sizeOf156, v41 := Tryz.zeroValue156, t44 := Tryz.underlying241, a44 := Tryz.isAgg241, z44 := Tryz.sizeOf241, v44 := Tryz.zeroValue241, t46 := Tryz.underlying179, a46 := Tryz.isAgg179, z46 := Tryz.sizeOf179, v46 := Tryz.zeroValue179, t53 := Tryz.underlying249, a53 := Tryz.isAgg249, z53 := Tryz.sizeOf249, v53 := Tryz.zeroValue249, t57 := Tryz.underlying253, a57 := Tryz.isAgg253, z57 := Tryz.sizeOf253, v57 := Tryz.zeroValue253, t63 := Tryz.underlying267, a63 := Tryz.isAgg267, z63 := Tryz.sizeOf267, v63 := Tryz.zeroValue267, t64 := Tryz.underlying221, a64 := Tryz.isAgg221, z64 := Tryz.sizeOf221, v64 := Tryz.zeroValue221 }
def Tryz.compactInt_ren : Go.Shelf.Ren := ⟨fun | 43 => 134 | n => n, fun | 22 => 185 | 23 => 2 | 3 => 3 | 4 => 4 | 0 => 0 | n => n, fun | n => n⟩
theorem Tryz.compactInt : Go.Proofs.SlLaysN.n43 Tryz.prog Tryz.compactInt_ren := { mixed := by kernel_rfl, f43 := ⟨Tryz.f134.name, by decide, Tryz.func134.trans (congrArg some (by kernel_rfl))⟩, t0 := Tryz.underlying0, a0 := Tryz.isAgg0, z0 := Tryz.sizeOf0, v0 := Tryz.zeroValue0, t3 := Tryz.underlying3, a3 := Tryz.isAgg3, z3 := Tryz.sizeOf3, v3 := Tryz.zeroValue3, t4 := Tryz.underlying4, a4 := Tryz.isAgg4, z4 := Tryz.sizeOf4, v4 := Tryz.zeroValue4, t22 := Tryz.underlying185, a22 := Tryz.isAgg185, z22 := Tryz.sizeOf185, v22 := Tryz.zeroValue185, t23 := Tryz.underlying2, a23 := Tryz.isAgg2, z23 := Tryz.sizeOf2, v23 := Tryz.zeroValue2, i23 := by kernel_rfl }
theorem sortsI_ok : Go.Proofs.YtlphpbcafplnbaaGreat.SortsI := by
  refine ⟨fun l hl => ?_, ?_, fun l hl => ?_, ?_⟩
  · have h := Go.VL.ConB.ints (P := Tryz.prog) (f := 133) (by kernel_rfl) l (sortI l) l.length (sortI_len l) (Nat.le_refl _) false ?_
    · rw [if_neg (by simp), if_pos rfl, List.take_of_length_le (by rw [sortI_len]; exact Nat.le_refl _)] at h
      exact h
    · intro w b cap hH hb _
      have hcon := AnyM.slices_Sort_int Tryz.sortInt b 0 cap l w hH hb (by omega)
      change Calls Tryz.prog 133 _ _ _ at hcon
      exact hcon
  · refine Go.VL.Con.same (by kernel_rfl) fun w K us hd => ?_
    unfold Go.VL.DRs at hd
    rw [Go.VL.SRs] at hd
    obtain ⟨u, us', rfl, hu, hd⟩ := hd
    rw [Go.VL.SRs] at hd
    subst hd
    rw [Go.VL.SR, Go.VL.CR] at hu
    have hu' : u = .slice none 0 0 := by
      rcases hu with ⟨_, _, h⟩ | ⟨h, _⟩
      · exact h
      · cases h
    subst hu'
    exact AnyM.slices_Sort_int_none Tryz.sortInt none 0 w
  · have hcl := compact_len l
    have h := Go.VL.ConB.ints (P := Tryz.prog) (f := 134) (by kernel_rfl) l (compact l ++ List.replicate (l.length - (compact l).length) 0) (compact l).length (by simp; omega) hcl true ?_
    · rw [if_pos rfl, List.take_left] at h
      exact h
    · intro w b cap hH hb hcap
      have hcon := AnyG.slices_Compact_int Tryz.compactInt b 0 cap l w hH (by omega) hcap
      change Calls Tryz.prog 134 _ _ _ at hcon
      refine hcon.mono ?_
      rintro e w' ⟨he, q, hw⟩
      refine ⟨by rw [he]; rfl, q, #[], ?_⟩
      rw [hw]
      simp [grow]
      rfl
  · exact compact_nil
end Go.Proofs.YtlphpbcafplnbaaGreat
set_option linter.unusedSimpArgs false
set_option linter.unusedVariables false
namespace Go.Proofs.YtlphpbcafplnbaaGreat
open Go.Shelf Go.RowKit Go.Lib Go.Sort
def Tryz.sortIntJ_ren : Go.Shelf.Ren := ⟨fun | 5 => 146 | 8 => 116 | 7 => 157 | 19 => 142 | 20 => 75 | 10 => 176 | 11 => 177 | 12 => 178 | 13 => 179 | 14 => 180 | 15 => 181 | 16 => 182 | 17 => 183 | 18 => 184 | 30 => 191 | 31 => 152 | 32 => 153 | 33 => 192 | 34 => 193 | 35 => 119 | 40 => 196 | n => n, fun | 23 => 53 | 25 => 3 | 3 => 3 | 32 => 205 | 22 => 53 | 0 => 0 | 44 => 241 | 46 => 179 | 4 => 4 | 36 => 235 | 35 => 234 | 41 => 156 | 5 => 5 | 9 => 9 | 53 => 249 | 57 => 253 | 63 => 267 | 64 => 221 | n => n, fun | n => n⟩
theorem Tryz.sortIntJ : Go.Proofs.SlLaysM.n5 Tryz.prog Tryz.sortIntJ_ren := { mixed := by kernel_rfl, f5 := ⟨Tryz.f146.name, by decide, Tryz.func146.trans (congrArg some (by kernel_rfl))⟩, f7 := ⟨Tryz.f157.name, by decide, Tryz.func157.trans (congrArg some (by kernel_rfl))⟩, f8 := Tryz.func116.trans (congrArg some (by kernel_rfl)), f10 := ⟨Tryz.f176.name, by decide, Tryz.func176.trans (congrArg some (by kernel_rfl))⟩, f11 := ⟨Tryz.f177.name, by decide, Tryz.func177.trans (congrArg some (by kernel_rfl))⟩, f12 := ⟨Tryz.f178.name, by decide, Tryz.func178.trans (congrArg some (by kernel_rfl))⟩, f13 := ⟨Tryz.f179.name, by decide, Tryz.func179.trans (congrArg some (by kernel_rfl))⟩, f14 := ⟨Tryz.f180.name, by decide, Tryz.func180.trans (congrArg some (by kernel_rfl))⟩, f15 := ⟨Tryz.f181.name, by decide, Tryz.func181.trans (congrArg some (by kernel_rfl))⟩, f16 := ⟨Tryz.f182.name, by decide, Tryz.func182.trans (congrArg some (by kernel_rfl))⟩, f17 := ⟨Tryz.f183.name, by decide, Tryz.func183.trans (congrArg some (by kernel_rfl))⟩, f18 := ⟨Tryz.f184.name, by decide, Tryz.func184.trans (congrArg some (by kernel_rfl))⟩, f19 := Tryz.func142.trans (congrArg some (by kernel_rfl)), f20 := Tryz.func75.trans (congrArg some (by kernel_rfl)), f30 := ⟨Tryz.f191.name, by decide, Tryz.func191.trans (congrArg some (by kernel_rfl))⟩, f31 := Tryz.func152.trans (congrArg some (by kernel_rfl)), f32 := Tryz.func153.trans (congrArg some (by kernel_rfl)), f33 := ⟨Tryz.f192.name, by decide, Tryz.func192.trans (congrArg some (by kernel_rfl))⟩, f34 := ⟨Tryz.f193.name, by decide, Tryz.func193.trans (congrArg some (by kernel_rfl))⟩, f35 := ⟨Tryz.f119.name, by decide, Tryz.func119.trans (congrArg some (by kernel_rfl))⟩, f40 := ⟨Tryz.f196.name, by decide, Tryz.func196.trans (congrArg some (by kernel_rfl))⟩, t0 := Tryz.underlying0, a0 := Tryz.isAgg0, z0 := Tryz.sizeOf0, v0 := Tryz.zeroValue0, t3 := Tryz.underlying3, a3 := Tryz.isAgg3, z3 := Tryz.sizeOf3, v3 := Tryz.zeroValue3, t4 := Tryz.underlying4, a4 := Tryz.isAgg4, z4 := Tryz.sizeOf4, v4 := Tryz.zeroValue4, t5 := Tryz.underlying5, a5 := Tryz.isAgg5, z5 := Tryz.sizeOf5, v5 := Tryz.zeroValue5, t9 := Tryz.underlying9, a9 := Tryz.isAgg9, z9 := Tryz.sizeOf9, v9 := Tryz.zeroValue9, t22 := Tryz.underlying53, a22 := Tryz.isAgg53, z22 := Tryz.sizeOf53, v22 := Tryz.zeroValue53, t23 := Tryz.underlying53, a23 := Tryz.isAgg53, z23 := Tryz.sizeOf53, v23 := Tryz.zeroValue53, t25 := Tryz.underlying3, a25 := Tryz.isAgg3, z25 := Tryz.sizeOf3, v25 := Tryz.zeroValue3, t32 := Tryz.underlying205, a32 := Tryz.isAgg205, z32 := Tryz.sizeOf205, v32 := Tryz.zeroValue205, t35 := Tryz.underlying234, a35 := Tryz.isAgg234, z35 := Tryz.sizeOf234, v35 := Tryz.zeroValue234, t36 := Tryz.underlying235, a36 := Tryz.isAgg235, z36 := Tryz.sizeOf235, v36 := Tryz.zeroValue235, t41 := Tryz.underlying156, a41 := Tryz.isAgg156, z41 := Tryz.sizeOf156, v41 := Tryz.zeroValue156, t44 := Tryz.underlying241, a44 := Tryz.isAgg241, z44 := Tryz.sizeOf241, v44 := Tryz.zeroValue241, t46 := Tryz.underlying179, a46 := Tryz.isAgg179, z46 := Tryz.sizeOf179, v46 := Tryz.zeroValue179, t53 := Tryz.underlying249, a53 := Tryz.isAgg249, z53 := Tryz.sizeOf249, v53 := Tryz.zeroValue249, t57 := Tryz.underlying253, a57 := Tryz.isAgg253, z57 := Tryz.sizeOf253, v57 := Tryz.zeroValue253, t63 := Tryz.underlying267, a63 := Tryz.isAgg267, z63 := Tryz.sizeOf267, v63 := Tryz.zeroValue267, t64 := Tryz.underlying221, a64 := Tryz.isAgg221, z64 := Tryz.sizeOf221, v64 := Tryz.zeroValue221 }
def Tryz.compactIntJ_ren : Go.Shelf.Ren := ⟨fun | 43 => 147 | n => n, fun | 22 => 53 | 23 => 3 | 3 => 3 | 4 => 4 | 0 => 0 | n => n, fun | n => n⟩
theorem Tryz.compactIntJ : Go.Proofs.SlLaysN.n43 Tryz.prog Tryz.compactIntJ_ren := { mixed := by kernel_rfl, f43 := ⟨Tryz.f147.name, by decide, Tryz.func147.trans (congrArg some (by kernel_rfl))⟩, t0 := Tryz.underlying0, a0 := Tryz.isAgg0, z0 := Tryz.sizeOf0, v0 := Tryz.zeroValue0, t3 := Tryz.underlying3, a3 := Tryz.isAgg3, z3 := Tryz.sizeOf3, v3 := Tryz.zeroValue3, t4 := Tryz.underlying4, a4 := Tryz.isAgg4, z4 := Tryz.sizeOf4, v4 := Tryz.zeroValue4, t22 := Tryz.underlying53, a22 := Tryz.isAgg53, z22 := Tryz.sizeOf53, v22 := Tryz.zeroValue53, t23 := Tryz.underlying3, a23 := Tryz.isAgg3, z23 := Tryz.sizeOf3, v23 := Tryz.zeroValue3, i23 := by kernel_rfl }
set_option maxRecDepth 4000 in
set_option maxHeartbeats 4000000 in
theorem compactJ_nil : Go.VL.Con Tryz.prog 147 [.c (.sl true [])] [.c (.sl true [])] := by
  refine Go.VL.spec_of Tryz.func147 rfl (by kernel_rfl) (by simp [Tryz.f147]) (fun w0 K0 => Go.VL.vc_ok _ _ _ (by kernel_rfl) ?_)
  simp only [Tryz.f147]
  simp -dsimp
theorem sortsJ_ok : Go.Proofs.YtlphpbcafplnbaaGreat.SortsJ := by
  refine ⟨fun l hl => ?_, ?_, fun l hl => ?_, ?_⟩
  · have h := Go.VL.ConB.ints (P := Tryz.prog) (f := 146) (by kernel_rfl) l (sortI l) l.length (sortI_len l) (Nat.le_refl _) false ?_
    · rw [if_neg (by simp), if_pos rfl, List.take_of_length_le (by rw [sortI_len]; exact Nat.le_refl _)] at h
      exact h
    · intro w b cap hH hb _
      have hcon := AnyM.slices_Sort_int Tryz.sortIntJ b 0 cap l w hH hb (by omega)
      change Calls Tryz.prog 146 _ _ _ at hcon
      exact hcon
  · refine Go.VL.Con.same (by kernel_rfl) fun w K us hd => ?_
    unfold Go.VL.DRs at hd
    rw [Go.VL.SRs] at hd
    obtain ⟨u, us', rfl, hu, hd⟩ := hd
    rw [Go.VL.SRs] at hd
    subst hd
    rw [Go.VL.SR, Go.VL.CR] at hu
    have hu' : u = .slice none 0 0 := by
      rcases hu with ⟨_, _, h⟩ | ⟨h, _⟩
      · exact h
      · cases h
    subst hu'
    exact AnyM.slices_Sort_int_none Tryz.sortIntJ none 0 w
  · have hcl := compact_len l
    have h := Go.VL.ConB.ints (P := Tryz.prog) (f := 147) (by kernel_rfl) l (compact l ++ List.replicate (l.length - (compact l).length) 0) (compact l).length (by simp; omega) hcl true ?_
    · rw [if_pos rfl, List.take_left] at h
      exact h
    · intro w b cap hH hb hcap
      have hcon := AnyG.slices_Compact_int Tryz.compactIntJ b 0 cap l w hH (by omega) hcap
      change Calls Tryz.prog 147 _ _ _ at hcon
      refine hcon.mono ?_
      rintro e w' ⟨he, q, hw⟩
      refine ⟨by rw [he]; rfl, q, #[], ?_⟩
      rw [hw]
      simp [grow]
      rfl
  · exact compactJ_nil
end Go.Proofs.YtlphpbcafplnbaaGreat
