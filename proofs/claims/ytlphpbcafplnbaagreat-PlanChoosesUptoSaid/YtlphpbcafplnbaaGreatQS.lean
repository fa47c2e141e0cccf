/- Contracts of functions of the seat, proved in a logic on data over the model (part QS). -/
import Derived.Test.YtlphpbcafplnbaaGreatQA
import Derived.Test.YtlphpbcafplnbaaGreatVE
import Derived.Shelf.SlSortCmp.NoneTotal
import Derived.Shelf.SlicesG.Cmp
set_option linter.unusedSimpArgs false
set_option linter.unusedVariables false
namespace Go.Proofs.YtlphpbcafplnbaaGreat
open Go.Shelf Go.RowKit Go.Lib Go.Sort
def Tryz.sortPer_ren : Go.Shelf.Ren := ⟨fun | 6 => 131 | 15 => 116 | 14 => 149 | 28 => 142 | 29 => 75 | 20 => 158 | 21 => 159 | 22 => 160 | 23 => 161 | 24 => 162 | 25 => 163 | 26 => 164 | 27 => 165 | 46 => 185 | 47 => 152 | 48 => 153 | 49 => 186 | 50 => 187 | 57 => 194 | n => n, fun | 22 => 83 | 24 => 38 | 25 => 231 | 3 => 3 | 39 => 205 | 0 => 0 | 53 => 241 | 55 => 179 | 4 => 4 | 46 => 235 | 45 => 234 | 50 => 156 | 5 => 5 | 9 => 9 | 66 => 249 | 70 => 253 | 76 => 267 | 77 => 221 | n => n, fun | n => n⟩
theorem Tryz.sortPer : Go.Proofs.SlLaysF0.n6 Tryz.prog Tryz.sortPer_ren := { mixed := by kernel_rfl, f6 := ⟨Tryz.f131.name, by decide, Tryz.func131.trans (congrArg some (by kernel_rfl))⟩, f14 := ⟨Tryz.f149.name, by decide, Tryz.func149.trans (congrArg some (by kernel_rfl))⟩, f15 := Tryz.func116.trans (congrArg some (by kernel_rfl)), f20 := ⟨Tryz.f158.name, by decide, Tryz.func158.trans (congrArg some (by kernel_rfl))⟩, f21 := ⟨Tryz.f159.name, by decide, Tryz.func159.trans (congrArg some (by kernel_rfl))⟩, f22 := ⟨Tryz.f160.name, by decide, Tryz.func160.trans (congrArg some (by kernel_rfl))⟩, f23 := ⟨Tryz.f161.name, by decide, Tryz.func161.trans (congrArg some (by kernel_rfl))⟩, f24 := ⟨Tryz.f162.name, by decide, Tryz.func162.trans (congrArg some (by kernel_rfl))⟩, f25 := ⟨Tryz.f163.name, by decide, Tryz.func163.trans (congrArg some (by kernel_rfl))⟩, f26 := ⟨Tryz.f164.name, by decide, Tryz.func164.trans (congrArg some (by kernel_rfl))⟩, f27 := ⟨Tryz.f165.name, by decide, Tryz.func165.trans (congrArg some (by kernel_rfl))⟩, f28 := Tryz.func142.trans (congrArg some (by kernel_rfl)), f29 := Tryz.func75.trans (congrArg some (by kernel_rfl)), f46 := ⟨Tryz.f185.name, by decide, Tryz.func185.trans (congrArg some (by kernel_rfl))⟩, f47 := Tryz.func152.trans (congrArg some (by kernel_rfl)), f48 := Tryz.func153.trans (congrArg some (by kernel_rfl)), f49 := ⟨Tryz.f186.name, by decide, Tryz.func186.trans (congrArg some (by kernel_rfl))⟩, f50 := ⟨Tryz.f187.name, by decide, Tryz.func187.trans (congrArg some (by kernel_rfl))⟩, f57 := ⟨Tryz.f194.name, by decide, Tryz.func194.trans (congrArg some (by kernel_rfl))⟩, t0 := Tryz.underlying0, a0 := Tryz.isAgg0, z0 := Tryz.sizeOf0, v0 := Tryz.zeroValue0, t3 := Tryz.underlying3, a3 := Tryz.isAgg3, z3 := Tryz.sizeOf3, v3 := Tryz.zeroValue3, t4 := Tryz.underlying4, a4 := Tryz.isAgg4, z4 := Tryz.sizeOf4, v4 := Tryz.zeroValue4, t5 := Tryz.underlying5, a5 := Tryz.isAgg5, z5 := Tryz.sizeOf5, v5 := Tryz.zeroValue5, t9 := Tryz.underlying9, a9 := Tryz.isAgg9, z9 := Tryz.sizeOf9, v9 := Tryz.zeroValue9, t22 := Tryz.underlying83, a22 := Tryz.isAgg83, z22 := Tryz.sizeOf83, v22 := Tryz.zeroValue83, t25 := Tryz.underlying231, a25 := Tryz.isAgg231, z25 := Tryz.sizeOf231, v25 := Tryz.zeroValue231, t39 := Tryz.underlying205, a39 := Tryz.isAgg205, z39 := Tryz.sizeOf205, v39 := Tryz.zeroValue205, t45 := Tryz.underlying234, a45 := Tryz.isAgg234, z45 := Tryz.sizeOf234, v45 := Tryz.zeroValue234, t46 := Tryz.underlying235, a46 := Tryz.isAgg235, z46 := Tryz.sizeOf235, v46 := Tryz.zeroValue235, t50 := Tryz.underlying156, a50 := Tryz.isAgg156, z50 := Tryz.sizeOf156, v50 := Tryz.zeroValue156, t53 := Tryz.underlying241, a53 := Tryz.isAgg241, z53 := Tryz.sizeOf241, v53 := Tryz.zeroValue241, t55 := Tryz.underlying179, a55 := Tryz.isAgg179, z55 := Tryz.sizeOf179, v55 := Tryz.zeroValue179, t66 := Tryz.underlying249, a66 := Tryz.isAgg249, z66 := Tryz.sizeOf249, v66 := Tryz.zeroValue249, t70 := Tryz.underlying253, a70 := Tryz.isAgg253, z70 := Tryz.sizeOf253, v70 := Tryz.zeroValue253, t76 := Tryz.underlying267, a76 := Tryz.isAgg267, z76 := Tryz.sizeOf267, v76 := Tryz.zeroValue267, t77 := Tryz.underlying221, a77 := Tryz.isAgg221, z77 := Tryz.sizeOf221, v77 := Tryz.zeroValue221 }
def Tryz.cmpInt_ren : Go.Shelf.Ren := ⟨fun | 5 => 58 | 7 => 93 | n => n, fun | 22 => 2 | 3 => 3 | 4 => 4 | n => n, fun | n => n⟩
theorem Tryz.cmpInt : Go.Proofs.SlLaysC2.n5 Tryz.prog Tryz.cmpInt_ren := { mixed := by kernel_rfl, f5 := ⟨Tryz.f58.name, by decide, Tryz.func58.trans (congrArg some (by kernel_rfl))⟩, f7 := ⟨Tryz.f93.name, by decide, Tryz.func93.trans (congrArg some (by kernel_rfl))⟩, t3 := Tryz.underlying3, a3 := Tryz.isAgg3, z3 := Tryz.sizeOf3, v3 := Tryz.zeroValue3, t4 := Tryz.underlying4, a4 := Tryz.isAgg4, z4 := Tryz.sizeOf4, v4 := Tryz.zeroValue4, t22 := Tryz.underlying2, a22 := Tryz.isAgg2, z22 := Tryz.sizeOf2, v22 := Tryz.zeroValue2 }
def encP (p : Per) : List Value := [.int .i64 p.f, .int .i64 p.t]
set_option maxHeartbeats 1000000 in
theorem closure31 (x y : Per) (W : World) : Calls Tryz.prog 132 #[.agg #[.int .i64 x.f, .int .i64 x.t], .agg #[.int .i64 y.f, .int .i64 y.t]] W fun e w' => e = .returned (.int .i64 (Lib.compareInt x.f y.f)) ∧ ∃ q os', w' = grow (W.drewN q) os' := by
  have hcon := fun W' => AnyG.cmp_Compare_int Tryz.cmpInt x.f y.f W'
  change ∀ W', Calls Tryz.prog 58 _ _ _ at hcon
  generalize Lib.compareInt x.f y.f = r at hcon ⊢
  go_enter Tryz.func132, Tryz.ntmps132
  go_wp2_with (go_at_call 58; refine (hcon _).mono ?_; rintro e w' ⟨rfl, rfl⟩)
  go_ret
  exact ⟨rfl, 0, _, by rw [alloc_eq_grow, alloc_eq_grow, grow_grow]; rfl⟩
theorem cmpLays31 (blk off size : Nat) (w : World) : CmpLays Tryz.prog 132 #[] encP 2 (fun x y => Lib.compareInt x.f y.f) blk off size w :=
  fun _ _ _ _ x y => closure31 x y _
theorem ltF (x y : Per) : ltOf (fun x y : Per => Lib.compareInt x.f y.f) x y = decide (x.f < y.f) := by
  unfold ltOf Lib.compareInt
  by_cases h1 : x.f < y.f
  · simp [h1]
  · by_cases h2 : y.f < x.f <;> simp [h1, h2]
theorem swoF : SWO (ltOf fun x y : Per => Lib.compareInt x.f y.f) where
  irrefl x := by rw [ltF]; simp
  trans x y z h1 h2 := by rw [ltF] at *; simp at *; omega
  ntrans x y z h1 h2 := by rw [ltF] at *; simp at *; omega
def sortP (l : List Per) : List Per := (pdq (ltOf fun x y : Per => Lib.compareInt x.f y.f) l.toArray 0 l.toArray.size (Lib.bitLen l.toArray.size) true true).toList
theorem sortP_pdq (l : List Per) : PermIn 0 l.toArray.size l.toArray (pdq (ltOf fun x y : Per => Lib.compareInt x.f y.f) l.toArray 0 l.toArray.size (Lib.bitLen l.toArray.size) true true) ∧ SortedIn (ltOf fun x y : Per => Lib.compareInt x.f y.f) 0 l.toArray.size (pdq (ltOf fun x y : Per => Lib.compareInt x.f y.f) l.toArray 0 l.toArray.size (Lib.bitLen l.toArray.size) true true) :=
  pdq_sorts (ltOf fun x y : Per => Lib.compareInt x.f y.f) swoF l.toArray 0 l.toArray.size (Lib.bitLen l.toArray.size) true true (Nat.zero_le _) (Nat.le_refl _) (Or.inl rfl)
theorem sortP_len (l : List Per) : (sortP l).length = l.length := by
  have := (sortP_pdq l).1.1
  unfold sortP
  simpa using this
theorem sortP_perm (l : List Per) : (sortP l).Perm l := by
  have h := (sortP_pdq l).1
  have h1 := h.1
  have h2 := h.2.2
  unfold sortP
  generalize pdq (ltOf fun x y : Per => Lib.compareInt x.f y.f) l.toArray 0 l.toArray.size (Lib.bitLen l.toArray.size) true true = d at *
  have e1 : d.extract 0 l.toArray.size = d := by rw [← h1]; simp
  have e2 : l.toArray.extract 0 l.toArray.size = l.toArray := by simp
  rw [e1, e2] at h2
  simpa using h2
theorem sortP_sorted (l : List Per) : (sortP l).Pairwise fun x y => x.f ≤ y.f := by
  have h := (sortP_pdq l).2
  have h1 := (sortP_pdq l).1.1
  unfold sortP
  generalize pdq (ltOf fun x y : Per => Lib.compareInt x.f y.f) l.toArray 0 l.toArray.size (Lib.bitLen l.toArray.size) true true = d at *
  rw [List.pairwise_iff_getElem]
  intro i j hi hj hij
  simp only [Array.length_toList] at hi hj
  have := h i j (Nat.zero_le _) hij (by omega)
  rw [ltF, getElem!_pos d i hi, getElem!_pos d j hj] at this
  simpa using this
theorem sorts_ok : Go.Proofs.YtlphpbcafplnbaaGreat.Sorts sortP := by
  refine ⟨sortP_len, sortP_perm, sortP_sorted, fun l hl => ?_, ?_⟩
  · refine Go.VL.ConB.sort (enc := encP) (k := 2) (cells := Per.cells) (fun x => rfl) (fun x => rfl) ?_ (by kernel_rfl) l (sortP l) (sortP_len l) ?_
    · intro x v hv
      simp [encP] at hv
      rcases hv with rfl | rfl <;> rfl
    · intro w b cap hH hb
      have eg : ∀ args w, (callFunc 132 args).run Tryz.prog w = .ok (.enter 132 args) w := enters_of Tryz.func132 (by kernel_rfl) rfl
      have hcon := AnyQ.slices_SortFunc_eq Tryz.sortPer 2 Tryz.isAgg38 Tryz.sizeOf38 encP (fun _ => rfl) (fun x v hv => by simp [encP] at hv; rcases hv with rfl | rfl <;> rfl) (fun x y => Lib.compareInt x.f y.f) swoF 132 #[] b 0 cap l.toArray w eg (cmpLays31 b 0 _ w) hH hb (by simp; omega)
      change Calls Tryz.prog 131 _ _ _ at hcon
      refine hcon.mono ?_
      rintro e w' ⟨he, n, os, hw⟩
      exact ⟨he, n, os, by rw [hw]; rfl⟩
  · refine Go.VL.Con.same (by kernel_rfl) fun w K us hd => ?_
    unfold Go.VL.DRs at hd
    rw [Go.VL.SRs] at hd
    obtain ⟨u, us', rfl, hu, hd⟩ := hd
    rw [Go.VL.SRs] at hd
    obtain ⟨u2, us'', rfl, hu2, hd⟩ := hd
    rw [Go.VL.SRs] at hd
    subst hd
    rw [Go.VL.SR, Go.VL.CR] at hu
    have hu' : u = .slice none 0 0 := by
      rcases hu with ⟨_, _, h⟩ | ⟨h, _⟩
      · exact h
      · cases h
    subst hu'
    have h := AnyF.slices_SortFunc_none Tryz.sortPer none 0 u2 w
    exact h
end Go.Proofs.YtlphpbcafplnbaaGreat
