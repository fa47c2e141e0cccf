/- Contracts of functions of the seat, proved in a logic on data over the model (part QS). -/
import Derived.Test.YtmkbclnhopoiiaaQA
import Derived.Test.YtmkbclnhopoiiaaV32
import Derived.Shelf.SlSortCmp.NoneTotal
import Derived.Shelf.SlicesG.Cmp
set_option linter.unusedSimpArgs false
set_option linter.unusedVariables false
namespace Go.Proofs.Ytmkbclnhopoiiaa
open Go.Shelf Go.RowKit Go.Lib Go.Sort
def Try.sortPer_ren : Go.Shelf.Ren := ⟨fun | 6 => 65 | 15 => 57 | 14 => 85 | 28 => 81 | 29 => 82 | 20 => 94 | 21 => 95 | 22 => 96 | 23 => 97 | 24 => 98 | 25 => 99 | 26 => 100 | 27 => 101 | 46 => 113 | 47 => 90 | 48 => 91 | 49 => 114 | 50 => 115 | 57 => 119 | n => n, fun | 22 => 59 | 24 => 36 | 25 => 94 | 3 => 3 | 39 => 88 | 0 => 0 | 53 => 112 | 55 => 98 | 4 => 4 | 46 => 105 | 45 => 104 | 50 => 109 | 5 => 5 | 9 => 9 | 66 => 120 | 70 => 124 | 76 => 137 | 77 => 138 | n => n, fun | n => n⟩
theorem Try.sortPer : Go.Proofs.SlLaysF0.n6 Try.prog Try.sortPer_ren := { mixed := by kernel_rfl, f6 := ⟨Try.f65.name, by decide, Try.func65.trans (congrArg some (by kernel_rfl))⟩, f14 := ⟨Try.f85.name, by decide, Try.func85.trans (congrArg some (by kernel_rfl))⟩, f15 := Try.func57.trans (congrArg some (by kernel_rfl)), f20 := ⟨Try.f94.name, by decide, Try.func94.trans (congrArg some (by kernel_rfl))⟩, f21 := ⟨Try.f95.name, by decide, Try.func95.trans (congrArg some (by kernel_rfl))⟩, f22 := ⟨Try.f96.name, by decide, Try.func96.trans (congrArg some (by kernel_rfl))⟩, f23 := ⟨Try.f97.name, by decide, Try.func97.trans (congrArg some (by kernel_rfl))⟩, f24 := ⟨Try.f98.name, by decide, Try.func98.trans (congrArg some (by kernel_rfl))⟩, f25 := ⟨Try.f99.name, by decide, Try.func99.trans (congrArg some (by kernel_rfl))⟩, f26 := ⟨Try.f100.name, by decide, Try.func100.trans (congrArg some (by kernel_rfl))⟩, f27 := ⟨Try.f101.name, by decide, Try.func101.trans (congrArg some (by kernel_rfl))⟩, f28 := Try.func81.trans (congrArg some (by kernel_rfl)), f29 := Try.func82.trans (congrArg some (by kernel_rfl)), f46 := ⟨Try.f113.name, by decide, Try.func113.trans (congrArg some (by kernel_rfl))⟩, f47 := Try.func90.trans (congrArg some (by kernel_rfl)), f48 := Try.func91.trans (congrArg some (by kernel_rfl)), f49 := ⟨Try.f114.name, by decide, Try.func114.trans (congrArg some (by kernel_rfl))⟩, f50 := ⟨Try.f115.name, by decide, Try.func115.trans (congrArg some (by kernel_rfl))⟩, f57 := ⟨Try.f119.name, by decide, Try.func119.trans (congrArg some (by kernel_rfl))⟩, t0 := Try.underlying0, a0 := Try.isAgg0, z0 := Try.sizeOf0, v0 := Try.zeroValue0, t3 := Try.underlying3, a3 := Try.isAgg3, z3 := Try.sizeOf3, v3 := Try.zeroValue3, t4 := Try.underlying4, a4 := Try.isAgg4, z4 := Try.sizeOf4, v4 := Try.zeroValue4, t5 := Try.underlying5, a5 := Try.isAgg5, z5 := Try.sizeOf5, v5 := Try.zeroValue5, t9 := Try.underlying9, a9 := Try.isAgg9, z9 := Try.sizeOf9, v9 := Try.zeroValue9, t22 := Try.underlying59, a22 := Try.isAgg59, z22 := Try.sizeOf59, v22 := Try.zeroValue59, t25 := Try.underlying94, a25 := Try.isAgg94, z25 := Try.sizeOf94, v25 := Try.zeroValue94, t39 := Try.underlying88, a39 := Try.isAgg88, z39 := Try.sizeOf88, v39 := Try.zeroValue88, t45 := Try.underlying104, a45 := Try.isAgg104, z45 := Try.sizeOf104, v45 := Try.zeroValue104, t46 := Try.underlying105, a46 := Try.isAgg105, z46 := Try.sizeOf105, v46 := Try.zeroValue105, t50 := Try.underlying109, a50 := Try.isAgg109, z50 := Try.sizeOf109, v50 := Try.zeroValue109, t53 := Try.underlying112, a53 := Try.isAgg112, z53 := Try.sizeOf112, v53 := Try.zeroValue112, t55 := Try.underlying98, a55 := Try.isAgg98, z55 := Try.sizeOf98, v55 := Try.zeroValue98, t66 := Try.underlying120, a66 := Try.isAgg120, z66 := Try.sizeOf120, v66 := Try.zeroValue120, t70 := Try.underlying124, a70 := Try.isAgg124, z70 := Try.sizeOf124, v70 := Try.zeroValue124, t76 := Try.underlying137, a76 := Try.isAgg137, z76 := Try.sizeOf137, v76 := Try.zeroValue137, t77 := Try.underlying138, a77 := Try.isAgg138, z77 := Try.sizeOf138, v77 := Try.zeroValue138 }
def Try.cmpInt_ren : Go.Shelf.Ren := ⟨fun | 5 => 59 | 7 => 83 | n => n, fun | 22 => 2 | 3 => 3 | 4 => 4 | n => n, fun | n => n⟩
theorem Try.cmpInt : Go.Proofs.SlLaysC2.n5 Try.prog Try.cmpInt_ren := { mixed := by kernel_rfl, f5 := ⟨Try.f59.name, by decide, Try.func59.trans (congrArg some (by kernel_rfl))⟩, f7 := ⟨Try.f83.name, by decide, Try.func83.trans (congrArg some (by kernel_rfl))⟩, t3 := Try.underlying3, a3 := Try.isAgg3, z3 := Try.sizeOf3, v3 := Try.zeroValue3, t4 := Try.underlying4, a4 := Try.isAgg4, z4 := Try.sizeOf4, v4 := Try.zeroValue4, t22 := Try.underlying2, a22 := Try.isAgg2, z22 := Try.sizeOf2, v22 := Try.zeroValue2 }

/-- a period's two cells -/
def encP (p : Per) : List Value := [.int .i64 p.f, .int .i64 p.t]

set_option maxHeartbeats 1000000 in
/-- the closure that the sort is given: whatever the world; two blocks are laid -/
theorem closure31 (x y : Per) (W : World) : Calls Try.prog 66 #[.agg #[.int .i64 x.f, .int .i64 x.t], .agg #[.int .i64 y.f, .int .i64 y.t]] W fun e w' => e = .returned (.int .i64 (Lib.compareInt x.f y.f)) ∧ ∃ q os', w' = grow (W.drewN q) os' := by
  have hcon := fun W' => AnyG.cmp_Compare_int Try.cmpInt x.f y.f W'
  change ∀ W', Calls Try.prog 59 _ _ _ at hcon
  generalize Lib.compareInt x.f y.f = r at hcon ⊢
  go_enter Try.func66, Try.ntmps66
  go_wp2_with (go_at_call 59; refine (hcon _).mono ?_; rintro e w' ⟨rfl, rfl⟩)
  go_ret
  exact ⟨rfl, 0, _, by rw [alloc_eq_grow, alloc_eq_grow, grow_grow]; rfl⟩

theorem cmpLays31 (blk off size : Nat) (w : World) : CmpLays Try.prog 66 #[] encP 2 (fun x y => Lib.compareInt x.f y.f) blk off size w :=
  fun _ _ _ _ x y => closure31 x y _
theorem ltF (x y : Per) : ltOf (fun x y : Per => Lib.compareInt x.f y.f) x y = decide (x.f < y.f) := by
  unfold ltOf Lib.compareInt
  by_cases h1 : x.f < y.f
  · simp [h1]
  · by_cases h2 : y.f < x.f <;> simp [h1, h2]
theorem swoF : SWO (ltOf fun x y : Per => Lib.compareInt x.f y.f) where
  irrefl x := by rw [ltF]; simp
  trans x y z h1 h2 := by rw [ltF] at *; simp at *; omega
  ntrans x y z h1 h2 := by rw [ltF] at *; simp at *; omega

/-- what the library's sort makes of a list of periods -/
def sortP (l : List Per) : List Per := (pdq (ltOf fun x y : Per => Lib.compareInt x.f y.f) l.toArray 0 l.toArray.size (Lib.bitLen l.toArray.size) true true).toList
theorem sortP_pdq (l : List Per) : PermIn 0 l.toArray.size l.toArray (pdq (ltOf fun x y : Per => Lib.compareInt x.f y.f) l.toArray 0 l.toArray.size (Lib.bitLen l.toArray.size) true true) ∧ SortedIn (ltOf fun x y : Per => Lib.compareInt x.f y.f) 0 l.toArray.size (pdq (ltOf fun x y : Per => Lib.compareInt x.f y.f) l.toArray 0 l.toArray.size (Lib.bitLen l.toArray.size) true true) :=
  pdq_sorts (ltOf fun x y : Per => Lib.compareInt x.f y.f) swoF l.toArray 0 l.toArray.size (Lib.bitLen l.toArray.size) true true (Nat.zero_le _) (Nat.le_refl _) (Or.inl rfl)
theorem sortP_len (l : List Per) : (sortP l).length = l.length := by
  have := (sortP_pdq l).1.1
  unfold sortP
  simpa using this
theorem sortP_perm (l : List Per) : (sortP l).Perm l := by
  have h := (sortP_pdq l).1
  have h1 := h.1
  have h2 := h.2.2
  unfold sortP
  generalize pdq (ltOf fun x y : Per => Lib.compareInt x.f y.f) l.toArray 0 l.toArray.size (Lib.bitLen l.toArray.size) true true = d at *
  have e1 : d.extract 0 l.toArray.size = d := by rw [← h1]; simp
  have e2 : l.toArray.extract 0 l.toArray.size = l.toArray := by simp
  rw [e1, e2] at h2
  simpa using h2
theorem sortP_sorted (l : List Per) : (sortP l).Pairwise fun x y => x.f ≤ y.f := by
  have h := (sortP_pdq l).2
  have h1 := (sortP_pdq l).1.1
  unfold sortP
  generalize pdq (ltOf fun x y : Per => Lib.compareInt x.f y.f) l.toArray 0 l.toArray.size (Lib.bitLen l.toArray.size) true true = d at *
  rw [List.pairwise_iff_getElem]
  intro i j hi hj hij
  simp only [Array.length_toList] at hi hj
  have := h i j (Nat.zero_le _) hij (by omega)
  rw [ltF, getElem!_pos d i hi, getElem!_pos d j hj] at this
  simpa using this

theorem sorts_ok : Go.Proofs.Ytmkbclnhopoiiaa.Sorts sortP := by
  refine ⟨sortP_len, sortP_perm, sortP_sorted, fun l hl => ?_, ?_⟩
  · refine Go.VL.ConB.sort (enc := encP) (k := 2) (cells := Per.cells) (fun x => rfl) (fun x => rfl) ?_ (by kernel_rfl) l (sortP l) (sortP_len l) ?_
    · intro x v hv
      simp [encP] at hv
      rcases hv with rfl | rfl <;> rfl
    · intro w b cap hH hb
      have eg : ∀ args w, (callFunc 66 args).run Try.prog w = .ok (.enter 66 args) w := enters_of Try.func66 (by kernel_rfl) rfl
      have hcon := AnyQ.slices_SortFunc_eq Try.sortPer 2 Try.isAgg36 Try.sizeOf36 encP (fun _ => rfl) (fun x v hv => by simp [encP] at hv; rcases hv with rfl | rfl <;> rfl) (fun x y => Lib.compareInt x.f y.f) swoF 66 #[] b 0 cap l.toArray w eg (cmpLays31 b 0 _ w) hH hb (by simp; omega)
      change Calls Try.prog 65 _ _ _ at hcon
      refine hcon.mono ?_
      rintro e w' ⟨he, n, os, hw⟩
      exact ⟨he, n, os, by rw [hw]; rfl⟩
  · refine Go.VL.Con.same (by kernel_rfl) fun w K us hd => ?_
    unfold Go.VL.DRs at hd
    rw [Go.VL.SRs] at hd
    obtain ⟨u, us', rfl, hu, hd⟩ := hd
    rw [Go.VL.SRs] at hd
    obtain ⟨u2, us'', rfl, hu2, hd⟩ := hd
    rw [Go.VL.SRs] at hd
    subst hd
    rw [Go.VL.SR, Go.VL.CR] at hu
    have hu' : u = .slice none 0 0 := by
      rcases hu with ⟨_, _, h⟩ | ⟨h, _⟩
      · exact h
      · cases h
    subst hu'
    have h := AnyF.slices_SortFunc_none Try.sortPer none 0 u2 w
    exact h
end Go.Proofs.Ytmkbclnhopoiiaa
