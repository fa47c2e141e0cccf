/- The library's sorts, as contracts: of pages by a comparison, and of whole numbers. -/
import Derived.Test.YtddhmoffjpnbgaaT2
import Derived.Test.YtddhmoffjpnbgaaV32
import Derived.Test.YtddhmoffjpnbgaaV34
import Derived.Shelf.SlSortCmp.NoneTotal
import Derived.Shelf.SlicesG.Cmp
import Derived.Shelf.SortM.Plain
import Derived.Shelf.SortM.SortNone
set_option linter.unusedSimpArgs false
set_option linter.unusedVariables false
namespace Go.Proofs.Ytddhmoffjpnbgaa
open Go.Shelf Go.RowKit Go.Lib Go.Sort
def Try.sortTou_ren : Go.Shelf.Ren := ⟨fun | 6 => 27 | 15 => 25 | 14 => 46 | 28 => 43 | 29 => 44 | 20 => 53 | 21 => 54 | 22 => 55 | 23 => 56 | 24 => 57 | 25 => 58 | 26 => 59 | 27 => 60 | 46 => 62 | 47 => 48 | 48 => 49 | 49 => 63 | 50 => 64 | 57 => 65 | n => n, fun | 22 => 25 | 24 => 55 | 25 => 63 | 3 => 3 | 39 => 77 | 0 => 0 | 53 => 97 | 55 => 84 | 4 => 4 | 46 => 89 | 45 => 88 | 50 => 94 | 5 => 5 | 9 => 9 | 66 => 101 | 70 => 105 | 76 => 113 | 77 => 48 | n => n, fun | n => n⟩
theorem Try.sortTou : Go.Proofs.SlLaysF0.n6 Try.prog Try.sortTou_ren := { mixed := by kernel_rfl, f6 := ⟨Try.f27.name, by decide, Try.func27.trans (congrArg some (by kernel_rfl))⟩, f14 := ⟨Try.f46.name, by decide, Try.func46.trans (congrArg some (by kernel_rfl))⟩, f15 := Try.func25.trans (congrArg some (by kernel_rfl)), f20 := ⟨Try.f53.name, by decide, Try.func53.trans (congrArg some (by kernel_rfl))⟩, f21 := ⟨Try.f54.name, by decide, Try.func54.trans (congrArg some (by kernel_rfl))⟩, f22 := ⟨Try.f55.name, by decide, Try.func55.trans (congrArg some (by kernel_rfl))⟩, f23 := ⟨Try.f56.name, by decide, Try.func56.trans (congrArg some (by kernel_rfl))⟩, f24 := ⟨Try.f57.name, by decide, Try.func57.trans (congrArg some (by kernel_rfl))⟩, f25 := ⟨Try.f58.name, by decide, Try.func58.trans (congrArg some (by kernel_rfl))⟩, f26 := ⟨Try.f59.name, by decide, Try.func59.trans (congrArg some (by kernel_rfl))⟩, f27 := ⟨Try.f60.name, by decide, Try.func60.trans (congrArg some (by kernel_rfl))⟩, f28 := Try.func43.trans (congrArg some (by kernel_rfl)), f29 := Try.func44.trans (congrArg some (by kernel_rfl)), f46 := ⟨Try.f62.name, by decide, Try.func62.trans (congrArg some (by kernel_rfl))⟩, f47 := Try.func48.trans (congrArg some (by kernel_rfl)), f48 := Try.func49.trans (congrArg some (by kernel_rfl)), f49 := ⟨Try.f63.name, by decide, Try.func63.trans (congrArg some (by kernel_rfl))⟩, f50 := ⟨Try.f64.name, by decide, Try.func64.trans (congrArg some (by kernel_rfl))⟩, f57 := ⟨Try.f65.name, by decide, Try.func65.trans (congrArg some (by kernel_rfl))⟩, t0 := Try.underlying0, a0 := Try.isAgg0, z0 := Try.sizeOf0, v0 := Try.zeroValue0, t3 := Try.underlying3, a3 := Try.isAgg3, z3 := Try.sizeOf3, v3 := Try.zeroValue3, t4 := Try.underlying4, a4 := Try.isAgg4, z4 := Try.sizeOf4, v4 := Try.zeroValue4, t5 := Try.underlying5, a5 := Try.isAgg5, z5 := Try.sizeOf5, v5 := Try.zeroValue5, t9 := Try.underlying9, a9 := Try.isAgg9, z9 := Try.sizeOf9, v9 := Try.zeroValue9, t22 := Try.underlying25, a22 := Try.isAgg25, z22 := Try.sizeOf25, v22 := Try.zeroValue25, t25 := Try.underlying63, a25 := Try.isAgg63, z25 := Try.sizeOf63, v25 := Try.zeroValue63, t39 := Try.underlying77, a39 := Try.isAgg77, z39 := Try.sizeOf77, v39 := Try.zeroValue77, t45 := Try.underlying88, a45 := Try.isAgg88, z45 := Try.sizeOf88, v45 := Try.zeroValue88, t46 := Try.underlying89, a46 := Try.isAgg89, z46 := Try.sizeOf89, v46 := Try.zeroValue89, t50 := Try.underlying94, a50 := Try.isAgg94, z50 := Try.sizeOf94, v50 := Try.zeroValue94, t53 := Try.underlying97, a53 := Try.isAgg97, z53 := Try.sizeOf97, v53 := Try.zeroValue97, t55 := Try.underlying84, a55 := Try.isAgg84, z55 := Try.sizeOf84, v55 := Try.zeroValue84, t66 := Try.underlying101, a66 := Try.isAgg101, z66 := Try.sizeOf101, v66 := Try.zeroValue101, t70 := Try.underlying105, a70 := Try.isAgg105, z70 := Try.sizeOf105, v70 := Try.zeroValue105, t76 := Try.underlying113, a76 := Try.isAgg113, z76 := Try.sizeOf113, v76 := Try.zeroValue113, t77 := Try.underlying48, a77 := Try.isAgg48, z77 := Try.sizeOf48, v77 := Try.zeroValue48 }
def Try.cmpInt_ren : Go.Shelf.Ren := ⟨fun | 5 => 18 | 7 => 29 | n => n, fun | 22 => 3 | 3 => 3 | 4 => 4 | n => n, fun | n => n⟩
theorem Try.cmpInt : Go.Proofs.SlLaysC2.n5 Try.prog Try.cmpInt_ren := { mixed := by kernel_rfl, f5 := ⟨Try.f18.name, by decide, Try.func18.trans (congrArg some (by kernel_rfl))⟩, f7 := ⟨Try.f29.name, by decide, Try.func29.trans (congrArg some (by kernel_rfl))⟩, t3 := Try.underlying3, a3 := Try.isAgg3, z3 := Try.sizeOf3, v3 := Try.zeroValue3, t4 := Try.underlying4, a4 := Try.isAgg4, z4 := Try.sizeOf4, v4 := Try.zeroValue4, t22 := Try.underlying3, a22 := Try.isAgg3, z22 := Try.sizeOf3, v22 := Try.zeroValue3 }
def Try.sortInt_ren : Go.Shelf.Ren := ⟨fun | 5 => 14 | 8 => 25 | 7 => 24 | 19 => 43 | 20 => 44 | 10 => 34 | 11 => 35 | 12 => 36 | 13 => 37 | 14 => 38 | 15 => 39 | 16 => 40 | 17 => 41 | 18 => 42 | 30 => 47 | 31 => 48 | 32 => 49 | 33 => 50 | 34 => 51 | 35 => 52 | 40 => 61 | n => n, fun | 23 => 23 | 25 => 2 | 3 => 3 | 32 => 77 | 22 => 23 | 0 => 0 | 44 => 97 | 46 => 84 | 4 => 4 | 36 => 89 | 35 => 88 | 41 => 94 | 5 => 5 | 9 => 9 | 53 => 101 | 57 => 105 | 63 => 113 | 64 => 48 | n => n, fun | n => n⟩
theorem Try.sortInt : Go.Proofs.SlLaysM.n5 Try.prog Try.sortInt_ren := { mixed := by kernel_rfl, f5 := ⟨Try.f14.name, by decide, Try.func14.trans (congrArg some (by kernel_rfl))⟩, f7 := ⟨Try.f24.name, by decide, Try.func24.trans (congrArg some (by kernel_rfl))⟩, f8 := Try.func25.trans (congrArg some (by kernel_rfl)), f10 := ⟨Try.f34.name, by decide, Try.func34.trans (congrArg some (by kernel_rfl))⟩, f11 := ⟨Try.f35.name, by decide, Try.func35.trans (congrArg some (by kernel_rfl))⟩, f12 := ⟨Try.f36.name, by decide, Try.func36.trans (congrArg some (by kernel_rfl))⟩, f13 := ⟨Try.f37.name, by decide, Try.func37.trans (congrArg some (by kernel_rfl))⟩, f14 := ⟨Try.f38.name, by decide, Try.func38.trans (congrArg some (by kernel_rfl))⟩, f15 := ⟨Try.f39.name, by decide, Try.func39.trans (congrArg some (by kernel_rfl))⟩, f16 := ⟨Try.f40.name, by decide, Try.func40.trans (congrArg some (by kernel_rfl))⟩, f17 := ⟨Try.f41.name, by decide, Try.func41.trans (congrArg some (by kernel_rfl))⟩, f18 := ⟨Try.f42.name, by decide, Try.func42.trans (congrArg some (by kernel_rfl))⟩, f19 := Try.func43.trans (congrArg some (by kernel_rfl)), f20 := Try.func44.trans (congrArg some (by kernel_rfl)), f30 := ⟨Try.f47.name, by decide, Try.func47.trans (congrArg some (by kernel_rfl))⟩, f31 := Try.func48.trans (congrArg some (by kernel_rfl)), f32 := Try.func49.trans (congrArg some (by kernel_rfl)), f33 := ⟨Try.f50.name, by decide, Try.func50.trans (congrArg some (by kernel_rfl))⟩, f34 := ⟨Try.f51.name, by decide, Try.func51.trans (congrArg some (by kernel_rfl))⟩, f35 := ⟨Try.f52.name, by decide, Try.func52.trans (congrArg some (by kernel_rfl))⟩, f40 := ⟨Try.f61.name, by decide, Try.func61.trans (congrArg some (by kernel_rfl))⟩, t0 := Try.underlying0, a0 := Try.isAgg0, z0 := Try.sizeOf0, v0 := Try.zeroValue0, t3 := Try.underlying3, a3 := Try.isAgg3, z3 := Try.sizeOf3, v3 := Try.zeroValue3, t4 := Try.underlying4, a4 := Try.isAgg4, z4 := Try.sizeOf4, v4 := Try.zeroValue4, t5 := Try.underlying5, a5 := Try.isAgg5, z5 := Try.sizeOf5, v5 := Try.zeroValue5, t9 := Try.underlying9, a9 := Try.isAgg9, z9 := Try.sizeOf9, v9 := Try.zeroValue9, t22 := Try.underlying23, a22 := Try.isAgg23, z22 := Try.sizeOf23, v22 := Try.zeroValue23, t23 := Try.underlying23, a23 := Try.isAgg23, z23 := Try.sizeOf23, v23 := Try.zeroValue23, t25 := Try.underlying2, a25 := Try.isAgg2, z25 := Try.sizeOf2, v25 := Try.zeroValue2, t32 := Try.underlying77, a32 := Try.isAgg77, z32 := Try.sizeOf77, v32 := Try.zeroValue77, t35 := Try.underlying88, a35 := Try.isAgg88, z35 := Try.sizeOf88, v35 := Try.zeroValue88, t36 := Try.underlying89, a36 := Try.isAgg89, z36 := Try.sizeOf89, v36 := Try.zeroValue89, t41 := Try.underlying94, a41 := Try.isAgg94, z41 := Try.sizeOf94, v41 := Try.zeroValue94, t44 := Try.underlying97, a44 := Try.isAgg97, z44 := Try.sizeOf97, v44 := Try.zeroValue97, t46 := Try.underlying84, a46 := Try.isAgg84, z46 := Try.sizeOf84, v46 := Try.zeroValue84, t53 := Try.underlying101, a53 := Try.isAgg101, z53 := Try.sizeOf101, v53 := Try.zeroValue101, t57 := Try.underlying105, a57 := Try.isAgg105, z57 := Try.sizeOf105, v57 := Try.zeroValue105, t63 := Try.underlying113, a63 := Try.isAgg113, z63 := Try.sizeOf113, v63 := Try.zeroValue113, t64 := Try.underlying48, a64 := Try.isAgg48, z64 := Try.sizeOf48, v64 := Try.zeroValue48 }

open Go.VL in
/-- a sort of pages: any function of which the two contracts hold -/
structure Sorts (sortT : List Tou → List Tou) : Prop where
  len : ∀ l, (sortT l).length = l.length
  perm : ∀ l, (sortT l).Perm l
  sorted : ∀ l, (sortT l).Pairwise fun x y => x.page ≤ y.page
  con : ∀ l, l.length ≤ 140737488355328 → ConB Try.prog 27 [.own 1 l.length, .c (.fn 17 [])] [(1, .arr false 3 (l.map Tou.cells) 0)] [] [.own 1 l.length, .c (.fn 17 [])] [(1, .arr false 3 ((sortT l).map Tou.cells) 0)]
  nil : Con Try.prog 27 [.c (.sl true []), .c (.fn 17 [])] []
def sortI (l : List Int) : List Int := l.mergeSort fun x y => decide (x ≤ y)
theorem sortI_perm (l : List Int) : (sortI l).Perm l := List.mergeSort_perm _ _
theorem sortI_len (l : List Int) : (sortI l).length = l.length := (sortI_perm l).length_eq
theorem sortI_sorted (l : List Int) : (sortI l).Pairwise (· ≤ ·) := by
  have := List.pairwise_mergeSort (le := fun x y : Int => decide (x ≤ y)) (fun a b c h1 h2 => by simp at *; omega) (fun a b => by simp; omega) l
  simpa [sortI] using this
open Go.VL in
def ints (l : List Int) : List (List C) := l.map fun x => [C.v (.int .i64 x)]
open Go.VL in
structure SortsI : Prop where
  con : ∀ l : List Int, l.length ≤ 140737488355328 → ConB Try.prog 14 [.own 1 l.length] [(1, .arr false 1 (ints l) 0)] [] [.own 1 l.length] [(1, .arr false 1 (ints (sortI l)) 0)]
  nil : Con Try.prog 14 [.c (.sl true [])] []
/-- three cells -/
def encT (p : Tou) : List Value := [.int .i64 p.page, .int .i64 p.first, .int .i64 p.last]
instance : Inhabited Tou := ⟨⟨0, 0, 0⟩⟩

set_option maxRecDepth 4000 in
set_option maxHeartbeats 4000000 in
/-- the closure that the sort is given: whatever the world; two blocks are laid -/
theorem closure17 (x y : Tou) (W : World) : Calls Try.prog 17 #[.agg #[.int .i64 x.page, .int .i64 x.first, .int .i64 x.last], .agg #[.int .i64 y.page, .int .i64 y.first, .int .i64 y.last]] W fun e w' => e = .returned (.int .i64 (Lib.compareInt x.page y.page)) ∧ ∃ q os', w' = grow (W.drewN q) os' := by
  have hcon := fun W' => AnyG.cmp_Compare_int Try.cmpInt x.page y.page W'
  change ∀ W', Calls Try.prog 18 _ _ _ at hcon
  generalize Lib.compareInt x.page y.page = r at hcon ⊢
  go_enter Try.func17, Try.ntmps17
  go_wp2_with (go_at_call 18; refine (hcon _).mono ?_; rintro e w' ⟨rfl, rfl⟩)
  go_ret
  exact ⟨rfl, 0, _, by rw [alloc_eq_grow, alloc_eq_grow, grow_grow]; rfl⟩

theorem cmpLays17 (blk off size : Nat) (w : World) : CmpLays Try.prog 17 #[] encT 3 (fun x y => Lib.compareInt x.page y.page) blk off size w :=
  fun _ _ _ _ x y => closure17 x y _
theorem ltF (x y : Tou) : ltOf (fun x y : Tou => Lib.compareInt x.page y.page) x y = decide (x.page < y.page) := by
  unfold ltOf Lib.compareInt
  by_cases h1 : x.page < y.page
  · simp [h1]
  · by_cases h2 : y.page < x.page <;> simp [h1, h2]
theorem swoF : SWO (ltOf fun x y : Tou => Lib.compareInt x.page y.page) where
  irrefl x := by rw [ltF]; simp
  trans x y z h1 h2 := by rw [ltF] at *; simp at *; omega
  ntrans x y z h1 h2 := by rw [ltF] at *; simp at *; omega

/-- what the library's sort makes of a list of periods -/
def sortT (l : List Tou) : List Tou := (pdq (ltOf fun x y : Tou => Lib.compareInt x.page y.page) l.toArray 0 l.toArray.size (Lib.bitLen l.toArray.size) true true).toList
theorem sortT_pdq (l : List Tou) : PermIn 0 l.toArray.size l.toArray (pdq (ltOf fun x y : Tou => Lib.compareInt x.page y.page) l.toArray 0 l.toArray.size (Lib.bitLen l.toArray.size) true true) ∧ SortedIn (ltOf fun x y : Tou => Lib.compareInt x.page y.page) 0 l.toArray.size (pdq (ltOf fun x y : Tou => Lib.compareInt x.page y.page) l.toArray 0 l.toArray.size (Lib.bitLen l.toArray.size) true true) :=
  pdq_sorts (ltOf fun x y : Tou => Lib.compareInt x.page y.page) swoF l.toArray 0 l.toArray.size (Lib.bitLen l.toArray.size) true true (Nat.zero_le _) (Nat.le_refl _) (Or.inl rfl)
theorem sortT_len (l : List Tou) : (sortT l).length = l.length := by
  have := (sortT_pdq l).1.1
  unfold sortT
  simpa using this
theorem sortT_perm (l : List Tou) : (sortT l).Perm l := by
  have h := (sortT_pdq l).1
  have h1 := h.1
  have h2 := h.2.2
  unfold sortT
  generalize pdq (ltOf fun x y : Tou => Lib.compareInt x.page y.page) l.toArray 0 l.toArray.size (Lib.bitLen l.toArray.size) true true = d at *
  have e1 : d.extract 0 l.toArray.size = d := by rw [← h1]; simp
  have e2 : l.toArray.extract 0 l.toArray.size = l.toArray := by simp
  rw [e1, e2] at h2
  simpa using h2
theorem sortT_sorted (l : List Tou) : (sortT l).Pairwise fun x y => x.page ≤ y.page := by
  have h := (sortT_pdq l).2
  have h1 := (sortT_pdq l).1.1
  unfold sortT
  generalize pdq (ltOf fun x y : Tou => Lib.compareInt x.page y.page) l.toArray 0 l.toArray.size (Lib.bitLen l.toArray.size) true true = d at *
  rw [List.pairwise_iff_getElem]
  intro i j hi hj hij
  simp only [Array.length_toList] at hi hj
  have := h i j (Nat.zero_le _) hij (by omega)
  rw [ltF, getElem!_pos d i hi, getElem!_pos d j hj] at this
  simpa using this

theorem sorts_ok : Go.Proofs.Ytddhmoffjpnbgaa.Sorts sortT := by
  refine ⟨sortT_len, sortT_perm, sortT_sorted, fun l hl => ?_, ?_⟩
  · refine Go.VL.ConB.sort (enc := encT) (k := 3) (cells := Tou.cells) (fun x => rfl) (fun x => rfl) ?_ (by kernel_rfl) l (sortT l) (sortT_len l) ?_
    · intro x v hv
      simp [encT] at hv
      rcases hv with rfl | rfl | rfl <;> rfl
    · intro w b cap hH hb
      have eg : ∀ args w, (callFunc 17 args).run Try.prog w = .ok (.enter 17 args) w := enters_of Try.func17 (by kernel_rfl) rfl
      have hcon := AnyQ.slices_SortFunc_eq Try.sortTou 3 Try.isAgg55 Try.sizeOf55 encT (fun _ => rfl) (fun x v hv => by simp [encT] at hv; rcases hv with rfl | rfl | rfl <;> rfl) (fun x y => Lib.compareInt x.page y.page) swoF 17 #[] b 0 cap l.toArray w eg (cmpLays17 b 0 _ w) hH hb (by simp; omega)
      change Calls Try.prog 27 _ _ _ at hcon
      refine hcon.mono ?_
      rintro e w' ⟨he, n, os, hw⟩
      exact ⟨he, n, os, by rw [hw]; rfl⟩
  · refine Go.VL.Con.same (by kernel_rfl) fun w K us hd => ?_
    unfold Go.VL.DRs at hd
    rw [Go.VL.SRs] at hd
    obtain ⟨u, us', rfl, hu, hd⟩ := hd
    rw [Go.VL.SRs] at hd
    obtain ⟨u2, us'', rfl, hu2, hd⟩ := hd
    rw [Go.VL.SRs] at hd
    subst hd
    rw [Go.VL.SR, Go.VL.CR] at hu
    have hu' : u = .slice none 0 0 := by
      rcases hu with ⟨_, _, h⟩ | ⟨h, _⟩
      · exact h
      · cases h
    subst hu'
    have h := AnyF.slices_SortFunc_none Try.sortTou none 0 u2 w
    exact h
theorem sortsI_ok : Go.Proofs.Ytddhmoffjpnbgaa.SortsI := by
  refine ⟨fun l hl => ?_, ?_⟩
  · have h := Go.VL.ConB.ints (P := Try.prog) (f := 14) (by kernel_rfl) l (sortI l) l.length (sortI_len l) (Nat.le_refl _) false ?_
    · rw [if_neg (by simp), if_pos rfl, List.take_of_length_le (by rw [sortI_len]; exact Nat.le_refl _)] at h
      exact h
    · intro w b cap hH hb _
      have hcon := AnyM.slices_Sort_int Try.sortInt b 0 cap l w hH hb (by omega)
      change Calls Try.prog 14 _ _ _ at hcon
      exact hcon
  · refine Go.VL.Con.same (by kernel_rfl) fun w K us hd => ?_
    unfold Go.VL.DRs at hd
    rw [Go.VL.SRs] at hd
    obtain ⟨u, us', rfl, hu, hd⟩ := hd
    rw [Go.VL.SRs] at hd
    subst hd
    rw [Go.VL.SR, Go.VL.CR] at hu
    have hu' : u = .slice none 0 0 := by
      rcases hu with ⟨_, _, h⟩ | ⟨h, _⟩
      · exact h
      · cases h
    subst hu'
    exact AnyM.slices_Sort_int_none Try.sortInt none 0 w
end Go.Proofs.Ytddhmoffjpnbgaa
