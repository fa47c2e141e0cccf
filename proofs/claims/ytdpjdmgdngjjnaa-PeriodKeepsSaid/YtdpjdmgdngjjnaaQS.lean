/- Contracts of functions of the seat, proved in a logic on data over the model (part QS). -/
import Derived.Test.YtdpjdmgdngjjnaaQ7
import Derived.Test.YtdpjdmgdngjjnaaV32
import Derived.Shelf.SlSortCmp.NoneTotal
import Derived.Shelf.SlicesG.Cmp
set_option linter.unusedSimpArgs false
set_option linter.unusedVariables false
namespace Go.Proofs.Ytdpjdmgdngjjnaa
open Go.Shelf Go.RowKit Go.Lib Go.Sort
def Try.sortPer_ren : Go.Shelf.Ren := ⟨fun | 6 => 30 | 15 => 38 | 14 => 37 | 28 => 50 | 29 => 51 | 20 => 42 | 21 => 43 | 22 => 44 | 23 => 45 | 24 => 46 | 25 => 47 | 26 => 48 | 27 => 49 | 46 => 61 | 47 => 62 | 48 => 63 | 49 => 64 | 50 => 65 | 57 => 69 | n => n, fun | 22 => 24 | 24 => 23 | 25 => 53 | 3 => 3 | 39 => 63 | 0 => 0 | 53 => 76 | 55 => 78 | 4 => 4 | 46 => 69 | 45 => 68 | 50 => 73 | 5 => 5 | 9 => 9 | 66 => 85 | 70 => 89 | 76 => 93 | 77 => 42 | n => n, fun | n => n⟩
theorem Try.sortPer : Go.Proofs.SlLaysF0.n6 Try.prog Try.sortPer_ren := { mixed := by kernel_rfl, f6 := ⟨Try.f30.name, by decide, Try.func30.trans (congrArg some (by kernel_rfl))⟩, f14 := ⟨Try.f37.name, by decide, Try.func37.trans (congrArg some (by kernel_rfl))⟩, f15 := Try.func38.trans (congrArg some (by kernel_rfl)), f20 := ⟨Try.f42.name, by decide, Try.func42.trans (congrArg some (by kernel_rfl))⟩, f21 := ⟨Try.f43.name, by decide, Try.func43.trans (congrArg some (by kernel_rfl))⟩, f22 := ⟨Try.f44.name, by decide, Try.func44.trans (congrArg some (by kernel_rfl))⟩, f23 := ⟨Try.f45.name, by decide, Try.func45.trans (congrArg some (by kernel_rfl))⟩, f24 := ⟨Try.f46.name, by decide, Try.func46.trans (congrArg some (by kernel_rfl))⟩, f25 := ⟨Try.f47.name, by decide, Try.func47.trans (congrArg some (by kernel_rfl))⟩, f26 := ⟨Try.f48.name, by decide, Try.func48.trans (congrArg some (by kernel_rfl))⟩, f27 := ⟨Try.f49.name, by decide, Try.func49.trans (congrArg some (by kernel_rfl))⟩, f28 := Try.func50.trans (congrArg some (by kernel_rfl)), f29 := Try.func51.trans (congrArg some (by kernel_rfl)), f46 := ⟨Try.f61.name, by decide, Try.func61.trans (congrArg some (by kernel_rfl))⟩, f47 := Try.func62.trans (congrArg some (by kernel_rfl)), f48 := Try.func63.trans (congrArg some (by kernel_rfl)), f49 := ⟨Try.f64.name, by decide, Try.func64.trans (congrArg some (by kernel_rfl))⟩, f50 := ⟨Try.f65.name, by decide, Try.func65.trans (congrArg some (by kernel_rfl))⟩, f57 := ⟨Try.f69.name, by decide, Try.func69.trans (congrArg some (by kernel_rfl))⟩, t0 := Try.underlying0, a0 := Try.isAgg0, z0 := Try.sizeOf0, v0 := Try.zeroValue0, t3 := Try.underlying3, a3 := Try.isAgg3, z3 := Try.sizeOf3, v3 := Try.zeroValue3, t4 := Try.underlying4, a4 := Try.isAgg4, z4 := Try.sizeOf4, v4 := Try.zeroValue4, t5 := Try.underlying5, a5 := Try.isAgg5, z5 := Try.sizeOf5, v5 := Try.zeroValue5, t9 := Try.underlying9, a9 := Try.isAgg9, z9 := Try.sizeOf9, v9 := Try.zeroValue9, t22 := Try.underlying24, a22 := Try.isAgg24, z22 := Try.sizeOf24, v22 := Try.zeroValue24, t25 := Try.underlying53, a25 := Try.isAgg53, z25 := Try.sizeOf53, v25 := Try.zeroValue53, t39 := Try.underlying63, a39 := Try.isAgg63, z39 := Try.sizeOf63, v39 := Try.zeroValue63, t45 := Try.underlying68, a45 := Try.isAgg68, z45 := Try.sizeOf68, v45 := Try.zeroValue68, t46 := Try.underlying69, a46 := Try.isAgg69, z46 := Try.sizeOf69, v46 := Try.zeroValue69, t50 := Try.underlying73, a50 := Try.isAgg73, z50 := Try.sizeOf73, v50 := Try.zeroValue73, t53 := Try.underlying76, a53 := Try.isAgg76, z53 := Try.sizeOf76, v53 := Try.zeroValue76, t55 := Try.underlying78, a55 := Try.isAgg78, z55 := Try.sizeOf78, v55 := Try.zeroValue78, t66 := Try.underlying85, a66 := Try.isAgg85, z66 := Try.sizeOf85, v66 := Try.zeroValue85, t70 := Try.underlying89, a70 := Try.isAgg89, z70 := Try.sizeOf89, v70 := Try.zeroValue89, t76 := Try.underlying93, a76 := Try.isAgg93, z76 := Try.sizeOf93, v76 := Try.zeroValue93, t77 := Try.underlying42, a77 := Try.isAgg42, z77 := Try.sizeOf42, v77 := Try.zeroValue42 }
def Try.cmpInt_ren : Go.Shelf.Ren := ⟨fun | 5 => 32 | 7 => 39 | n => n, fun | 22 => 2 | 3 => 3 | 4 => 4 | n => n, fun | n => n⟩
theorem Try.cmpInt : Go.Proofs.SlLaysC2.n5 Try.prog Try.cmpInt_ren := { mixed := by kernel_rfl, f5 := ⟨Try.f32.name, by decide, Try.func32.trans (congrArg some (by kernel_rfl))⟩, f7 := ⟨Try.f39.name, by decide, Try.func39.trans (congrArg some (by kernel_rfl))⟩, t3 := Try.underlying3, a3 := Try.isAgg3, z3 := Try.sizeOf3, v3 := Try.zeroValue3, t4 := Try.underlying4, a4 := Try.isAgg4, z4 := Try.sizeOf4, v4 := Try.zeroValue4, t22 := Try.underlying2, a22 := Try.isAgg2, z22 := Try.sizeOf2, v22 := Try.zeroValue2 }

/-- a period's two cells -/
def encP (p : Per) : List Value := [.int .i64 p.f, .int .i64 p.t]

set_option maxHeartbeats 1000000 in
/-- the closure that the sort is given: whatever the world; two blocks are laid -/
theorem closure31 (x y : Per) (W : World) : Calls Try.prog 31 #[.agg #[.int .i64 x.f, .int .i64 x.t], .agg #[.int .i64 y.f, .int .i64 y.t]] W fun e w' => e = .returned (.int .i64 (Lib.compareInt x.f y.f)) ∧ ∃ q os', w' = grow (W.drewN q) os' := by
  have hcon := fun W' => AnyG.cmp_Compare_int Try.cmpInt x.f y.f W'
  change ∀ W', Calls Try.prog 32 _ _ _ at hcon
  generalize Lib.compareInt x.f y.f = r at hcon ⊢
  go_enter Try.func31, Try.ntmps31
  go_wp2_with (go_at_call 32; refine (hcon _).mono ?_; rintro e w' ⟨rfl, rfl⟩)
  go_ret
  exact ⟨rfl, 0, _, by rw [alloc_eq_grow, alloc_eq_grow, grow_grow]; rfl⟩

theorem cmpLays31 (blk off size : Nat) (w : World) : CmpLays Try.prog 31 #[] encP 2 (fun x y => Lib.compareInt x.f y.f) blk off size w :=
  fun _ _ _ _ x y => closure31 x y _
theorem ltF (x y : Per) : ltOf (fun x y : Per => Lib.compareInt x.f y.f) x y = decide (x.f < y.f) := by
  unfold ltOf Lib.compareInt
  by_cases h1 : x.f < y.f
  · simp [h1]
  · by_cases h2 : y.f < x.f <;> simp [h1, h2]
theorem swoF : SWO (ltOf fun x y : Per => Lib.compareInt x.f y.f) where
  irrefl x := by rw [ltF]; simp
  trans x y z h1 h2 := by rw [ltF] at *; simp at *; omega
  ntrans x y z h1 h2 := by rw [ltF] at *; simp at *; omega

/-- what the library's sort makes of a list of periods -/
def sortP (l : List Per) : List Per := (pdq (ltOf fun x y : Per => Lib.compareInt x.f y.f) l.toArray 0 l.toArray.size (Lib.bitLen l.toArray.size) true true).toList
theorem sortP_pdq (l : List Per) : PermIn 0 l.toArray.size l.toArray (pdq (ltOf fun x y : Per => Lib.compareInt x.f y.f) l.toArray 0 l.toArray.size (Lib.bitLen l.toArray.size) true true) ∧ SortedIn (ltOf fun x y : Per => Lib.compareInt x.f y.f) 0 l.toArray.size (pdq (ltOf fun x y : Per => Lib.compareInt x.f y.f) l.toArray 0 l.toArray.size (Lib.bitLen l.toArray.size) true true) :=
  pdq_sorts (ltOf fun x y : Per => Lib.compareInt x.f y.f) swoF l.toArray 0 l.toArray.size (Lib.bitLen l.toArray.size) true true (Nat.zero_le _) (Nat.le_refl _) (Or.inl rfl)
theorem sortP_len (l : List Per) : (sortP l).length = l.length := by
  have := (sortP_pdq l).1.1
  unfold sortP
  simpa using this
theorem sortP_perm (l : List Per) : (sortP l).Perm l := by
  have h := (sortP_pdq l).1
  have h1 := h.1
  have h2 := h.2.2
  unfold sortP
  generalize pdq (ltOf fun x y : Per => Lib.compareInt x.f y.f) l.toArray 0 l.toArray.size (Lib.bitLen l.toArray.size) true true = d at *
  have e1 : d.extract 0 l.toArray.size = d := by rw [← h1]; simp
  have e2 : l.toArray.extract 0 l.toArray.size = l.toArray := by simp
  rw [e1, e2] at h2
  simpa using h2
theorem sortP_sorted (l : List Per) : (sortP l).Pairwise fun x y => x.f ≤ y.f := by
  have h := (sortP_pdq l).2
  have h1 := (sortP_pdq l).1.1
  unfold sortP
  generalize pdq (ltOf fun x y : Per => Lib.compareInt x.f y.f) l.toArray 0 l.toArray.size (Lib.bitLen l.toArray.size) true true = d at *
  rw [List.pairwise_iff_getElem]
  intro i j hi hj hij
  simp only [Array.length_toList] at hi hj
  have := h i j (Nat.zero_le _) hij (by omega)
  rw [ltF, getElem!_pos d i hi, getElem!_pos d j hj] at this
  simpa using this

theorem sorts_ok : Go.Proofs.Ytdpjdmgdngjjnaa.Sorts sortP := by
  refine ⟨sortP_len, sortP_perm, sortP_sorted, fun l hl => ?_, ?_⟩
  · refine Go.VL.ConB.sort (enc := encP) (k := 2) (cells := Per.cells) (fun x => rfl) (fun x => rfl) ?_ (by kernel_rfl) l (sortP l) (sortP_len l) ?_
    · intro x v hv
      simp [encP] at hv
      rcases hv with rfl | rfl <;> rfl
    · intro w b cap hH hb
      have eg : ∀ args w, (callFunc 31 args).run Try.prog w = .ok (.enter 31 args) w := enters_of Try.func31 (by kernel_rfl) rfl
      have hcon := AnyQ.slices_SortFunc_eq Try.sortPer 2 Try.isAgg23 Try.sizeOf23 encP (fun _ => rfl) (fun x v hv => by simp [encP] at hv; rcases hv with rfl | rfl <;> rfl) (fun x y => Lib.compareInt x.f y.f) swoF 31 #[] b 0 cap l.toArray w eg (cmpLays31 b 0 _ w) hH hb (by simp; omega)
      change Calls Try.prog 30 _ _ _ at hcon
      refine hcon.mono ?_
      rintro e w' ⟨he, n, os, hw⟩
      exact ⟨he, n, os, by rw [hw]; rfl⟩
  · refine Go.VL.Con.same (by kernel_rfl) fun w K us hd => ?_
    unfold Go.VL.DRs at hd
    rw [Go.VL.SRs] at hd
    obtain ⟨u, us', rfl, hu, hd⟩ := hd
    rw [Go.VL.SRs] at hd
    obtain ⟨u2, us'', rfl, hu2, hd⟩ := hd
    rw [Go.VL.SRs] at hd
    subst hd
    rw [Go.VL.SR, Go.VL.CR] at hu
    have hu' : u = .slice none 0 0 := by
      rcases hu with ⟨_, _, h⟩ | ⟨h, _⟩
      · exact h
      · cases h
    subst hu'
    have h := AnyF.slices_SortFunc_none Try.sortPer none 0 u2 w
    exact h
end Go.Proofs.Ytdpjdmgdngjjnaa
