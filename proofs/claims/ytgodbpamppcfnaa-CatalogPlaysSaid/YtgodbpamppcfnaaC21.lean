/- Contracts of functions of the seat, proved in a logic on data over the model (part C21). -/
import Derived.Test.YtgodbpamppcfnaaC19
import Derived.Test.YtgodbpamppcfnaaC12
set_option linter.unusedSimpArgs false
set_option linter.unusedVariables false
namespace Go.Proofs.Ytgodbpamppcfnaa
open Go.VL Go.RowKit

instance : Inhabited Col := ⟨⟨[], 0⟩⟩
def badK (t : Tab) (k : Nat) : Bool := long t.name || (t.cols.take k).any fun c => long c.name
def kindK (t : Tab) (k : Nat) : Bool := (t.cols.take k).any badKind
def twcK (t : Tab) : Nat → Bool
  | 0 => false
  | k + 1 => twcK t k || decide (place t (t.cols[k]!).name < k)
def misK (t : Tab) (k : Nat) : Bool := (t.keys.take k).any fun s => decide (place t s < 0)
/-- is one of the first k the same as the i-th? -/
def dupK (t : Tab) (i k : Nat) : Bool := (t.keys.take k).any fun s => decide (s = t.keys[i]!)
def twkK (t : Tab) : Nat → Bool
  | 0 => twcK t t.cols.length
  | i + 1 => twkK t i || dupK t i i
theorem any_snoc {α : Type} (p : α → Bool) {l : List α} {k : Nat} (h : k < l.length) : (l.take (k + 1)).any p = ((l.take k).any p || p l[k]) := by
  rw [take_snoc h, List.any_append]; simp

theorem bad_succ (t : Tab) {k : Nat} (h : k < t.cols.length) : badK t (k + 1) = (badK t k || long t.cols[k].name) := by unfold badK; rw [any_snoc _ h, Bool.or_assoc]
theorem kind_succ (t : Tab) {k : Nat} (h : k < t.cols.length) : kindK t (k + 1) = (kindK t k || (t.cols[k].kind != 1 && t.cols[k].kind != 2)) := by unfold kindK; rw [any_snoc _ h]; rfl
theorem twc_succ (t : Tab) {k : Nat} (h : k < t.cols.length) : twcK t (k + 1) = (twcK t k || decide (place t t.cols[k].name < k)) := by
  rw [twcK, getElem!_pos t.cols k h]
theorem mis_succ (t : Tab) {k : Nat} (h : k < t.keys.length) : misK t (k + 1) = (misK t k || decide (place t t.keys[k] < 0)) := by unfold misK; rw [any_snoc _ h]
theorem dup_succ (t : Tab) {i k : Nat} (hi : i < t.keys.length) (h : k < t.keys.length) : dupK t i (k + 1) = (dupK t i k || decide (t.keys[k] = t.keys[i])) := by unfold dupK; rw [any_snoc _ h, getElem!_pos t.keys i hi]
theorem place_lt (t : Tab) {i : Nat} (hi : i < t.cols.length) : place t t.cols[i].name < i ↔ ∃ j, ∃ h : j < i, (t.cols[j]'(by omega)).name = t.cols[i].name := by
  unfold place idxI
  cases h : t.cols.findIdx? (fun c => decide (c.name = t.cols[i].name)) with
  | none =>
    rw [List.findIdx?_eq_none_iff] at h
    have := h t.cols[i] (by simp)
    simp at this
  | some m =>
    rw [List.findIdx?_eq_some_iff_getElem] at h
    obtain ⟨h1, h2, h3⟩ := h
    simp only [decide_eq_true_eq] at h2
    show (m : Int) < i ↔ _
    constructor
    · intro hm
      exact ⟨m, by omega, h2⟩
    · rintro ⟨j, hj, e⟩
      have : ¬ j < m := fun hjm => by
        have := h3 j hjm
        simp [e] at this
      omega
theorem twcK_iff (t : Tab) : ∀ n, n ≤ t.cols.length → (twcK t n = true ↔ ∃ i, ∃ h : i < t.cols.length, i < n ∧ place t t.cols[i].name < i)
  | 0, _ => by simp [twcK]
  | n + 1, hn => by
    rw [twc_succ t (by omega), Bool.or_eq_true, twcK_iff t n (by omega), decide_eq_true_eq]
    constructor
    · rintro (⟨i, h, h1, h2⟩ | h)
      · exact ⟨i, h, by omega, h2⟩
      · exact ⟨n, by omega, by omega, h⟩
    · rintro ⟨i, h, h1, h2⟩
      by_cases e : i = n
      · subst e; exact .inr h2
      · exact .inl ⟨i, h, by omega, h2⟩
theorem tw_iff (l : List (List UInt8)) : tw l = true ↔ ∃ i j, ∃ h : i < l.length, ∃ hj : j < i, l[j] = l[i] := by
  unfold tw
  rw [Bool.not_eq_true', decide_eq_false_iff_not, List.Nodup, List.pairwise_iff_getElem]
  constructor
  · intro h
    refine Classical.byContradiction fun hh => h fun j i hj hi hji e => hh ⟨i, j, hi, hji, e⟩
  · rintro ⟨i, j, hi, hj, e⟩ h
    exact h j i (by omega) hi hj e
theorem twc_full (t : Tab) : twcK t t.cols.length = tw t.names := by
  rw [Bool.eq_iff_iff, twcK_iff t _ (Nat.le_refl _), tw_iff]
  constructor
  · rintro ⟨i, h, _, h2⟩
    rw [place_lt t h] at h2
    obtain ⟨j, hj, e⟩ := h2
    exact ⟨i, j, by simpa using h, hj, by simpa [Tab.names] using e⟩
  · rintro ⟨i, j, h, hj, e⟩
    have h' : i < t.cols.length := by simpa using h
    refine ⟨i, h', h', ?_⟩
    rw [place_lt t h']
    exact ⟨j, hj, by simpa [Tab.names] using e⟩
theorem twkK_iff (t : Tab) : ∀ n, n ≤ t.keys.length → (twkK t n = true ↔ tw t.names = true ∨ ∃ i j, ∃ h : i < t.keys.length, ∃ hj : j < i, i < n ∧ t.keys[j] = t.keys[i])
  | 0, _ => by simp [twkK, twc_full]
  | n + 1, hn => by
    have hn' : n < t.keys.length := by omega
    have hd : dupK t n n = true ↔ ∃ j, ∃ hj : j < n, t.keys[j] = t.keys[n] := by
      unfold dupK
      rw [getElem!_pos t.keys n hn', List.any_eq_true]
      constructor
      · rintro ⟨x, hx, e⟩
        obtain ⟨j, hj, rfl⟩ := List.mem_iff_getElem.1 hx
        simp at hj
        exact ⟨j, by omega, by simpa using e⟩
      · rintro ⟨j, hj, e⟩
        exact ⟨t.keys[j], List.mem_iff_getElem.2 ⟨j, by simp; omega, by simp⟩, by simpa using e⟩
    rw [twkK, Bool.or_eq_true, twkK_iff t n (by omega), hd]
    constructor
    · rintro ((h | ⟨i, j, h, hj, h1, h2⟩) | ⟨j, hj, e⟩)
      · exact .inl h
      · exact .inr ⟨i, j, h, hj, by omega, h2⟩
      · exact .inr ⟨n, j, hn', hj, by omega, e⟩
    · rintro (h | ⟨i, j, h, hj, h1, h2⟩)
      · exact .inl (.inl h)
      · by_cases e : i = n
        · subst e; exact .inr ⟨j, hj, h2⟩
        · exact .inl (.inr ⟨i, j, h, hj, by omega, h2⟩)
theorem twk_full (t : Tab) : twkK t t.keys.length = (tw t.names || tw t.keys) := by
  rw [Bool.eq_iff_iff, twkK_iff t _ (Nat.le_refl _), Bool.or_eq_true, tw_iff t.keys]
  constructor
  · rintro (h | ⟨i, j, h, hj, _, e⟩)
    · exact .inl h
    · exact .inr ⟨i, j, h, hj, e⟩
  · rintro (h | ⟨i, j, h, hj, e⟩)
    · exact .inl h
    · exact .inr ⟨i, j, h, hj, h, e⟩
theorem bad_full (t : Tab) : badK t t.cols.length = (long t.name || t.names.any long) := by
  unfold badK Tab.names; rw [List.take_length, List.any_map]; rfl
theorem kind_full (t : Tab) : kindK t t.cols.length = t.cols.any badKind := by unfold kindK; rw [List.take_length]
theorem mis_full (t : Tab) : misK t t.keys.length = t.keys.any (fun k => decide (place t k < 0)) := by unfold misK; rw [List.take_length]
theorem longc_at (s : List UInt8) : Con Try.prog 38 [.c (str s)] [.c (bln (long s))] := wrong_spec s
theorem place_at (cs : List C) (t : Tab) (h : cs = t.cells) (s : List UInt8) (hl : t.cols.length ≤ 140737488355328) : Con Try.prog 17 [.agg cs, .c (str s)] [.c (i64 (place t s))] := by rw [h]; exact place_spec t s hl

set_option maxRecDepth 4000 in
set_option maxHeartbeats 8000000 in
theorem checkRef_spec (t : Tab) (hc : t.cols.length ≤ 8000000000000) (hk0 : t.keys.length ≤ 140737488355328) : Con Try.prog 15 [.agg t.cells] [.c (i64 (chk t))] := by
  refine spec_of Try.func15 rfl (by kernel_rfl) (by simp [Try.f15]) (fun w0 K0 => vc_ok _ _ _ (by kernel_rfl) ?_)
  simp only [Try.f15]
  simp -dsimp [Tab.cells]
  refine VC.mk _ (wrong_spec t.name) ?_
  simp -dsimp
  refine VL.loop (fun k : Nat => ⟨[(6, .c (i64 k)), (5, .c (bln (twcK t k))), (4, .c (bln (kindK t k))), (3, .c (bln (badK t k))), (1, .ptr 64 0)], [(64, some t.box)]⟩) (fun k => k ≤ t.cols.length) (fun k => t.cols.length - k) 0 (by kernel_rfl) (by simp) (by simp [St.le, Tab.box, twcK, kindK, badK]) ?_
  intro k hk
  simp -dsimp [Tab.box]
  refine VIf.mk (fun h => ?_) (fun h => ?_)
  · have hlt : k < t.cols.length := by simpa using h
    have hw : IntKind.i64.wrap ((k : Int) + 1) = (k : Int) + 1 := IntWalk.i64_in _ (by omega)
    simp -dsimp [hlt, Col.cells]
    refine VG.mk [.c (bln (long t.cols[k].name))] _ (fun _ => wrong_spec _) rfl ?_
    simp -dsimp [hlt, Col.cells]
    refine ⟨fun h1 => ⟨h1, fun h2 => ⟨h1, h2⟩⟩, ?_⟩
    refine VL.draw (by kernel_rfl) [(0, true), (1, true), (3, false), (3, false), (11, false), (3, false), (59, false), (123, false), (251, false), (511, false), (3, false), (2047, true), (4095, true), (8191, true)] (by kernel_rfl) ?_
    simp -dsimp [hlt, Col.cells]
    refine VG.mk [.c (i64 (place t t.cols[k].name))] _ (fun _ => place_at _ t (by simp [Tab.cells]) _ (by omega)) rfl ?_
    simp -dsimp [hlt, Col.cells, hw]
    refine ⟨k + 1, by omega, ?_, by omega⟩
    simp [St.le, twc_succ t hlt, kind_succ t hlt, bad_succ t hlt, Tab.box]
  · simp at h
    obtain rfl : k = t.cols.length := by omega
    simp -dsimp
    refine VL.loop (fun i : Nat => ⟨[(8, .c (i64 i)), (7, .c (bln (misK t i))), (5, .c (bln (twkK t i))), (4, .c (bln (kindK t t.cols.length))), (3, .c (bln (badK t t.cols.length))), (1, .ptr 64 0)], [(64, some t.box)]⟩) (fun i => i ≤ t.keys.length) (fun i => t.keys.length - i) 0 (by kernel_rfl) (by simp) (by simp [St.le, Tab.box, twkK, misK]) ?_
    intro i hi
    simp -dsimp [Tab.box]
    refine VIf.mk (fun h => ?_) (fun h => ?_)
    · have hlt : i < t.keys.length := by simpa using h
      have hw : IntKind.i64.wrap ((i : Int) + 1) = (i : Int) + 1 := IntWalk.i64_in _ (by omega)
      simp -dsimp [hlt, keyc]
      refine VL.draw (by kernel_rfl) [(0, true), (1, true), (3, false), (3, false), (11, false), (3, false), (59, false), (123, false), (255, true), (511, true), (1023, true), (2047, true)] (by kernel_rfl) ?_
      simp -dsimp [hlt, keyc]
      refine VG.mk [.c (i64 (place t t.keys[i]))] _ (fun _ => place_at _ t (by simp [Tab.cells]) _ (by omega)) rfl ?_
      simp -dsimp [hlt, keyc]
      refine VL.loop (fun j : Nat => ⟨[(9, .c (i64 j)), (8, .c (i64 i)), (7, .c (bln (misK t (i + 1)))), (5, .c (bln (twkK t i || dupK t i j))), (4, .c (bln (kindK t t.cols.length))), (3, .c (bln (badK t t.cols.length))), (1, .ptr 64 0)], [(64, some t.box)]⟩) (fun j => j ≤ i) (fun j => i - j) 0 (by kernel_rfl) (by simp) (by simp [St.le, Tab.box, dupK, mis_succ t hlt]) ?_
      intro j hj
      simp -dsimp [Tab.box]
      refine VIf.mk (fun h => ?_) (fun h => ?_)
      · have hlj : j < i := by simpa using h
        have hlt2 : j < t.keys.length := by omega
        have hwj : IntKind.i64.wrap ((j : Int) + 1) = (j : Int) + 1 := IntWalk.i64_in _ (by omega)
        simp -dsimp [hlt, hlt2, keyc]
        refine VL.draw (by kernel_rfl) [(0, true), (1, true), (3, false), (7, false), (3, false), (31, false), (63, false), (3, false), (131, false), (3, false), (899, false), (1923, false), (4095, true), (8191, true), (16383, true)] (by kernel_rfl) ?_
        simp -dsimp [hlt, hlt2, keyc, hwj]
        refine ⟨j + 1, by omega, ?_, by omega⟩
        simp [St.le, dup_succ t hlt hlt2, Tab.box, Bool.or_assoc]
      · simp at h
        obtain rfl : j = i := by omega
        simp -dsimp [hw]
        refine ⟨j + 1, by omega, ?_, by omega⟩
        simp [St.le, twkK, Tab.box]
    · simp at h
      obtain rfl : i = t.keys.length := by omega
      simp -dsimp
      rw [bad_full, kind_full, mis_full, twk_full]
      refine VIf.mk (fun h1 => ?_) (fun h1 => ?_)
      · simp -dsimp
        have e : chk t = 173 := by unfold chk; rw [if_pos h1]
        simp [e]
      · simp -dsimp
        refine VIf.mk (fun h2 => ?_) (fun h2 => ?_)
        · have h2' : t.cols.length = 0 ∨ 8 < t.cols.length := by
            simp only [Bool.or_eq_true, decide_eq_true_eq] at h2; omega
          simp -dsimp
          have e : chk t = 1 := by unfold chk; rw [if_neg (by rw [h1]; decide), if_pos h2']
          simp [e]
        · have h2' : ¬ (t.cols.length = 0 ∨ 8 < t.cols.length) := by
            simp only [Bool.or_eq_false_iff, decide_eq_false_iff_not] at h2; omega
          simp -dsimp
          refine VIf.mk (fun h3 => ?_) (fun h3 => ?_)
          · simp -dsimp
            have e : chk t = 21 := by unfold chk; rw [if_neg (by rw [h1]; decide), if_neg h2', if_pos h3]
            simp [e]
          · simp -dsimp
            refine VIf.mk (fun h4 => ?_) (fun h4 => ?_)
            · simp -dsimp
              have e : chk t = 162 := by unfold chk; rw [if_neg (by rw [h1]; decide), if_neg h2', if_neg (by rw [h3]; decide), if_pos h4]
              simp [e]
            · simp -dsimp
              refine VIf.mk (fun h5 => ?_) (fun h5 => ?_)
              · simp -dsimp
                have e : chk t = 161 := by unfold chk; rw [if_neg (by rw [h1]; decide), if_neg h2', if_neg (by rw [h3]; decide), if_neg (by rw [h4]; decide), if_pos h5]
                simp [e]
              · simp -dsimp
                have e : chk t = 0 := by unfold chk; rw [if_neg (by rw [h1]; decide), if_neg h2', if_neg (by rw [h3]; decide), if_neg (by rw [h4]; decide), if_neg (by rw [h5]; decide)]
                simp [e]
end Go.Proofs.Ytgodbpamppcfnaa
