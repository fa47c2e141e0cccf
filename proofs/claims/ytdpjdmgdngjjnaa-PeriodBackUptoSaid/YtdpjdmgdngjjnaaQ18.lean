/- Contracts of functions of the seat, proved in a logic on data over the model (part Q18). -/
import Derived.Test.YtdpjdmgdngjjnaaQ16
import Derived.Test.YtdpjdmgdngjjnaaQ11
set_option linter.unusedSimpArgs false
set_option linter.unusedVariables false
namespace Go.Proofs.Ytdpjdmgdngjjnaa
open Go.VL Go.RowKit

/-- what of l lies within a -/
def lapsOf (a : Per) (l : List Per) : List Per := l.filterMap fun p => if lapOk a p then some (lap a p) else none
theorem lapsOf_snoc (a : Per) (l : List Per) {k : Nat} (h : k < l.length) : lapsOf a (l.take (k + 1)) = if lapOk a l[k] then lapsOf a (l.take k) ++ [lap a l[k]] else lapsOf a (l.take k) := by
  unfold lapsOf
  rw [take_snoc h, List.filterMap_append]
  split <;> simp_all
theorem lapsOf_len (a : Per) (l : List Per) : (lapsOf a l).length ≤ l.length := List.length_filterMap_le _ _
theorem lap_has (a p : Per) (h : lapOk a p = true) (t : Int) : has (lap a p) t = (has a t && has p t) := by
  have e : lap a p = ⟨max a.f p.f, min a.t p.t⟩ := by simp [lap, h, lapP]
  rw [e, Bool.eq_iff_iff, Bool.and_eq_true, has_iff, has_iff, has_iff]
  simp only
  omega
theorem lapOk_right {a p : Per} (h : lapOk a p = true) : right a = true ∧ right p = true ∧ right (lap a p) = true := by
  have e : lap a p = lapP a p := by simp [lap, h]
  unfold lapOk at h
  simp only [Bool.and_eq_true] at h
  exact ⟨h.1.1, h.1.2, by rw [e]; exact h.2⟩
theorem lapOk_of {a p : Per} (ha : right a = true) (hp : right p = true) {t : Int} (h1 : has a t = true) (h2 : has p t = true) : lapOk a p = true := by
  have e1 := (right_iff a).1 ha
  have e2 := (right_iff p).1 hp
  have e3 := (has_iff a t).1 h1
  have e4 := (has_iff p t).1 h2
  unfold lapOk lapP
  rw [ha, hp, Bool.true_and, Bool.true_and, right_iff]
  simp only
  omega
theorem laps_some (a : Per) (l : List Per) (t : Int) : someP (lapsOf a l) t = (right a && has a t && someP l t) := by
  rw [Bool.eq_iff_iff, Bool.and_eq_true, Bool.and_eq_true]
  unfold someP lapsOf
  rw [List.any_eq_true, List.any_eq_true]
  constructor
  · rintro ⟨q, h1, h2⟩
    obtain ⟨p, hp, h3⟩ := List.mem_filterMap.1 h1
    split at h3
    · rename_i hl
      cases h3
      simp only [Bool.and_eq_true] at h2
      rw [lap_has a p hl, Bool.and_eq_true] at h2
      have hr := lapOk_right hl
      exact ⟨⟨hr.1, h2.2.1⟩, p, hp, by simp [hr.2.1, h2.2.2]⟩
    · cases h3
  · rintro ⟨⟨h1, h2⟩, p, hp, h3⟩
    simp only [Bool.and_eq_true] at h3
    have hl := lapOk_of h1 h3.1 h2 h3.2
    refine ⟨lap a p, List.mem_filterMap.2 ⟨p, hp, by simp [hl]⟩, ?_⟩
    rw [lap_has a p hl, (lapOk_right hl).2.2, h2, h3.2]; rfl
theorem someP_reverse (l : List Per) (t : Int) : someP l.reverse t = someP l t := by
  unfold someP; rw [List.any_reverse]

section
variable {sortP : List Per → List Per} (hs : Sorts sortP)
include hs
theorem minus_reverse (a : Per) (l : List Per) : minusL sortP a l.reverse = minusL sortP a l := by
  have h1 := minusL_ok hs a l
  have h2 := minusL_ok hs a l.reverse
  refine Canon.ext h2.1 h1.1 fun t => ?_
  rw [h1.2, h2.2, someP_reverse]
theorem union_reverse (l : List Per) : unionL sortP l.reverse = unionL sortP l := by
  have h1 := unionL_ok hs l
  have h2 := unionL_ok hs l.reverse
  refine Canon.ext h2.1 h1.1 fun t => ?_
  rw [h1.2, h2.2, someP_reverse]
/-- what is left and what is taken off are the period again -/
theorem whole_again (a : Per) (l : List Per) : unionL sortP (minusL sortP a l ++ lapsOf a l) = if right a then [a] else [] := by
  have h1 := minusL_ok hs a l
  have h2 := unionL_ok hs (minusL sortP a l ++ lapsOf a l)
  refine Canon.ext h2.1 ?_ fun t => ?_
  · split
    · rename_i h
      exact ⟨by simpa using h, by simp⟩
    · exact Canon.nil
  · rw [h2.2, someP_append, h1.1.someP, h1.2, laps_some]
    split
    · rename_i h
      rw [h]
      simp only [inL_cons, inL_nil, Bool.true_and, Bool.or_false]
      cases has a t <;> cases someP l t <;> rfl
    · rename_i h
      have h' : right a = false := by simpa using h
      rw [h', inL_nil]; simp
/-- they are apart -/
theorem apart_again (a : Per) (l : List Per) {p q : Per} (hp : p ∈ minusL sortP a l) (hq : q ∈ lapsOf a l) : lapOk p q = false := by
  rw [Bool.eq_false_iff]
  intro h
  have hr := lapOk_right h
  have hrl := (right_iff (lap p q)).1 hr.2.2
  have ht := lap_has p q h (lap p q).f
  rw [(has_iff (lap p q) (lap p q).f).2 ⟨by omega, by omega⟩] at ht
  have ht' := ht.symm
  simp only [Bool.and_eq_true] at ht'
  have h1 := minusL_ok hs a l
  have hin : inL (minusL sortP a l) (lap p q).f = true := by
    unfold inL; rw [List.any_eq_true]; exact ⟨p, hp, ht'.1⟩
  rw [h1.2] at hin
  have hin2 : someP (lapsOf a l) (lap p q).f = true := by
    unfold someP; rw [List.any_eq_true]; exact ⟨q, hq, by simp [hr.2.1, ht'.2]⟩
  rw [laps_some] at hin2
  simp only [Bool.and_eq_true, Bool.not_eq_true'] at hin hin2
  rw [hin.2] at hin2
  simp at hin2
end

/-- the first k, turned about -/
def revK (l : List Per) (k : Nat) : List Per := l.reverse.take k
theorem revK_full (l : List Per) : revK l l.length = l.reverse := List.take_of_length_le (by simp)
theorem revK_len (l : List Per) {k : Nat} (h : k ≤ l.length) : (revK l k).length = k := by unfold revK; rw [List.length_take]; simp; omega
theorem revK_snoc (l : List Per) {k : Nat} (h : k < l.length) (hj : l.length - 1 - k < l.length) : revK l (k + 1) = revK l k ++ [l[l.length - 1 - k]'hj] := by
  unfold revK
  rw [take_snoc (by simpa using h)]
  simp
/-- an index of the first loop: how many are done; elements' cells -/
structure BI where
  k : Nat
  so : Nat
  st : Nat

set_option maxRecDepth 4000 in
set_option maxHeartbeats 16000000 in
theorem back_spec {sortP : List Per → List Per} (hs : Sorts sortP) (a : Per) (nl : Bool) (l : List Per) (hn : nl = true → l = []) (hl : l.length ≤ 4294967296) :
    Con Try.prog 5 [.agg a.cells, .c (.sl nl (l.map Per.cells))] [.c (bln true)] := by
  refine spec_of Try.func5 rfl (by kernel_rfl) (by simp [Try.f5]) (fun w0 K0 => vc_ok _ _ _ (by kernel_rfl) ?_)
  simp only [Try.f5]
  simp -dsimp [Per.cells]
  refine VC.mk _ (awake_spec hs) ?_
  simp -dsimp
  have hml := minusL_len hs a l
  have hmn := minus_at hs [i64 a.f, i64 a.t] nl _ a l rfl rfl hn (by omega)
  have hapart := fun p hp q hq => apart_again hs a l (p := p) (q := q) hp hq
  have hwhole := whole_again hs a l
  refine VC.mk _ hmn ?_
  generalize hm : minusL sortP a l = m at *
  simp -dsimp
  refine VL.loop (fun i : BI => ⟨[(26, .c (i64 i.k)), (25, .c (i64 l.length)), (24, .c (.sl nl (l.map Per.cells))), (5, .own 1472 m.length), (6, .own 384 (lapsOf a (l.take i.k)).length), (7, .own 448 (revK l i.k).length), (2, .ptr 128 0), (1, .c (.sl nl (l.map Per.cells)))],
      [(1472, some (.arr m.isEmpty (esz m) (m.map Per.cells) 0)), (384, some (.arr (lapsOf a (l.take i.k)).isEmpty i.so ((lapsOf a (l.take i.k)).map Per.cells) 0)), (448, some (.arr (revK l i.k).isEmpty i.st ((revK l i.k).map Per.cells) 0)), (128, some (.box false [.c (i64 a.f), .c (i64 a.t)]))]⟩)
    (fun i => i.k ≤ l.length ∧ (lapsOf a (l.take i.k) ≠ [] → i.so = 2) ∧ (revK l i.k ≠ [] → i.st = 2)) (fun i => l.length - i.k) ⟨0, 0, 0⟩ (by kernel_rfl) (by simp [lapsOf, revK]) (by simp [St.le, lapsOf, revK]) ?_
  intro ⟨k, so, st⟩ ⟨hk, hso, hst⟩
  simp only at hk hso hst
  by_cases hlt : k < l.length
  · have hj : l.length - 1 - k < l.length := by clear hso hst; omega
    have hw : IntKind.i64.wrap ((k : Int) + 1) = (k : Int) + 1 := IntWalk.i64_in _ (by omega)
    have hs1 := lapsOf_snoc a l hlt
    have hlk : (l.take k).length = k := by rw [List.length_take]; omega
    have hll := lapsOf_len a (l.take k)
    have hs2 := revK_snoc l hlt hj
    have htl := revK_len l hk
    have hw2 : IntKind.i64.wrap ((l.length : Int) - 1) = (l.length : Int) - 1 := IntWalk.i64_in _ (by omega)
    have hw3 : IntKind.i64.wrap ((l.length : Int) - 1 - (k : Int)) = ((l.length - 1 - k : Nat) : Int) := by rw [IntWalk.i64_in _ (by omega)]; omega
    generalize lapsOf a (l.take k) = off at hs1 hll hso ⊢
    generalize revK l k = tu at hs2 htl hst ⊢
    simp -dsimp [hlt, Per.cells]
    refine VL.draw (by kernel_rfl) [(0, false), (0, false), (0, false), (6, false), (14, false), (31, false), (63, false), (127, false), (127, false), (0, false), (767, false), (2047, true)] (by kernel_rfl) ?_
    simp -dsimp [hlt, Per.cells]
    have hov := overlap_at [i64 a.f, i64 a.t] [i64 l[k].f, i64 l[k].t] a l[k] rfl rfl
    simp only [Per.cells] at hov
    refine VCE.mk _ hov ?_
    simp -dsimp [hw2, hw3, hj]
    refine ⟨by simp [Value.cells], VIf.mk (fun ho => ?_) (fun ho => ?_)⟩
    · rw [if_pos ho] at hs1
      simp -dsimp [maxLen, hj, hw, hw2, hw3, Per.cells]
      refine ⟨hso, by omega, hst, by omega, ⟨k + 1, 2, 2⟩, ⟨hlt, fun _ => rfl, fun _ => rfl⟩, ?_, by simp; omega⟩
      simp [St.le, hs1, hs2, Per.cells]
    · rw [if_neg (by simp [ho])] at hs1
      simp -dsimp [maxLen, hj, hw, hw2, hw3, Per.cells]
      refine ⟨hst, by omega, ⟨k + 1, so, 2⟩, ⟨hlt, by rw [hs1]; exact hso, fun _ => rfl⟩, ?_, by simp; omega⟩
      simp [St.le, hs1, hs2, Per.cells]
  · obtain rfl : k = l.length := by omega
    have htr := revK_full l
    have hol := lapsOf_len a l
    rw [List.take_length] at hso ⊢
    rw [htr] at hst ⊢
    have hrl : l.reverse.length = l.length := by simp
    have hmr := minus_reverse hs a l
    have hur := union_reverse hs l
    generalize lapsOf a l = off at *
    generalize l.reverse = tu at hst hrl hmr hur ⊢
    simp -dsimp
    refine VL.loop (fun i : Nat => ⟨[(57, .c (i64 i)), (56, .c (i64 m.length)), (55, .own 1472 m.length), (5, .own 1472 m.length), (6, .own 384 off.length), (7, .own 448 tu.length), (2, .ptr 128 0), (1, .c (.sl nl (l.map Per.cells)))],
        [(1472, some (.arr m.isEmpty (esz m) (m.map Per.cells) 0)), (384, some (.arr off.isEmpty so (off.map Per.cells) 0)), (448, some (.arr tu.isEmpty st (tu.map Per.cells) 0)), (128, some (.box false [.c (i64 a.f), .c (i64 a.t)]))]⟩)
      (fun i => i ≤ m.length) (fun i => m.length - i) 0 (by kernel_rfl) (by simp) (by simp [St.le]) ?_
    intro i hi
    by_cases him : i < m.length
    · have hwi : IntKind.i64.wrap ((i : Int) + 1) = (i : Int) + 1 := IntWalk.i64_in _ (by omega)
      have hme : m.isEmpty = false := by cases m with | nil => simp at him | cons => rfl
      have hez : esz m = 2 := by simp [esz, hme]
      simp -dsimp [him, hme, hez, Per.cells]
      refine VL.loop (fun j : Nat => ⟨[(63, .c (i64 j)), (62, .c (i64 off.length)), (61, .own 384 off.length), (12, .ptr 768 0), (57, .c (i64 i)), (56, .c (i64 m.length)), (55, .own 1472 m.length), (5, .own 1472 m.length), (6, .own 384 off.length), (7, .own 448 tu.length), (2, .ptr 128 0), (1, .c (.sl nl (l.map Per.cells)))],
          [(768, some (.box false [.c (i64 m[i].f), .c (i64 m[i].t)])), (1472, some (.arr m.isEmpty (esz m) (m.map Per.cells) 0)), (384, some (.arr off.isEmpty so (off.map Per.cells) 0)), (448, some (.arr tu.isEmpty st (tu.map Per.cells) 0)), (128, some (.box false [.c (i64 a.f), .c (i64 a.t)]))]⟩)
        (fun j => j ≤ off.length) (fun j => off.length - j) 0 (by kernel_rfl) (by simp) (by simp [St.le, hme, hez]) ?_
      intro j hj
      by_cases hjo : j < off.length
      · have hwj : IntKind.i64.wrap ((j : Int) + 1) = (j : Int) + 1 := IntWalk.i64_in _ (by omega)
        have hoe : off.isEmpty = false := by cases off with | nil => simp at hjo | cons => rfl
        have hsz : so = 2 := hso (by intro e; rw [e] at hjo; simp at hjo)
        have hap := hapart m[i] (List.getElem_mem him) off[j] (List.getElem_mem hjo)
        have hov := overlap_at [i64 m[i].f, i64 m[i].t] [i64 off[j].f, i64 off[j].t] m[i] off[j] rfl rfl
        rw [hap, lap, hap] at hov
        simp only [Per.cells] at hov
        simp -dsimp [hjo, hoe, hsz, Per.cells]
        refine VC.mk _ hov ?_
        simp -dsimp [hwj]
        refine ⟨j + 1, hjo, ?_, by omega⟩
        simp [St.le, hoe, hsz]
      · obtain rfl : j = off.length := by omega
        simp -dsimp [hwi]
        refine ⟨i + 1, him, ?_, by omega⟩
        simp [St.le]
    · obtain rfl : i = m.length := by omega
      simp -dsimp
      refine ⟨by omega, by omega, VCL.snap ?_⟩
      simp -dsimp
      have hun := union_spec hs false (m ++ off) (by simp) (by simp; omega)
      rw [hwhole, List.map_append] at hun
      refine VC.mk _ hun ?_
      cases hra : right a with
      | true =>
        rw [hra] at hun
        simp -dsimp [esz, Per.cells]
        refine VL.draw (by kernel_rfl) [(0, true), (1, true), (3, true), (7, true), (15, false), (31, false), (63, false), (15, false), (255, true), (511, true), (1023, true), (2047, true), (4095, true), (8191, true), (16383, true), (32767, true), (65535, true), (131071, true), (262143, true), (524287, true), (1048575, true)] (by kernel_rfl) ?_
        simp -dsimp
        refine VG.mk [.c (i64 (checkOf a))] _ (fun _ => check_at _ a rfl) rfl ?_
        simp -dsimp [checkOf, hra]
        refine VGL.call (args := [.tmp 105, .tmp 106]) _ _ _ _ _ ?_ ?_ ?_ ?_
        · rfl
        · rfl
        · rfl
        simp -dsimp
        refine VCL.snap ?_
        simp -dsimp
        have hmt := minus_at hs [i64 a.f, i64 a.t] tu.isEmpty _ a tu rfl rfl (by simp) (by omega)
        rw [hmr, hm] at hmt
        refine VC.mk _ hmt ?_
        simp -dsimp
        refine VGL.call (args := [.tmp 104, .tmp 107]) _ _ _ _ _ ?_ ?_ ?_ ?_
        · rfl
        · rfl
        · rfl
        simp -dsimp
        refine VCL.snap ?_
        simp -dsimp
        refine VC.mk _ (same_at _ _ _ _ m rfl rfl (by omega)) ?_
        simp -dsimp
        refine VG.mk [.c (.sl (unionL sortP l).isEmpty ((unionL sortP l).map Per.cells))] _ (fun _ => (union_spec hs nl l hn (by omega)).frz 0 rfl) rfl ?_
        simp -dsimp
        refine VGL.call (args := [.tmp 113]) _ _ _ _ _ ?_ ?_ ?_ ?_
        · rfl
        · rfl
        · rfl
        simp -dsimp
        refine VCL.snap ?_
        simp -dsimp
        have hut := union_spec hs tu.isEmpty tu (by simp) (by omega)
        rw [hur] at hut
        refine VC.mk _ hut ?_
        simp -dsimp
        refine VGL.call (args := [.tmp 112, .tmp 114]) _ _ _ _ _ ?_ ?_ ?_ ?_
        · rfl
        · rfl
        · rfl
        simp -dsimp
        refine VCL.snap ?_
        simp -dsimp
        refine VC.mk _ (same_at _ _ _ _ (unionL sortP l) rfl rfl (by have := unionL_len hs l; omega)) ?_
        simp -dsimp
      | false =>
        rw [hra] at hun
        simp -dsimp [esz, Per.cells]
        refine VL.draw (by kernel_rfl) [(0, true), (1, true), (3, true), (7, true), (15, false), (31, false), (63, false), (15, false), (255, true), (511, true), (1023, true), (2047, true), (4095, true), (8191, true), (16383, true), (32767, true), (65535, true), (131071, true), (262143, true), (524287, true), (1048575, true)] (by kernel_rfl) ?_
        simp -dsimp
        refine VG.mk [.c (i64 (checkOf a))] _ (fun _ => check_at _ a rfl) rfl ?_
        simp -dsimp [checkOf, hra]
        refine VGL.call (args := [.tmp 105, .tmp 106]) _ _ _ _ _ ?_ ?_ ?_ ?_
        · rfl
        · rfl
        · rfl
        simp -dsimp
        refine VCL.snap ?_
        simp -dsimp
        have hmt := minus_at hs [i64 a.f, i64 a.t] tu.isEmpty _ a tu rfl rfl (by simp) (by omega)
        rw [hmr, hm] at hmt
        refine VC.mk _ hmt ?_
        simp -dsimp
        refine VGL.call (args := [.tmp 104, .tmp 107]) _ _ _ _ _ ?_ ?_ ?_ ?_
        · rfl
        · rfl
        · rfl
        simp -dsimp
        refine VCL.snap ?_
        simp -dsimp
        refine VC.mk _ (same_at _ _ _ _ m rfl rfl (by omega)) ?_
        simp -dsimp
        refine VG.mk [.c (.sl (unionL sortP l).isEmpty ((unionL sortP l).map Per.cells))] _ (fun _ => (union_spec hs nl l hn (by omega)).frz 0 rfl) rfl ?_
        simp -dsimp
        refine VGL.call (args := [.tmp 113]) _ _ _ _ _ ?_ ?_ ?_ ?_
        · rfl
        · rfl
        · rfl
        simp -dsimp
        refine VCL.snap ?_
        simp -dsimp
        have hut := union_spec hs tu.isEmpty tu (by simp) (by omega)
        rw [hur] at hut
        refine VC.mk _ hut ?_
        simp -dsimp
        refine VGL.call (args := [.tmp 112, .tmp 114]) _ _ _ _ _ ?_ ?_ ?_ ?_
        · rfl
        · rfl
        · rfl
        simp -dsimp
        refine VCL.snap ?_
        simp -dsimp
        refine VC.mk _ (same_at _ _ _ _ (unionL sortP l) rfl rfl (by have := unionL_len hs l; omega)) ?_
        simp -dsimp
end Go.Proofs.Ytdpjdmgdngjjnaa
