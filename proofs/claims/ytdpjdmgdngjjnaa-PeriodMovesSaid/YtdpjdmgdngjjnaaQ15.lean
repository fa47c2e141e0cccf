/- Contracts of functions of the seat, proved in a logic on data over the model (part Q15). -/
import Derived.Test.YtdpjdmgdngjjnaaQ13
import Derived.Test.YtdpjdmgdngjjnaaQ11
set_option linter.unusedSimpArgs false
set_option linter.unusedVariables false
namespace Go.Proofs.Ytdpjdmgdngjjnaa
open Go.VL Go.RowKit

def shift (k : Int) (p : Per) : Per := ⟨p.f + k, p.t + k⟩
theorem relN_shift (k : Int) (a b : Per) : relN (shift k a) (shift k b) = relN a b := by
  unfold relN shift
  simp only [Int.add_lt_add_iff_right, Int.add_left_inj]
theorem has_shift (k : Int) (p : Per) (t : Int) : has (shift k p) t = has p (t - k) := by
  rw [Bool.eq_iff_iff, has_iff, has_iff]; unfold shift; simp only; omega
theorem inL_shift (k : Int) (l : List Per) (t : Int) : inL (l.map (shift k)) t = inL l (t - k) := by
  unfold inL
  rw [List.any_map]
  congr 1
  funext p
  exact has_shift k p t
theorem Canon.shift {l : List Per} (h : Canon l) (k : Int) (hk : 0 ≤ k) (hb : ∀ p ∈ l, p.t + k ≤ 1099511627776) : Canon (l.map (shift k)) := by
  refine ⟨fun q hq => ?_, ?_⟩
  · obtain ⟨p, hp, rfl⟩ := List.mem_map.1 hq
    have h1 := (right_iff p).1 (h.ok p hp)
    have h2 := hb p hp
    rw [right_iff]; unfold Go.Proofs.Ytdpjdmgdngjjnaa.shift; simp only; omega
  · rw [List.pairwise_map]
    exact h.apart.imp fun hpq => by unfold Go.Proofs.Ytdpjdmgdngjjnaa.shift; simp only; omega
theorem minus_shift {sortP : List Per → List Per} (hs : Sorts sortP) (k : Int) (a b : Per) (hk : 0 ≤ k) (ha : right a = true) (hb : right b = true) (ha2 : a.t + k ≤ 1099511627776) (hb2 : b.t + k ≤ 1099511627776) :
    minusL sortP (shift k a) [shift k b] = (minusL sortP a [b]).map (shift k) := by
  have h1 := minusL_ok hs a [b]
  have h2 := minusL_ok hs (shift k a) [shift k b]
  have haa := (right_iff a).1 ha
  have hbb := (right_iff b).1 hb
  have hra : right (shift k a) = true := by rw [right_iff]; unfold shift; simp only; omega
  have hrb : right (shift k b) = true := by rw [right_iff]; unfold shift; simp only; omega
  refine Canon.ext h2.1 (h1.1.shift k hk ?_) fun t => ?_
  · have hw := within h1.1 (x := a) (fun t ht => by
      rw [h1.2] at ht
      simp at ht
      exact (has_iff a t).1 ht.1.2)
    intro p hp
    have := (hw p hp).2
    omega
  · rw [h2.2, inL_shift, h1.2, hra, ha, has_shift]
    simp [someP, hrb, hb, has_shift]

set_option maxRecDepth 4000 in
set_option maxHeartbeats 16000000 in
theorem moves_spec {sortP : List Per → List Per} (hs : Sorts sortP) (a b : Per) (k : Int) : Con Try.prog 7 [.agg a.cells, .agg b.cells, .c (i64 k)] [.c (bln true)] := by
  refine spec_of Try.func7 rfl (by kernel_rfl) (by simp [Try.f7]) (fun w0 K0 => vc_ok _ _ _ (by kernel_rfl) ?_)
  simp only [Try.f7]
  simp -dsimp [Per.cells]
  refine VC.mk _ (awake_spec hs) ?_
  simp -dsimp
  refine VG.mk [.c (i64 (checkOf a))] _ (fun _ => check_at _ a rfl) rfl ?_
  simp -dsimp
  refine VG.mk [.c (i64 (checkOf b))] _ (fun _ => check_at _ b rfl) rfl ?_
  simp -dsimp
  refine VIf.mk (fun h => ?_) (fun h => ?_)
  · simp -dsimp
  · simp at h
    obtain ⟨⟨⟨⟨⟨h1, h2⟩, h3⟩, h4⟩, h5⟩, h6⟩ := h
    have hsub : IntKind.i64.wrap (1099511627776 - k) = 1099511627776 - k := IntWalk.i64_in _ (by omega)
    rw [hsub] at h5 h6
    have haa := (right_iff a).1 h3
    have hbb := (right_iff b).1 h4
    have hra : right (shift k a) = true := by rw [right_iff]; unfold shift; simp only; omega
    have hrb : right (shift k b) = true := by rw [right_iff]; unfold shift; simp only; omega
    have w1 : IntKind.i64.wrap (a.f + k) = a.f + k := IntWalk.i64_in _ (by omega)
    have w2 : IntKind.i64.wrap (a.t + k) = a.t + k := IntWalk.i64_in _ (by omega)
    have w3 : IntKind.i64.wrap (b.f + k) = b.f + k := IntWalk.i64_in _ (by omega)
    have w4 : IntKind.i64.wrap (b.t + k) = b.t + k := IntWalk.i64_in _ (by omega)
    simp -dsimp
    refine VL.to ⟨[(3, .ptr 192 0), (4, .ptr 256 0), (2, .c (i64 k))], [(192, some (.box false [.c (i64 a.f), .c (i64 a.t)])), (256, some (.box false [.c (i64 b.f), .c (i64 b.t)]))]⟩ (by simp [St.le]) ?_
    refine VL.draw (by kernel_rfl) [(0, false), (1, false), (0, false), (7, false), (0, false), (16, false), (0, false), (112, false), (255, false), (0, false), (512, false), (0, false), (3584, false), (0, false), (8192, false), (0, false), (57344, false), (130560, false), (0, false), (0, false), (786943, false), (2097151, true)] (by kernel_rfl) ?_
    simp -dsimp [w1, w2, w3, w4]
    refine ⟨by simp [Value.cells], ?_⟩
    have r1 := relate_at [i64 a.f, i64 a.t] [i64 b.f, i64 b.t] a b rfl rfl
    have r2 := relate_at [i64 (a.f + k), i64 (a.t + k)] [i64 (b.f + k), i64 (b.t + k)] (shift k a) (shift k b) rfl rfl
    rw [relOf_eq, h3, h4] at r1
    rw [relOf_eq, hra, hrb, relN_shift] at r2
    refine VC.mk _ r1 ?_
    simp -dsimp
    refine VC.mk _ r2 ?_
    simp -dsimp
    refine VL.to ⟨[(9, .c (i64 (relN a b))), (11, .c (i64 (relN a b))), (12, .c (i64 0)), (2, .c (i64 k)), (3, .ptr 192 0), (4, .ptr 256 0), (7, .ptr 448 0), (8, .ptr 512 0)], [(192, some (.box false [.c (i64 a.f), .c (i64 a.t)])), (256, some (.box false [.c (i64 b.f), .c (i64 b.t)])), (448, some (.box false [.c (i64 (a.f + k)), .c (i64 (a.t + k))])), (512, some (.box false [.c (i64 (b.f + k)), .c (i64 (b.t + k))]))]⟩ (by simp [St.le]) ?_
    refine VL.draw (by kernel_rfl) [(0, false), (0, false), (2, false), (7, false), (0, false), (0, false), (32, false), (127, true), (255, true), (511, true)] (by kernel_rfl) ?_
    simp -dsimp
    have hm1 := minus_at hs [i64 a.f, i64 a.t] false [[i64 b.f, i64 b.t]] a [b] rfl rfl (by simp) (by simp)
    have hm2 := minus_at hs [i64 (a.f + k), i64 (a.t + k)] false [[i64 (b.f + k), i64 (b.t + k)]] (shift k a) [shift k b] rfl rfl (by simp) (by simp)
    rw [minus_shift hs k a b h1 h3 h4 (by omega) (by omega)] at hm2
    have hwi := within (minusL_ok hs a [b]).1 (x := a) (fun t ht => by
      rw [(minusL_ok hs a [b]).2] at ht
      simp at ht
      exact (has_iff a t).1 ht.1.2)
    have hml := minusL_len hs a [b]
    have hmr := (minusL_ok hs a [b]).1.ok
    generalize minusL sortP a [b] = m at *
    refine ⟨by decide, VCE.mk _ hm1 ?_⟩
    simp -dsimp
    refine ⟨by decide, VCL.snap ?_⟩
    simp -dsimp
    refine VC.mk _ hm2 ?_
    simp -dsimp
    refine VL.loop (fun i : Nat => ⟨[(102, .c (i64 i)), (101, .c (i64 m.length)), (100, .own 5184 m.length), (13, .own 5184 m.length), (14, .own 5440 m.length), (2, .c (i64 k))],
      [(5184, some (.arr m.isEmpty (esz m) (m.map Per.cells) 0)), (5440, some (.arr m.isEmpty (esz m) ((m.map (shift k)).map Per.cells) 0))]⟩) (fun i => i ≤ m.length) (fun i => m.length - i) 0 (by kernel_rfl) (by simp) (by simp [St.le, esz]) ?_
    intro i hi
    by_cases him : i < m.length
    · have hwi2 : IntKind.i64.wrap ((i : Int) + 1) = (i : Int) + 1 := IntWalk.i64_in _ (by simp at hml; omega)
      have hme : m.isEmpty = false := by cases m with | nil => simp at him | cons => rfl
      have hez : esz m = 2 := by simp [esz, hme]
      have hin := hwi m[i] (List.getElem_mem him)
      have hri := (right_iff m[i]).1 (hmr m[i] (List.getElem_mem him))
      have v1 : IntKind.i64.wrap (m[i].f + k) = m[i].f + k := IntWalk.i64_in _ (by omega)
      have v2 : IntKind.i64.wrap (m[i].t + k) = m[i].t + k := IntWalk.i64_in _ (by omega)
      simp -dsimp [him, hme, hez, Per.cells]
      refine VL.draw (by kernel_rfl) [(0, false), (0, false), (3, false), (7, false), (15, false), (0, false), (63, false), (0, false), (0, false), (384, false), (896, false), (1920, false), (4095, true), (8191, true), (16383, false), (16383, false), (65535, false), (131071, false), (262143, false), (16383, false), (1048575, false), (16383, false), (16383, false), (6307839, false), (14696447, false), (31473663, false), (67108863, true), (134217727, true)] (by kernel_rfl) ?_
      simp -dsimp [him, hme, hez, Per.cells, v1, v2, shift]
      rw [hwi2]
      exact ⟨i + 1, him, by simp [St.le], by omega⟩
    · obtain rfl : i = m.length := by omega
      simp -dsimp
end Go.Proofs.Ytdpjdmgdngjjnaa
