/- Contracts of functions of the seat, proved in a logic on data over the model (part T12). -/
import Derived.Test.YtddhmoffjpnbgaaT11
set_option linter.unusedSimpArgs false
set_option linter.unusedVariables false
namespace Go.Proofs.Ytddhmoffjpnbgaa
open Go.VL Go.RowKit

/-- how often a transaction is told -/
def cntC (c : List Two) (t : Int) : Nat := (c.filter fun x => x.1 == t).length
def cntL (c : List Int) (t : Int) : Nat := (c.filter fun x => x == t).length
theorem cntC_snoc (c : List Two) (t : Int) {k : Nat} (h : k < c.length) : cntC (c.take (k + 1)) t = cntC (c.take k) t + if c[k].1 = t then 1 else 0 := by
  unfold cntC
  rw [List.take_succ_eq_append_getElem h, List.filter_append, List.length_append]
  by_cases e : c[k].1 = t <;> simp [e]
theorem cntL_snoc (c : List Int) (t : Int) {k : Nat} (h : k < c.length) : cntL (c.take (k + 1)) t = cntL (c.take k) t + if c[k] = t then 1 else 0 := by
  unfold cntL
  rw [List.take_succ_eq_append_getElem h, List.filter_append, List.length_append]
  by_cases e : c[k] = t <;> simp [e]
theorem cntC_le (c : List Two) (t : Int) : cntC c t ≤ c.length := List.length_filter_le _ _
theorem cntL_le (c : List Int) (t : Int) : cntL c t ≤ c.length := List.length_filter_le _ _

set_option maxRecDepth 4000 in
set_option maxHeartbeats 8000000 in
theorem state_spec (r : Rep) (t : Int) (h1 : r.coms.length ≤ 2200000000000) (h2 : r.lost.length ≤ 2200000000000) : Con Try.prog 13 [.agg r.cells, .c (i64 t)] [.c (i64 (cntC r.coms t)), .c (i64 (cntL r.lost t))] := by
  obtain ⟨coms, lost, pages, last⟩ := r
  simp only at h1 h2
  refine spec_of Try.func13 rfl (by kernel_rfl) (by simp [Try.f13]) (fun w0 K0 => vc_ok _ _ _ (by kernel_rfl) ?_)
  simp only [Try.f13]
  simp -dsimp [Rep.cells]
  refine VL.loop (fun k : Nat => ⟨[(15, .c (i64 k)), (14, .c (i64 coms.length)), (13, .c (.sl coms.isEmpty (coms.map two))), (6, .c (i64 (cntC (coms.take k) t))), (7, .c (i64 0)), (1, .c (i64 t)), (2, .ptr 128 0)],
      [(128, some (.box false [.c (.sl coms.isEmpty (coms.map two)), .c (.sl lost.isEmpty (ints lost)), .c (.sl pages.isEmpty (pages.map Tou.cells)), .c (i64 last)]))]⟩)
    (fun k => k ≤ coms.length) (fun k => coms.length - k) 0 (by kernel_rfl) (by simp) (by simp [St.le, cntC]) ?_
  intro k hk
  simp -dsimp
  refine VIf.mk (fun g => ?_) (fun g => ?_)
  · have hlt : k < coms.length := by simpa using g
    have hw : IntKind.i64.wrap ((k : Int) + 1) = (k : Int) + 1 := IntWalk.i64_in _ (by omega)
    have hsn := cntC_snoc coms t hlt
    have hle := cntC_le (coms.take k) t
    rw [List.length_take] at hle
    have hwc : IntKind.i64.wrap ((cntC (coms.take k) t : Int) + 1) = (cntC (coms.take k) t : Int) + 1 := IntWalk.i64_in _ (by omega)
    simp -dsimp [hlt, two]
    refine VIf.mk (fun g2 => ?_) (fun g2 => ?_)
    · have he : coms[k].1 = t := by simpa using g2
      simp -dsimp [hw, hwc]
      refine ⟨k + 1, hlt, ?_, by omega⟩
      rw [hsn]
      simp [St.le, he, two]
    · have he : ¬ coms[k].1 = t := by simpa using g2
      simp -dsimp [hw]
      refine ⟨k + 1, hlt, ?_, by omega⟩
      rw [hsn]
      simp [St.le, he, two]
  · have hge : ¬ k < coms.length := by simpa using g
    obtain rfl : k = coms.length := by omega
    rw [List.take_length]
    simp -dsimp
    refine VL.loop (fun k : Nat => ⟨[(29, .c (i64 k)), (28, .c (i64 lost.length)), (27, .c (.sl lost.isEmpty (ints lost))), (6, .c (i64 (cntC coms t))), (7, .c (i64 (cntL (lost.take k) t))), (1, .c (i64 t))], []⟩)
      (fun k => k ≤ lost.length) (fun k => lost.length - k) 0 (by kernel_rfl) (by simp) (by simp [St.le, cntL]) ?_
    intro k hk
    simp -dsimp
    refine VIf.mk (fun g => ?_) (fun g => ?_)
    · have hlt : k < lost.length := by simpa using g
      have hw : IntKind.i64.wrap ((k : Int) + 1) = (k : Int) + 1 := IntWalk.i64_in _ (by omega)
      have hsn := cntL_snoc lost t hlt
      have hle := cntL_le (lost.take k) t
      rw [List.length_take] at hle
      have hwc : IntKind.i64.wrap ((cntL (lost.take k) t : Int) + 1) = (cntL (lost.take k) t : Int) + 1 := IntWalk.i64_in _ (by omega)
      simp -dsimp [hlt]
      refine VIf.mk (fun g2 => ?_) (fun g2 => ?_)
      · have he : lost[k] = t := by simpa using g2
        simp -dsimp [hw, hwc]
        refine ⟨k + 1, hlt, ?_, by omega⟩
        rw [hsn]
        simp [St.le, he]
      · have he : ¬ lost[k] = t := by simpa using g2
        simp -dsimp [hw]
        refine ⟨k + 1, hlt, ?_, by omega⟩
        rw [hsn]
        simp [St.le, he]
    · have hge : ¬ k < lost.length := by simpa using g
      obtain rfl : k = lost.length := by omega
      rw [List.take_length]
      simp -dsimp
end Go.Proofs.Ytddhmoffjpnbgaa
