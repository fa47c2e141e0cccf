/- TrailReports, as a contract. -/
import Derived.Test.YtddhmoffjpnbgaaT21
set_option linter.unusedSimpArgs false
set_option linter.unusedVariables false
namespace Go.Proofs.Ytddhmoffjpnbgaa
open Go.VL Go.RowKit

def e0 : Ent := ⟨3, 4, 0, 0, 9, true, []⟩
theorem rep0 {sortT : List Tou → List Tou} (hs : Sorts sortT) : repA sortT (runA [] [e0]) = ⟨[(4, 9)], [], [], 4⟩ := by
  have h : sortT [] = [] := List.length_eq_zero_iff.1 (hs.len [])
  have hr : runA [] [e0] = ⟨[(4, 1)], [(4, 1)], [], [(4, 9)], 4⟩ := by simp [runA, AS.step, AS.init, e0, cget, kFnd, kPut]; decide
  rw [hr]
  simp [repA, losers, h, cget, kFnd, sortI]
theorem refAnalyse_at {sortT : List Tou → List Tou} (hs : Sorts sortT) (nl nm : Bool) (l : List Ent) (ms : List Int) (hl : l.length ≤ 2199023255488) (xs ys : List (List C)) (hx : xs = l.map Ent.rcells) (hy : ys = ints ms) : Con Try.prog 12 [.c (.sl nl xs), .c (.sl nm ys)] [.ag (repA sortT (runA ms l)).cells] := by
  rw [hx, hy]; exact refAnalyse_spec hs nl nm l ms hl
theorem repA_plen {sortT : List Tou → List Tou} (hs : Sorts sortT) (ms : List Int) (l : List Ent) : (repA sortT (runA ms l)).pages.length ≤ l.length := by
  show (sortT _).length ≤ _
  rw [hs.len]; exact (runA_ok' ms l).lp
theorem rsnoc (l : List Ent) {k : Nat} (h : k < l.length) : tk l (k + 1) = tk l k ++ [l[k]] := take_snocG l h

set_option maxRecDepth 4000 in
set_option maxHeartbeats 8000000 in
theorem reports_spec {sortT : List Tou → List Tou} (hs : Sorts sortT) (hi : SortsI) (nl nm : Bool) (l : List Ent) (ms : List Int) (hl : l.length ≤ 2199023255488) (hd : ∀ e ∈ l, e.data.length ≤ 140737488355328) (hms : ms.length ≤ 17592186044416) : Con Try.prog 3 [.c (.sl nl (l.map Ent.cells)), .c (.sl nm (ints ms))] [.c (.v (.bool true))] := by
  refine spec_of Try.func3 rfl (by kernel_rfl) (by simp [Try.f3]) (fun w0 K0 => vc_ok _ _ _ (by kernel_rfl) ?_)
  simp only [Try.f3]
  simp -dsimp [maxLen]
  refine VCL.snap ?_
  simp -dsimp
  have h0 := analyse_at hs hi false true [e0] [] (by simp) [[i64 3, i64 4, i64 0, i64 0, i64 9, .sl true []]] [] (by simp [e0, Ent.cells]) rfl
  rw [rep0 hs] at h0
  refine VC.mk _ (by simpa using h0) ?_
  simp -dsimp [Rep.cells, two]
  refine VG.mk _ _ (fun _ => awake_spec) rfl ?_
  simp -dsimp
  refine VL.loop (fun k : Nat => ⟨[(35, .c (i64 k)), (34, .c (i64 l.length)), (33, .c (.sl nl (l.map Ent.cells))), (6, .own 384 (tk l k).length), (0, .c (.sl nl (l.map Ent.cells))), (1, .c (.sl nm (ints ms)))],
      [(384, some (.arr (tk l k).isEmpty (szE (tk l k)) ((tk l k).map Ent.rcells) 0))]⟩)
    (fun k => k ≤ l.length) (fun k => l.length - k) 0 (by kernel_rfl) (by simp) (by simp [St.le, szE]) ?_
  intro k hk
  have hkl := tk_len l hk
  have hsn := fun h : k < l.length => rsnoc l h
  have htz : ¬ tk l k = [] → szE (tk l k) = 6 := fun e => by simp [szE, e]
  simp -dsimp
  refine VIf.mk (fun g => ?_) (fun g => ?_)
  · have hlt : k < l.length := by simpa using g
    have hw : IntKind.i64.wrap ((k : Int) + 1) = (k : Int) + 1 := IntWalk.i64_in _ (by omega)
    replace hsn := hsn hlt
    have hpl := plain_spec l[k]
    unfold Ent.cells at hpl
    simp -dsimp [hlt, Ent.cells]
    refine VC.mk _ hpl ?_
    simp -dsimp [Ent.rcells, maxLen, hw]
    refine ⟨htz, by omega, k + 1, hlt, ?_, by omega⟩
    rw [hsn]
    simp [St.le, szE, Ent.rcells]
  · have hge : ¬ k < l.length := by simpa using g
    obtain rfl : k = l.length := by omega
    rw [tk_all]
    simp -dsimp
    refine VC.mk _ (copied_spec nl l (by omega) hd) ?_
    simp -dsimp [maxLen]
    refine ⟨fun e he => by
      unfold ints at he
      obtain ⟨x, _, rfl⟩ := List.mem_map.1 he
      rfl, by omega, ?_⟩
    refine VCL.snap ?_
    have hfl : (frs l).length = l.length := by simp [frs]
    simp -dsimp [hfl]
    refine VC.mk _ (analyse_at hs hi _ false (frs l) ms (by omega) _ _ rfl rfl) ?_
    rw [runA_frs]
    have hr1 := repA_len sortT ms l
    have hr2 := repA_plen hs ms l
    have hrp := report_spec (repA sortT (runA ms l)) (by omega) (by omega)
    have hsm := same_spec (repA sortT (runA ms l)) (by omega) (by omega) (by omega)
    have hra := refAnalyse_at hs l.isEmpty nm l ms hl _ _ rfl rfl
    generalize repA sortT (runA ms l) = R at *
    unfold Rep.cells at hrp hsm hra
    simp -dsimp [Rep.cells]
    refine VC.mk _ hrp ?_
    simp -dsimp
    refine VCL.snap ?_
    simp -dsimp
    refine VC.mk _ hra ?_
    simp -dsimp
    refine VC.mk _ hsm ?_
    simp -dsimp
end Go.Proofs.Ytddhmoffjpnbgaa
