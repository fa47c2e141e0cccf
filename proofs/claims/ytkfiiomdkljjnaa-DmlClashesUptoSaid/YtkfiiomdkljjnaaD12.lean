/- Contract: DmlApplies. -/
import Derived.Test.YtkfiiomdkljjnaaD11
set_option linter.unusedSimpArgs false
set_option linter.unusedVariables false
namespace Go.Proofs.Ytkfiiomdkljjnaa
open Go.VL Go.RowKit

theorem ownedL_facts (l : List Fact) : ownedL l = facts (l.map owned) := by simp [ownedL, facts]
theorem strips_owned (l : List Fact) : strips (l.map owned) = strips l := by
  unfold strips; rw [List.map_map]; rfl
theorem Rows1.app {l m : List Fact} (h : Rows1 l) (h' : Rows1 m) : Rows1 (l ++ m) := fun f hf => (List.mem_append.1 hf).elim (h f) (h' f)
theorem Rows1.owned {l : List Fact} (h : Rows1 l) : Rows1 (l.map owned) := fun f hf => by
  obtain ⟨g, hg, rfl⟩ := List.mem_map.1 hf
  exact h g hg
theorem Rows1.keep {l : List Fact} (h : Rows1 l) (g : Nat → Bool) (k : Nat) : Rows1 (keep g l k) := fun f hf => h f (keep_mem g l k f hf)
theorem apply_ok (nl ne nd : Bool) (l : List Fact) (ended : List Int) (added : List Fact) (hl : l.length ≤ 1000000000) (hr : Rows1 l) (he : ended.length ≤ 1000000000) (hd : added.length ≤ 1000000000) (hr2 : Rows1 added) (h0 : endsE l.length ended = 0) :
    Con Try.prog 8 [.c (.sl nl (facts l)), .agg [.sl ne (ended.map icell), .sl nd (facts added)]] [.c (.sl (applyF l ended added).isEmpty (facts ((applyF l ended added).map owned))), .c (i64 0)] := by
  have h := apply_spec nl ne nd l ended added hl hr he hd hr2
  rw [if_pos h0, ownedL_facts] at h
  exact Con.frz h 0 rfl
theorem apply_err (nl ne nd : Bool) (l : List Fact) (ended : List Int) (added : List Fact) (hl : l.length ≤ 1000000000) (hr : Rows1 l) (he : ended.length ≤ 1000000000) (hd : added.length ≤ 1000000000) (hr2 : Rows1 added) (h0 : ¬ endsE l.length ended = 0) :
    Con Try.prog 8 [.c (.sl nl (facts l)), .agg [.sl ne (ended.map icell), .sl nd (facts added)]] [.c (.sl true []), .c (i64 (endsE l.length ended))] := by
  have h := apply_spec nl ne nd l ended added hl hr he hd hr2
  rw [if_neg h0] at h
  exact Con.frz h 0 rfl
theorem refApply_ok (nl ne nd : Bool) (l : List Fact) (ended : List Int) (added : List Fact) (hl : l.length ≤ 1000000000) (he : ended.length ≤ 1000000000) (hd : added.length ≤ 1000000000) (hnd : nd = true → added = []) (h0 : endsE l.length ended = 0) :
    Con Try.prog 9 [.c (.sl nl (facts l)), .agg [.sl ne (ended.map icell), .sl nd (facts added)]] [.c (.sl (applyF l ended added).isEmpty (facts (applyF l ended added))), .c (i64 0)] := by
  have h := refApply_spec nl ne nd l ended added hl he hd hnd
  rw [if_pos h0] at h
  exact Con.frz h 0 rfl
theorem refApply_err (nl ne nd : Bool) (l : List Fact) (ended : List Int) (added : List Fact) (hl : l.length ≤ 1000000000) (he : ended.length ≤ 1000000000) (hd : added.length ≤ 1000000000) (hnd : nd = true → added = []) (h0 : ¬ endsE l.length ended = 0) :
    Con Try.prog 9 [.c (.sl nl (facts l)), .agg [.sl ne (ended.map icell), .sl nd (facts added)]] [.c (.sl true []), .c (i64 (endsE l.length ended))] := by
  have h := refApply_spec nl ne nd l ended added hl he hd hnd
  rw [if_neg h0] at h
  exact Con.frz h 0 rfl

/-- a table and a fact, and key columns -/
def fitCells (t : Tab) (f : Fact) (nk : Bool) (keys : List Int) : List C := t.cells ++ f.cells ++ [.sl nk (keys.map icell)]
theorem fitsOf_plain (t : Tab) (f : Fact) : fitsOf ⟨t.id, t.name, t.nc, t.cols, true, [], false⟩ f = fitsOf t f := rfl

set_option maxRecDepth 4000 in
set_option maxHeartbeats 16000000 in
theorem applies_spec {sortP : List Per → List Per} (hs : Sorts sortP) (nl ne nd nk : Bool) (l : List Fact) (ended : List Int) (added : List Fact) (t : Tab) (f : Fact) (keys : List Int)
    (hl : l.length ≤ 200000000) (hr : Rows1 l) (he : ended.length ≤ 1000000000) (hd : added.length ≤ 200000000) (hr2 : Rows1 added) (hnd : nd = true → added = []) (hf : f.row.length ≤ 140737488355328) (hk : keys.length ≤ 140737488355328) :
    Con Try.prog 3 [.c (.sl nl (facts l)), .agg [.sl ne (ended.map icell), .sl nd (facts added)], .agg (fitCells t f nk keys)] [.c (bln true)] := by
  refine spec_of Try.func3 rfl (by kernel_rfl) (by simp [Try.f3]) (fun w0 K0 => vc_ok _ _ _ (by kernel_rfl) ?_)
  simp only [Try.f3]
  simp -dsimp [fitCells, Tab.cells, Fact.cells]
  refine VC.mk _ (awake_spec hs) ?_
  simp -dsimp
  by_cases h0 : endsE l.length ended = 0
  · refine VC.mk _ (apply_ok nl ne nd l ended added (by omega) hr (by omega) (by omega) hr2 h0) ?_
    simp -dsimp
    refine VC.mk _ (refApply_ok nl ne nd l ended added (by omega) (by omega) (by omega) hnd h0) ?_
    simp -dsimp
    refine VC.mk _ (clash_spec nl nk l keys (by omega) hr hk) ?_
    simp -dsimp
    refine VC.mk _ (refClash_spec nl nk l keys (by omega) hr hk) ?_
    simp -dsimp
    refine VL.draw (by kernel_rfl) [(0, false), (0, false), (3, true), (7, true), (15, false), (15, false), (63, true), (127, true), (255, true), (511, false), (511, false), (2047, true), (4095, true), (8191, true), (16383, false), (16383, false), (65535, true), (131071, true), (262143, true), (524287, false), (524287, false), (2097151, true), (4194303, true), (8388607, true), (16777215, false), (33554431, false), (16777215, false), (83886079, false), (268435455, false), (16777215, false), (16777215, false), (1090519039, false), (4294967295, true), (8589934591, true), (17179869183, true), (34359738367, true)] (by kernel_rfl) ?_
    simp -dsimp
    have hal : (applyF l ended added).length ≤ 400000000 := by
      have := keep_len (goneE ended) l l.length
      unfold applyF; rw [List.length_append]; omega
    have har : Rows1 (applyF l ended added) := (hr.keep _ _).app hr2
    have hsm := sameF_spec (applyF l ended added).isEmpty (applyF l ended added).isEmpty ((applyF l ended added).map owned) (applyF l ended added) (by simp; omega) har.owned
    rw [strips_owned, decide_eq_true rfl, show facts ((applyF l ended added).map owned) = (applyF l ended added).map (Fact.cells ∘ owned) from List.map_map ..] at hsm
    refine VC.mk _ hsm ?_
    simp -dsimp
    refine VG.mk [.c (i64 (fitsOf t f))] _ (fun _ => fits_spec t f hf) rfl ?_
    simp -dsimp
    have hfr := refFits_spec ⟨t.id, t.name, t.nc, t.cols, true, [], false⟩ f hf
    rw [fitsOf_plain] at hfr
    refine VG.mk [.c (i64 (fitsOf t f))] _ (fun _ => hfr) rfl ?_
    simp -dsimp
  · refine VC.mk _ (apply_err nl ne nd l ended added (by omega) hr (by omega) (by omega) hr2 h0) ?_
    simp -dsimp
    refine VC.mk _ (refApply_err nl ne nd l ended added (by omega) (by omega) (by omega) hnd h0) ?_
    simp -dsimp
    refine VC.mk _ (clash_spec nl nk l keys (by omega) hr hk) ?_
    simp -dsimp
    refine VC.mk _ (refClash_spec nl nk l keys (by omega) hr hk) ?_
    simp -dsimp
    refine VL.draw (by kernel_rfl) [(0, false), (0, false), (3, true), (7, true), (15, false), (15, false), (63, true), (127, true), (255, true), (511, false), (511, false), (2047, true), (4095, true), (8191, true), (16383, false), (16383, false), (65535, true), (131071, true), (262143, true), (524287, false), (524287, false), (2097151, true), (4194303, true), (8388607, true), (16777215, false), (33554431, false), (16777215, false), (83886079, false), (268435455, false), (16777215, false), (16777215, false), (1090519039, false), (4294967295, true), (8589934591, true), (17179869183, true), (34359738367, true)] (by kernel_rfl) ?_
    simp -dsimp
    have hsm := sameF_spec true true [] [] (by simp) (by intro f hf; simp at hf)
    rw [decide_eq_true rfl] at hsm
    refine VC.mk _ hsm ?_
    simp -dsimp
    refine VG.mk [.c (i64 (fitsOf t f))] _ (fun _ => fits_spec t f hf) rfl ?_
    simp -dsimp
    have hfr := refFits_spec ⟨t.id, t.name, t.nc, t.cols, true, [], false⟩ f hf
    rw [fitsOf_plain] at hfr
    refine VG.mk [.c (i64 (fitsOf t f))] _ (fun _ => hfr) rfl ?_
    simp -dsimp
end Go.Proofs.Ytkfiiomdkljjnaa
