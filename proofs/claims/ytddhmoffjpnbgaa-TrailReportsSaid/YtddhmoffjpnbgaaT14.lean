/- Contracts of functions of the seat, proved in a logic on data over the model (part T14). -/
import Derived.Test.YtddhmoffjpnbgaaT13
set_option linter.unusedSimpArgs false
set_option linter.unusedVariables false
namespace Go.Proofs.Ytddhmoffjpnbgaa
open Go.VL Go.RowKit

def cmt (t : Int) : Ent := ⟨3, t, 0, 0, 5, true, []⟩
theorem analyse_at {sortT : List Tou → List Tou} (hs : Sorts sortT) (hi : SortsI) (nl nm : Bool) (l : List Ent) (ms : List Int) (hl : l.length ≤ 2200000000000) (xs ys : List (List C)) (hx : xs = l.map Ent.cells) (hy : ys = ints ms) : Con Try.prog 6 [.c (.sl nl xs), .c (.sl nm ys)] [.ag (repA sortT (runA ms l)).cells] := by
  rw [hx, hy]; exact analyse_spec hs hi nl nm l ms hl
theorem state_at (r : Rep) (t : Int) (cs : List C) (hc : cs = r.cells) (h1 : r.coms.length ≤ 2200000000000) (h2 : r.lost.length ≤ 2200000000000) : Con Try.prog 13 [.agg cs, .c (i64 t)] [.c (i64 (cntC r.coms t)), .c (i64 (cntL r.lost t))] := by
  rw [hc]; exact state_spec r t h1 h2
theorem repA_len (sortT : List Tou → List Tou) (ms : List Int) (l : List Ent) : (repA sortT (runA ms l)).coms.length ≤ l.length ∧ (repA sortT (runA ms l)).lost.length ≤ l.length := by
  have h := runA_ok' ms l
  refine ⟨h.lc, ?_⟩
  show (sortI (losers _)).length ≤ _
  rw [sortI_len]
  have h1 := h.ls
  have : (losers (runA ms l)).length ≤ (runA ms l).seen.length := by unfold losers; exact Nat.le_trans (List.length_filter_le _ _) (by simp)
  omega
/-- how often a transaction is told, of a list -/
def dn (l : List Ent) (t : Int) : Nat := if com l t then 1 else 0
def lo (l : List Ent) (t : Int) : Nat := if ent l t = true ∧ com l t = false then 1 else 0
theorem state_of (sortT : List Tou → List Tou) (ms : List Int) (l : List Ent) (t : Int) (cs : List C) (hc : cs = (repA sortT (runA ms l)).cells) (hl : l.length ≤ 2200000000000) : Con Try.prog 13 [.agg cs, .c (i64 t)] [.c (i64 (dn l t)), .c (i64 (lo l t))] := by
  obtain ⟨h1, h2⟩ := repA_len sortT ms l
  have h := state_at (repA sortT (runA ms l)) t cs hc (by omega) (by omega)
  rw [show cntC (repA sortT (runA ms l)).coms t = dn l t from (runA_law' ms l).coms t, show cntL (repA sortT (runA ms l)).lost t = lo l t from lost_cnt ms l t] at h
  exact h
theorem ent_mem {l : List Ent} {e : Ent} (h : e ∈ l) : ent l e.txn = true := by
  unfold ent; rw [List.any_eq_true]; exact ⟨e, h, by simp⟩
theorem one_of {l : List Ent} {e : Ent} (h : e ∈ l) : dn l e.txn + lo l e.txn = 1 := by
  unfold dn lo
  have := ent_mem h
  cases com l e.txn <;> simp [this]
theorem dn_frs (l : List Ent) (t : Int) : dn (frs l) t = dn l t := by unfold dn; rw [com_frs]
theorem lo_frs (l : List Ent) (t : Int) : lo (frs l) t = lo l t := by unfold lo; rw [com_frs, ent_frs]
theorem com_cmt (l : List Ent) (x t : Int) : com (l ++ [cmt x]) t = (com l t || x == t) := by unfold com; simp [cmt]
theorem ent_cmt (l : List Ent) (x t : Int) : ent (l ++ [cmt x]) t = (ent l t || x == t) := by unfold ent; simp [cmt]
theorem pages_cmt (ms : List Int) (l : List Ent) (x : Int) : (runA ms (l ++ [cmt x])).pages = (runA ms l).pages := by
  have h := runA_snoc ms (l ++ [cmt x]) (k := l.length) (by simp)
  have e1 : (l ++ [cmt x]).take (l.length + 1) = l ++ [cmt x] := List.take_of_length_le (by simp)
  have e2 : (l ++ [cmt x]).take l.length = l := by simp
  rw [e1, e2] at h
  rw [h]
  simp [AS.step, cmt]

def boxR (r : Rep) : Res := .box false [.c (.sl r.coms.isEmpty (r.coms.map two)), .c (.sl r.lost.isEmpty (ints r.lost)), .c (.sl r.pages.isEmpty (r.pages.map Tou.cells)), .c (i64 r.last)]

set_option maxRecDepth 4000 in
set_option maxHeartbeats 8000000 in
theorem splits_spec {sortT : List Tou → List Tou} (hs : Sorts sortT) (hi : SortsI) (nl : Bool) (l : List Ent) (txn : Int) (hl : l.length ≤ 2199023255488) (hd : ∀ e ∈ l, e.data.length ≤ 140737488355328) : Con Try.prog 4 [.c (.sl nl (l.map Ent.cells)), .c (i64 txn)] [.c (.v (.bool true))] := by
  refine spec_of Try.func4 rfl (by kernel_rfl) (by simp [Try.f4]) (fun w0 K0 => vc_ok _ _ _ (by kernel_rfl) ?_)
  simp only [Try.f4]
  simp -dsimp
  refine VC.mk _ awake_spec ?_
  simp -dsimp
  refine VC.mk _ (copied_spec nl l (by omega) hd) ?_
  simp -dsimp
  refine VCL.snap ?_
  simp -dsimp
  have hfl : (frs l).length = l.length := by simp [frs]
  refine VC.mk _ (analyse_at hs hi _ true (frs l) [] (by omega) _ _ rfl rfl) ?_
  have hc1 : ∀ t, Con Try.prog 13 [.agg (repA sortT (runA [] (frs l))).cells, .c (i64 t)] [.c (i64 (dn l t)), .c (i64 (lo l t))] := fun t => by
    have := state_of sortT [] (frs l) t _ rfl (by omega)
    rwa [dn_frs, lo_frs] at this
  obtain ⟨R1, hR1⟩ : ∃ R, R = repA sortT (runA [] (frs l)) := ⟨_, rfl⟩
  rw [← hR1] at hc1 ⊢
  simp -dsimp [Rep.cells]
  refine VL.loop (fun k : Nat => ⟨[(26, .c (i64 k)), (25, .c (i64 l.length)), (24, .c (.sl nl (l.map Ent.cells))), (5, .ptr 320 0), (0, .c (.sl nl (l.map Ent.cells))), (1, .c (i64 txn))], [(320, some (boxR R1))]⟩)
    (fun k => k ≤ l.length) (fun k => l.length - k) 0 (by kernel_rfl) (by simp) (by simp [St.le, boxR]) ?_
  intro k hk
  unfold boxR
  simp -dsimp
  refine VIf.mk (fun g => ?_) (fun g => ?_)
  · have hlt : k < l.length := by simpa using g
    have hw : IntKind.i64.wrap ((k : Int) + 1) = (k : Int) + 1 := IntWalk.i64_in _ (by omega)
    have h1 := one_of (List.getElem_mem hlt)
    have hck := hc1 l[k].txn
    unfold Rep.cells at hck
    simp -dsimp [hlt, Ent.cells]
    refine VC.mk _ hck ?_
    have hw1 : IntKind.i64.wrap ((dn l l[k].txn : Int) + (lo l l[k].txn : Int)) = 1 := by rw [IntWalk.i64_in _ (by omega)]; omega
    simp -dsimp [hw1, hw]
    exact ⟨k + 1, hlt, by simp [St.le, boxR], by omega⟩
  · have hge : ¬ k < l.length := by simpa using g
    obtain rfl : k = l.length := by omega
    simp -dsimp
    refine VC.mk _ (copied_spec nl l (by omega) hd) ?_
    simp -dsimp [maxLen]
    have hz : ¬ l = [] → szE l = 6 := fun e => by simp [szE, e]
    refine ⟨hz, by omega, ?_⟩
    refine VCL.snap ?_
    simp -dsimp
    refine VC.mk _ (analyse_at hs hi _ true (frs l ++ [cmt txn]) [] (by simp [hfl]; omega) _ _ (by simp [cmt, Ent.cells]) rfl) ?_
    have hc2 : ∀ t, Con Try.prog 13 [.agg (repA sortT (runA [] (frs l ++ [cmt txn]))).cells, .c (i64 t)] [.c (i64 (dn (frs l ++ [cmt txn]) t)), .c (i64 (lo (frs l ++ [cmt txn]) t))] := fun t =>
      state_of sortT [] (frs l ++ [cmt txn]) t _ rfl (by simp [hfl]; omega)
    have hpg : (repA sortT (runA [] (frs l ++ [cmt txn]))).pages.length = R1.pages.length := by
      rw [hR1]
      show (sortT _).length = (sortT _).length
      rw [pages_cmt]
    have hd2 : ∀ t, dn (frs l ++ [cmt txn]) t = if txn = t then 1 else dn l t := fun t => by
      unfold dn; rw [com_cmt, com_frs]
      by_cases e : txn = t <;> simp [e]
    have hl2 : ∀ t, lo (frs l ++ [cmt txn]) t = if txn = t then 0 else lo l t := fun t => by
      unfold lo; rw [com_cmt, ent_cmt, com_frs, ent_frs]
      by_cases e : txn = t <;> simp [e]
    simp only [hd2, hl2] at hc2
    obtain ⟨R2, hR2⟩ : ∃ R, R = repA sortT (runA [] (frs l ++ [cmt txn])) := ⟨_, rfl⟩
    rw [← hR2] at hc2 hpg ⊢
    simp -dsimp [Rep.cells]
    refine VL.loop (fun k : Nat => ⟨[(51, .c (i64 k)), (50, .c (i64 l.length)), (49, .c (.sl nl (l.map Ent.cells))), (5, .ptr 320 0), (10, .ptr 640 0), (1, .c (i64 txn))], [(320, some (boxR R1)), (640, some (boxR R2))]⟩)
      (fun k => k ≤ l.length) (fun k => l.length - k) 0 (by kernel_rfl) (by simp) (by simp [St.le, boxR]) ?_
    intro k hk
    unfold boxR
    simp -dsimp
    refine VIf.mk (fun g => ?_) (fun g => ?_)
    · have hlt : k < l.length := by simpa using g
      have hw : IntKind.i64.wrap ((k : Int) + 1) = (k : Int) + 1 := IntWalk.i64_in _ (by omega)
      have hck := hc1 l[k].txn
      have hck2 := hc2 l[k].txn
      unfold Rep.cells at hck hck2
      simp -dsimp [hlt, Ent.cells]
      refine VC.mk _ hck ?_
      simp -dsimp
      by_cases e : txn = l[k].txn
      · rw [if_pos e, if_pos e] at hck2
        have hne : (l[k].txn != txn) = false := by simp [e]
        refine VC.mk _ hck2 ?_
        simp -dsimp [hne, hw]
        exact ⟨k + 1, hlt, by simp [St.le, boxR], by omega⟩
      · rw [if_neg e, if_neg e] at hck2
        have hne : (l[k].txn != txn) = true := by simp; exact fun q => e q.symm
        refine VC.mk _ hck2 ?_
        simp -dsimp [hne, hw]
        exact ⟨k + 1, hlt, by simp [St.le, boxR], by omega⟩
    · have hge : ¬ k < l.length := by simpa using g
      have hck2 := hc2 txn
      unfold Rep.cells at hck2
      simp -dsimp
      refine VC.mk _ hck2 ?_
      simp -dsimp [hpg]
end Go.Proofs.Ytddhmoffjpnbgaa
