/- Contracts of functions of the seat, proved in a logic on data over the model (part T16). -/
import Derived.Test.YtddhmoffjpnbgaaT14
set_option linter.unusedSimpArgs false
set_option linter.unusedVariables false
namespace Go.Proofs.Ytddhmoffjpnbgaa
open Go.VL Go.RowKit

theorem copied_at (nl : Bool) (l : List Ent) (xs : List (List C)) (hx : xs = l.map Ent.cells) (hl : l.length ≤ 2199023255552) (hd : ∀ e ∈ l, e.data.length ≤ 140737488355328) : Con Try.prog 11 [.c (.sl nl xs)] [.fr l.isEmpty (szE l) ((frs l).map Ent.cells) 0] := by
  rw [hx]; exact copied_spec nl l hl hd
/-- how reports of fewer entries and of more stand to one another -/
structure Grow (a b : Rep) : Prop where
  coms : a.coms <+: b.coms
  pages : a.pages.length ≤ b.pages.length
  last : a.last ≤ b.last
  lost : b.lost.Pairwise (· < ·)
theorem grow_of {sortT : List Tou → List Tou} (hs : Sorts sortT) (l : List Ent) (m : Nat) (hm : m ≤ l.length) : Grow (repA sortT (runA [] (frs (l.take m)))) (repA sortT (runA [] (frs l))) := by
  rw [runA_frs, runA_frs]
  obtain ⟨h1, h2, h3⟩ := runA_more [] l m (l.length - m) (by omega)
  rw [show m + (l.length - m) = l.length by omega, List.take_length] at h1 h2 h3
  refine ⟨h1, ?_, h3, ?_⟩
  · show (sortT _).length ≤ (sortT _).length
    rw [hs.len, hs.len]; exact h2
  · exact rises id (sortI_sorted _) (by rw [List.map_id]; exact (sortI_perm _).nodup_iff.2 (lost_nodup [] l))

set_option maxRecDepth 4000 in
set_option maxHeartbeats 8000000 in
theorem grows_spec {sortT : List Tou → List Tou} (hs : Sorts sortT) (hi : SortsI) (nl : Bool) (l : List Ent) (n : Int) (hl : l.length ≤ 2199023255488) (hd : ∀ e ∈ l, e.data.length ≤ 140737488355328) : Con Try.prog 5 [.c (.sl nl (l.map Ent.cells)), .c (i64 n)] [.c (.v (.bool true))] := by
  refine spec_of Try.func5 rfl (by kernel_rfl) (by simp [Try.f5]) (fun w0 K0 => vc_ok _ _ _ (by kernel_rfl) ?_)
  simp only [Try.f5]
  simp -dsimp
  refine VC.mk _ awake_spec ?_
  by_cases h0 : n < 0
  · simp -dsimp [h0]
  by_cases h1 : n > (l.length : Int)
  · simp -dsimp [h0, h1]
  obtain ⟨m, rfl⟩ : ∃ m : Nat, n = m := ⟨n.toNat, by omega⟩
  have hm : m ≤ l.length := by omega
  simp -dsimp [h0, h1]
  have hfl : (frs l).length = l.length := by simp [frs]
  have hfm : (frs (l.take m)).length = m := by simp [frs]; omega
  refine ⟨⟨hm, fun a _ => rfl⟩, ?_⟩
  refine VC.mk _ (copied_at nl (l.take m) _ (by rw [List.map_take]) (by rw [List.length_take]; omega) (fun e he => hd e (List.mem_of_mem_take he))) ?_
  simp -dsimp
  refine VCL.snap ?_
  simp -dsimp
  refine VC.mk _ (analyse_at hs hi _ true (frs (l.take m)) [] (by omega) _ _ rfl rfl) ?_
  simp -dsimp
  refine VC.mk _ (copied_spec nl l (by omega) hd) ?_
  simp -dsimp
  refine VCL.snap ?_
  simp -dsimp
  refine VC.mk _ (analyse_at hs hi _ true (frs l) [] (by omega) _ _ rfl rfl) ?_
  have hg := grow_of hs l m hm
  have hlb := repA_len sortT [] (frs l)
  rw [hfl] at hlb
  generalize repA sortT (runA [] (frs (l.take m))) = A at *
  generalize repA sortT (runA [] (frs l)) = B at *
  obtain ⟨ac, al, ap, ax⟩ := A
  obtain ⟨bc, bl, bp, bx⟩ := B
  obtain ⟨g1, g2, g3, g4⟩ := hg
  simp only at g1 g2 g3 g4 hlb
  have g0 := g1.length_le
  have k1 : ¬ bc.length < ac.length := by omega
  have k2 : ¬ bp.length < ap.length := by omega
  have k3 : ¬ bx < ax := by omega
  simp -dsimp [Rep.cells, k1, k2, k3]
  refine VL.loop (fun k : Nat => ⟨[(54, .c (i64 k)), (53, .c (i64 ac.length)), (52, .c (.sl ac.isEmpty (ac.map two))), (6, .ptr 384 0)], [(384, some (boxR ⟨bc, bl, bp, bx⟩))]⟩)
    (fun k => k ≤ ac.length) (fun k => ac.length - k) 0 (by kernel_rfl) (by simp) (by simp [St.le, boxR]) ?_
  intro k hk
  unfold boxR
  simp -dsimp
  refine VIf.mk (fun g => ?_) (fun g => ?_)
  · have hlt : k < ac.length := by simpa using g
    have hw : IntKind.i64.wrap ((k : Int) + 1) = (k : Int) + 1 := IntWalk.i64_in _ (by omega)
    have hltb : k < bc.length := by omega
    have heq : bc[k] = ac[k] := (g1.getElem hlt).symm
    simp -dsimp [hlt, two]
    refine VL.draw (by kernel_rfl) [(0, false), (1, false), (0, false), (7, false), (15, false), (0, false), (63, true)] (by kernel_rfl) ?_
    simp -dsimp [hltb, heq, two, hw]
    exact ⟨k + 1, hlt, by simp [St.le, boxR], by omega⟩
  · have hge : ¬ k < ac.length := by simpa using g
    simp -dsimp
    refine VL.loop (fun k : Nat => ⟨[(9, .c (i64 (k + 1 : Nat))), (6, .ptr 384 0)], [(384, some (boxR ⟨bc, bl, bp, bx⟩))]⟩)
      (fun k => k ≤ bl.length) (fun k => bl.length - k) 0 (by kernel_rfl) (by simp) (by simp [St.le, boxR]) ?_
    intro k hk
    unfold boxR
    simp -dsimp
    refine VIf.mk (fun g => ?_) (fun g => ?_)
    · have hlt : k + 1 < bl.length := by simp at g; omega
      have hw : IntKind.i64.wrap (k : Int) = (k : Int) := IntWalk.i64_in _ (by omega)
      have hw2 : IntKind.i64.wrap ((k : Int) + 1 + 1) = (k : Int) + 1 + 1 := IntWalk.i64_in _ (by omega)
      have hrise := List.pairwise_iff_getElem.1 g4 k (k + 1) (by omega) hlt (by omega)
      have hng : ¬ bl[k + 1] ≤ bl[k] := by omega
      have hk1 : k < bl.length := by omega
      simp -dsimp [hw]
      refine VL.draw (by kernel_rfl) [(0, false), (1, false), (0, false), (4, false), (15, false), (31, false), (0, false), (64, false), (0, false), (448, false), (960, false), (2047, true)] (by kernel_rfl) ?_
      simp -dsimp [hw, hw2, hk1, hlt, hng]
      exact ⟨by omega, k + 1, by omega, by simp [St.le, boxR], by omega⟩
    · simp -dsimp
end Go.Proofs.Ytddhmoffjpnbgaa
