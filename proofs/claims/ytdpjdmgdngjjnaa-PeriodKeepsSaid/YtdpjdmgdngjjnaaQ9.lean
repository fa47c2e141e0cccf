/- Contracts of functions of the seat, proved in a logic on data over the model (part Q9). -/
import Derived.Test.YtdpjdmgdngjjnaaQ8
set_option linter.unusedSimpArgs false
set_option linter.unusedVariables false
namespace Go.Proofs.Ytdpjdmgdngjjnaa
open Go.VL Go.RowKit

theorem Canon.canonK {l : List Per} (h : Canon l) : canonK l l.length = true := by
  unfold Go.Proofs.Ytdpjdmgdngjjnaa.canonK
  rw [List.all_eq_true]
  intro i hi
  rw [List.mem_range] at hi
  rw [getElem!_pos l i hi, h.ok _ (List.getElem_mem hi), Bool.true_and]
  cases i with
  | zero => rfl
  | succ j =>
    rw [show j + 1 - 1 = j from rfl, getElem!_pos l j (by omega)]
    have := List.pairwise_iff_getElem.1 h.apart j (j + 1) (by omega) hi (by omega)
    simp [this]

theorem in_at (nil : Bool) (xs : List (List C)) (l : List Per) (t : Int) (h : xs = l.map Per.cells) (hl : l.length ≤ 140737488355328) (hc : Canon l) : Con Try.prog 17 [.c (.sl nil xs), .c (i64 t)] [.c (bln (inL l t)), .c (bln true)] := by
  have := in_spec nil l t hl
  rw [hc.canonK] at this
  rw [h]; exact this
theorem unionL_len {sortP : List Per → List Per} (hs : Sorts sortP) (l : List Per) : (unionL sortP l).length ≤ l.length := by
  have h1 := hs.len (l.filter right)
  have h2 := sumP_len (sortP (l.filter right)) (sortP (l.filter right)).length (Nat.le_refl _)
  rw [List.take_length] at h2
  have h3 := List.length_filter_le right l
  unfold unionL
  omega
theorem minusL_len {sortP : List Per → List Per} (hs : Sorts sortP) (a : Per) (l : List Per) : (minusL sortP a l).length ≤ l.length + 1 := by
  have h1 := unionL_len hs l
  unfold minusL
  split
  · unfold minusP
    have e := takeWhile_split (fun p : Per => decide (p.f < a.t)) (unionL sortP l)
    obtain ⟨k, hk, e1, _⟩ := e
    rw [e1]
    have := subK_len a (unionL sortP l) k hk
    simp only
    split
    · simp; omega
    · omega
  · simp
theorem someP_snoc (l : List Per) (t : Int) {k : Nat} (h : k < l.length) : someP (l.take (k + 1)) t = (someP (l.take k) t || (right l[k] && has l[k] t)) := by
  unfold someP; rw [any_snoc _ h]

set_option maxRecDepth 4000 in
set_option maxHeartbeats 8000000 in
theorem instants_spec {sortP : List Per → List Per} (hs : Sorts sortP) (a : Per) (nl : Bool) (l : List Per) (t : Int) (hn : nl = true → l = []) (hl : l.length ≤ 8796093021952) :
    Con Try.prog 4 [.agg a.cells, .c (.sl nl (l.map Per.cells)), .c (i64 t)] [.c (bln true)] := by
  refine spec_of Try.func4 rfl (by kernel_rfl) (by simp [Try.f4]) (fun w0 K0 => vc_ok _ _ _ (by kernel_rfl) ?_)
  simp only [Try.f4]
  simp -dsimp [Per.cells]
  refine VC.mk _ (awake_spec hs) ?_
  simp -dsimp
  refine VL.loop (fun k : Nat => ⟨[(18, .c (i64 k)), (17, .c (i64 l.length)), (16, .c (.sl nl (l.map Per.cells))), (7, .c (bln (someP (l.take k) t))), (3, .ptr 192 0), (1, .c (.sl nl (l.map Per.cells))), (2, .c (i64 t))], [(192, some (.box false [.c (i64 a.f), .c (i64 a.t)]))]⟩)
    (fun k => k ≤ l.length) (fun k => l.length - k) 0 (by kernel_rfl) (by simp) (by simp [St.le, someP]) ?_
  intro k hk
  simp -dsimp
  refine VIf.mk (fun h => ?_) (fun h => ?_)
  · have hlt : k < l.length := by simpa using h
    have hw : IntKind.i64.wrap ((k : Int) + 1) = (k : Int) + 1 := IntWalk.i64_in _ (by omega)
    simp -dsimp [hlt, Per.cells]
    refine VG.mk [.c (i64 (checkOf l[k]))] _ (fun _ => check_at _ l[k] rfl) rfl ?_
    simp -dsimp
    refine VG.mk [.c (bln (has l[k] t))] _ (fun _ => has_at _ l[k] t rfl) rfl ?_
    simp -dsimp [hw]
    have e1 : (checkOf l[k] == 0) = right l[k] := by unfold checkOf; cases right l[k] <;> rfl
    have e2 := someP_snoc l t hlt
    refine ⟨fun h1 => ⟨h1, fun h2 => ⟨h1, h2⟩⟩, k + 1, by omega, ?_, by omega⟩
    simp only [e1]
    simp [St.le, e2]
  · simp at h
    obtain rfl : k = l.length := by omega
    rw [List.take_length]
    have hu := unionL_ok hs l
    have hm := minusL_ok hs a l
    simp -dsimp
    refine VC.mk _ (union_spec hs nl l hn (by omega)) ?_
    simp -dsimp
    refine VCL.snap ?_
    simp -dsimp
    have hi1 := in_at (unionL sortP l).isEmpty _ (unionL sortP l) t rfl (by have := unionL_len hs l; omega) hu.1
    rw [hu.2 t] at hi1
    refine VC.mk _ hi1 ?_
    simp -dsimp
    refine VC.mk _ (minus_at hs _ nl _ a l rfl rfl hn (by omega)) ?_
    simp -dsimp
    refine VCL.snap ?_
    simp -dsimp
    have hi2 := in_at (minusL sortP a l).isEmpty _ (minusL sortP a l) t rfl (by have := minusL_len hs a l; omega) hm.1
    rw [hm.2 t] at hi2
    refine VC.mk _ hi2 ?_
    simp -dsimp
    refine VG.mk [.c (i64 (checkOf a))] _ (fun _ => check_at _ a rfl) rfl ?_
    simp -dsimp
    refine VG.mk [.c (bln (has a t))] _ (fun _ => has_at _ a t rfl) rfl ?_
    simp -dsimp
    have e1 : (checkOf a == 0) = right a := by unfold checkOf; cases right a <;> rfl
    rw [e1]
end Go.Proofs.Ytdpjdmgdngjjnaa
