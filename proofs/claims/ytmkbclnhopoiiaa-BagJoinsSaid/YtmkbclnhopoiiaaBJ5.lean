/- Contract: BagJoins. -/
import Derived.Test.YtmkbclnhopoiiaaBQA
import Derived.Test.YtmkbclnhopoiiaaBJ2
set_option linter.unusedSimpArgs false
set_option linter.unusedVariables false
namespace Go.Proofs.Ytmkbclnhopoiiaa
open Go.VL Go.RowKit

theorem joinL_len {sortP : List Per → List Per} (hs : Sorts sortP) (a b : List Fact) : (joinL sortP a b).length ≤ a.length * b.length := Nat.le_trans (normal_len hs _) (joinP_len a b)
theorem joinL_mem {sortP : List Per → List Per} {a b : List Fact} {f : Fact} (h : f ∈ joinL sortP a b) : ∃ x ∈ a, ∃ y ∈ b, f.row = x.row ++ y.row := by
  obtain ⟨g, hg, e⟩ := normal_rows h
  obtain ⟨x, hx, y, hy, e2⟩ := joinP_mem hg
  exact ⟨x, hx, y, hy, by rw [← e, e2]⟩
set_option maxRecDepth 4000 in
set_option maxHeartbeats 16000000 in
theorem joins_spec {sortP : List Per → List Per} (hs : Sorts sortP) (hi : SortsI) (hf : SortsF) (na nb nc : Bool) (a b c : List Fact) (la : a.length ≤ 10000000000000) (lb : b.length ≤ 10000000000000) (lc : c.length ≤ 10000000000000) (ra : Rows1 a) (rb : Rows1 b) (rc : ∀ f ∈ c, f.row.length ≤ 4398046511100) :
    Con Try.prog 7 [.c (.sl na (facts a)), .c (.sl nb (facts b)), .c (.sl nc (facts c))] [.c (bln true)] := by
  refine spec_of Try.func7 rfl (by kernel_rfl) (by simp [Try.f7]) (fun w0 K0 => vc_ok _ _ _ (by kernel_rfl) ?_)
  simp only [Try.f7]
  have hw1 : IntKind.i64.wrap ((a.length : Int) + b.length) = a.length + b.length := IntWalk.i64_in _ (by omega)
  have hw2 : IntKind.i64.wrap ((a.length : Int) + b.length + c.length) = a.length + b.length + c.length := IntWalk.i64_in _ (by omega)
  simp -dsimp
  refine VC.mk _ (awake_spec hs hi hf) ?_
  simp -dsimp [hw1, hw2]
  refine VIf.mk (fun h => ?_) (fun h => ?_)
  · simp -dsimp
  rw [decide_eq_false_iff_not] at h
  simp -dsimp
  refine ⟨by omega, by omega, ?_⟩
  have hL : facts a ++ facts b = facts (a ++ b) := (List.map_append ..).symm
  have hLl : ((a.length : Int) + b.length) = ((a ++ b).length : Nat) := by rw [List.length_append]; omega
  have hLn : a.length + b.length = (a ++ b).length := by rw [List.length_append]
  rw [hL, hLl, hLn]
  have hab : Twos (a ++ b) → Twos a ∧ Twos b := fun h => ⟨fun f hf => h f (by simp [hf]), fun f hf => h f (by simp [hf])⟩
  have rab : Rows1 (a ++ b) := fun f hf => by
    rcases List.mem_append.1 hf with h | h
    · exact ra f h
    · exact rb f h
  have hl40 : (a ++ b).length ≤ 40 := by omega
  clear hL hLl
  generalize a ++ b = L at *
  refine VL.loop (fun k : Nat => ⟨[(28, .c (i64 k)), (27, .c (i64 L.length)), (26, .own 1408 L.length), (0, .c (.sl na (facts a))), (1, .c (.sl nb (facts b))), (2, .c (.sl nc (facts c)))], [(1408, some (.arr false 3 (facts L) 0))]⟩)
    (fun k => k ≤ L.length ∧ Twos (L.take k)) (fun k => L.length - k) 0 (by kernel_rfl) ⟨by simp, fun f hf => by simp at hf⟩ (by simp [St.le]) ?_
  intro k ⟨hk, htw⟩
  by_cases h1 : k < L.length
  · have hw : IntKind.i64.wrap ((k : Int) + 1) = (k : Int) + 1 := IntWalk.i64_in _ (by omega)
    have htk := take_snoc h1
    have hrk := rab _ (List.getElem_mem h1)
    simp -dsimp [h1, Fact.cells]
    generalize L[k] = f at *
    refine VIf.mk (fun h => ?_) (fun h => ?_)
    · simp -dsimp
    · simp -dsimp [hw]
      have h2 : f.row.length = 2 := by
        simp at h
        omega
      refine ⟨k + 1, ⟨by omega, fun g hg => ?_⟩, ?_, by omega⟩
      · rw [htk] at hg
        rcases List.mem_append.1 hg with hg | hg
        · exact htw g hg
        · simp at hg; subst hg; exact h2
      · simp [St.le]
  · obtain rfl : k = L.length := by omega
    rw [List.take_length] at htw
    obtain ⟨ta, tb⟩ := hab htw
    have m2 : b.length * a.length ≤ 40 * 40 := Nat.mul_le_mul (by omega) (by omega)
    have m1 : a.length * b.length ≤ 40 * 40 := Nat.mul_le_mul (by omega) (by omega)
    have m3 : b.length * c.length ≤ 40 * 40 := Nat.mul_le_mul (by omega) (by omega)
    have p1 := joinP_len a b
    have p2 := joinP_len b a
    have p3 := joinP_len b c
    have l1 := joinL_len hs a b
    have l2 := joinL_len hs b a
    have l3 := joinL_len hs b c
    have m4 : (joinL sortP a b).length * c.length ≤ 1600 * 40 := Nat.mul_le_mul (by omega) (by omega)
    have m5 : a.length * (joinL sortP b c).length ≤ 40 * 1600 := Nat.mul_le_mul (by omega) (by omega)
    have p4 := joinP_len (joinL sortP a b) c
    have p5 := joinP_len a (joinL sortP b c)
    have l4 := joinL_len hs (joinL sortP a b) c
    have l5 := joinL_len hs a (joinL sortP b c)
    have rab2 : ∀ f ∈ joinL sortP a b, f.row.length = 4 := fun f hf => by
      obtain ⟨x, hx, y, hy, e⟩ := joinL_mem hf
      rw [e, List.length_append, ta x hx, tb y hy]
    have rba2 : ∀ f ∈ joinL sortP b a, f.row.length = 4 := fun f hf => by
      obtain ⟨x, hx, y, hy, e⟩ := joinL_mem hf
      rw [e, List.length_append, tb x hx, ta y hy]
    have rbc2 : ∀ f ∈ joinL sortP b c, f.row.length ≤ 4398046511102 := fun f hf => by
      obtain ⟨x, hx, y, hy, e⟩ := joinL_mem hf
      have := rc y hy
      rw [e, List.length_append, tb x hx]; omega
    have k1 := join_spec hs hi hf na nb a b (by omega) (by omega) (by omega) (fun x hx y hy => by rw [ta x hx, tb y hy]; decide)
    have k2 := join_spec hs hi hf nb na b a (by omega) (by omega) (by omega) (fun x hx y hy => by rw [tb x hx, ta y hy]; decide)
    have k3 := join_spec hs hi hf nb nc b c (by omega) (by omega) (by omega) (fun x hx y hy => by have := rc y hy; rw [tb x hx]; omega)
    have k4 := join_spec hs hi hf (joinL sortP a b).isEmpty nc (joinL sortP a b) c (by omega) (by omega) (by omega) (fun x hx y hy => by have := rc y hy; rw [rab2 x hx]; omega)
    have k5 := join_spec hs hi hf na (joinL sortP b c).isEmpty a (joinL sortP b c) (by omega) (by omega) (by omega) (fun x hx y hy => by have := rbc2 y hy; rw [ta x hx]; omega)
    have kp := project_spec hs hi hf (joinL sortP b a).isEmpty false (joinL sortP b a) [2, 3, 0, 1] (by omega) (by simp) (fun f hf => by rw [rba2 f hf]; decide)
    rw [if_pos (join_turn_ok ta tb), join_turn hs ta tb] at kp
    have ks1 := sameF_true (joinL sortP a b).isEmpty (joinL sortP a b).isEmpty (joinL sortP a b) (joinL sortP a b) rfl (by omega) (fun f hf => by rw [rab2 f hf]; decide)
    have ks2 := sameF_true (joinL sortP (joinL sortP a b) c).isEmpty (joinL sortP a (joinL sortP b c)).isEmpty _ _ (join_three hs a b c) (by omega) (fun f hf => by
      obtain ⟨x, hx, y, hy, e⟩ := joinL_mem hf
      have := rc y hy
      rw [e, List.length_append, rab2 x hx]; omega)
    generalize joinL sortP (joinL sortP a b) c = abc at *
    generalize joinL sortP a (joinL sortP b c) = abc' at *
    generalize joinL sortP a b = ab at *
    generalize joinL sortP b a = ba at *
    generalize joinL sortP b c = bc at *
    simp -dsimp
    refine VC.mk _ k2 ?_
    simp -dsimp
    refine ⟨by decide, VCL.snap ?_⟩
    simp -dsimp
    refine VC.mk _ kp ?_
    simp -dsimp
    refine VG.mk [.c (.sl ab.isEmpty (facts ab))] _ (fun _ => k1) rfl ?_
    simp -dsimp
    refine VG.mk [.c (bln true)] _ (fun _ => ks1) rfl ?_
    simp -dsimp
    refine VG.mk [.c (.sl ab.isEmpty (facts ab))] _ (fun _ => k1) rfl ?_
    simp -dsimp
    refine VG.mk [.c (.sl abc.isEmpty (facts abc))] _ (fun _ => k4) rfl ?_
    simp -dsimp
    refine VG.mk [.c (.sl bc.isEmpty (facts bc))] _ (fun _ => k3) rfl ?_
    simp -dsimp
    refine VG.mk [.c (.sl abc'.isEmpty (facts abc'))] _ (fun _ => k5) rfl ?_
    simp -dsimp
    refine VG.mk [.c (bln true)] _ (fun _ => ks2) rfl ?_
    simp -dsimp
end Go.Proofs.Ytmkbclnhopoiiaa
