/- report, and the document's Same. -/
import Derived.Test.YtddhmoffjpnbgaaT14
import Derived.Test.YtddhmoffjpnbgaaT11
import Derived.Test.YtddhmoffjpnbgaaVC
set_option linter.unusedSimpArgs false
set_option linter.unusedVariables false
namespace Go.Proofs.Ytddhmoffjpnbgaa
open Go.VL Go.RowKit

/-- the first k -/
def tk {α : Type} (l : List α) (k : Nat) : List α := l.take k
theorem take_snocG {α : Type} (l : List α) {k : Nat} (h : k < l.length) : tk l (k + 1) = tk l k ++ [l[k]] := List.take_succ_eq_append_getElem h
theorem tk_len {α : Type} (l : List α) {k : Nat} (h : k ≤ l.length) : (tk l k).length = k := by unfold tk; rw [List.length_take]; omega
theorem tk_all {α : Type} (l : List α) : tk l l.length = l := List.take_length
@[simp] theorem tk_zero {α : Type} (l : List α) : tk l 0 = [] := rfl
def szt (c : List Tou) : Nat := if c.isEmpty then 0 else 3

set_option maxRecDepth 4000 in
set_option maxHeartbeats 8000000 in
theorem report_spec (r : Rep) (h1 : r.coms.length ≤ 2200000000000) (h2 : r.pages.length ≤ 2200000000000) : Con Try.prog 10 [.agg r.cells] [.ag r.cells] := by
  obtain ⟨coms, lost, pages, last⟩ := r
  simp only at h1 h2
  refine spec_of Try.func10 rfl (by kernel_rfl) (by simp [Try.f10]) (fun w0 K0 => vc_ok _ _ _ (by kernel_rfl) ?_)
  simp only [Try.f10]
  simp -dsimp [Rep.cells]
  refine VL.nilcell 192 0 300 (by decide) ?_
  simp -dsimp
  refine VL.nilcell 192 2 301 (by decide) ?_
  simp -dsimp
  refine VL.loop (fun i : CI => ⟨[(16, .c (i64 i.k)), (15, .c (i64 coms.length)), (14, .c (.sl coms.isEmpty (coms.map two))), (3, .ptr 192 0), (2, .ptr 128 0), (1, .ptr 64 0)],
      [(192, some (.box false [.own 300 (tk coms i.k).length, .c (.sl lost.isEmpty (ints lost)), .own 301 0, .c (i64 last)])), (300, some (.arr i.nl i.sz ((tk coms i.k).map two) 0)), (301, some (.arr true 0 [] 0)),
       (128, some (.box false [.own 129 0, .own 130 0, .own 131 0, .c (i64 0)])), (131, some (.arr true 0 [] 0)), (130, some (.arr true 0 [] 0)), (129, some (.arr true 0 [] 0)),
       (64, some (boxR ⟨coms, lost, pages, last⟩))]⟩)
    (fun i => i.k ≤ coms.length ∧ i.nl = (tk coms i.k).isEmpty ∧ i.sz = szc (tk coms i.k)) (fun i => coms.length - i.k) ⟨0, true, 0⟩ (by kernel_rfl) (by simp [szc]) (by simp [St.le, boxR]) ?_
  intro ⟨k, nl', sz⟩ ⟨hk, hnl, hsz⟩
  simp only at hk hnl hsz
  have hsn := fun h : k < coms.length => take_snocG coms h
  have hlk : (tk coms k).length = k := tk_len coms hk
  generalize hgo : tk coms k = cs at *
  unfold boxR
  simp -dsimp
  refine VIf.mk (fun g => ?_) (fun g => ?_)
  · have hlt : k < coms.length := by simpa using g
    have hw : IntKind.i64.wrap ((k : Int) + 1) = (k : Int) + 1 := IntWalk.i64_in _ (by omega)
    replace hsn := hsn hlt
    simp -dsimp [hlt, two, hw, maxLen]
    refine ⟨fun e => by rw [hsz]; rw [hnl] at e; simp [szc, e], by omega, ⟨k + 1, false, 2⟩, ⟨hlt, ?_, ?_⟩, ?_, by simp; omega⟩
    · simp only; rw [hsn]; simp
    · simp only; rw [hsn]; simp [szc]
    · simp only; rw [hsn]; simp [St.le, two, boxR]
  · have hge : ¬ k < coms.length := by simpa using g
    obtain rfl : k = coms.length := by omega
    rw [tk_all] at hgo
    subst hgo
    simp -dsimp
    refine VL.loop (fun i : CI => ⟨[(34, .c (i64 i.k)), (33, .c (i64 pages.length)), (32, .c (.sl pages.isEmpty (pages.map Tou.cells))), (3, .ptr 192 0), (2, .ptr 128 0), (1, .ptr 64 0)],
        [(192, some (.box false [.own 300 coms.length, .c (.sl lost.isEmpty (ints lost)), .own 301 (tk pages i.k).length, .c (i64 last)])), (300, some (.arr nl' sz (coms.map two) 0)), (301, some (.arr i.nl i.sz ((tk pages i.k).map Tou.cells) 0)),
         (128, some (.box false [.own 129 0, .own 130 0, .own 131 0, .c (i64 0)])), (131, some (.arr true 0 [] 0)), (130, some (.arr true 0 [] 0)), (129, some (.arr true 0 [] 0))]⟩)
      (fun i => i.k ≤ pages.length ∧ i.nl = (tk pages i.k).isEmpty ∧ i.sz = szt (tk pages i.k)) (fun i => pages.length - i.k) ⟨0, true, 0⟩ (by kernel_rfl) (by simp [szt]) (by simp [St.le]) ?_
    intro ⟨k, nl2, sz2⟩ ⟨hk, hnl2, hsz2⟩
    simp only at hk hnl2 hsz2
    have hsn := fun h : k < pages.length => take_snocG pages h
    have hlk : (tk pages k).length = k := tk_len pages hk
    generalize hgo : tk pages k = ps at *
    simp -dsimp
    refine VIf.mk (fun g => ?_) (fun g => ?_)
    · have hlt : k < pages.length := by simpa using g
      have hw : IntKind.i64.wrap ((k : Int) + 1) = (k : Int) + 1 := IntWalk.i64_in _ (by omega)
      replace hsn := hsn hlt
      simp -dsimp [hlt, Tou.cells, hw, maxLen]
      refine ⟨fun e => by rw [hsz2]; rw [hnl2] at e; simp [szt, e], by omega, ⟨k + 1, false, 3⟩, ⟨hlt, ?_, ?_⟩, ?_, by simp; omega⟩
      · simp only; rw [hsn]; simp
      · simp only; rw [hsn]; simp [szt]
      · simp only; rw [hsn]; simp [St.le, Tou.cells]
    · have hge : ¬ k < pages.length := by simpa using g
      obtain rfl : k = pages.length := by omega
      rw [tk_all] at hgo
      subst hgo
      simp -dsimp
      rw [hnl, hnl2]; rfl

set_option maxRecDepth 4000 in
set_option maxHeartbeats 8000000 in
theorem same_spec (r : Rep) (h1 : r.coms.length ≤ 2200000000000) (h2 : r.pages.length ≤ 2200000000000) (h3 : r.lost.length ≤ 2200000000000) : Con Try.prog 9 [.agg r.cells, .agg r.cells] [.c (.v (.bool true))] := by
  obtain ⟨coms, lost, pages, last⟩ := r
  simp only at h1 h2 h3
  refine spec_of Try.func9 rfl (by kernel_rfl) (by simp [Try.f9]) (fun w0 K0 => vc_ok _ _ _ (by kernel_rfl) ?_)
  simp only [Try.f9]
  simp -dsimp [Rep.cells]
  refine VL.loop (fun k : Nat => ⟨[(5, .c (i64 k)), (2, .ptr 128 0), (3, .ptr 192 0)], [(128, some (boxR ⟨coms, lost, pages, last⟩)), (192, some (boxR ⟨coms, lost, pages, last⟩))]⟩)
    (fun k => k ≤ coms.length) (fun k => coms.length - k) 0 (by kernel_rfl) (by simp) (by simp [St.le, boxR]) ?_
  intro k hk
  unfold boxR
  simp -dsimp
  refine VIf.mk (fun g => ?_) (fun g => ?_)
  · have hlt : k < coms.length := by simpa using g
    have hw : IntKind.i64.wrap ((k : Int) + 1) = (k : Int) + 1 := IntWalk.i64_in _ (by omega)
    refine VL.draw (by kernel_rfl) [(0, false), (1, false), (0, false), (7, false), (15, false), (0, false), (32, false), (0, false), (224, false), (480, false), (1023, true)] (by kernel_rfl) ?_
    simp -dsimp [hlt, two, hw]
    exact ⟨k + 1, hlt, by simp [St.le, boxR], by omega⟩
  simp -dsimp
  refine VL.loop (fun k : Nat => ⟨[(6, .c (i64 k)), (2, .ptr 128 0), (3, .ptr 192 0)], [(128, some (boxR ⟨coms, lost, pages, last⟩)), (192, some (boxR ⟨coms, lost, pages, last⟩))]⟩)
    (fun k => k ≤ lost.length) (fun k => lost.length - k) 0 (by kernel_rfl) (by simp) (by simp [St.le, boxR]) ?_
  intro k hk
  unfold boxR
  simp -dsimp
  refine VIf.mk (fun g => ?_) (fun g => ?_)
  · have hlt : k < lost.length := by simpa using g
    have hw : IntKind.i64.wrap ((k : Int) + 1) = (k : Int) + 1 := IntWalk.i64_in _ (by omega)
    refine VL.draw (by kernel_rfl) [(0, false), (1, false), (0, false), (7, false), (15, false), (0, false), (32, false), (0, false), (224, false), (480, false), (1023, true)] (by kernel_rfl) ?_
    simp -dsimp [hlt, hw]
    exact ⟨k + 1, hlt, by simp [St.le, boxR], by omega⟩
  simp -dsimp
  refine VL.loop (fun k : Nat => ⟨[(7, .c (i64 k)), (2, .ptr 128 0), (3, .ptr 192 0)], [(128, some (boxR ⟨coms, lost, pages, last⟩)), (192, some (boxR ⟨coms, lost, pages, last⟩))]⟩)
    (fun k => k ≤ pages.length) (fun k => pages.length - k) 0 (by kernel_rfl) (by simp) (by simp [St.le, boxR]) ?_
  intro k hk
  unfold boxR
  simp -dsimp
  refine VIf.mk (fun g => ?_) (fun g => ?_)
  · have hlt : k < pages.length := by simpa using g
    have hw : IntKind.i64.wrap ((k : Int) + 1) = (k : Int) + 1 := IntWalk.i64_in _ (by omega)
    refine VL.draw (by kernel_rfl) [(0, false), (1, false), (0, false), (7, false), (15, false), (0, false), (32, false), (0, false), (224, false), (480, false), (1023, true)] (by kernel_rfl) ?_
    simp -dsimp [hlt, Tou.cells, hw]
    exact ⟨k + 1, hlt, by simp [St.le, boxR], by omega⟩
  simp -dsimp
end Go.Proofs.Ytddhmoffjpnbgaa
