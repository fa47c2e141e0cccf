/- Contracts: does a fact fit a table; the terms that hold where there are none. -/
import Derived.Test.YtkfiiomdkljjnaaD3
set_option linter.unusedSimpArgs false
set_option linter.unusedVariables false
namespace Go.Proofs.Ytkfiiomdkljjnaa
open Go.VL Go.RowKit

structure Col where
  name : List UInt8
  kind : Int
def Col.cells (c : Col) : List C := [str c.name, i64 c.kind]
@[simp] theorem Col.len (c : Col) : c.cells.length = 2 := rfl
def keyc (k : List UInt8) : List C := [str k]
@[simp] theorem keyc_len (k : List UInt8) : (keyc k).length = 1 := rfl
structure Tab where
  id : Int
  name : List UInt8
  nc : Bool
  cols : List Col
  nk : Bool
  keys : List (List UInt8)
  ix : Bool
def Tab.cells (t : Tab) : List C := [i64 t.id, str t.name, .sl t.nc (t.cols.map Col.cells), .sl t.nk (t.keys.map keyc), bln t.ix]

def kindsK (r : List Val) (c : List Col) (k : Nat) : Prop := ∀ j, (h : j < r.length) → (h' : j < c.length) → j < k → r[j].kind = c[j].kind
noncomputable instance (r : List Val) (c : List Col) (k : Nat) : Decidable (kindsK r c k) := Classical.propDecidable _
noncomputable def fitsOf (t : Tab) (f : Fact) : Int :=
  if f.row.length ≠ t.cols.length then 1 else if kindsK f.row t.cols f.row.length then (if badR f.row ≠ 0 then badR f.row else checkOf f.p) else 170
theorem kindsK_step {r : List Val} {c : List Col} {k : Nat} (h : k < r.length) (h' : k < c.length) (hb : kindsK r c k) (e : r[k].kind = c[k].kind) : kindsK r c (k + 1) := by
  intro j hj hj' hlt
  by_cases e2 : j = k
  · subst e2; exact e
  · exact hb j hj hj' (by omega)

set_option maxRecDepth 4000 in
set_option maxHeartbeats 8000000 in
theorem fits_spec (t : Tab) (f : Fact) (hr : f.row.length ≤ 140737488355328) : Con Try.prog 13 [.agg t.cells, .agg f.cells] [.c (i64 (fitsOf t f))] := by
  refine spec_of Try.func13 rfl (by kernel_rfl) (by simp [Try.f13]) (fun w0 K0 => vc_ok _ _ _ (by kernel_rfl) ?_)
  simp only [Try.f13]
  simp -dsimp [Tab.cells, Fact.cells]
  refine VIf.mk (fun h => ?_) (fun h => ?_)
  · simp -dsimp
    simp at h
    unfold fitsOf
    rw [if_pos (by omega)]
  have hlen : f.row.length = t.cols.length := by simp at h; omega
  have hne : ¬ f.row.length ≠ t.cols.length := by omega
  simp -dsimp
  refine VL.loop (fun k : Nat => ⟨[(18, .c (i64 k)), (17, .c (i64 f.row.length)), (16, .c (.sl f.nl (vals f.row))), (2, .ptr 128 0), (3, .ptr 192 0)],
      [(128, some (.box false [.c (i64 t.id), .c (str t.name), .c (.sl t.nc (t.cols.map Col.cells)), .c (.sl t.nk (t.keys.map keyc)), .c (bln t.ix)])), (192, some (.box false [.c (.sl f.nl (vals f.row)), .c (i64 f.p.f), .c (i64 f.p.t)]))]⟩)
    (fun k => k ≤ f.row.length ∧ kindsK f.row t.cols k) (fun k => f.row.length - k) 0 (by kernel_rfl) ⟨by simp, fun j _ _ h => by omega⟩ (by simp [St.le]) ?_
  intro k ⟨hk, hb⟩
  by_cases h1 : k < f.row.length
  · have h2 : k < t.cols.length := by omega
    have hw : IntKind.i64.wrap ((k : Int) + 1) = (k : Int) + 1 := IntWalk.i64_in _ (by omega)
    simp -dsimp [h1, h2, Val.cells]
    refine VL.draw (by kernel_rfl) [(0, false), (1, false), (0, false), (4, false), (0, false), (28, false), (60, false), (124, false), (255, true)] (by kernel_rfl) ?_
    simp -dsimp [h1, h2, Col.cells]
    refine VIf.mk (fun h3 => ?_) (fun h3 => ?_)
    · simp at h3
      simp -dsimp
      unfold fitsOf
      rw [if_neg hne, if_neg]
      intro e; exact h3 (e k h1 h2 h1)
    · simp at h3
      simp -dsimp [hw]
      refine ⟨k + 1, ⟨by omega, kindsK_step h1 h2 hb h3⟩, ?_, by omega⟩
      simp [St.le]
  · obtain rfl : k = f.row.length := by omega
    simp -dsimp
    refine VC.mk _ (checkV_spec _ _ (by omega)) ?_
    simp -dsimp
    refine VIf.mk (fun h3 => ?_) (fun h3 => ?_)
    · simp at h3
      simp -dsimp
      unfold fitsOf
      rw [if_neg hne, if_pos hb, if_pos h3]
    · simp at h3
      simp -dsimp
      refine VC.mk _ (check_at _ f.p rfl) ?_
      simp -dsimp
      unfold fitsOf
      rw [if_neg hne, if_pos hb, if_neg (by simp [h3])]

set_option maxRecDepth 4000 in
set_option maxHeartbeats 8000000 in
theorem refFits_spec (t : Tab) (f : Fact) (hr : f.row.length ≤ 140737488355328) : Con Try.prog 14 [.agg t.cells, .agg f.cells] [.c (i64 (fitsOf t f))] := by
  refine spec_of Try.func14 rfl (by kernel_rfl) (by simp [Try.f14]) (fun w0 K0 => vc_ok _ _ _ (by kernel_rfl) ?_)
  simp only [Try.f14]
  simp -dsimp [Tab.cells, Fact.cells]
  refine VIf.mk (fun h => ?_) (fun h => ?_)
  · simp -dsimp
    simp at h
    unfold fitsOf
    rw [if_pos (by omega)]
  have hlen : f.row.length = t.cols.length := by simp at h; omega
  have hne : ¬ f.row.length ≠ t.cols.length := by omega
  simp -dsimp
  refine VL.loop (fun k : Nat => ⟨[(5, .c (i64 k)), (2, .ptr 128 0), (3, .ptr 192 0)],
      [(128, some (.box false [.c (i64 t.id), .c (str t.name), .c (.sl t.nc (t.cols.map Col.cells)), .c (.sl t.nk (t.keys.map keyc)), .c (bln t.ix)])), (192, some (.box false [.c (.sl f.nl (vals f.row)), .c (i64 f.p.f), .c (i64 f.p.t)]))]⟩)
    (fun k => k ≤ f.row.length ∧ kindsK f.row t.cols k) (fun k => f.row.length - k) 0 (by kernel_rfl) ⟨by simp, fun j _ _ h => by omega⟩ (by simp [St.le]) ?_
  intro k ⟨hk, hb⟩
  by_cases h1 : k < f.row.length
  · have h2 : k < t.cols.length := by omega
    have hw : IntKind.i64.wrap ((k : Int) + 1) = (k : Int) + 1 := IntWalk.i64_in _ (by omega)
    simp -dsimp [h1, h2, Val.cells]
    refine VL.draw (by kernel_rfl) [(0, false), (1, false), (0, false), (7, false), (15, false), (31, false), (0, false), (64, false), (0, false), (448, false), (960, false), (1984, false), (4095, true)] (by kernel_rfl) ?_
    simp -dsimp [h1, h2, Col.cells, Val.cells]
    refine VIf.mk (fun h3 => ?_) (fun h3 => ?_)
    · simp at h3
      simp -dsimp
      unfold fitsOf
      rw [if_neg hne, if_neg]
      intro e; exact h3 (e k h1 h2 h1)
    · simp at h3
      simp -dsimp [hw]
      refine ⟨k + 1, ⟨by omega, kindsK_step h1 h2 hb h3⟩, ?_, by omega⟩
      simp [St.le]
  · obtain rfl : k = f.row.length := by omega
    simp -dsimp
    refine VC.mk _ (refCheckV_spec _ _ (by omega)) ?_
    simp -dsimp
    refine VIf.mk (fun h3 => ?_) (fun h3 => ?_)
    · simp at h3
      simp -dsimp
      unfold fitsOf
      rw [if_neg hne, if_pos hb, if_pos h3]
    · simp at h3
      simp -dsimp
      refine VC.mk _ (refRight_at _ f.p rfl) ?_
      simp -dsimp
      refine VIf.mk (fun h4 => ?_) (fun h4 => ?_)
      · simp at h4
        simp -dsimp
        unfold fitsOf
        rw [if_neg hne, if_pos hb, if_neg (by simp [h3])]
        simp [checkOf, h4]
      · simp at h4
        simp -dsimp
        unfold fitsOf
        rw [if_neg hne, if_pos hb, if_neg (by simp [h3])]
        simp [checkOf, h4]

set_option maxRecDepth 4000 in
set_option maxHeartbeats 8000000 in
theorem holds_nil (nl nw : Bool) (l : List Val) : Con Try.prog 28 [.c (.sl nl (vals l)), .c (.sl nw [])] [.c (bln true)] := by
  refine spec_of Try.func28 rfl (by kernel_rfl) (by simp [Try.f28]) (fun w0 K0 => vc_ok _ _ _ (by kernel_rfl) ?_)
  simp only [Try.f28]
  simp -dsimp
  refine VL.loop (fun _ : Unit => ⟨[(11, .c (i64 0)), (10, .c (i64 0))], []⟩) (fun _ => True) (fun _ => 0) () (by kernel_rfl) trivial (by simp [St.le]) ?_
  intro _ _
  simp -dsimp
end Go.Proofs.Ytkfiiomdkljjnaa
