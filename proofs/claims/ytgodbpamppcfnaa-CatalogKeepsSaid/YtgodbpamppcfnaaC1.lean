/- Contracts of functions of the seat, proved in a logic on data over the model (part C1). -/
import Derived.Test.YtgodbpamppcfnaaAC
set_option linter.unusedSimpArgs false
set_option linter.unusedVariables false
namespace Go.Proofs.Ytgodbpamppcfnaa
open Go.VL Go.RowKit

structure Col where
  name : List UInt8
  kind : Int
def Col.cells (c : Col) : List C := [str c.name, i64 c.kind]
@[simp] theorem Col.len (c : Col) : c.cells.length = 2 := rfl
def keyc (k : List UInt8) : List C := [str k]
@[simp] theorem keyc_len (k : List UInt8) : (keyc k).length = 1 := rfl
structure Tab where
  id : Int
  name : List UInt8
  nc : Bool
  cols : List Col
  nk : Bool
  keys : List (List UInt8)
  ix : Bool
def Tab.cells (t : Tab) : List C := [i64 t.id, str t.name, .sl t.nc (t.cols.map Col.cells), .sl t.nk (t.keys.map keyc), bln t.ix]

set_option maxRecDepth 4000 in
set_option maxHeartbeats 4000000 in
theorem col1_spec (c : Col) (name : List UInt8) : Con Try.prog 40 [.agg c.cells, .c (.dp [str name])] [.c (bln (decide (c.name = name)))] := by
  refine spec_of Try.func40 rfl (by kernel_rfl) (by simp [Try.f40]) (fun w0 K0 => vc_ok _ _ _ (by kernel_rfl) ?_)
  simp only [Try.f40]
  simp -dsimp [Col.cells]

set_option maxRecDepth 4000 in
set_option maxHeartbeats 4000000 in
theorem idxCol_spec (nil : Bool) (l : List Col) (fid : FuncId) (caps : List C) (p : Col → Bool) (hp : ∀ c ∈ l, Con Try.prog fid (.agg c.cells :: caps.map .c) [.c (bln (p c))]) (hl : l.length ≤ 140737488355328) :
    Con Try.prog 39 [.c (.sl nil (l.map Col.cells)), .c (.fn fid caps)] [.c (i64 (idxI p l))] := by
  refine spec_of Try.func39 rfl (by kernel_rfl) (by simp [Try.f39]) (fun w0 K0 => vc_ok _ _ _ (by kernel_rfl) ?_)
  simp only [Try.f39]
  simp -dsimp
  refine VL.loop (fun k : Nat => ⟨[(8, .c (i64 k)), (7, .c (i64 l.length)), (0, .c (.sl nil (l.map Col.cells))), (1, .c (.fn fid caps))], []⟩) (fun k => k ≤ l.length ∧ ∀ j, (hj : j < k) → (hl : j < l.length) → p l[j] = false) (fun k => l.length - k) 0 (by kernel_rfl) (by simp) (by simp [St.le]) ?_
  intro k ⟨hk, hbef⟩
  simp -dsimp
  refine VIf.mk (fun h => ?_) (fun h => ?_)
  · have hlt : k < l.length := by simpa using h
    have hw : IntKind.i64.wrap ((k : Int) + 1) = (k : Int) + 1 := IntWalk.i64_in _ (by omega)
    simp -dsimp [hlt, Col.cells]
    refine VC.mk _ (hp l[k] (by simp)) ?_
    simp -dsimp
    refine VIf.mk (fun h2 => ?_) (fun h2 => ?_)
    · simp -dsimp
      exact (idxI_at hlt h2 (fun j hj => hbef j hj (by omega))).symm
    · simp -dsimp [hw]
      refine ⟨k + 1, ⟨by omega, fun j hj hl => ?_⟩, ?_, by omega⟩
      · by_cases e : j = k
        · subst e; exact h2
        · exact hbef j (by omega) hl
      · simp [St.le]
  · simp at h
    simp -dsimp
    exact (idxI_none fun j hj => hbef j (by omega) hj).symm

set_option maxRecDepth 4000 in
set_option maxHeartbeats 4000000 in
theorem idxStr_spec (nil : Bool) (l : List (List UInt8)) (fid : FuncId) (caps : List C) (p : List UInt8 → Bool) (hp : ∀ c ∈ l, Con Try.prog fid (.c (str c) :: caps.map .c) [.c (bln (p c))]) (hl : l.length ≤ 140737488355328) :
    Con Try.prog 45 [.c (.sl nil (l.map keyc)), .c (.fn fid caps)] [.c (i64 (idxI p l))] := by
  refine spec_of Try.func45 rfl (by kernel_rfl) (by simp [Try.f45]) (fun w0 K0 => vc_ok _ _ _ (by kernel_rfl) ?_)
  simp only [Try.f45]
  simp -dsimp
  refine VL.loop (fun k : Nat => ⟨[(8, .c (i64 k)), (7, .c (i64 l.length)), (0, .c (.sl nil (l.map keyc))), (1, .c (.fn fid caps))], []⟩) (fun k => k ≤ l.length ∧ ∀ j, (hj : j < k) → (hl : j < l.length) → p l[j] = false) (fun k => l.length - k) 0 (by kernel_rfl) (by simp) (by simp [St.le]) ?_
  intro k ⟨hk, hbef⟩
  simp -dsimp
  refine VIf.mk (fun h => ?_) (fun h => ?_)
  · have hlt : k < l.length := by simpa using h
    have hw : IntKind.i64.wrap ((k : Int) + 1) = (k : Int) + 1 := IntWalk.i64_in _ (by omega)
    simp -dsimp [hlt, keyc]
    refine VC.mk _ (hp l[k] (by simp)) ?_
    simp -dsimp
    refine VIf.mk (fun h2 => ?_) (fun h2 => ?_)
    · simp -dsimp
      exact (idxI_at hlt h2 (fun j hj => hbef j hj (by omega))).symm
    · simp -dsimp [hw]
      refine ⟨k + 1, ⟨by omega, fun j hj hl => ?_⟩, ?_, by omega⟩
      · by_cases e : j = k
        · subst e; exact h2
        · exact hbef j (by omega) hl
      · simp [St.le]
  · simp at h
    simp -dsimp
    exact (idxI_none fun j hj => hbef j (by omega) hj).symm

set_option maxRecDepth 4000 in
set_option maxHeartbeats 4000000 in
theorem index_spec (nil : Bool) (l : List (List UInt8)) (x : List UInt8) (hl : l.length ≤ 140737488355328) :
    Con Try.prog 49 [.c (.sl nil (l.map keyc)), .c (str x)] [.c (i64 (idxI (fun y => decide (x = y)) l))] := by
  refine spec_of Try.func49 rfl (by kernel_rfl) (by simp [Try.f49]) (fun w0 K0 => vc_ok _ _ _ (by kernel_rfl) ?_)
  simp only [Try.f49]
  simp -dsimp
  refine VL.loop (fun k : Nat => ⟨[(8, .c (i64 k)), (7, .c (i64 l.length)), (0, .c (.sl nil (l.map keyc))), (1, .c (str x))], []⟩) (fun k => k ≤ l.length ∧ ∀ j, (hj : j < k) → (hl : j < l.length) → decide (x = l[j]) = false) (fun k => l.length - k) 0 (by kernel_rfl) (by simp) (by simp [St.le]) ?_
  intro k ⟨hk, hbef⟩
  simp -dsimp
  refine VIf.mk (fun h => ?_) (fun h => ?_)
  · have hlt : k < l.length := by simpa using h
    have hw : IntKind.i64.wrap ((k : Int) + 1) = (k : Int) + 1 := IntWalk.i64_in _ (by omega)
    simp -dsimp [hlt, keyc]
    refine VIf.mk (fun h2 => ?_) (fun h2 => ?_)
    · simp -dsimp
      exact (idxI_at hlt h2 (fun j hj => hbef j hj (by omega))).symm
    · simp -dsimp [hw]
      refine ⟨k + 1, ⟨by omega, fun j hj hl => ?_⟩, ?_, by omega⟩
      · by_cases e : j = k
        · subst e; simpa using h2
        · simpa using hbef j (by omega) hl
      · simp [St.le]
  · simp at h
    simp -dsimp
    exact (idxI_none fun j hj => hbef j (by omega) hj).symm


theorem idxI_ge {α : Type} (p : α → Bool) (l : List α) : decide (0 ≤ idxI p l) = l.any p := by
  unfold idxI
  cases h : l.findIdx? p with
  | none =>
    rw [List.findIdx?_eq_none_iff] at h
    simp
    intro x hx
    exact h x hx
  | some i =>
    rw [List.findIdx?_eq_some_iff_getElem] at h
    obtain ⟨h1, h2, _⟩ := h
    simp
    exact ⟨l[i], by simp, h2⟩

set_option maxRecDepth 4000 in
set_option maxHeartbeats 4000000 in
theorem anyStr_spec (nil : Bool) (l : List (List UInt8)) (fid : FuncId) (caps : List C) (p : List UInt8 → Bool) (hp : ∀ c ∈ l, Con Try.prog fid (.c (str c) :: caps.map .c) [.c (bln (p c))]) (hl : l.length ≤ 140737488355328) :
    Con Try.prog 33 [.c (.sl nil (l.map keyc)), .c (.fn fid caps)] [.c (bln (l.any p))] := by
  refine spec_of Try.func33 rfl (by kernel_rfl) (by simp [Try.f33]) (fun w0 K0 => vc_ok _ _ _ (by kernel_rfl) ?_)
  simp only [Try.f33]
  simp -dsimp
  refine VC.mk _ (idxStr_spec nil l fid caps p hp hl) ?_
  simp -dsimp [idxI_ge]

set_option maxRecDepth 4000 in
set_option maxHeartbeats 4000000 in
theorem anyCol_spec (nil : Bool) (l : List Col) (fid : FuncId) (caps : List C) (p : Col → Bool) (hp : ∀ c ∈ l, Con Try.prog fid (.agg c.cells :: caps.map .c) [.c (bln (p c))]) (hl : l.length ≤ 140737488355328) :
    Con Try.prog 34 [.c (.sl nil (l.map Col.cells)), .c (.fn fid caps)] [.c (bln (l.any p))] := by
  refine spec_of Try.func34 rfl (by kernel_rfl) (by simp [Try.f34]) (fun w0 K0 => vc_ok _ _ _ (by kernel_rfl) ?_)
  simp only [Try.f34]
  simp -dsimp
  refine VC.mk _ (idxCol_spec nil l fid caps p hp hl) ?_
  simp -dsimp [idxI_ge]

set_option maxRecDepth 4000 in
set_option maxHeartbeats 4000000 in
theorem contains_spec (nil : Bool) (l : List (List UInt8)) (x : List UInt8) (hl : l.length ≤ 140737488355328) :
    Con Try.prog 46 [.c (.sl nil (l.map keyc)), .c (str x)] [.c (bln (l.any fun y => decide (x = y)))] := by
  refine spec_of Try.func46 rfl (by kernel_rfl) (by simp [Try.f46]) (fun w0 K0 => vc_ok _ _ _ (by kernel_rfl) ?_)
  simp only [Try.f46]
  simp -dsimp
  refine VC.mk _ (index_spec nil l x hl) ?_
  simp -dsimp [idxI_ge]

/-- the place of a column -/
def place (t : Tab) (name : List UInt8) : Int := idxI (fun c => decide (c.name = name)) t.cols
set_option maxRecDepth 4000 in
set_option maxHeartbeats 4000000 in
theorem column_spec (t : Tab) (name : List UInt8) (hl : t.cols.length ≤ 140737488355328) : Con Try.prog 16 [.agg t.cells, .c (str name)] [.c (i64 (place t name))] := by
  refine spec_of Try.func16 rfl (by kernel_rfl) (by simp [Try.f16]) (fun w0 K0 => vc_ok _ _ _ (by kernel_rfl) ?_)
  simp only [Try.f16]
  simp -dsimp [Tab.cells]
  refine VC.mk _ (idxCol_spec t.nc t.cols 40 [.dp [str name]] _ (fun c _ => col1_spec c name) hl) ?_
  simp -dsimp [place]
end Go.Proofs.Ytgodbpamppcfnaa
