/- Contracts of functions of the seat, proved in a logic on data over the model (part C10). -/
import Derived.Test.YtgodbpamppcfnaaC9
set_option linter.unusedSimpArgs false
set_option linter.unusedVariables false
namespace Go.Proofs.Ytgodbpamppcfnaa
open Go.VL Go.RowKit

instance : Inhabited Tab := ⟨noTab⟩
def isN (name : List UInt8) (t : Tab) : Bool := decide (t.name = name)
def idxE (ts : List Tab) (name : List UInt8) : Int :=
  match ts.findIdx? (isN name) with
  | some k => if ts[k]!.ix then 162 else 0
  | none => 160
def idxT (ts : List Tab) (name : List UInt8) : List Tab :=
  match ts.findIdx? (isN name) with
  | some k => if ts[k]!.ix then ts else ts.set k { ts[k]! with ix := true }
  | none => ts
@[simp] theorem idxT_len (ts : List Tab) (name : List UInt8) : (idxT ts name).length = ts.length := by
  unfold idxT
  split
  · split <;> simp
  · rfl

set_option maxRecDepth 4000 in
set_option maxHeartbeats 8000000 in
theorem setIx_spec (nl : Bool) (sz : Nat) (ts : List Tab) (name : List UInt8) (hnn : nl = true → ts = []) (hs : nl = false → sz = 5) (hl : ts.length ≤ 1000000) :
    ConB Try.prog 28 [.ptr 1 0, .c (str name)] (catB nl sz ts 0) [.c (i64 (idxE ts name))] [.ptr 1 0, .c (str name)] (catB nl sz (idxT ts name) 0) := by
  refine spec_ofB 3 Try.func28 rfl (by kernel_rfl) (by simp [Try.f28]) (by simp [catB]) rfl (fun w0 K0 uf => vc_ok _ _ _ (by kernel_rfl) ?_)
  simp only [Try.f28]
  simp -dsimp [initB, initEnv, pinsOf, catB]
  refine VL.loop (fun k : Nat => ⟨[(12, .c (i64 k)), (11, .c (i64 ts.length)), (0, .ptr 1 0), (1, .c (str name))],
    [(1, some (.box false [.own 2 ts.length])), (2, some (.arr nl sz (ts.map Tab.cells) 0)), (3, some (.pin (uf 0) (.ptr 1 0))), (4, some (.pin (uf 1) (.c (str name))))]⟩)
    (fun k => k ≤ ts.length ∧ ∀ j, (hj : j < ts.length) → j < k → ts[j].name ≠ name) (fun k => ts.length - k) 0 (by kernel_rfl) (by simp) (by simp [St.le]) ?_
  intro k ⟨hk, hb⟩
  simp -dsimp
  refine VIf.mk (fun h => ?_) (fun h => ?_)
  · have hlt : k < ts.length := by simpa using h
    have hw : IntKind.i64.wrap ((k : Int) + 1) = (k : Int) + 1 := IntWalk.i64_in _ (by omega)
    have hsz : sz = 5 := hs (by
      cases nl with
      | false => rfl
      | true => rw [hnn rfl] at hlt; simp at hlt)
    subst hsz
    simp -dsimp [hlt, Tab.cells]
    refine VIf.mk (fun h2 => ?_) (fun h2 => ?_)
    · have h2' : ts[k].name = name := by simpa using h2
      have e : ts.findIdx? (isN name) = some k := by
        rw [List.findIdx?_eq_some_iff_getElem]
        exact ⟨hlt, by simp [isN, h2'], fun j hj => by simpa [isN] using hb j (by omega) hj⟩
      have eg : ts[k]! = ts[k] := getElem!_pos ts k hlt
      simp -dsimp [hlt, Tab.cells]
      refine VIf.mk (fun h3 => ?_) (fun h3 => ?_)
      · simp -dsimp
        simp [idxE, idxT, e, eg, h3, resEnd, catB, pinsEnd]
      · simp -dsimp [hlt]
        have e3 : (ts.map Tab.cells).set k [i64 ts[k].id, str ts[k].name, .sl ts[k].nc (ts[k].cols.map Col.cells), .sl ts[k].nk (ts[k].keys.map keyc), bln true] = (ts.set k { ts[k] with ix := true }).map Tab.cells := by
          rw [List.map_set]; rfl
        simp [idxE, idxT, e, eg, h3, resEnd, catB, pinsEnd]
        rfl
    · have h2' : ts[k].name ≠ name := by simpa using h2
      simp -dsimp [hw]
      refine ⟨k + 1, ⟨by omega, fun j hj hlt' => ?_⟩, ?_, by omega⟩
      · by_cases e : j = k
        · subst e; exact h2'
        · exact hb j hj (by omega)
      · simp [St.le]
  · simp at h
    have e : ts.findIdx? (isN name) = none := by
      rw [List.findIdx?_eq_none_iff]
      intro x hx
      obtain ⟨j, hj, rfl⟩ := List.mem_iff_getElem.1 hx
      simpa [isN] using hb j hj (by omega)
    simp -dsimp
    simp [idxE, idxT, e, resEnd, catB, pinsEnd]
end Go.Proofs.Ytgodbpamppcfnaa
