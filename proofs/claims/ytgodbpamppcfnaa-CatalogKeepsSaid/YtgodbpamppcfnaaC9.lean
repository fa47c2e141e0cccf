/- Contracts of functions of the seat, proved in a logic on data over the model (part C9). -/
import Derived.Test.YtgodbpamppcfnaaC8
set_option linter.unusedSimpArgs false
set_option linter.unusedVariables false
namespace Go.Proofs.Ytgodbpamppcfnaa
open Go.VL Go.RowKit

/-- slices that are nil are empty; sizes that fit -/
structure Tab.Ok (t : Tab) : Prop where
  nc : t.nc = true → t.cols = []
  nk : t.nk = true → t.keys = []
  lc : t.cols.length ≤ 5864062014805
  lk : t.keys.length ≤ 8796093022208
def findI (ts : List Tab) (name : List UInt8) : Int := idxI (fun t => decide (t.name = name)) ts
def findT (ts : List Tab) (name : List UInt8) : Tab := ((ts.find? fun t => decide (t.name = name)).getD noTab)
def findE (ts : List Tab) (name : List UInt8) : Int := if (ts.find? fun t => decide (t.name = name)).isSome then 0 else 160

theorem find_at {ts : List Tab} {name : List UInt8} {k : Nat} (hk : k < ts.length) (hp : ts[k].name = name) (hb : ∀ j, (hj : j < k) → (ts[j]'(by omega)).name ≠ name) : ts.find? (fun t => decide (t.name = name)) = some ts[k] := by
  rw [List.find?_eq_some_iff_getElem]
  exact ⟨by simpa using hp, k, hk, rfl, fun j hj => by simpa using hb j hj⟩
theorem find_none {ts : List Tab} {name : List UInt8} (h : ∀ j, (hj : j < ts.length) → ts[j].name ≠ name) : ts.find? (fun t => decide (t.name = name)) = none := by
  rw [List.find?_eq_none]
  intro x hx
  obtain ⟨j, hj, rfl⟩ := List.mem_iff_getElem.1 hx
  simpa using h j hj

def catB (nl : Bool) (sz : Nat) (ts : List Tab) (fx : Nat) : List (Nat × Res) := [(1, .box false [.own 2 ts.length]), (2, .arr nl sz (ts.map Tab.cells) fx)]

set_option maxRecDepth 4000 in
set_option maxHeartbeats 8000000 in
theorem find_spec (nl : Bool) (sz : Nat) (ts : List Tab) (fx : Nat) (name : List UInt8) (hnn : nl = true → ts = []) (hs : nl = false → sz = 5) (ho : ∀ t ∈ ts, t.Ok) (hl : ts.length ≤ 1000000) :
    ConB Try.prog 24 [.ptr 1 0, .c (str name)] (catB nl sz ts fx) [.agg (findT ts name).cells, .c (i64 (findE ts name))] [.ptr 1 0, .c (str name)] (catB nl sz ts fx) := by
  refine spec_ofB 3 Try.func24 rfl (by kernel_rfl) (by simp [Try.f24]) (by simp [catB]) rfl (fun w0 K0 uf => vc_ok _ _ _ (by kernel_rfl) ?_)
  simp only [Try.f24]
  simp -dsimp [initB, initEnv, pinsOf, catB]
  refine VL.loop (fun k : Nat => ⟨[(13, .c (i64 k)), (12, .c (i64 ts.length)), (11, .own 2 ts.length), (0, .ptr 1 0), (1, .c (str name)), (4, .ptr 256 0)],
    [(1, some (.box false [.own 2 ts.length])), (2, some (.arr nl sz (ts.map Tab.cells) fx)), (3, some (.pin (uf 0) (.ptr 1 0))), (4, some (.pin (uf 1) (.c (str name)))),
     (256, some (.box false [.c (i64 0), .c (str []), .own 259 0, .own 260 0, .c (bln false)])), (260, some (.arr true 0 [] 0)), (259, some (.arr true 0 [] 0))]⟩)
    (fun k => k ≤ ts.length ∧ ∀ j, (hj : j < ts.length) → j < k → ts[j].name ≠ name) (fun k => ts.length - k) 0 (by kernel_rfl) (by simp) (by simp [St.le]) ?_
  intro k ⟨hk, hb⟩
  simp -dsimp
  refine VIf.mk (fun h => ?_) (fun h => ?_)
  · have hlt : k < ts.length := by simpa using h
    have hw : IntKind.i64.wrap ((k : Int) + 1) = (k : Int) + 1 := IntWalk.i64_in _ (by omega)
    have hok := ho _ (List.getElem_mem hlt)
    have hsz : sz = 5 := hs (by
      cases nl with
      | false => rfl
      | true => rw [hnn rfl] at hlt; simp at hlt)
    simp -dsimp [hlt, Tab.cells]
    refine ⟨by omega, by omega, ?_⟩
    refine VIf.mk (fun h2 => ?_) (fun h2 => ?_)
    · have h2' : ts[k].name = name := by simpa using h2
      have e : ts.find? (fun t => decide (t.name = name)) = some ts[k] := find_at hlt h2' fun j hj => hb j (by omega) hj
      simp -dsimp
      refine VC.mk _ (copied_spec ts[k] hok.nc hok.nk hok.lc hok.lk) ?_
      simp -dsimp [Tab.cells]
      simp [findT, findE, e, Tab.cells, resEnd, catB, pinsEnd]
    · have h2' : ts[k].name ≠ name := by simpa using h2
      simp -dsimp [hw]
      refine ⟨k + 1, ⟨by omega, fun j hj hlt' => ?_⟩, ?_, by omega⟩
      · by_cases e : j = k
        · subst e; exact h2'
        · exact hb j hj (by omega)
      · simp [St.le]
  · simp at h
    have e : ts.find? (fun t => decide (t.name = name)) = none := find_none fun j hj => hb j hj (by omega)
    simp -dsimp
    simp [findT, findE, e, noTab, Tab.cells, resEnd, catB, pinsEnd]
end Go.Proofs.Ytgodbpamppcfnaa
