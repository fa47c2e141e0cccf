/- Contracts of functions of the seat, proved in a logic on data over the model (part C11). -/
import Derived.Test.YtgodbpamppcfnaaC10
import Derived.Test.YtgodbpamppcfnaaC6
import Derived.Test.YtgodbpamppcfnaaVC
set_option linter.unusedSimpArgs false
set_option linter.unusedVariables false
namespace Go.Proofs.Ytgodbpamppcfnaa
open Go.VL Go.RowKit

def newT (ts : List Tab) (name : List UInt8) (nc : Bool) (cols : List Col) (nk : Bool) (keys : List (List UInt8)) : Tab := ⟨ts.length + 1, name, nc, cols, nk, keys, false⟩
def creE (ts : List Tab) (t : Tab) : Int := if chk t ≠ 0 then chk t else if findE ts t.name = 0 then 162 else if ts.length = 16 then 3 else 0
def creT (ts : List Tab) (t : Tab) : List Tab := if creE ts t = 0 then ts ++ [t] else ts
def creN (ts : List Tab) (t : Tab) : Int := if creE ts t = 0 then t.id else 0

def creB (nl : Bool) (sz : Nat) (ts : List Tab) (t : Tab) : List (Nat × Res) :=
  if creE ts t = 0 then [(1, .box false [.own 3392 (ts.length + 1)]), (3392, .arr false 5 ((ts ++ [t]).map Tab.cells) 0)] else catB nl sz ts 0

theorem copied_at (cs : List C) (t : Tab) (h : cs = t.cells) (ho : t.Ok) : Con Try.prog 41 [.agg cs] [.ag t.cells] := by rw [h]; exact copied_spec t ho.nc ho.nk ho.lc ho.lk

set_option maxRecDepth 4000 in
set_option maxHeartbeats 8000000 in
theorem create_spec0 (nl : Bool) (sz : Nat) (ts : List Tab) (t : Tab) (hid : t.id = ts.length + 1) (hix : t.ix = false) (hnn : nl = true → ts = []) (hs : nl = false → sz = 5) (ho : ∀ t ∈ ts, t.Ok) (hot : t.Ok) (hl : ts.length ≤ 100000) :
    ConB Try.prog 23 [.ptr 1 0, .c (str t.name), .c (.sl t.nc (t.cols.map Col.cells)), .c (.sl t.nk (t.keys.map keyc))] (catB nl sz ts 0) [.c (i64 (creN ts t)), .c (i64 (creE ts t))]
      [.ptr 1 0, .c (str t.name), .c (.sl t.nc (t.cols.map Col.cells)), .c (.sl t.nk (t.keys.map keyc))] (creB nl sz ts t) := by
  refine spec_ofB 3 Try.func23 rfl (by kernel_rfl) (by simp [Try.f23]) (by simp [catB]) rfl (fun w0 K0 uf => vc_ok _ _ _ (by kernel_rfl) ?_)
  simp only [Try.f23]
  have hw : IntKind.i64.wrap ((ts.length : Int) + 1) = (ts.length : Int) + 1 := IntWalk.i64_in _ (by omega)
  simp -dsimp [initB, initEnv, pinsOf, catB, hw]
  refine VC.mk _ (copied_at _ t (by simp [Tab.cells, hid, hix]) hot) ?_
  simp -dsimp [Tab.cells]
  refine VC.mk _ (check_at _ t (by simp [Tab.cells]) (by have := hot.lc; omega) (by have := hot.lk; omega)) ?_
  simp -dsimp
  refine VIf.mk (fun h => ?_) (fun h => ?_)
  · have hc : chk t ≠ 0 := by simpa using h
    have e : creE ts t = chk t := by simp [creE, hc]
    simp -dsimp
    simp [creN, creB, e, hc, resEnd, catB, pinsEnd]
  · have hc : chk t = 0 := by simpa using h
    simp -dsimp
    refine VCL.lend (catB nl sz ts 0) (catB nl sz ts 0) [.ptr 1 0, .c (str t.name)] _ _ id [2] ⟨find_spec nl sz ts 0 t.name hnn hs ho (by omega), ?_, ?_, ?_, ?_, ?_, ?_, ?_⟩ ?_
    · simp [renSs, renS]
    · simp [catB, renR, renSs, renS]
    · simp [catB]
    · simp [catB]
    · simp [catB, Res.nam, S.nams, S.nam]
    · simp [S.nams, S.nam]
    · simp [catB, lk, keptP]
    simp -dsimp [catB, retS, renSs, renS]
    refine ⟨rfl, ?_⟩
    refine VIf.mk (fun h2 => ?_) (fun h2 => ?_)
    · have hf : findE ts t.name = 0 := by simpa using h2
      have e : creE ts t = 162 := by simp [creE, hc, hf]
      simp -dsimp
      simp [creN, creB, e, resEnd, catB, pinsEnd]
    · have hf : findE ts t.name ≠ 0 := by simpa using h2
      simp -dsimp
      refine VIf.mk (fun h3 => ?_) (fun h3 => ?_)
      · have hl16 : ts.length = 16 := by simp at h3; omega
        have e : creE ts t = 3 := by simp [creE, hc, hf, hl16]
        simp -dsimp
        simp [creN, creB, e, resEnd, catB, pinsEnd]
      · have hl16 : ts.length ≠ 16 := by simp at h3; omega
        have e : creE ts t = 0 := by simp [creE, hc, hf, hl16]
        simp -dsimp
        refine VL.to ⟨[(0, .ptr 1 0), (10, .ptr 640 0)],
          [(1, some (.box false [.own 2 ts.length])), (2, some (.arr nl sz (ts.map Tab.cells) 0)), (3, some (.pin (uf 0) (.ptr 1 0))), (4, some (.pin (uf 1) (.c (str t.name)))),
           (5, some (.pin (uf 2) (.c (.sl t.nc (t.cols.map Col.cells))))), (6, some (.pin (uf 3) (.c (.sl t.nk (t.keys.map keyc))))), (640, some t.box)]⟩ (by simp [St.le, Tab.box]) ?_
        refine VL.draw (by kernel_rfl) [(0, false), (0, false), (2, false), (6, false), (14, false), (0, false), (32, false), (126, false), (255, true), (511, true), (1023, true)] (by kernel_rfl) ?_
        simp -dsimp [maxLen, Tab.box]
        refine ⟨hs, by omega, ⟨by simp [creN, e], e.symm⟩, ?_⟩
        simp [creB, e, resEnd, Tab.cells]

/-- Create -/
theorem create_spec (nl : Bool) (sz : Nat) (ts : List Tab) (t : Tab) (hid : t.id = ts.length + 1) (hix : t.ix = false) (hnn : nl = true → ts = []) (hs : nl = false → sz = 5) (ho : ∀ t ∈ ts, t.Ok) (hot : t.Ok) (hl : ts.length ≤ 100000) :
    ConB Try.prog 23 [.ptr 1 0, .c (str t.name), .c (.sl t.nc (t.cols.map Col.cells)), .c (.sl t.nk (t.keys.map keyc))] (catB nl sz ts 0) [.c (i64 (creN ts t)), .c (i64 (creE ts t))]
      [.ptr 1 0, .c (str t.name), .c (.sl t.nc (t.cols.map Col.cells)), .c (.sl t.nk (t.keys.map keyc))] (catB (nl && decide (creE ts t ≠ 0)) (if creE ts t = 0 then 5 else sz) (creT ts t) 0) := by
  have h := create_spec0 nl sz ts t hid hix hnn hs ho hot hl
  by_cases e : creE ts t = 0
  · refine h.swap 2 3392 (by simp [renSs, renS]) (by simp [renSs, renS, swp]) ?_
    simp [creB, e, creT, catB, resEnd, someR, St.ren, renR, renSs, renS, swp]
  · have : creB nl sz ts t = catB (nl && decide (creE ts t ≠ 0)) (if creE ts t = 0 then 5 else sz) (creT ts t) 0 := by simp [creB, creT, e]
    rw [← this]; exact h
end Go.Proofs.Ytgodbpamppcfnaa
