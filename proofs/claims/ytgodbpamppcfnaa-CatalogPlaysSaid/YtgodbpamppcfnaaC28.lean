/- Contracts of functions of the seat, proved in a logic on data over the model (part C28). -/
import Derived.Test.YtgodbpamppcfnaaC22
import Derived.Test.YtgodbpamppcfnaaC15
import Derived.Test.YtgodbpamppcfnaaC11
import Derived.Test.YtgodbpamppcfnaaV30
set_option linter.unusedSimpArgs false
set_option linter.unusedVariables false
namespace Go.Proofs.Ytgodbpamppcfnaa
open Go.VL Go.RowKit

theorem findRef_at (nl : Bool) (xs : List (List C)) (ts : List Tab) (h : xs = ts.map Tab.cells) (name : List UInt8) (hl : ts.length ≤ 140737488355328) : Con Try.prog 44 [.c (.sl nl xs), .c (str name)] [.c (i64 (findI ts name))] := by rw [h]; exact findRef_spec nl ts name hl
theorem copyRef_at (cs : List C) (t : Tab) (h : cs = t.cells) (ho : t.Ok) : Con Try.prog 22 [.agg cs] [.ag ({ t with nc := false, nk := false } : Tab).cells] := by rw [h]; exact copyRef_spec t ho

def creRE (ts : List Tab) (t : Tab) : Int := if chk t ≠ 0 then chk t else if 0 ≤ findI ts t.name then 162 else if 16 ≤ ts.length then 3 else 0
def creRT (ts : List Tab) (t : Tab) : List Tab := if creRE ts t = 0 then ts ++ [⟨ts.length + 1, t.name, false, t.cols, false, t.keys, false⟩] else ts
def creRN (ts : List Tab) (t : Tab) : Int := if creRE ts t = 0 then ts.length + 1 else 0

theorem findI_neg (ts : List Tab) (name : List UInt8) : findI ts name < 0 ↔ (ts.find? fun t => decide (t.name = name)) = none := by
  unfold findI idxI
  cases h : ts.findIdx? (fun t => decide (t.name = name)) with
  | none =>
    rw [List.findIdx?_eq_none_iff] at h
    rw [List.find?_eq_none]
    constructor
    · intro _ x hx
      simpa using h x hx
    · intro _
      show (-1 : Int) < 0
      decide
  | some k =>
    rw [List.findIdx?_eq_some_iff_getElem] at h
    obtain ⟨h1, h2, _⟩ := h
    show ((k : Int) < 0) ↔ _
    constructor
    · intro h; omega
    · intro h
      rw [List.find?_eq_none] at h
      exact absurd h2 (h _ (by simp))

set_option maxRecDepth 4000 in
set_option maxHeartbeats 8000000 in
theorem createRef_spec (nl : Bool) (ts : List Tab) (t : Tab) (hnn : nl = true → ts = []) (ho : t.Ok) (hl : ts.length ≤ 16) :
    Con Try.prog 42 [.c (.sl nl (ts.map Tab.cells)), .agg t.cells] [.c (.sl (nl && decide (creRE ts t ≠ 0)) ((creRT ts t).map Tab.cells)), .c (i64 (creRN ts t)), .c (i64 (creRE ts t))] := by
  by_cases he : creRE ts t = 0
  · have e1 : creRT ts t = ts ++ [⟨ts.length + 1, t.name, false, t.cols, false, t.keys, false⟩] := by simp [creRT, he]
    have e2 : creRN ts t = ts.length + 1 := by simp [creRN, he]
    have e3 : (nl && decide (creRE ts t ≠ 0)) = false := by simp [he]
    rw [e3, e2, e1, he]
    have hc : chk t = 0 := by
      refine Classical.byContradiction fun hh => ?_
      simp [creRE, hh] at he
    have hf : ¬ 0 ≤ findI ts t.name := fun hh => by simp [creRE, hc, hh] at he
    have hl16 : ¬ 16 ≤ ts.length := fun hh => by simp [creRE, hc, hf, hh] at he
    refine Con.frz (rs := [.fr false 5 ((ts ++ [(⟨ts.length + 1, t.name, false, t.cols, false, t.keys, false⟩ : Tab)]).map Tab.cells) 0, .c (i64 (ts.length + 1)), .c (i64 0)]) ?_ 0 rfl
    refine spec_of Try.func42 rfl (by kernel_rfl) (by simp [Try.f42]) (fun w0 K0 => vc_ok _ _ _ (by kernel_rfl) ?_)
    simp only [Try.f42]
    have hw : IntKind.i64.wrap ((ts.length : Int) + 1) = (ts.length : Int) + 1 := IntWalk.i64_in _ (by omega)
    have hf' : decide (0 ≤ findI ts t.name) = false := decide_eq_false hf
    have hl' : decide ((16 : Int) ≤ (ts.length : Int)) = false := decide_eq_false (by omega)
    simp -dsimp [Tab.cells]
    refine VC.mk _ (checkRef_at _ t (by simp [Tab.cells]) (by have := ho.lc; omega) (by have := ho.lk; omega)) ?_
    simp -dsimp [hc]
    refine VC.mk _ (findRef_at nl _ ts rfl t.name (by omega)) ?_
    simp -dsimp [hf', hl']
    refine VC.mk _ (copyRef_at _ t (by simp [Tab.cells]) ho) ?_
    simp -dsimp [Tab.cells, hw, maxLen]
    refine ⟨by omega, ?_⟩
    refine VL.draw (by kernel_rfl) [(0, false), (0, false), (2, false), (7, false), (0, false), (16, false), (15, false), (127, true), (255, true)] (by kernel_rfl) ?_
    simp -dsimp [maxLen]
    exact ⟨by omega, rfl⟩
  · have e1 : creRT ts t = ts := by simp [creRT, he]
    have e2 : creRN ts t = 0 := by simp [creRN, he]
    have e3 : (nl && decide (creRE ts t ≠ 0)) = nl := by simp [he]
    rw [e3, e2, e1]
    refine spec_of Try.func42 rfl (by kernel_rfl) (by simp [Try.f42]) (fun w0 K0 => vc_ok _ _ _ (by kernel_rfl) ?_)
    simp only [Try.f42]
    simp -dsimp [Tab.cells]
    refine VC.mk _ (checkRef_at _ t (by simp [Tab.cells]) (by have := ho.lc; omega) (by have := ho.lk; omega)) ?_
    simp -dsimp
    refine VIf.mk (fun h => ?_) (fun h => ?_)
    · have hc : chk t ≠ 0 := by simpa using h
      have e : creRE ts t = chk t := by simp [creRE, hc]
      simp -dsimp [e]
    · have hc : chk t = 0 := by simpa using h
      simp -dsimp
      refine VC.mk _ (findRef_at nl _ ts rfl t.name (by omega)) ?_
      simp -dsimp
      refine VIf.mk (fun h2 => ?_) (fun h2 => ?_)
      · have hf : 0 ≤ findI ts t.name := by simpa using h2
        have e : creRE ts t = 162 := by simp [creRE, hc, hf]
        simp -dsimp [e]
      · have hf : ¬ 0 ≤ findI ts t.name := by simpa using h2
        simp -dsimp
        refine VIf.mk (fun h3 => ?_) (fun h3 => ?_)
        · have hl16 : 16 ≤ ts.length := by simp at h3; omega
          have e : creRE ts t = 3 := by simp only [creRE, hc]; rw [if_neg (by simp), if_neg hf, if_pos hl16]
          simp -dsimp [e]
        · exfalso
          have hl16 : ¬ 16 ≤ ts.length := by simp at h3; omega
          exact he (by simp only [creRE, hc]; rw [if_neg (by simp), if_neg hf, if_neg hl16])
end Go.Proofs.Ytgodbpamppcfnaa
