/- Contracts of functions of the seat, proved in a logic on data over the model (part C30). -/
import Derived.Test.YtgodbpamppcfnaaC28
import Derived.Test.YtgodbpamppcfnaaC10
set_option linter.unusedSimpArgs false
set_option linter.unusedVariables false
namespace Go.Proofs.Ytgodbpamppcfnaa
open Go.VL Go.RowKit

set_option maxRecDepth 4000 in
set_option maxHeartbeats 8000000 in
theorem indexRef_spec (nl : Bool) (ts : List Tab) (name : List UInt8) (hnn : nl = true → ts = []) (hl : ts.length ≤ 1000000) :
    Con Try.prog 43 [.c (.sl nl (ts.map Tab.cells)), .c (str name)] [.c (.sl nl ((idxT ts name).map Tab.cells)), .c (i64 (idxE ts name))] := by
  cases hf : ts.findIdx? (isN name) with
  | none =>
    have e1 : idxT ts name = ts := by simp [idxT, hf]
    have e2 : idxE ts name = 160 := by simp [idxE, hf]
    have e3 : findI ts name = -1 := by
      unfold findI idxI
      have : ts.findIdx? (fun t => decide (t.name = name)) = none := hf
      rw [this]
    rw [e1, e2]
    refine spec_of Try.func43 rfl (by kernel_rfl) (by simp [Try.f43]) (fun w0 K0 => vc_ok _ _ _ (by kernel_rfl) ?_)
    simp only [Try.f43]
    simp -dsimp
    refine VC.mk _ (findRef_at nl _ ts rfl name (by omega)) ?_
    simp -dsimp [e3]
  | some k =>
    have hk := hf
    rw [List.findIdx?_eq_some_iff_getElem] at hk
    obtain ⟨hlt, hname, _⟩ := hk
    have e3 : findI ts name = k := by
      unfold findI idxI
      have : ts.findIdx? (fun t => decide (t.name = name)) = some k := hf
      rw [this]
    have e3' : ((k : Int) < 0) = False := eq_false (by omega)
    have hnl : nl = false := by
      cases nl with
      | false => rfl
      | true => rw [hnn rfl] at hlt; simp at hlt
    subst hnl
    have hg : ts[k]! = ts[k] := getElem!_pos ts k hlt
    by_cases hx : ts[k].ix = true
    · have e1 : idxT ts name = ts := by simp only [idxT, hf, hg, hx, if_true]
      have e2 : idxE ts name = 162 := by simp only [idxE, hf, hg, hx, if_true]
      rw [e1, e2]
      refine spec_of Try.func43 rfl (by kernel_rfl) (by simp [Try.f43]) (fun w0 K0 => vc_ok _ _ _ (by kernel_rfl) ?_)
      simp only [Try.f43]
      simp -dsimp
      refine VC.mk _ (findRef_at false _ ts rfl name (by omega)) ?_
      simp -dsimp [e3, e3', hlt, Tab.cells, hx]
    · have e1 : idxT ts name = ts.set k { ts[k] with ix := true } := by simp only [idxT, hf, hg]; rw [if_neg hx]
      have e2 : idxE ts name = 0 := by simp only [idxE, hf, hg]; rw [if_neg hx]
      rw [e1, e2]
      have hx' : ts[k].ix = false := by simpa using hx
      refine Con.frz (rs := [.fr false 5 ((ts.set k { ts[k] with ix := true }).map Tab.cells) 0, .c (i64 0)]) ?_ 0 rfl
      refine spec_of Try.func43 rfl (by kernel_rfl) (by simp [Try.f43]) (fun w0 K0 => vc_ok _ _ _ (by kernel_rfl) ?_)
      simp only [Try.f43]
      simp -dsimp
      refine VC.mk _ (findRef_at false _ ts rfl name (by omega)) ?_
      simp -dsimp [e3, e3', hlt, Tab.cells, hx', maxLen]
      omega
end Go.Proofs.Ytgodbpamppcfnaa
