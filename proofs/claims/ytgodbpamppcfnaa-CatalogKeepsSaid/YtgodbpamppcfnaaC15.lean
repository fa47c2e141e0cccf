/- Contracts of functions of the seat, proved in a logic on data over the model (part C15). -/
import Derived.Test.YtgodbpamppcfnaaC14
set_option linter.unusedSimpArgs false
set_option linter.unusedVariables false
namespace Go.Proofs.Ytgodbpamppcfnaa
open Go.VL Go.RowKit

set_option maxRecDepth 4000 in
set_option maxHeartbeats 4000000 in
theorem copyRef_spec (t : Tab) (ho : t.Ok) : Con Try.prog 22 [.agg t.cells] [.ag ({ t with nc := false, nk := false } : Tab).cells] := by
  have h1 := ho.lc
  have h2 := ho.lk
  refine spec_of Try.func22 rfl (by kernel_rfl) (by simp [Try.f22]) (fun w0 K0 => vc_ok _ _ _ (by kernel_rfl) ?_)
  simp only [Try.f22]
  simp -dsimp [Tab.cells]
  exact ⟨by omega, by omega⟩

set_option maxRecDepth 4000 in
set_option maxHeartbeats 8000000 in
theorem tables_spec (nl : Bool) (sz : Nat) (ts : List Tab) (fx : Nat) (hnn : nl = true → ts = []) (hs : nl = false → sz = 5) (ho : ∀ t ∈ ts, t.Ok) (hl : ts.length ≤ 1000000) :
    ConB Try.prog 25 [.ptr 1 0] (catB nl sz ts fx) [.own 192 ts.length] [.ptr 1 0] (catB nl sz ts fx ++ [(192, .arr ts.isEmpty (if ts.isEmpty then 0 else 5) (ts.map Tab.cells) 0)]) := by
  refine spec_ofB 3 Try.func25 rfl (by kernel_rfl) (by simp [Try.f25]) (by simp [catB]) rfl (fun w0 K0 uf => vc_ok _ _ _ (by kernel_rfl) ?_)
  simp only [Try.f25]
  simp -dsimp [initB, initEnv, pinsOf, catB]
  refine VL.loop (fun i : LI => ⟨[(11, .c (i64 i.k)), (10, .c (i64 ts.length)), (9, .own 2 ts.length), (3, .own 192 i.k), (0, .ptr 1 0)],
    [(1, some (.box false [.own 2 ts.length])), (2, some (.arr nl sz (ts.map Tab.cells) fx)), (3, some (.pin (uf 0) (.ptr 1 0))), (192, some (.arr i.nl i.sz ((ts.map Tab.cells).take i.k) 0))]⟩)
    (fun i => i.k ≤ ts.length ∧ i.nl = (i.k == 0) ∧ i.sz = if i.nl then 0 else 5) (fun i => ts.length - i.k) ⟨0, true, 0⟩ (by kernel_rfl) (by simp) (by simp [St.le]) ?_
  intro ⟨k, z, sz2⟩ ⟨hk, hz, hsz2⟩
  simp at hk hz hsz2
  have hmin : min k ts.length = k := by omega
  simp -dsimp
  refine VIf.mk (fun h => ?_) (fun h => ?_)
  · have hlt : k < ts.length := by simpa using h
    have hw : IntKind.i64.wrap ((k : Int) + 1) = (k : Int) + 1 := IntWalk.i64_in _ (by omega)
    have hok := ho _ (List.getElem_mem hlt)
    have hsz : sz = 5 := hs (by
      cases nl with
      | false => rfl
      | true => rw [hnn rfl] at hlt; simp at hlt)
    simp -dsimp [hlt, Tab.cells]
    refine ⟨by omega, by omega, ?_⟩
    refine VC.mk _ (copied_spec ts[k] hok.nc hok.nk hok.lc hok.lk) ?_
    simp -dsimp [Tab.cells, hmin, hw, maxLen]
    refine ⟨fun e => by rw [hsz2, e]; rfl, by omega, ⟨k + 1, false, 5⟩, ⟨by simp only; omega, by simp, rfl⟩, ?_, by simp only; omega⟩
    have e : List.take (k + 1) (List.map Tab.cells ts) = List.take k (List.map Tab.cells ts) ++ [ts[k].cells] := by
      rw [List.take_add_one, List.getElem?_map, List.getElem?_eq_getElem hlt]; rfl
    simp [St.le]
    exact e.symm
  · simp at h
    obtain rfl : k = ts.length := by omega
    have hz2 : z = ts.isEmpty := by rw [hz]; cases ts <;> rfl
    have e1 : List.take ts.length (List.map Tab.cells ts) = List.map Tab.cells ts := List.take_of_length_le (by simp)
    simp -dsimp [e1, hsz2, hz2]
    simp [resEnd, catB, pinsEnd]
end Go.Proofs.Ytgodbpamppcfnaa
