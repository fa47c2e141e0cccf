/- Contracts of functions of the seat, proved in a logic on data over the model (part T11). -/
import Derived.Test.YtddhmoffjpnbgaaT10
import Derived.Test.YtddhmoffjpnbgaaT7
set_option linter.unusedSimpArgs false
set_option linter.unusedVariables false
namespace Go.Proofs.Ytddhmoffjpnbgaa
open Go.VL Go.RowKit

/-- an entry in new memory -/
def Ent.fresh (e : Ent) : Ent := { e with nil := false }
structure CI where
  k : Nat
  nl : Bool
  sz : Nat
def szE (l : List Ent) : Nat := if l.isEmpty then 0 else 6
def frs (l : List Ent) : List Ent := l.map Ent.fresh
theorem frs_snoc (l : List Ent) {k : Nat} (h : k < l.length) : frs (l.take (k + 1)) = frs (l.take k) ++ [l[k].fresh] := by
  unfold frs; rw [List.take_succ_eq_append_getElem h, List.map_append]; rfl

set_option maxRecDepth 4000 in
set_option maxHeartbeats 8000000 in
theorem copied_spec (nl : Bool) (l : List Ent) (hl : l.length ≤ 2199023255552) (hd : ∀ e ∈ l, e.data.length ≤ 140737488355328) : Con Try.prog 11 [.c (.sl nl (l.map Ent.cells))] [.fr l.isEmpty (szE l) ((frs l).map Ent.cells) 0] := by
  refine spec_of Try.func11 rfl (by kernel_rfl) (by simp [Try.f11]) (fun w0 K0 => vc_ok _ _ _ (by kernel_rfl) ?_)
  simp only [Try.f11]
  simp -dsimp
  refine VL.loop (fun i : CI => ⟨[(8, .c (i64 i.k)), (7, .c (i64 l.length)), (6, .c (.sl nl (l.map Ent.cells))), (3, .own 192 (frs (l.take i.k)).length)],
      [(192, some (.arr i.nl i.sz ((frs (l.take i.k)).map Ent.cells) 0))]⟩)
    (fun i => i.k ≤ l.length ∧ i.nl = (frs (l.take i.k)).isEmpty ∧ i.sz = szE (frs (l.take i.k))) (fun i => l.length - i.k) ⟨0, true, 0⟩ (by kernel_rfl) (by simp [frs, szE]) (by simp [St.le, frs]) ?_
  intro ⟨k, nl', sz⟩ ⟨hk, hnl, hsz⟩
  simp only at hk hnl hsz
  have hsn := fun h : k < l.length => frs_snoc l h
  have hlk : (frs (l.take k)).length = k := by unfold frs; rw [List.length_map, List.length_take]; omega
  simp -dsimp
  refine VIf.mk (fun g => ?_) (fun g => ?_)
  · have hlt : k < l.length := by simpa using g
    have hw : IntKind.i64.wrap ((k : Int) + 1) = (k : Int) + 1 := IntWalk.i64_in _ (by omega)
    replace hsn := hsn hlt
    have hdk := hd _ (List.getElem_mem hlt)
    simp -dsimp [hlt, Ent.cells, hw, maxLen]
    refine ⟨by omega, fun e => by rw [hsz]; rw [hnl] at e; simp [szE, e], by omega, ⟨k + 1, false, 6⟩, ⟨hlt, ?_, ?_⟩, ?_, by simp; omega⟩
    · simp only; rw [hsn]; simp
    · simp only; rw [hsn]; simp [szE]
    · simp only; rw [hsn]; simp [St.le, Ent.cells, Ent.fresh]
  · have hge : ¬ k < l.length := by simpa using g
    obtain rfl : k = l.length := by omega
    rw [List.take_length] at *
    have hle : (frs l).isEmpty = l.isEmpty := by simp [frs]
    simp -dsimp [hge]
    exact ⟨by rw [hnl, hle], by rw [hsz]; unfold szE; rw [hle]⟩
end Go.Proofs.Ytddhmoffjpnbgaa
