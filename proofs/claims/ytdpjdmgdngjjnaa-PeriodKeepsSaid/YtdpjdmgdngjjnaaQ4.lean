/- Contracts of functions of the seat, proved in a logic on data over the model (part Q4). -/
import Derived.Test.YtdpjdmgdngjjnaaQ3
set_option linter.unusedSimpArgs false
set_option linter.unusedVariables false
namespace Go.Proofs.Ytdpjdmgdngjjnaa
open Go.VL Go.RowKit

def idxBad (l : List Per) : Int := match l.findIdx? (fun p => !right p) with | some k => (k : Int) | none => -1
/-- an own row of periods -/
def rowB (i : Nat) (l : List Per) : List (Nat × Res) := [(i, .arr false 2 (l.map Per.cells) 0)]

set_option maxRecDepth 4000 in
set_option maxHeartbeats 4000000 in
theorem idxB_spec (l : List Per) (hl : l.length ≤ 140737488355328) :
    ConB Try.prog 36 [.own 1 l.length, .c (.fn 29 [])] (rowB 1 l) [.c (i64 (idxBad l))] [.own 1 l.length, .c (.fn 29 [])] (rowB 1 l) := by
  refine spec_ofB 2 Try.func36 rfl (by kernel_rfl) (by simp [Try.f36]) (by simp [rowB]) rfl (fun w0 K0 uf => vc_ok _ _ _ (by kernel_rfl) ?_)
  simp only [Try.f36]
  simp -dsimp [initB, initEnv, pinsOf, rowB]
  refine VL.loop (fun k : Nat => ⟨[(8, .c (i64 k)), (7, .c (i64 l.length)), (0, .own 1 l.length), (1, .c (.fn 29 []))], [(1, some (.arr false 2 (l.map Per.cells) 0)), (2, some (.pin (uf 0) (.own 1 l.length))), (3, some (.pin (uf 1) (.c (.fn 29 []))))]⟩) (fun k => k ≤ l.length ∧ ∀ j, (hj : j < k) → (hl : j < l.length) → right l[j] = true) (fun k => l.length - k) 0 (by kernel_rfl) (by simp) (by simp [St.le]) ?_
  intro k ⟨hk, hbef⟩
  simp -dsimp
  refine VIf.mk (fun h => ?_) (fun h => ?_)
  · have hlt : k < l.length := by simpa using h
    have hw : IntKind.i64.wrap ((k : Int) + 1) = (k : Int) + 1 := IntWalk.i64_in _ (by omega)
    simp -dsimp [hlt, Per.cells]
    refine VC.mk _ (bad_spec l[k]) ?_
    simp -dsimp
    refine VIf.mk (fun h2 => ?_) (fun h2 => ?_)
    · simp -dsimp
      have : l.findIdx? (fun p => !right p) = some k := by
        rw [List.findIdx?_eq_some_iff_getElem]
        exact ⟨hlt, h2, fun j hj => by rw [hbef j hj (by omega)]; simp⟩
      simp [resEnd, idxBad, this, rowB]
    · simp -dsimp [hw]
      refine ⟨k + 1, ⟨by omega, fun j hj hl => ?_⟩, ?_, by omega⟩
      · by_cases e : j = k
        · subst e; simpa using h2
        · exact hbef j (by omega) hl
      · simp [St.le]
  · simp at h
    simp -dsimp
    have : l.findIdx? (fun p => !right p) = none := by
      rw [List.findIdx?_eq_none_iff]
      intro p hp
      obtain ⟨j, hj, rfl⟩ := List.getElem_of_mem hp
      simp [hbef j (by omega) hj]
    simp [resEnd, idxBad, this, rowB]

/-- a row while what is wrong is taken out of it: i are kept of the first j -/
structure DS where
  i : Nat
  j : Nat
  row : List Per
structure DS.Ok (l : List Per) (s : DS) : Prop where
  len : s.row.length = l.length
  le : s.i < s.j
  lj : s.j ≤ l.length
  pre : s.row.take s.i = (l.take s.j).filter right
  rest : ∀ k, s.j ≤ k → s.row[k]? = l[k]?

theorem DS.skip {l : List Per} {i j : Nat} {row : List Per} (h : DS.Ok l ⟨i, j, row⟩) (hj : j < l.length) (hb : right l[j] = false) : DS.Ok l ⟨i, j + 1, row⟩ := by
  obtain ⟨h1, h2, h3, h4, h5⟩ := h
  simp only at h1 h2 h3 h4 h5
  refine ⟨h1, by simp only; omega, hj, ?_, fun k hk => h5 k (by simp only at hk; omega)⟩
  simp only
  rw [take_snoc hj, List.filter_append, h4]
  simp [hb]
theorem DS.keep {l : List Per} {i j : Nat} {row : List Per} (h : DS.Ok l ⟨i, j, row⟩) (hj : j < l.length) (hb : right l[j] = true) : DS.Ok l ⟨i + 1, j + 1, row.set i l[j]⟩ := by
  obtain ⟨h1, h2, h3, h4, h5⟩ := h
  simp only at h1 h2 h3 h4 h5
  refine ⟨by simp [h1], by simp only; omega, hj, ?_, fun k hk => ?_⟩
  · simp only
    rw [take_snoc hj, List.filter_append, ← h4, take_snoc (by simp; omega)]
    simp [hb, List.take_set]
    exact List.set_eq_of_length_le (by simp; omega)
  · simp only at hk
    simp only
    rw [List.getElem?_set_ne (by omega)]
    exact h5 k (by omega)

set_option maxRecDepth 4000 in
set_option maxHeartbeats 8000000 in
theorem del_spec (l : List Per) (hl : l.length ≤ 140737488355328) :
    ConB Try.prog 27 [.own 1 l.length, .c (.fn 29 [])] (rowB 1 l) [.own 1 (l.filter right).length] [if l.findIdx? (fun p => !right p) = none then .own 1 l.length else .un, .c (.fn 29 [])] (rowB 1 (l.filter right)) := by
  refine spec_ofB 2 Try.func27 rfl (by kernel_rfl) (by simp [Try.f27]) (by simp [rowB]) rfl (fun w0 K0 uf => vc_ok _ _ _ (by kernel_rfl) ?_)
  simp only [Try.f27]
  simp -dsimp [initB, initEnv, pinsOf, rowB]
  refine VCL.lend (rowB 1 l) (rowB 1 l) [.own 1 l.length, .c (.fn 29 [])] _ _ id [] ⟨idxB_spec l hl, ?_, ?_, ?_, ?_, ?_, ?_, ?_⟩ ?_
  · simp [renSs, renS]
  · simp [rowB, renR]
  · simp [rowB]
  · simp [rowB]
  · simp [rowB, Res.nam, S.nams, S.nam]
  · simp [rowB, S.nams, S.nam]
  · simp [rowB, lk, keptP]
    exact ⟨2, _, ⟨rfl, rfl⟩, _, ⟨rfl, rfl⟩, by simp, by simp⟩
  simp -dsimp [rowB, retS, renSs, renS]
  cases hf : l.findIdx? (fun p => !right p) with
  | none =>
    have hall : l.filter right = l := by
      rw [List.filter_eq_self]
      rw [List.findIdx?_eq_none_iff] at hf
      intro p hp
      simpa using hf p hp
    simp -dsimp [idxBad, hf]
    simp [resEnd, rowB, hall]
  | some k0 =>
    rw [List.findIdx?_eq_some_iff_getElem] at hf
    obtain ⟨hk0, hb0, hg0⟩ := hf
    have e1 : idxBad l = k0 := by
      unfold idxBad
      have : l.findIdx? (fun p => !right p) = some k0 := List.findIdx?_eq_some_iff_getElem.2 ⟨hk0, hb0, hg0⟩
      rw [this]
    have hw0 : IntKind.i64.wrap ((k0 : Int) + 1) = (k0 : Int) + 1 := IntWalk.i64_in _ (by omega)
    have hneg : ((k0 : Int) == -1) = false := by simp
    simp -dsimp [e1, hneg, hw0]
    refine VL.loop (fun s : DS => ⟨[(5, .c (i64 s.i)), (6, .c (i64 s.j)), (0, .own 1 l.length), (1, .c (.fn 29 []))], [(1, some (.arr false 2 (s.row.map Per.cells) 0)), (2, some (.pin (uf 0) (.own 1 l.length))), (3, some (.pin (uf 1) (.c (.fn 29 []))))]⟩) (DS.Ok l) (fun s => l.length - s.j) ⟨k0, k0 + 1, l⟩ (by kernel_rfl) ?_ (by simp [St.le]) ?_
    · refine ⟨rfl, by simp, hk0, ?_, fun _ _ => rfl⟩
      simp only
      rw [take_snoc hk0, List.filter_append]
      have : List.filter right [l[k0]] = [] := by simp at hb0; simp [hb0]
      rw [this, List.append_nil, eq_comm, List.filter_eq_self]
      intro p hp
      obtain ⟨j, hj, rfl⟩ := List.getElem_of_mem hp
      simp at hj
      have := hg0 j (by omega)
      simpa using this
    intro ⟨i, j, row⟩ hs
    obtain ⟨h1, h2, h3, h4, h5⟩ := hs
    simp only at h1 h2 h3 h4 h5
    simp -dsimp [h1]
    refine VIf.mk (fun h => ?_) (fun h => ?_)
    · have hlt : j < l.length := by simpa using h
      have hltr : j < row.length := by omega
      have hw : IntKind.i64.wrap ((j : Int) + 1) = (j : Int) + 1 := IntWalk.i64_in _ (by omega)
      have hwi : IntKind.i64.wrap ((i : Int) + 1) = (i : Int) + 1 := IntWalk.i64_in _ (by omega)
      have hrj : row[j] = l[j] := by
        have := h5 j (Nat.le_refl _)
        rw [List.getElem?_eq_getElem hltr, List.getElem?_eq_getElem hlt] at this
        exact Option.some.inj this
      simp -dsimp [hlt, hltr, hrj, Per.cells]
      refine ⟨h1, VC.mk _ (bad_spec l[j]) ?_⟩
      simp -dsimp
      refine VIf.mk (fun h6 => ?_) (fun h6 => ?_)
      · simp -dsimp [hw, hwi]
        refine ⟨⟨by omega, h1⟩, h1, by omega, ⟨i + 1, j + 1, row.set i l[j]⟩, DS.keep ⟨h1, h2, h3, h4, h5⟩ hlt h6, ?_, by simp; omega⟩
        have hir : i < row.length := by omega
        simp [St.le, List.map_set, Per.cells, List.getElem?_eq_getElem hir]
      · simp -dsimp [hw]
        refine ⟨⟨i, j + 1, row⟩, ?_, ?_, by simp; omega⟩
        · exact DS.skip ⟨h1, h2, h3, h4, h5⟩ hlt h6
        · simp [St.le]
    · simp at h
      simp -dsimp
      refine VSL.own ?_
      simp -dsimp
      refine ⟨by omega, h1, by omega, VSL.own ?_⟩
      simp -dsimp
      obtain rfl : j = l.length := by omega
      rw [List.take_length] at h4
      have hi : i = (l.filter right).length := by rw [← h4, List.length_take]; omega
      refine ⟨by omega, by omega, hi, ?_⟩
      have hm : min i row.length = i := by omega
      simp [resEnd, rowB, hm, ← h4, List.take_take, ← List.map_take]
      trace_state
end Go.Proofs.Ytdpjdmgdngjjnaa
