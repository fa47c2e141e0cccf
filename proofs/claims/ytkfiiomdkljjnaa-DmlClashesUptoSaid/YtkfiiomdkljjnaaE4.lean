/- Contracts: what facts say, from edge to edge. -/
import Derived.Test.YtkfiiomdkljjnaaE3
set_option linter.unusedSimpArgs false
set_option linter.unusedVariables false
namespace Go.Proofs.Ytkfiiomdkljjnaa
open Go.VL Go.RowKit

abbrev pers (l : List Fact) : List Per := l.map Fact.p
def ge (E : List Int) (k : Nat) : Int := E[k]!
theorem ge_pos (E : List Int) (k : Nat) (h : k < E.length) : ge E k = E[k] := getElem!_pos E k h
def cellC (l : List Fact) (E : List Int) (i : Nat) : List C := [i64 (ge E i), i64 (ge E (i + 1)), .sl (rowsAt l (ge E i)).isEmpty (rowsC (rowsAt l (ge E i)))]
def cellsC (l : List Fact) (E : List Int) (k : Nat) : List (List C) := (List.range k).map (cellC l E)
@[simp] theorem cellsC_len (l : List Fact) (E : List Int) (k : Nat) : (cellsC l E k).length = k := by simp [cellsC]
@[simp] theorem cellsC_get (l : List Fact) (E : List Int) (k i : Nat) (h : i < (cellsC l E k).length) : (cellsC l E k)[i] = cellC l E i := by simp [cellsC]
theorem cellsC_snoc (l : List Fact) (E : List Int) (k : Nat) : cellsC l E (k + 1) = cellsC l E k ++ [cellC l E k] := by simp [cellsC, List.range_succ]

theorem refEdges_frz (nl : Bool) (l : List Per) (hl : l.length ≤ 8796093022207) :
    Con Try.prog 54 [.c (.sl nl (l.map Per.cells))] [.c (.sl (edgesL l).isEmpty (ints (edgesL l)))] := Con.frz (refEdges_spec nl l hl) 0 rfl

set_option maxRecDepth 4000 in
set_option maxHeartbeats 16000000 in
theorem edges13_spec (nl : Bool) (l : List Fact) (hl : l.length ≤ 1000000000) :
    Con Try.prog 39 [.c (.sl nl (facts l))] [.c (.sl (edgesL (pers l)).isEmpty (ints (edgesL (pers l))))] := by
  refine spec_of Try.func39 rfl (by kernel_rfl) (by simp [Try.f39]) (fun w0 K0 => vc_ok _ _ _ (by kernel_rfl) ?_)
  simp only [Try.f39]
  simp -dsimp
  refine VL.loop (fun i : KI => ⟨[(4, .c (i64 i.k)), (3, .own 192 i.k), (0, .c (.sl nl (facts l)))], [(192, some (.arr i.nl i.sz ((l.take i.k).map fun f => f.p.cells) 0))]⟩)
    (fun i => i.k ≤ l.length ∧ i.nl = (l.take i.k).isEmpty ∧ i.sz = if i.nl then 0 else 2) (fun i => l.length - i.k) ⟨0, true, 0⟩ (by kernel_rfl) ⟨by simp, rfl, rfl⟩ (by simp [St.le]) ?_
  intro ⟨k, z, sz⟩ ⟨hk, hz, hsz⟩
  simp only at hk hz hsz
  have hmin : min k l.length = k := by omega
  by_cases h1 : k < l.length
  · have hw : IntKind.i64.wrap ((k : Int) + 1) = (k : Int) + 1 := IntWalk.i64_in _ (by omega)
    simp -dsimp [h1, Fact.cells, hw, hmin, maxLen]
    have htk : List.take (k + 1) (List.map (fun f : Fact => f.p.cells) l) = List.take k (List.map (fun f : Fact => f.p.cells) l) ++ [l[k].p.cells] := by
      have := congrArg (List.map fun f : Fact => f.p.cells) (take_snoc h1); rw [List.map_append, List.map_take, List.map_take] at this; exact this
    have hne : (l.take (k + 1)).isEmpty = false := by rw [take_snoc h1]; cases l.take k <;> rfl
    refine ⟨fun e => by rw [hsz, e]; rfl, by omega, ⟨k + 1, false, 2⟩, ⟨by simp only; omega, hne.symm, rfl⟩, ?_, by simp only; omega⟩
    simp only [Per.cells] at htk
    simp [St.le, htk, Per.cells]
  · obtain rfl : k = l.length := by omega
    simp -dsimp
    refine VCL.snap ?_
    simp -dsimp
    have he := refEdges_frz z (pers l) (by simp; omega)
    rw [show (pers l).map Per.cells = l.map (fun f : Fact => f.p.cells) from List.map_map ..] at he
    refine VC.mk _ he ?_
    simp -dsimp

set_option maxRecDepth 4000 in
set_option maxHeartbeats 16000000 in
theorem cells_spec (nl : Bool) (l : List Fact) (hl : l.length ≤ 1000000000) (hr : Rows1 l) :
    Con Try.prog 15 [.c (.sl nl (facts l))] [.c (.sl (decide ((edgesL (pers l)).length ≤ 1)) (cellsC l (edgesL (pers l)) ((edgesL (pers l)).length - 1)))] := by
  refine Con.frz (rs := [.fr (decide ((edgesL (pers l)).length ≤ 1)) (if (edgesL (pers l)).length ≤ 1 then 0 else 3) (cellsC l (edgesL (pers l)) ((edgesL (pers l)).length - 1)) 0]) ?_ 0 rfl
  refine spec_of Try.func15 rfl (by kernel_rfl) (by simp [Try.f15]) (fun w0 K0 => vc_ok _ _ _ (by kernel_rfl) ?_)
  simp only [Try.f15]
  simp -dsimp
  refine VC.mk _ (edges13_spec nl l hl) ?_
  have hE := edgesL_len (pers l)
  rw [List.length_map] at hE
  generalize edgesL (pers l) = E at hE ⊢
  simp -dsimp
  refine VL.loop (fun i : KI => ⟨[(5, .c (i64 i.k)), (4, .own 256 i.k), (3, .c (.sl E.isEmpty (ints E))), (0, .c (.sl nl (facts l)))], [(256, some (.arr i.nl i.sz (cellsC l E i.k) 0))]⟩)
    (fun i => i.k ≤ E.length - 1 ∧ i.nl = decide (i.k = 0) ∧ i.sz = if i.nl then 0 else 3) (fun i => E.length - i.k) ⟨0, true, 0⟩ (by kernel_rfl) ⟨by simp, rfl, rfl⟩ (by simp [St.le, cellsC]) ?_
  intro ⟨k, z, sz⟩ ⟨hk, hz, hsz⟩
  simp only at hk hz hsz
  have hw : IntKind.i64.wrap ((k : Int) + 1) = (k : Int) + 1 := IntWalk.i64_in _ (by omega)
  by_cases h1 : k + 1 < E.length
  · have h0 : k < E.length := by omega
    have hlt : ((k : Int) + 1 < (E.length : Int)) = True := by simp; omega
    simp -dsimp [hw, hlt, h0, h1]
    refine VL.draw (by kernel_rfl) [(0, false), (0, false), (0, false), (6, false), (14, false), (0, false), (0, false), (64, false), (224, false), (480, false), (0, false), (0, false), (0, false), (6144, false), (14336, false), (31744, false), (65534, false), (131070, false), (262143, true), (524287, true)] (by kernel_rfl) ?_
    simp -dsimp [hw, hlt, h0, h1]
    refine ⟨by omega, VCE.mk _ (rows_spec nl l E[k] hl hr) ?_⟩
    simp -dsimp [hw, maxLen]
    refine ⟨fun e => by rw [hsz, e]; rfl, by omega, ⟨k + 1, false, 3⟩, ⟨by simp only; omega, by simp, rfl⟩, ?_, by simp only; omega⟩
    have g1 := ge_pos E k h0
    have g2 := ge_pos E (k + 1) h1
    simp [St.le, cellsC_snoc, cellC, g1, g2]
  · have hlt : ((k : Int) + 1 < (E.length : Int)) = False := by simp; omega
    simp -dsimp [hw, hlt]
    obtain e : k = E.length - 1 := by omega
    refine ⟨⟨?_, ?_, by rw [e]⟩, e.symm⟩
    · rw [hz]; exact decide_eq_decide.2 (by omega)
    · rw [hsz, hz]
      by_cases h : E.length ≤ 1
      · rw [if_pos h, if_pos (by simp; omega)]
      · rw [if_neg h, if_neg (by simp; omega)]
end Go.Proofs.Ytkfiiomdkljjnaa
