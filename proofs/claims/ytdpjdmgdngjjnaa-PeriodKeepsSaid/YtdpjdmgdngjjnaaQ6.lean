/- Contracts of functions of the seat, proved in a logic on data over the model (part Q6). -/
import Derived.Test.YtdpjdmgdngjjnaaQ5
set_option linter.unusedSimpArgs false
set_option linter.unusedVariables false
namespace Go.Proofs.Ytdpjdmgdngjjnaa
open Go.VL Go.RowKit

/-- one period more, of those that rise -/
def addP (out : List Per) (p : Per) : List Per :=
  if 0 < out.length ∧ p.f ≤ (out[out.length - 1]!).t then out.set (out.length - 1) ⟨(out[out.length - 1]!).f, max (out[out.length - 1]!).t p.t⟩ else out ++ [p]
def sumP (s : List Per) : List Per := s.foldl addP []
theorem sumP_snoc (s : List Per) {k : Nat} (h : k < s.length) : sumP (s.take (k + 1)) = addP (sumP (s.take k)) s[k] := by
  unfold sumP; rw [take_snoc h, List.foldl_append]; rfl
theorem addP_len (out : List Per) (p : Per) : (addP out p).length ≤ out.length + 1 := by
  unfold addP; split <;> simp
theorem sumP_len (s : List Per) : ∀ k, k ≤ s.length → (sumP (s.take k)).length ≤ k
  | 0, _ => by simp [sumP]
  | k + 1, h => by
    rw [sumP_snoc s h]
    have := addP_len (sumP (s.take k)) s[k]
    have := sumP_len s k (by omega)
    omega
theorem addP_ne (out : List Per) (p : Per) : addP out p ≠ [] := by
  unfold addP; split
  · rename_i h
    intro e
    have h2 := congrArg List.length e
    rw [List.length_set] at h2
    simp at h2
    simp [h2] at h
  · simp

/-- what sorts: any function of which the two contracts hold -/
structure Sorts (sortP : List Per → List Per) : Prop where
  len : ∀ l, (sortP l).length = l.length
  perm : ∀ l, (sortP l).Perm l
  sorted : ∀ l, (sortP l).Pairwise fun x y => x.f ≤ y.f
  con : ∀ l, l.length ≤ 140737488355328 → ConB Try.prog 30 [.own 1 l.length, .c (.fn 31 [])] (rowB 1 l) [] [.own 1 l.length, .c (.fn 31 [])] (rowB 1 (sortP l))
  nil : Con Try.prog 30 [.c (.sl true []), .c (.fn 31 [])] []

theorem defC : (default : C) = i64 0 := rfl
/-- an index of the loop: how many are done; nil?; an element's cells -/
structure UI where
  k : Nat
  nl : Bool
  sz : Nat

set_option maxRecDepth 4000 in
set_option maxHeartbeats 8000000 in
theorem union_nil {sortP : List Per → List Per} (hs : Sorts sortP) : Con Try.prog 13 [.c (.sl true [])] [.fr true 0 [] 0] := by
  refine spec_of Try.func13 rfl (by kernel_rfl) (by simp [Try.f13]) (fun w0 K0 => vc_ok _ _ _ (by kernel_rfl) ?_)
  simp only [Try.f13]
  simp -dsimp
  refine VC.mk _ clone_nil ?_
  simp -dsimp
  refine VCL.snap ?_
  simp -dsimp
  refine VC.mk _ del_nil ?_
  simp -dsimp
  refine VC.mk _ hs.nil ?_
  simp -dsimp
  refine VL.loop (fun _ : Unit => ⟨[(15, .c (i64 0)), (14, .c (i64 0)), (4, .own 256 0)], [(256, some (.arr true 0 [] 0))]⟩) (fun _ => True) (fun _ => 0) () (by kernel_rfl) trivial (by simp [St.le]) ?_
  intro _ _
  simp -dsimp

set_option maxRecDepth 4000 in
set_option maxHeartbeats 8000000 in
theorem union_some {sortP : List Per → List Per} (hs : Sorts sortP) (l : List Per) (hl : l.length ≤ 8796093021952) : Con Try.prog 13 [.c (.sl false (l.map Per.cells))] [.fr (sumP (sortP (l.filter right))).isEmpty (if (sumP (sortP (l.filter right))).isEmpty then 0 else 2) ((sumP (sortP (l.filter right))).map Per.cells) 0] := by
  refine spec_of Try.func13 rfl (by kernel_rfl) (by simp [Try.f13]) (fun w0 K0 => vc_ok _ _ _ (by kernel_rfl) ?_)
  simp only [Try.f13]
  simp -dsimp
  refine VC.mk _ (clone_spec l (by omega)) ?_
  simp -dsimp
  refine VCL.lend (rowB 1 l) (rowB 1 (l.filter right)) [.own 1 l.length, .c (.fn 29 [])] _ _ (fun _ => 576) [576] ⟨del_spec l (by omega), ?_, ?_, ?_, ?_, ?_, ?_, ?_⟩ ?_
  · simp [renSs, renS]
  · simp [rowB, renR]
  · simp [rowB]
  · simp [rowB]
  · simp [rowB, Res.nam]
  · simp [rowB, S.nams, S.nam]
  · simp [rowB]
  simp -dsimp [rowB, retS, renSs, renS]
  have hfl : (l.filter right).length ≤ l.length := List.length_filter_le _ _
  have hcs := hs.con (l.filter right) (by omega)
  have hlen := hs.len (l.filter right)
  generalize l.filter right = fl at *
  generalize sortP fl = s at *
  refine VCL.lend (rowB 1 fl) (rowB 1 s) [.own 1 fl.length, .c (.fn 31 [])] _ _ (fun _ => 576) [] ⟨hcs, ?_, ?_, ?_, ?_, ?_, ?_, ?_⟩ ?_
  · simp [renSs, renS]
  · simp [rowB, renR]
  · simp [rowB]
  · simp [rowB]
  · simp [rowB, Res.nam]
  · simp [S.nams]
  · simp [rowB, lk, keptP]
    exact ⟨2, _, ⟨rfl, rfl⟩, _, ⟨rfl, rfl⟩, by simp, by simp [hlen]⟩
  simp -dsimp [rowB, retS, renSs]
  refine ⟨hlen, ?_⟩
  have hsl : s.length ≤ 8796093021952 := by omega
  rw [← hlen]
  clear hcs hfl hlen
  refine VL.loop (fun i : UI => ⟨[(15, .c (i64 i.k)), (14, .c (i64 s.length)), (13, .own 576 s.length), (4, .own 256 (sumP (s.take i.k)).length)],
      [(256, some (.arr i.nl i.sz ((sumP (s.take i.k)).map Per.cells) 0)), (576, some (.arr false 2 (s.map Per.cells) 0))]⟩)
    (fun i => i.k ≤ s.length ∧ i.nl = (sumP (s.take i.k)).isEmpty ∧ i.sz = if i.nl then 0 else 2) (fun i => s.length - i.k) ⟨0, true, 0⟩ (by kernel_rfl) (by simp [sumP]) (by simp [St.le, sumP]) ?_
  intro ⟨k, nl, sz⟩ ⟨hk, hnl, hsz⟩
  simp only at hk hnl hsz
  have hol := sumP_len s k hk
  have hsu := fun h : k < s.length => sumP_snoc s h
  have hsu2 := fun h : k < s.length => addP_len (sumP (s.take k)) s[k]
  generalize ho : sumP (s.take k) = out at *
  simp -dsimp
  refine VIf.mk (fun h => ?_) (fun h => ?_)
  · have hlt : k < s.length := by simpa using h
    have hw : IntKind.i64.wrap ((k : Int) + 1) = (k : Int) + 1 := IntWalk.i64_in _ (by omega)
    simp -dsimp [hlt, Per.cells]
    refine VL.draw (by kernel_rfl) [(0, true), (1, true), (3, true), (7, false), (15, false), (7, false), (7, false), (71, false), (231, false), (487, false), (999, false), (2047, true), (4095, true)] (by kernel_rfl) ?_
    match out, hnl, hol, hsu hlt with
    | [], hnl, hol, hsu =>
      obtain rfl : nl = true := hnl
      obtain rfl : sz = 0 := hsz
      simp -dsimp [hw, maxLen, defC]
      refine ⟨⟨k + 1, false, 2⟩, ⟨hlt, ?_, rfl⟩, ?_, by simp; omega⟩
      · simp [hsu, addP]
      · simp [St.le, hsu, addP, Per.cells]
    | x :: r, hnl, hol, hsu =>
      obtain rfl : nl = false := hnl
      obtain rfl : sz = 2 := hsz
      generalize hout : x :: r = out at *
      have hne : 0 < out.length := by rw [← hout]; simp
      have hT : IntKind.i64.wrap ((out.length : Int) - 1) = ((out.length - 1 : Nat) : Int) := by rw [IntWalk.i64_in _ (by omega)]; omega
      have hl1 : out.length - 1 < out.length := by omega
      have hg : (Option.map Per.cells out[out.length - 1]?).getD [] = out[out.length - 1].cells := by rw [List.getElem?_eq_getElem hl1]; rfl
      have hlast : out[out.length - 1]! = out[out.length - 1] := getElem!_pos out _ hl1
      simp -dsimp [hw, hne, hl1, hT, Per.cells]
      refine VIf.mk (fun hle => ?_) (fun hle => ?_)
      · have hle' : s[k].f ≤ out[out.length - 1].t := by simpa using hle
        simp -dsimp
        refine VL.draw (by kernel_rfl) [(0, false), (0, false), (2, false), (0, false), (0, false), (16, false), (56, false), (120, false), (248, false), (0, false), (512, false), (2040, false), (4095, true), (8191, true), (16383, true)] (by kernel_rfl) ?_
        simp -dsimp [hw, hne, hl1, hT, Per.cells]
        have e : addP out s[k] = out.set (out.length - 1) ⟨out[out.length - 1].f, max out[out.length - 1].t s[k].t⟩ := by
          unfold addP; rw [hlast, if_pos ⟨hne, hle'⟩]
        rw [e] at hsu
        refine ⟨⟨k + 1, false, 2⟩, ⟨hlt, ?_, rfl⟩, ?_, by simp; omega⟩
        · rw [hsu]; rw [eq_comm, List.isEmpty_eq_false_iff]; intro e2
          have := congrArg List.length e2
          rw [List.length_set] at this
          simp at this
          simp [this] at hne
        · simp [St.le, hsu, List.map_set, Per.cells]
      · have hle' : ¬ s[k].f ≤ out[out.length - 1].t := by simpa using hle
        simp -dsimp [hw, maxLen]
        have e : addP out s[k] = out ++ [s[k]] := by
          unfold addP; rw [hlast, if_neg (fun h => hle' h.2)]
        rw [e] at hsu
        refine ⟨by omega, ⟨k + 1, false, 2⟩, ⟨hlt, ?_, rfl⟩, ?_, by simp; omega⟩
        · rw [hsu]; simp
        · simp [St.le, hsu, Per.cells]
  · simp at h
    obtain rfl : k = s.length := by omega
    rw [List.take_length] at ho
    subst ho
    simp -dsimp
    refine ⟨hnl, ?_⟩
    rw [hsz, hnl]
    cases sumP s <;> simp
end Go.Proofs.Ytdpjdmgdngjjnaa
