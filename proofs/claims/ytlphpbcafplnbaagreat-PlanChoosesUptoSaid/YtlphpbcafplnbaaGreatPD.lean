/- Contracts of functions of the seat, proved in a logic on data over the model (part PD). -/
import Derived.Test.YtlphpbcafplnbaaGreatP12
set_option linter.unusedSimpArgs false
set_option linter.unusedVariables false
namespace Go.Proofs.YtlphpbcafplnbaaGreat
open Go.VL Go.RowKit
def fA : Fact := ⟨false, [⟨1, 1, []⟩, ⟨2, 0, []⟩], ⟨0, 5⟩⟩
def fB : Fact := ⟨false, [⟨1, 2, []⟩, ⟨2, 0, []⟩], ⟨3, 9⟩⟩
def wA : Qn := ⟨false, [fA], false, [fB], true, false, false, true, [], true, [], 0, false⟩
def sA0 : Src := ⟨false, [fA], 2, false⟩
def sA1 : Src := ⟨false, [fB], 2, false⟩
def qA : Qry := ⟨false, [sA0, sA1], true, [], true, []⟩
theorem askA : askQ wA = qA := rfl
theorem fitA : qA.Fit := ⟨by decide, by intro s hs; simp [qA] at hs; rcases hs with rfl | rfl <;> decide, by decide, by decide, by
  intro s hs f hf
  simp [qA] at hs
  rcases hs with rfl | rfl
  · simp [sA0] at hf; subst hf; decide
  · simp [sA1] at hf; subst hf; decide⟩
theorem chkA : checkQ qA = 0 := by decide
def plA : List Pln := [⟨false, 1, false, false⟩, ⟨false, 2, false, false⟩, ⟨true, 1, false, false⟩, ⟨true, 2, false, false⟩]
theorem plansA : plansL qA = plA := by decide
def oA : Opt := .filter (.nested (.scan false [fA]) (.scan false [fB])) true []
def fAB : Fact := ⟨false, [⟨1, 1, []⟩, ⟨2, 0, []⟩, ⟨1, 2, []⟩, ⟨2, 0, []⟩], ⟨3, 5⟩⟩
theorem joinA : joinK [fA] [fB] = [fAB] := by decide
theorem outA : oA.out = [fAB] := by
  show (joinK [fA] [fB]).filter (fun x => holdsT x.row []) = [fAB]
  rw [joinA]; rfl
theorem okA : oA.Ok := by
  refine ⟨⟨by show 1 ≤ MaxF; decide, by show 1 ≤ MaxF; decide, by show 1 ≤ MaxF; decide, by show 1 ≤ MaxF; decide, ?_, ?_⟩, ?_, by decide, ?_, ?_⟩
  · show (joinK [fA] [fB]).length ≤ MaxF
    rw [joinA]; decide
  · intro x hx y hy
    have hx : x ∈ [fA] := hx
    have hy : y ∈ [fB] := hy
    simp at hx hy
    subst hx hy
    decide
  · intro t ht; cases ht
  · show (joinK [fA] [fB]).length ≤ MaxF
    rw [joinA]; decide
  · intro x hx
    have hx : x ∈ joinK [fA] [fB] := hx
    rw [joinA] at hx
    simp at hx
    subst hx
    intro v hv
    simp [fAB] at hv
    rcases hv with rfl | rfl | rfl | rfl <;> decide
theorem fokA (f : Fact) (h : f = fA ∨ f = fB) : FOk [f] := by
  intro g hg
  simp at hg
  subst hg
  rcases h with rfl | rfl <;> decide
set_option maxRecDepth 4000 in
set_option maxHeartbeats 16000000 in
theorem awakeP_spec {sortP : List Per → List Per} (hs : Sorts sortP) (hi : SortsI) (hf : SortsF) : Con Tryz.prog 35 [] [.c (bln true)] := by
  refine spec_of Tryz.func35 rfl (by kernel_rfl) (by simp [Tryz.f35]) (fun w0 K0 => vc_ok _ _ _ (by kernel_rfl) ?_)
  simp only [Tryz.f35]
  have hfa := fact_spec 1 0 5
  have hfb := fact_spec 2 3 9
  have hask := asked_spec wA (by decide) (by intro e he; cases he)
  rw [askA] at hask
  have hpl := plans_at qA fitA chkA
  rw [plansA] at hpl
  have hbu := build_spec qA sA0 sA1 rfl fitA chkA rfl (fokA _ (.inl rfl)) (fokA _ (.inr rfl)) (fun _ => rfl)
  have hre := result_spec hs hi hf oA okA (by rw [outA]; decide) (by rw [outA]; intro f hf; simp at hf; subst hf; decide)
  rw [outA] at hre
  obtain ⟨gg, hg1, hg2⟩ := normal_single hs fAB (by decide)
  rw [hg1] at hre
  have hgl : gg.row.length = 4 := by rw [hg2]; rfl
  have hgc : gg.cells = [.sl gg.nl (vals gg.row), i64 gg.p.f, i64 gg.p.t] := rfl
  have hqc : qA.cells = [.sl false (srcs [sA0, sA1]), .sl true [], .sl true []] := rfl
  have hdc : ∃ d1 d2 d3 d4, askD wA = [d1, d2, d3, d4] := ⟨_, _, _, _, rfl⟩
  obtain ⟨d1, d2, d3, d4, hd⟩ := hdc
  have hwc : wA.cells = [.sl false [[.sl false [[i64 1, i64 1, str []], [i64 2, i64 0, str []]], i64 0, i64 5]], .sl false [[.sl false [[i64 1, i64 2, str []], [i64 2, i64 0, str []]], i64 3, i64 9]], bln true, bln false, bln false, .sl true [], .sl true [], i64 0, bln false] := rfl
  have hfac : (⟨false, [⟨1, 1, []⟩, ⟨2, 0, []⟩], ⟨0, 5⟩⟩ : Fact).cells = [.sl false [[i64 1, i64 1, str []], [i64 2, i64 0, str []]], i64 0, i64 5] := rfl
  have hfbc : (⟨false, [⟨1, 2, []⟩, ⟨2, 0, []⟩], ⟨3, 9⟩⟩ : Fact).cells = [.sl false [[i64 1, i64 2, str []], [i64 2, i64 0, str []]], i64 3, i64 9] := rfl
  have hplc : plns plA = [[bln false, i64 1, bln false, bln false], [bln false, i64 2, bln false, bln false], [bln true, i64 1, bln false, bln false], [bln true, i64 2, bln false, bln false]] := rfl
  have hw1 : way1.cells = [bln false, i64 1, bln false, bln false] := rfl
  rw [hfac] at hfa
  rw [hfbc] at hfb
  rw [hwc, hd, hqc] at hask
  rw [hqc] at hpl hbu
  rw [hplc, show plA.isEmpty = false from rfl] at hpl
  rw [hw1] at hbu
  have hoc : (Opt.filter (.nested (.scan sA0.fs.isEmpty sA0.fs) (.scan sA1.fs.isEmpty sA1.fs)) qA.tn qA.ts).c = oA.c := rfl
  rw [hoc] at hbu
  have hoc2 : oA.c = .ifc oA.tc.1 oA.tc.2 := rfl
  rw [hoc2] at hbu hre
  simp -dsimp
  refine VC.mk _ hfa ?_
  simp -dsimp [maxLen]
  refine VC.mk _ hfb ?_
  simp -dsimp [maxLen]
  refine VC.mk _ hask ?_
  simp -dsimp
  refine VC.mk _ hpl ?_
  simp -dsimp
  refine VL.draw (by kernel_rfl) [(0, false), (0, false), (2, false), (6, false), (15, true), (31, true), (63, false), (63, false), (127, false), (511, true)] (by kernel_rfl) ?_
  simp -dsimp
  refine VC.mk _ hbu ?_
  simp -dsimp
  refine VC.mk _ hre ?_
  simp -dsimp [hgc, hgl]
end Go.Proofs.YtlphpbcafplnbaaGreat
set_option linter.unusedSimpArgs false
set_option linter.unusedVariables false
namespace Go.Proofs.YtlphpbcafplnbaaGreat
open Go.VL Go.RowKit
end Go.Proofs.YtlphpbcafplnbaaGreat
set_option linter.unusedSimpArgs false
set_option linter.unusedVariables false
namespace Go.Proofs.YtlphpbcafplnbaaGreat
open Go.VL Go.RowKit
end Go.Proofs.YtlphpbcafplnbaaGreat
