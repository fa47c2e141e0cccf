/- Contracts of functions of the seat, proved in a logic on data over the model (part T4). -/
import Derived.Test.YtddhmoffjpnbgaaT3
import Derived.Test.YtddhmoffjpnbgaaVY6
import Derived.Test.YtddhmoffjpnbgaaVN1
set_option linter.unusedSimpArgs false
set_option linter.unusedVariables false
namespace Go.Proofs.Ytddhmoffjpnbgaa
open Go.VL Go.RowKit

theorem ren_mpE (τ : Nat → Nat) (kvs : List (Value × List C)) : MB.map (renS τ) (.ents (mpE kvs)) = .ents (mpE kvs) := by
  simp [MB.map, mpE, List.map_map, Function.comp_def, renS]

set_option maxRecDepth 4000 in
set_option maxHeartbeats 8000000 in
theorem collect_spec (l : List Tou) (hl : l.length ≤ 2200000000000) : ConX Try.prog 26 [.fnp 28 [.ptr 1 0]] (pgB l) (seqQ2 500 l) := by
  refine spec_ofX Try.func26 rfl (by kernel_rfl) (by simp [Try.f26]) (fun w0 K0 => vx_ok (H := fun id => id == 1) _ _ _ (by kernel_rfl) ?_)
  simp only [Try.f26]
  simp -dsimp [initY, initEnv, pgB]
  refine VL.hand (by kernel_rfl) ?_
  refine VRS.run 1 ?_
  simp -dsimp
  refine VRS.callX (pgB l) (seqQ2 129 l) [.c (.sl true []), .fnp 28 [.ptr 1 0]] (fun i => if i = 129 then 500 else i) (by simp) ⟨appendSeq_spec l hl, ?_, ?_, ?_, ?_, ?_, ?_⟩ ?_
  · simp [renSs, renS]
  · simp [pgB, renR, renSs, renS, ren_mpE]
  · simp [pgB]
  · rintro rs b' ⟨m, hm, rfl, rfl⟩
    simp [pgB]
  · rintro rs b' ⟨m, hm, rfl, rfl⟩
    simp [Res.nam]
  · rintro rs b' ⟨m, hm, rfl, rfl⟩
    simp [S.nams, S.nam]
  rintro rs b' ⟨m, hm, rfl, rfl⟩
  simp -dsimp [pgB, retS, renSs, renS, renR]
  refine VRS.fin ?_
  simp -dsimp
  simp [retX, Try.f26]
  exact ⟨_, ⟨m, hm, rfl, rfl⟩, by simp [resEnd]⟩
end Go.Proofs.Ytddhmoffjpnbgaa
