/- Contracts of functions of the seat, proved in a logic on data over the model (part Q8). -/
import Derived.Test.YtdpjdmgdngjjnaaQL
set_option linter.unusedSimpArgs false
set_option linter.unusedVariables false
namespace Go.Proofs.Ytdpjdmgdngjjnaa
open Go.VL Go.RowKit

theorem minus_awake {sortP : List Per → List Per} (hs : Sorts sortP) : minusL sortP ⟨1, 9⟩ [⟨3, 5⟩] = [⟨1, 3⟩, ⟨5, 9⟩] := by
  have e : unionL sortP [⟨3, 5⟩] = [⟨3, 5⟩] := by
    unfold unionL
    have : sortP [⟨3, 5⟩] = [⟨3, 5⟩] := List.perm_singleton.1 (hs.perm [⟨3, 5⟩])
    rw [show [(⟨3, 5⟩ : Per)].filter right = [⟨3, 5⟩] from by decide, this]
    decide
  unfold minusL
  rw [e]
  decide
theorem minus_at {sortP : List Per → List Per} (hs : Sorts sortP) (cs : List C) (nl : Bool) (xs : List (List C)) (a : Per) (l : List Per) (h : cs = a.cells) (hx : xs = l.map Per.cells) (hn : nl = true → l = []) (hl : l.length ≤ 8796093021952) :
    Con Try.prog 12 [.agg cs, .c (.sl nl xs)] [.fr (minusL sortP a l).isEmpty (esz (minusL sortP a l)) ((minusL sortP a l).map Per.cells) 0] := by
  rw [h, hx]; exact minus_spec hs a nl l hn hl

set_option maxRecDepth 4000 in
set_option maxHeartbeats 8000000 in
theorem awake_spec {sortP : List Per → List Per} (hs : Sorts sortP) : Con Try.prog 11 [] [.c (bln true)] := by
  refine spec_of Try.func11 rfl (by kernel_rfl) (by simp [Try.f11]) (fun w0 K0 => vc_ok _ _ _ (by kernel_rfl) ?_)
  simp only [Try.f11]
  simp -dsimp
  refine ⟨by decide, VCL.snap ?_⟩
  simp -dsimp
  have hm := minus_at hs [i64 1, i64 9] false [[i64 3, i64 5]] ⟨1, 9⟩ [⟨3, 5⟩] rfl rfl (by simp) (by simp)
  rw [minus_awake hs] at hm
  refine VC.mk _ hm ?_
  simp -dsimp [Per.cells, esz]
  refine VG.mk [.c (i64 40)] _ (fun _ => check_at _ ⟨1, 1⟩ rfl) rfl ?_
  simp -dsimp
end Go.Proofs.Ytdpjdmgdngjjnaa
