/- Proved: PeriodKeeps: what is handed in is left as it was; answers are new memory; for every period and list, no condition. -/
import Derived.Test.YtdpjdmgdngjjnaaQE5
import Derived.Test.YtdpjdmgdngjjnaaQS2
import Derived.Test.YtdpjdmgdngjjnaaQ10
import Derived.Test.YtdpjdmgdngjjnaaVN2
set_option linter.unusedSimpArgs false
set_option linter.unusedVariables false
namespace Go.Proofs.Ytdpjdmgdngjjnaa
open Go.VL Go.RowKit

set_option maxRecDepth 4000 in
set_option maxHeartbeats 16000000 in
theorem keeps_spec {sortP : List Per → List Per} (hs : Sorts sortP) (hi : SortsI) (a : Per) (nl : Bool) (l : List Per) (hn : nl = true → l = []) (hl : l.length ≤ 8796093021952) :
    Con Try.prog 10 [.agg a.cells, .c (.sl nl (l.map Per.cells))] [.c (bln true)] := by
  refine spec_of Try.func10 rfl (by kernel_rfl) (by simp [Try.f10]) (fun w0 K0 => vx_ok (H := fun id => id == 3 || id == 7 || id == 9) _ _ _ (by kernel_rfl) ?_)
  simp only [Try.f10]
  simp -dsimp [Per.cells]
  refine VC.mk _ (awake_spec hs) ?_
  simp -dsimp
  refine VL.hand (by kernel_rfl) ?_
  refine VRS.run 8 ?_
  simp -dsimp [Per.cells]
  refine ⟨by omega, by simp [maxLen], by omega, ?_⟩
  obtain ⟨M, hM⟩ : ∃ M, M = l.map Per.cells ++ [[i64 (-7), i64 0]] := ⟨_, rfl⟩
  have hMl : M.length = l.length + 1 := by rw [hM]; simp
  have hMt : M.take l.length = l.map Per.cells := by rw [hM]; simp
  have hMg : M[l.length]?.getD [] = [i64 (-7), i64 0] := by rw [hM, List.getElem?_append_right (by simp)]; simp
  have hcal : ∀ f, f = 12 ∨ f = 13 ∨ f = 14 ∨ f = 23 → callable Try.prog f = true := by rintro f (rfl | rfl | rfl | rfl) <;> kernel_rfl
  rw [← hM]
  refine VRS.pre 768 (l.length + 1) l.length false 2 M 0 rfl (.inl ⟨by simp, rfl⟩) (by simp) (by simp) (by simp) (by simp) hMl (by omega) (by simp) ?_
  refine VRS.fin ?_
  simp -dsimp
  have hul := unionL_len hs l
  have hml := minusL_len hs a l
  have hel := edgesL_len l
  obtain ⟨U, hU⟩ : ∃ U, U = unionL sortP l := ⟨_, rfl⟩
  have hus := union_spec hs false l (by simp) hl
  have hms := minus_spec hs a false l (by simp) hl
  have hes := edges_spec hi false l (by simp) (by omega)
  rw [← hU] at hus hul
  refine VCL.seenX [(768, .arr false 2 M 0)] 1408 _ _ (hcal 13 (by simp)) hus (by simp [seenAs, seenA, lk, vlook, hMl, hMt]; exact ⟨2, M, ⟨rfl, rfl⟩, hMl, hMt.symm⟩) (by simp [isArr, keptP, hMl]; exact ⟨2, M, ⟨rfl, rfl⟩, M, ⟨rfl, rfl⟩, hMl, hMl⟩) (by simp) (by simp [resB]) (by simp [flatR, flatC, Per.cells]) ?_
  simp -dsimp [resB, resS, retS, renSs, renS]
  refine VCL.seenX [(768, .arr false 2 M 0)] 1600 [.agg a.cells, .c (.sl false (l.map Per.cells))] _ (hcal 12 (by simp)) hms (by simp [seenAs, seenA, lk, vlook, hMl, hMt, Per.cells]; exact ⟨2, M, ⟨rfl, rfl⟩, hMl, hMt.symm⟩) (by simp [isArr, keptP, hMl]; exact ⟨2, M, ⟨rfl, rfl⟩, M, ⟨rfl, rfl⟩, hMl, hMl⟩) (by simp) (by simp [resB]) (by simp [flatR, flatC, Per.cells]) ?_
  simp -dsimp [resB, resS, retS, renSs, renS]
  refine VCL.seenX [(768, .arr false 2 M 0)] 1728 _ _ (hcal 23 (by simp)) hes (by simp [seenAs, seenA, lk, vlook, hMl, hMt, Per.cells]; exact ⟨2, M, ⟨rfl, rfl⟩, hMl, hMt.symm⟩) (by simp [isArr, keptP, hMl]; exact ⟨2, M, ⟨rfl, rfl⟩, M, ⟨rfl, rfl⟩, hMl, hMl⟩) (by simp) (by simp [resB]) (by simp [flatR, flatC, ints]) ?_
  simp -dsimp [resB, resS, retS, renSs, renS]
  refine VL.to ⟨[(0, .agg [i64 a.f, i64 a.t]), (1, .c (.sl nl (l.map Per.cells))), (5, .pre 768 (l.length + 1) l.length), (6, .own 1408 U.length)], [(768, some (.arr false 2 M 0)), (1408, some (.arr U.isEmpty (esz U) (U.map Per.cells) 0))]⟩ (by simp [St.le]) ?_
  refine VL.hand (by kernel_rfl) ?_
  refine VRS.run 9 ?_
  simp -dsimp
  have hsm := same_spec false nl l l (by omega)
  refine VCL.seenX [(768, .arr false 2 M 0)] 1920 [.c (.sl false (l.map Per.cells)), .c (.sl nl (l.map Per.cells))] _ (hcal 14 (by simp)) hsm (by simp [seenAs, seenA, lk, vlook, hMl, hMt, Per.cells]; exact ⟨2, M, ⟨rfl, rfl⟩, hMl, hMt.symm⟩) (by simp [isArr, keptP, hMl]; exact ⟨2, M, ⟨rfl, rfl⟩, M, ⟨rfl, rfl⟩, hMl, hMl⟩) (by simp) (by simp [resB]) (by simp [flatR, flatC]) ?_
  have hw1 : IntKind.i64.wrap ((l.length : Int) + 1) = (l.length : Int) + 1 := IntWalk.i64_in _ (by omega)
  simp -dsimp [resB, resS, retS, renSs, renS, hw1]
  refine VRS.pre 768 (l.length + 1) (l.length + 1) false 2 M 0 (by simp [gflag, gslot]) (.inr ⟨l.length, by simp [peel]⟩) (by simp) (by simp [peel, sint]) (by simp) (by simp) hMl (by omega) (by simp) ?_
  refine VRS.fin ?_
  have hlt0 : l.length < M.length := by omega
  have hMg0 : (M[l.length]'hlt0)[0]?.getD default = i64 (-7) := by
    have : M[l.length] = [i64 (-7), i64 0] := by simpa [List.getElem?_eq_getElem hlt0] using hMg
    rw [this]; rfl
  simp -dsimp [hMl, hMg, hlt0, hMg0]
  refine VL.hand (by kernel_rfl) ?_
  refine VRS.run 2 ?_
  simp -dsimp
  have hsz : U.isEmpty = false → esz U = 2 := fun h => by simp [esz, h]
  refine VRS.app 2880 0 1408 U.length false 2 [] 0 U.isEmpty (esz U) (U.map Per.cells) 0 2 16 (by simp) (by simp) (by simp) (by simp) rfl (by simp) (by simp) ⟨23, Try.underlying24⟩ (by simp) hsz (by omega) (by simp; omega) ?_
  refine VRS.fin ?_
  simp -dsimp
  refine ⟨hMl, ?_⟩
  refine VL.loop (fun p : Nat × List (List C) => ⟨[(50, .c (i64 p.1)), (49, .c (i64 l.length)), (5, .pre 768 (l.length + 1) l.length), (6, .own 1408 U.length), (7, .own 2880 U.length), (1, .c (.sl nl (l.map Per.cells)))],
      [(768, some (.arr false 2 p.2 0)), (1408, some (.arr U.isEmpty (esz U) (U.map Per.cells) 0)), (2880, some (.arr false 2 (U.map Per.cells) 0))]⟩)
    (fun p => p.1 ≤ l.length ∧ p.2.length = l.length + 1) (fun p => l.length - p.1) (0, M) (by kernel_rfl) (by simp [hMl]) (by simp [St.le]) ?_
  rintro ⟨k, Mk⟩ ⟨hk, hMk⟩
  simp only at hk hMk
  simp -dsimp
  refine VIf.mk (fun g => ?_) (fun g => ?_)
  · have hlt : k < l.length := by simpa using g
    have hw : IntKind.i64.wrap ((k : Int) + 1) = (k : Int) + 1 := IntWalk.i64_in _ (by omega)
    have hlk : k < l.length + 1 := by omega
    simp -dsimp [hlt, hMk, hw, hlk]
    refine ⟨k + 1, _, ⟨by omega, ?_⟩, by simp [St.le]; rfl, by omega⟩
    simpa using hMk
  · simp at g
    obtain rfl : k = l.length := by omega
    simp -dsimp
    have hsu := same_spec U.isEmpty false U U (by omega)
    refine VCL.seenX [(1408, .arr U.isEmpty (esz U) (U.map Per.cells) 0), (2880, .arr false 2 (U.map Per.cells) 0)] 3840 _ _ (hcal 14 (by simp)) hsu (by simp [seenAs, seenA, lk, vlook]) (fun p hp => by
      simp only [List.mem_cons, List.not_mem_nil, or_false] at hp
      rcases hp with rfl | rfl
      · exact ⟨by simp, rfl, kept_own (by simp)⟩
      · exact ⟨by simp, rfl, .inr (kept_own (by simp))⟩) (by simp) (by simp [resB]) (by simp [flatR, flatC]) ?_
    simp -dsimp [resB, resS, retS, renSs, renS]
    refine VL.loop (fun p : Nat × List (List C) => ⟨[(64, .c (i64 p.1)), (63, .c (i64 U.length)), (6, .own 1408 U.length), (7, .own 2880 U.length), (1, .c (.sl nl (l.map Per.cells)))],
        [(1408, some (.arr U.isEmpty (esz U) p.2 0)), (2880, some (.arr false 2 (U.map Per.cells) 0))]⟩)
      (fun p => p.1 ≤ U.length ∧ p.2.length = U.length) (fun p => U.length - p.1) (0, U.map Per.cells) (by kernel_rfl) (by simp) (by simp [St.le]) ?_
    rintro ⟨k, Uk⟩ ⟨hk, hUk⟩
    simp only at hk hUk
    simp -dsimp
    refine VIf.mk (fun g => ?_) (fun g => ?_)
    · have hlt : k < U.length := by simpa using g
      have hw : IntKind.i64.wrap ((k : Int) + 1) = (k : Int) + 1 := IntWalk.i64_in _ (by omega)
      have hEe : U.isEmpty = false := by cases U with | nil => simp at hlt | cons => rfl
      have hEz := hsz hEe
      simp -dsimp [hlt, hUk, hw, hEe, hEz]
      refine ⟨k + 1, _, ⟨by omega, ?_⟩, by simp [St.le, hEe, hEz]; rfl, by omega⟩
      simpa using hUk
    · simp at g
      obtain rfl : k = U.length := by omega
      simp -dsimp
      have hul2 := union_spec hs nl l hn hl
      rw [← hU] at hul2
      refine VC.mk _ hul2 ?_
      simp -dsimp
      refine VCL.seenX [(4672, .arr U.isEmpty (esz U) (U.map Per.cells) 0), (2880, .arr false 2 (U.map Per.cells) 0)] 4800 _ _ (hcal 14 (by simp)) hsu (by simp [seenAs, seenA, lk, vlook]) (fun p hp => by
        simp only [List.mem_cons, List.not_mem_nil, or_false] at hp
        rcases hp with rfl | rfl
        · exact ⟨by simp, rfl, kept_own (by simp)⟩
        · exact ⟨by simp, rfl, .inr (kept_own (by simp))⟩) (by simp) (by simp [resB]) (by simp [flatR, flatC]) ?_
      simp -dsimp [resB, resS, retS, renSs, renS]

theorem keeps_con (ss : List S) (h : FitsAll Try.prog reachBytes 6 [23, 24] ss) : Con Try.prog 10 ss [.c (.v (.bool true))] := by
  obtain ⟨s1, _, rfl, h1, s2, _, rfl, h2, rfl⟩ := h
  obtain ⟨a, rfl⟩ := open_per1 _ s1 h1
  obtain ⟨nl, l, rfl, hn, hl⟩ := open_pers _ s2 h2
  have e : reachBytes = 140737488351232 := rfl
  exact keeps_spec sorts_ok sortsI_ok a nl l hn (by omega)

set_option maxRecDepth 100000 in
theorem keeps_lifted (os : Os) (started : os.Started) (H : Type) (enc : TypeId × Value → H) :
    ReturnsInHanded {} Try.checked os 10 .any (Rows.periodKeepsSpec.pre6 enc Try.prog Try.f10 [] false) (Rows.periodKeepsSpec.post enc Try.prog Try.f10 false true false false) := by
  refine returnsInHanded_of_change_shaped (C := Try.checked) own started (by kernel_rfl) Try.func10
    (ChangeSpec.witness6 (enc := enc) (C := Try.checked) (s := Rows.periodKeepsSpec) false ⟨#[], #[.agg #[.int .i64 0, .int .i64 0], .slice none 0 0], []⟩ 8 (by kernel_rfl) (by kernel_rfl) (by kernel_rfl) (by kernel_rfl)) ?_
  intro W base args ds gs before hval hW _ hwt _ _
  exact law_calls 6 laid (by kernel_rfl) rfl (fun ds hds => by
    match ds, hds with
    | [_, _], _ => rfl) rfl Try.underlying4 (fun ss h _ => keeps_con ss h) hval hW hwt

theorem keeps_holds : Rows.PeriodKeepsSaid :=
  OpenClaim.holds_of_wide 10 Try.f10 rfl rfl rfl rfl rfl rfl rfl ⟨rfl, rfl, rfl, rfl, rfl⟩ rfl rfl rfl rfl rfl (by kernel_rfl) Try.func10 (by kernel_rfl)
    (of_decide_eq_true (by kernel_rfl)) (by unfold Func.isWrapper; first | (rw [if_pos (by decide +kernel)]; kernel_rfl) | (rw [if_neg (by decide +kernel)]; exact ⟨rfl, rfl⟩))
    (fun os started H enc _ => keeps_lifted os started H enc)
end Go.Proofs.Ytdpjdmgdngjjnaa
