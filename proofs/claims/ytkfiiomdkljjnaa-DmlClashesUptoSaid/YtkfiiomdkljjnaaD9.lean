/- Contracts: the document's facts behind a change. -/
import Derived.Test.YtkfiiomdkljjnaaD8
set_option linter.unusedSimpArgs false
set_option linter.unusedVariables false
namespace Go.Proofs.Ytkfiiomdkljjnaa
open Go.VL Go.RowKit

theorem facts_snoc (l : List Fact) (f : Fact) : facts (l ++ [f]) = facts l ++ [f.cells] := by simp [facts]
theorem goneE_snoc (e : List Int) (i : Nat) {k : Nat} (h : k < e.length) : goneE (e.take (k + 1)) i = (goneE (e.take k) i || e[k] == (i : Int)) := by
  unfold goneE; rw [take_snoc h, List.any_append]; simp

set_option maxRecDepth 4000 in
set_option maxHeartbeats 16000000 in
theorem refApply_spec (nl ne nd : Bool) (l : List Fact) (ended : List Int) (added : List Fact) (hl : l.length ≤ 1000000000) (he : ended.length ≤ 1000000000) (hd : added.length ≤ 1000000000) (hnd : nd = true → added = []) :
    Con Try.prog 9 [.c (.sl nl (facts l)), .agg [.sl ne (ended.map icell), .sl nd (facts added)]]
      (if endsE l.length ended = 0 then [.fr (applyF l ended added).isEmpty 3 (facts (applyF l ended added)) 0, .c (i64 0)] else [.fr true 0 [] 0, .c (i64 (endsE l.length ended))]) := by
  refine spec_of Try.func9 rfl (by kernel_rfl) (by simp [Try.f9]) (fun w0 K0 => vc_ok _ _ _ (by kernel_rfl) ?_)
  simp only [Try.f9]
  simp -dsimp
  refine VL.loop (fun k : Nat => ⟨[(6, .c (i64 k)), (3, .ptr 192 0), (0, .c (.sl nl (facts l)))],
      [(192, some (.box false [.c (.sl ne (ended.map icell)), .c (.sl nd (facts added))]))]⟩)
    (fun k => k ≤ ended.length ∧ firstE (endE l.length) [] (ended.take k) = 0) (fun k => ended.length - k) 0 (by kernel_rfl) ⟨by simp, rfl⟩ (by simp [St.le]) ?_
  intro k ⟨hk, hb⟩
  by_cases h1 : k < ended.length
  · have hw : IntKind.i64.wrap ((k : Int) + 1) = (k : Int) + 1 := IntWalk.i64_in _ (by omega)
    have hat := firstE_at (endE l.length) ended h1 hb
    have hst := firstE_stop (endE l.length) ended h1 hb
    simp -dsimp [h1, icell]
    by_cases hx : ended[k] < 0
    · have hf : endE l.length (ended.take k) ended[k] = 4 := by unfold endE; rw [if_pos (Or.inl hx)]
      have e : endsE l.length ended = 4 := by unfold endsE; rw [hst (by rw [hf]; decide), hf]
      simp -dsimp [hx, e]
    · by_cases hn : ended[k] < l.length
      · have e1 : ((l.length : Int) ≤ ended[k]) = False := by simp; omega
        simp -dsimp [hx, e1]
        refine VL.loop (fun j : Nat => ⟨[(7, .c (i64 j)), (6, .c (i64 k)), (3, .ptr 192 0), (0, .c (.sl nl (facts l)))],
            [(192, some (.box false [.c (.sl ne (ended.map icell)), .c (.sl nd (facts added))]))]⟩)
          (fun j => j ≤ k ∧ ended[k] ∉ ended.take j) (fun j => k - j) 0 (by kernel_rfl) ⟨by simp, by simp⟩ (by simp [St.le]) ?_
        intro j ⟨hj, hno⟩
        by_cases h2 : j < k
        · have h3 : j < ended.length := by omega
          have hw2 : IntKind.i64.wrap ((j : Int) + 1) = (j : Int) + 1 := IntWalk.i64_in _ (by omega)
          simp -dsimp [h1, h2, h3]
          refine VL.draw (by kernel_rfl) [(0, false), (1, false), (0, false), (7, false), (15, false), (0, false), (32, false), (0, false), (224, false), (480, false), (1023, true)] (by kernel_rfl) ?_
          simp -dsimp [h1, h3, icell]
          refine VIf.mk (fun h => ?_) (fun h => ?_)
          · simp at h
            have hmem : ended[k] ∈ ended.take k := by
              rw [← h]
              exact List.mem_iff_getElem.2 ⟨j, by simp; omega, by simp⟩
            have hf : endE l.length (ended.take k) ended[k] = 162 := by unfold endE; rw [if_neg (by omega), if_pos hmem]
            have e : endsE l.length ended = 162 := by unfold endsE; rw [hst (by rw [hf]; decide), hf]
            simp -dsimp [e]
          · simp at h
            simp -dsimp [hw2]
            refine ⟨j + 1, ⟨by omega, ?_⟩, ?_, by omega⟩
            · rw [take_snoc h3, List.mem_append]
              rintro (e | e)
              · exact hno e
              · simp at e; exact h e.symm
            · simp [St.le]
        · obtain rfl : j = k := by omega
          have hf : endE l.length (ended.take j) ended[j] = 0 := by unfold endE; rw [if_neg (by omega), if_neg hno]
          simp -dsimp [hw]
          refine ⟨j + 1, ⟨by omega, hat hf⟩, ?_, by omega⟩
          simp [St.le]
      · have e1 : ((l.length : Int) ≤ ended[k]) = True := by simp; omega
        have hf : endE l.length (ended.take k) ended[k] = 4 := by unfold endE; rw [if_pos (Or.inr (by omega))]
        have e : endsE l.length ended = 4 := by unfold endsE; rw [hst (by rw [hf]; decide), hf]
        simp -dsimp [hx, e1, e]
  · obtain rfl : k = ended.length := by omega
    rw [List.take_length] at hb
    have he0 : endsE l.length ended = 0 := hb
    rw [if_pos he0]
    simp -dsimp
    refine VL.loop (fun i : KI => ⟨[(9, .c (i64 i.k)), (8, .own 512 (keep (goneE ended) l i.k).length), (3, .ptr 192 0), (0, .c (.sl nl (facts l)))],
        [(512, some (.arr i.nl i.sz (facts (keep (goneE ended) l i.k)) 0)), (192, some (.box false [.c (.sl ne (ended.map icell)), .c (.sl nd (facts added))]))]⟩)
      (fun i => i.k ≤ l.length ∧ i.Ok (keep (goneE ended) l i.k)) (fun i => l.length - i.k) ⟨0, true, 0⟩ (by kernel_rfl) ⟨by simp, rfl, rfl⟩ (by simp [St.le, keep, facts]) ?_
    intro ⟨k, z, sz⟩ ⟨hk2, hz, hsz⟩
    simp only at hk2 hz hsz
    have hkl := keep_len (goneE ended) l k
    by_cases h2 : k < l.length
    · have hw : IntKind.i64.wrap ((k : Int) + 1) = (k : Int) + 1 := IntWalk.i64_in _ (by omega)
      simp -dsimp [h2]
      refine VL.loop (fun j : Nat => ⟨[(11, .c (i64 j)), (10, .c (bln (goneE (ended.take j) k))), (9, .c (i64 k)), (8, .own 512 (keep (goneE ended) l k).length), (3, .ptr 192 0), (0, .c (.sl nl (facts l)))],
          [(512, some (.arr z sz (facts (keep (goneE ended) l k)) 0)), (192, some (.box false [.c (.sl ne (ended.map icell)), .c (.sl nd (facts added))]))]⟩)
        (fun j => j ≤ ended.length) (fun j => ended.length - j) 0 (by kernel_rfl) (by simp) (by simp [St.le, goneE]) ?_
      intro j hj
      by_cases h3 : j < ended.length
      · have hw2 : IntKind.i64.wrap ((j : Int) + 1) = (j : Int) + 1 := IntWalk.i64_in _ (by omega)
        have hsn := goneE_snoc ended k h3
        simp -dsimp [h3, icell, hw2]
        refine ⟨j + 1, by omega, ?_, by omega⟩
        simp [St.le, hsn, icell]
      · obtain rfl : j = ended.length := by omega
        rw [List.take_length]
        simp -dsimp
        refine VIf.mk (fun h => ?_) (fun h => ?_)
        · have hg : goneE ended k = false := by simpa using h
          simp -dsimp [h2, hw, maxLen, Fact.cells]
          refine ⟨fun e => by rw [hsz, e]; rfl, by omega, ⟨k + 1, false, 3⟩, ⟨by simp only; omega, ?_⟩, ?_, by simp only; omega⟩
          · rw [keep_yes h2 hg]; exact KI.next
          · have e : facts (keep (goneE ended) l (k + 1)) = facts (keep (goneE ended) l k) ++ [l[k].cells] := by
              rw [keep_yes h2 hg, facts_snoc]
            have e2 : (keep (goneE ended) l (k + 1)).length = (keep (goneE ended) l k).length + 1 := by rw [keep_yes h2 hg]; simp
            simp only [e, e2]
            simp [St.le, Fact.cells]
        · have hg : goneE ended k = true := by simpa using h
          simp -dsimp [hw]
          refine ⟨⟨k + 1, z, sz⟩, ⟨by simp only; omega, ?_⟩, ?_, by simp only; omega⟩
          · rw [keep_no hg]; exact ⟨hz, hsz⟩
          · simp [St.le, keep_no hg]
    · obtain rfl : k = l.length := by omega
      simp -dsimp
      refine ⟨fun e => by rw [hsz, e]; rfl, by omega, ⟨?_, ?_⟩, by simp [applyF]⟩
      · rw [hz]; unfold applyF; cases keep (goneE ended) l l.length <;> simp
      · simp [applyF, facts]
end Go.Proofs.Ytkfiiomdkljjnaa
