/- Contracts: the facts behind a change. -/
import Derived.Test.YtkfiiomdkljjnaaD7
import Derived.Test.YtkfiiomdkljjnaaV30
set_option linter.unusedSimpArgs false
set_option linter.unusedVariables false
namespace Go.Proofs.Ytkfiiomdkljjnaa
open Go.VL Go.RowKit

def goneRow (n : Nat) (e : List Int) : List (List C) := (List.range n).map fun i => [bln (goneE e i)]
@[simp] theorem goneRow_len (n : Nat) (e : List Int) : (goneRow n e).length = n := by simp [goneRow]
@[simp] theorem goneRow_get (n : Nat) (e : List Int) (i : Nat) (h : i < (goneRow n e).length) : (goneRow n e)[i] = [bln (goneE e i)] := by simp [goneRow]
theorem goneRow_nil (n : Nat) : List.replicate n [bln false] = goneRow n [] := by
  refine List.ext_getElem (by simp) fun i h1 h2 => ?_
  simp [goneE]
theorem goneRow_set (n : Nat) (e : List Int) (i : Nat) (h : i < n) : (goneRow n e).set i [bln true] = goneRow n (e ++ [(i : Int)]) := by
  refine List.ext_getElem (by simp) fun j h1 h2 => ?_
  simp only [List.getElem_set, goneRow_get]
  unfold goneE
  by_cases e2 : i = j
  · subst e2; simp
  · have : ((i : Int) == (j : Int)) = false := by simp; omega
    simp [e2, this]
theorem goneE_mem (e : List Int) (i : Nat) : goneE e i = decide ((i : Int) ∈ e) := by
  rw [Bool.eq_iff_iff]; unfold goneE; simp
theorem copied_frz (nl : Bool) (l : List Val) (hl : l.length ≤ 4294967296) : Con Try.prog 31 [.c (.sl nl (vals l))] [.c (.sl false (vals l))] := Con.frz (copied_spec nl l hl) 0 rfl
structure KI where
  k : Nat
  nl : Bool
  sz : Nat
def KI.Ok (i : KI) (row : List Fact) : Prop := i.nl = row.isEmpty ∧ i.sz = if i.nl then 0 else 3
theorem KI.same {k k' : Nat} {nl : Bool} {sz : Nat} {row : List Fact} (h : KI.Ok ⟨k, nl, sz⟩ row) : KI.Ok ⟨k', nl, sz⟩ row := h
theorem KI.next {k : Nat} {row : List Fact} {f : Fact} : KI.Ok ⟨k, false, 3⟩ (row ++ [f]) := ⟨by cases row <;> rfl, rfl⟩
/-- what the program makes of the kept facts -/
def ownedL (l : List Fact) : List (List C) := l.map fun f => (owned f).cells
@[simp] theorem ownedL_len (l : List Fact) : (ownedL l).length = l.length := by simp [ownedL]
theorem ownedL_snoc (l : List Fact) (f : Fact) : ownedL (l ++ [f]) = ownedL l ++ [(owned f).cells] := by simp [ownedL]
theorem keep_yes {g : Nat → Bool} {l : List Fact} {k : Nat} (h : k < l.length) (hg : g k = false) : keep g l (k + 1) = keep g l k ++ [l[k]] := by
  rw [keep, hg, List.getElem?_eq_getElem h]; rfl
theorem keep_no {g : Nat → Bool} {l : List Fact} {k : Nat} (hg : g k = true) : keep g l (k + 1) = keep g l k := by
  rw [keep, hg]; simp

set_option maxRecDepth 4000 in
set_option maxHeartbeats 16000000 in
theorem apply_spec (nl ne nd : Bool) (l : List Fact) (ended : List Int) (added : List Fact) (hl : l.length ≤ 1000000000) (hr : Rows1 l) (he : ended.length ≤ 1000000000) (hd : added.length ≤ 1000000000) (hr2 : Rows1 added) :
    Con Try.prog 8 [.c (.sl nl (facts l)), .agg [.sl ne (ended.map icell), .sl nd (facts added)]]
      (if endsE l.length ended = 0 then [.fr (applyF l ended added).isEmpty (if (applyF l ended added).isEmpty then 0 else 3) (ownedL (applyF l ended added)) 0, .c (i64 0)] else [.fr true 0 [] 0, .c (i64 (endsE l.length ended))]) := by
  refine spec_of Try.func8 rfl (by kernel_rfl) (by simp [Try.f8]) (fun w0 K0 => vc_ok _ _ _ (by kernel_rfl) ?_)
  simp only [Try.f8]
  simp -dsimp
  refine ⟨by omega, ?_⟩
  refine VL.loop (fun k : Nat => ⟨[(20, .c (i64 k)), (19, .c (i64 ended.length)), (18, .c (.sl ne (ended.map icell))), (6, .own 1024 l.length), (3, .ptr 192 0), (0, .c (.sl nl (facts l)))],
      [(1024, some (.arr false 1 (goneRow l.length (ended.take k)) 0)), (192, some (.box false [.c (.sl ne (ended.map icell)), .c (.sl nd (facts added))]))]⟩)
    (fun k => k ≤ ended.length ∧ firstE (endE l.length) [] (ended.take k) = 0) (fun k => ended.length - k) 0 (by kernel_rfl) ⟨by simp, rfl⟩ (by simp [St.le]; exact goneRow_nil _) ?_
  intro k ⟨hk, hb⟩
  by_cases h1 : k < ended.length
  · have hw : IntKind.i64.wrap ((k : Int) + 1) = (k : Int) + 1 := IntWalk.i64_in _ (by omega)
    have hat := firstE_at (endE l.length) ended h1 hb
    have hst := firstE_stop (endE l.length) ended h1 hb
    have htk : ended.take (k + 1) = ended.take k ++ [ended[k]] := take_snoc h1
    simp -dsimp [h1, icell]
    generalize ended[k] = x at hat hst htk ⊢
    by_cases hx : x < 0
    · have hf : endE l.length (ended.take k) x = 4 := by unfold endE; rw [if_pos (Or.inl hx)]
      have e : endsE l.length ended = 4 := by unfold endsE; rw [hst (by rw [hf]; decide), hf]
      simp -dsimp [hx, e]
    · obtain ⟨n, rfl⟩ := Int.eq_ofNat_of_zero_le (by omega : 0 ≤ x)
      have hn0 : ((n : Int) < 0) = False := by simp
      by_cases hn : n < l.length
      · have e1 : ((l.length : Int) ≤ (n : Int)) = False := by simp; omega
        simp -dsimp [hn0, e1, hn]
        refine VIf.mk (fun h => ?_) (fun h => ?_)
        · rw [goneE_mem, decide_eq_true_iff] at h
          have hf : endE l.length (ended.take k) n = 162 := by unfold endE; rw [if_neg (by omega), if_pos h]
          have e : endsE l.length ended = 162 := by unfold endsE; rw [hst (by rw [hf]; decide), hf]
          simp -dsimp [e]
        · rw [goneE_mem, decide_eq_false_iff_not] at h
          have hf : endE l.length (ended.take k) n = 0 := by unfold endE; rw [if_neg (by omega), if_neg h]
          simp -dsimp [hw, hn]
          refine ⟨k + 1, ⟨by omega, hat hf⟩, ?_, by omega⟩
          have e3 := goneRow_set l.length (ended.take k) n hn
          simp [St.le, htk, icell, e3]
      · have e1 : ((l.length : Int) ≤ (n : Int)) = True := by simp; omega
        have hf : endE l.length (ended.take k) n = 4 := by unfold endE; rw [if_pos (Or.inr (by omega))]
        have e : endsE l.length ended = 4 := by unfold endsE; rw [hst (by rw [hf]; decide), hf]
        simp -dsimp [hn0, e1, e]
  · obtain rfl : k = ended.length := by omega
    rw [List.take_length] at hb
    have he0 : endsE l.length ended = 0 := hb
    rw [if_pos he0]
    simp -dsimp
    refine VL.loop (fun i : KI => ⟨[(44, .c (i64 i.k)), (43, .c (i64 l.length)), (42, .c (.sl nl (facts l))), (9, .own 576 (keep (goneE ended) l i.k).length), (6, .own 1024 l.length), (3, .ptr 192 0), (0, .c (.sl nl (facts l)))],
        [(576, some (.arr i.nl i.sz (ownedL (keep (goneE ended) l i.k)) 0)), (1024, some (.arr false 1 (goneRow l.length ended) 0)), (192, some (.box false [.c (.sl ne (ended.map icell)), .c (.sl nd (facts added))]))]⟩)
      (fun i => i.k ≤ l.length ∧ i.Ok (keep (goneE ended) l i.k)) (fun i => l.length - i.k) ⟨0, true, 0⟩ (by kernel_rfl) ⟨by simp, rfl, rfl⟩ (by simp [St.le, keep, ownedL]) ?_
    intro ⟨k, z, sz⟩ ⟨hk2, hz, hsz⟩
    simp only at hk2 hz hsz
    have hkl := keep_len (goneE ended) l k
    by_cases h2 : k < l.length
    · have hw : IntKind.i64.wrap ((k : Int) + 1) = (k : Int) + 1 := IntWalk.i64_in _ (by omega)
      simp -dsimp [h2, Fact.cells]
      by_cases hg : goneE ended k = true
      · simp -dsimp [hg, h2, hw]
        refine ⟨⟨k + 1, z, sz⟩, ⟨by simp only; omega, ?_⟩, ?_, by simp only; omega⟩
        · rw [keep_no hg]; exact ⟨hz, hsz⟩
        · simp [St.le, keep_no hg]
      · simp at hg
        simp -dsimp [hg, h2]
        refine VL.draw (by kernel_rfl) [(0, false), (0, false), (2, false), (6, false), (0, false), (16, false), (62, false), (126, false), (255, true), (511, true)] (by kernel_rfl) ?_
        simp -dsimp
        refine VCE.mk _ (copied_frz l[k].nl l[k].row (hr l[k] (List.getElem_mem h2))) ?_
        simp -dsimp [hw, maxLen]
        refine ⟨fun e => by rw [hsz, e]; rfl, by omega, ⟨k + 1, false, 3⟩, ⟨by simp only; omega, ?_⟩, ?_, by simp only; omega⟩
        · rw [keep_yes h2 hg]; exact KI.next
        · simp [St.le, keep_yes h2 hg, ownedL_snoc, owned, Fact.cells]
    · obtain rfl : k = l.length := by omega
      simp -dsimp
      refine VL.loop (fun i : KI => ⟨[(67, .c (i64 i.k)), (66, .c (i64 added.length)), (65, .c (.sl nd (facts added))), (9, .own 576 (keep (goneE ended) l l.length ++ added.take i.k).length)],
          [(576, some (.arr i.nl i.sz (ownedL (keep (goneE ended) l l.length ++ added.take i.k)) 0))]⟩)
        (fun i => i.k ≤ added.length ∧ i.Ok (keep (goneE ended) l l.length ++ added.take i.k)) (fun i => added.length - i.k) ⟨0, z, sz⟩ (by kernel_rfl) ⟨by simp, by rw [List.take_zero, List.append_nil]; exact ⟨hz, hsz⟩⟩ (by simp [St.le]) ?_
      clear hz hsz z sz
      intro ⟨k, z, sz⟩ ⟨hk2, hz, hsz⟩
      simp only at hk2 hz hsz
      by_cases h2 : k < added.length
      · have hw : IntKind.i64.wrap ((k : Int) + 1) = (k : Int) + 1 := IntWalk.i64_in _ (by omega)
        have htl : (added.take k).length ≤ k := by rw [List.length_take]; omega
        have htk : added.take (k + 1) = added.take k ++ [added[k]] := take_snoc h2
        simp -dsimp [h2, Fact.cells]
        refine VL.draw (by kernel_rfl) [(0, false), (0, false), (2, false), (6, false), (0, false), (16, false), (62, false), (126, false), (255, true), (511, true)] (by kernel_rfl) ?_
        simp -dsimp
        refine VCE.mk _ (copied_frz added[k].nl added[k].row (hr2 added[k] (List.getElem_mem h2))) ?_
        simp -dsimp [hw, maxLen]
        have hmin : min k added.length = k := by omega
        have hmin2 : min (k + 1) added.length = k + 1 := by omega
        refine ⟨fun e => by rw [hsz, e]; rfl, by omega, ⟨k + 1, false, 3⟩, ⟨by simp only; omega, ?_⟩, ?_, by simp only; omega⟩
        · rw [htk, ← List.append_assoc]; exact KI.next
        · have e : ownedL (keep (goneE ended) l l.length ++ added.take (k + 1)) = ownedL (keep (goneE ended) l l.length ++ added.take k) ++ [(owned added[k]).cells] := by
            rw [htk, ← List.append_assoc, ownedL_snoc]
          simp [St.le, hmin, hmin2, e, owned, Fact.cells]
          omega
      · obtain rfl : k = added.length := by omega
        rw [List.take_length] at hz
        simp -dsimp
        refine ⟨⟨hz, ?_, rfl⟩, by simp [applyF]⟩
        have hz' : z = (applyF l ended added).isEmpty := hz
        rw [hsz, hz']
        simp
end Go.Proofs.Ytkfiiomdkljjnaa
