/- Contracts of the document's Where, Union and Minus. -/
import Derived.Test.YtdpjdmgdngjjnaaQE3
import Derived.Test.YtdpjdmgdngjjnaaQ7
set_option linter.unusedSimpArgs false
set_option linter.unusedVariables false
namespace Go.Proofs.Ytdpjdmgdngjjnaa
open Go.VL Go.RowKit

theorem refHas_at' (cs : List C) (p : Per) (t : Int) (h : cs = p.cells) : Con Try.prog 22 [.agg cs, .c (i64 t)] [.c (bln (has p t))] := by rw [h]; exact refHas_spec p t
theorem refEdges_at (nl : Bool) (xs : List (List C)) (l : List Per) (h : xs = l.map Per.cells) (hl : l.length ≤ 8796093022207) :
    Con Try.prog 24 [.c (.sl nl xs)] [.fr (edgesL l).isEmpty (ez (edgesL l)) (ints (edgesL l)) 0] := by rw [h]; exact refEdges_spec nl l hl

theorem whereS_len2 (E : List Int) (cond : Int → Bool) (out : List Per) (k : Nat) (h1 : 2 * out.length ≤ k + 1) (h2 : (∀ h : 0 < out.length, (out[out.length - 1]'(by omega)).t ≠ ge E k) → 2 * out.length ≤ k) :
    ∀ o, o = whereS E cond out k → 2 * o.length ≤ k + 1 + 1 ∧ ((∀ h : 0 < o.length, (o[o.length - 1]'(by omega)).t ≠ ge E (k + 1)) → 2 * o.length ≤ k + 1) := by
  intro o ho
  unfold whereS at ho
  by_cases hc : cond (ge E k) = true
  · rw [if_pos hc] at ho
    by_cases hl : 0 < out.length
    · have hlast : out[out.length - 1]! = out[out.length - 1] := getElem!_pos out _ (by omega)
      rw [hlast] at ho
      by_cases he : out[out.length - 1].t = ge E k
      · rw [if_pos (by simp [hl, he])] at ho
        subst ho
        refine ⟨by simp; omega, fun h => absurd ?_ (h (by simp; omega))⟩
        simp
      · rw [if_neg (by simp [he])] at ho
        subst ho
        have := h2 (fun _ => he)
        refine ⟨by simp; omega, fun h => absurd ?_ (h (by simp))⟩
        simp
    · rw [if_neg (by simp [hl])] at ho
      subst ho
      have h0 : out.length = 0 := by omega
      refine ⟨by simp; omega, fun h => absurd ?_ (h (by simp))⟩
      simp
  · rw [if_neg hc] at ho
    subst ho
    exact ⟨by omega, fun _ => by omega⟩
theorem whereK_len2 (E : List Int) (cond : Int → Bool) : ∀ k, ∀ o, o = whereK E cond k → 2 * o.length ≤ k + 1 ∧ ((∀ h : 0 < o.length, (o[o.length - 1]'(by omega)).t ≠ ge E k) → 2 * o.length ≤ k)
  | 0, o, ho => by subst ho; simp [whereK]
  | k + 1, o, ho => by
    obtain ⟨h1, h2⟩ := whereK_len2 E cond k _ rfl
    exact whereS_len2 E cond _ k h1 h2 o ho

set_option maxRecDepth 4000 in
set_option maxHeartbeats 16000000 in
theorem refWhere_spec (a : Per) (n1 n2 : Bool) (w wo : List Per) (hl : w.length + wo.length + 1 ≤ 8796093022207) :
    Con Try.prog 35 [.agg a.cells, .c (.sl n1 (w.map Per.cells)), .c (.sl n2 (wo.map Per.cells))] [.fr (whereL a w wo).isEmpty (esz (whereL a w wo)) ((whereL a w wo).map Per.cells) 0] := by
  refine spec_of Try.func35 rfl (by kernel_rfl) (by simp [Try.f35]) (fun w0 K0 => vc_ok _ _ _ (by kernel_rfl) ?_)
  simp only [Try.f35]
  simp -dsimp [Per.cells, maxLen]
  refine ⟨by omega, by omega, by omega, VCL.snap ?_⟩
  simp -dsimp
  refine ⟨by omega, ?_⟩
  have hE := refEdges_at false ([i64 a.f, i64 a.t] :: (w.map Per.cells ++ wo.map Per.cells)) (allW a w wo) (by simp [allW, Per.cells]) (by simp [allW]; try omega)
  refine VC.mk _ hE ?_
  have hlen := edgesL_len (allW a w wo)
  have hal : (allW a w wo).length = w.length + wo.length + 1 := by simp [allW]; try omega
  have hwd : whereL a w wo = whereK (edgesL (allW a w wo)) (condW a w wo) ((edgesL (allW a w wo)).length - 1) := rfl
  rw [hwd]
  clear hwd hE
  generalize edgesL (allW a w wo) = E at *
  simp -dsimp
  refine VL.loop (fun i : LI => ⟨[(10, .c (i64 i.k)), (9, .own 576 (whereK E (condW a w wo) i.k).length), (8, .own 1280 E.length), (3, .ptr 192 0), (1, .c (.sl n1 (w.map Per.cells))), (2, .c (.sl n2 (wo.map Per.cells)))],
      [(576, some (.arr i.nl i.sz ((whereK E (condW a w wo) i.k).map Per.cells) 0)), (1280, some (.arr E.isEmpty (ez E) (ints E) 0)), (192, some (.box false [.c (i64 a.f), .c (i64 a.t)]))]⟩)
    (fun i => i.k ≤ E.length - 1 ∧ i.nl = (whereK E (condW a w wo) i.k).isEmpty ∧ i.sz = esz (whereK E (condW a w wo) i.k)) (fun i => E.length - i.k) ⟨0, true, 0⟩ (by kernel_rfl) (by simp [whereK, esz]) (by simp [St.le, whereK]) ?_
  intro ⟨k, nl', sz⟩ ⟨hk, hnl, hsz⟩
  simp only at hk hnl hsz
  have hol := (whereK_len2 E (condW a w wo) k _ rfl).1
  have hsu : whereK E (condW a w wo) (k + 1) = whereS E (condW a w wo) (whereK E (condW a w wo) k) k := rfl
  generalize ho : whereK E (condW a w wo) k = out at *
  have hw : IntKind.i64.wrap ((k : Int) + 1) = (k : Int) + 1 := IntWalk.i64_in _ (by omega)
  by_cases hlt : k + 1 < E.length
  · have hEe : E.isEmpty = false := by cases E with | nil => simp at hlt | cons => rfl
    have hEz : ez E = 1 := by simp [ez, hEe]
    have hd : decide ((k : Int) + 1 < (E.length : Int)) = true := by simp; omega
    have hk1 : k < E.length := by omega
    have g0 : ge E k = E[k] := ge_pos E k hk1
    have g1 : ge E (k + 1) = E[k + 1] := ge_pos E _ hlt
    simp -dsimp [hw, hd, hEe, hEz, hk1]
    refine VC.mk _ (refRight_at' _ a rfl) ?_
    simp -dsimp
    refine VG.mk [.c (bln (has a E[k]))] _ (fun _ => refHas_at' _ a _ rfl) rfl ?_
    simp -dsimp
    refine VG.mk [.c (bln (someP wo E[k]))] _ (fun _ => some_spec n2 wo _ (by omega)) rfl ?_
    simp -dsimp
    refine VG.mk [.c (bln (someP w E[k]))] _ (fun _ => some_spec n1 w _ (by omega)) rfl ?_
    simp -dsimp
    refine ⟨fun h => ?_, ?_⟩
    · cases h1 : right a <;> cases h2 : has a E[k] <;> cases h3 : someP wo E[k] <;> simp_all
    have hc : condW a w wo E[k] = !((!right a || !has a E[k] || someP wo E[k]) && !someP w E[k]) := by
      unfold condW
      cases right a <;> cases has a E[k] <;> cases someP wo E[k] <;> cases someP w E[k] <;> rfl
    refine VIf.mk (fun h => ?_) (fun h => ?_)
    · have e : whereS E (condW a w wo) out k = out := by unfold whereS; rw [g0, hc, h]; rfl
      rw [e] at hsu
      simp -dsimp [hw]
      refine ⟨⟨k + 1, nl', sz⟩, ⟨show k + 1 ≤ E.length - 1 by omega, by rw [hsu]; exact hnl, by rw [hsu]; exact hsz⟩, ?_, by simp; omega⟩
      simp [St.le, hsu, hEe, hEz]
    · have hcd : condW a w wo E[k] = true := by rw [hc, h]; rfl
      simp -dsimp
      match out, hnl, hol, hsz, hsu with
      | [], hnl, hol, hsz, hsu =>
        obtain rfl : nl' = true := hnl
        obtain rfl : sz = 0 := hsz
        have e : whereS E (condW a w wo) [] k = [⟨E[k], E[k + 1]⟩] := by unfold whereS; rw [g0, hcd, g1]; simp
        rw [e] at hsu
        simp -dsimp [hw, maxLen, defC, hlt, hk1]
        refine ⟨by omega, ⟨k + 1, false, 2⟩, ⟨show k + 1 ≤ E.length - 1 by omega, by rw [hsu]; rfl, by rw [hsu]; rfl⟩, ?_, show E.length - (k + 1) < E.length - k by omega⟩
        simp [St.le, hsu, hEe, hEz, Per.cells]
      | x :: r, hnl, hol, hsz, hsu =>
        obtain rfl : nl' = false := hnl
        obtain rfl : sz = 2 := hsz
        generalize hout : x :: r = out at *
        have hne : 0 < out.length := by rw [← hout]; simp
        have hT : IntKind.i64.wrap ((out.length : Int) - 1) = ((out.length - 1 : Nat) : Int) := by rw [IntWalk.i64_in _ (by omega)]; omega
        have hl1 : out.length - 1 < out.length := by omega
        have hlast : out[out.length - 1]! = out[out.length - 1] := getElem!_pos out _ hl1
        simp -dsimp [hw, hne, hl1, hT, Per.cells]
        refine VIf.mk (fun hle => ?_) (fun hle => ?_)
        · have hle' : out[out.length - 1].t = E[k] := by simpa using hle
          have e : whereS E (condW a w wo) out k = out.set (out.length - 1) ⟨out[out.length - 1].f, E[k + 1]⟩ := by
            unfold whereS; rw [g0, hcd, g1, hlast]; simp [hne, hle']
          rw [e] at hsu
          simp -dsimp [hw, hne, hl1, hT, hlt, hk1, Per.cells]
          refine ⟨by omega, ⟨k + 1, false, 2⟩, ⟨show k + 1 ≤ E.length - 1 by omega, ?_, ?_⟩, ?_, show E.length - (k + 1) < E.length - k by omega⟩
          · rw [hsu]; simp only [Bool.false_eq, List.isEmpty_eq_false_iff]; intro e2; have := congrArg List.length e2; rw [List.length_set] at this; simp at this; simp [this] at hne
          · rw [hsu]; unfold esz; rw [if_neg]; simp only [List.isEmpty_iff]; intro e2; have := congrArg List.length e2; rw [List.length_set] at this; simp at this; simp [this] at hne
          · simp [St.le, hsu, List.map_set, hEe, hEz, Per.cells]
        · have hle' : ¬ out[out.length - 1].t = E[k] := by simpa using hle
          have e : whereS E (condW a w wo) out k = out ++ [⟨E[k], E[k + 1]⟩] := by
            unfold whereS; rw [g0, hcd, g1, hlast]; simp [hle']
          rw [e] at hsu
          simp -dsimp [hw, maxLen, hlt, hk1, Per.cells]
          refine ⟨by omega, by omega, ⟨k + 1, false, 2⟩, ⟨show k + 1 ≤ E.length - 1 by omega, by rw [hsu]; simp, by rw [hsu]; simp [esz]⟩, ?_, show E.length - (k + 1) < E.length - k by omega⟩
          simp [St.le, hsu, hEe, hEz, Per.cells]
  · have hd : decide ((k : Int) + 1 < (E.length : Int)) = false := by simp; omega
    simp -dsimp [hw, hd]
    obtain rfl : k = E.length - 1 := by omega
    rw [ho]
    exact ⟨⟨hnl, hsz, rfl⟩, rfl⟩

theorem refUnion_spec {sortP : List Per → List Per} (hs : Sorts sortP) (nl : Bool) (l : List Per) (hl : l.length ≤ 8796093022206) :
    Con Try.prog 25 [.c (.sl nl (l.map Per.cells))] [.fr (unionL sortP l).isEmpty (esz (unionL sortP l)) ((unionL sortP l).map Per.cells) 0] := by
  have h := refWhere_spec ⟨0, 0⟩ nl true l [] (by simp; omega)
  rw [where_union hs] at h
  refine spec_of Try.func25 rfl (by kernel_rfl) (by simp [Try.f25]) (fun w0 K0 => vc_ok _ _ _ (by kernel_rfl) ?_)
  simp only [Try.f25]
  simp -dsimp
  refine VC.mk _ h ?_
  simp -dsimp
theorem refMinus_spec {sortP : List Per → List Per} (hs : Sorts sortP) (a : Per) (nl : Bool) (l : List Per) (hl : l.length ≤ 8796093022206) :
    Con Try.prog 26 [.agg a.cells, .c (.sl nl (l.map Per.cells))] [.fr (minusL sortP a l).isEmpty (esz (minusL sortP a l)) ((minusL sortP a l).map Per.cells) 0] := by
  have h := refWhere_spec a true nl [] l (by simp; omega)
  rw [where_minus hs] at h
  refine spec_of Try.func26 rfl (by kernel_rfl) (by simp [Try.f26]) (fun w0 K0 => vc_ok _ _ _ (by kernel_rfl) ?_)
  simp only [Try.f26]
  simp -dsimp [Per.cells]
  refine VC.mk _ h ?_
  simp -dsimp
end Go.Proofs.Ytdpjdmgdngjjnaa
