/- Contract: Coalesce. -/
import Derived.Test.YtmkbclnhopoiiaaBPA
set_option linter.unusedSimpArgs false
set_option linter.unusedVariables false
namespace Go.Proofs.Ytmkbclnhopoiiaa
open Go.VL Go.RowKit

def gC (sortP : List Per → List Per) (x : List Val × List Per) : List Fact := (unionL sortP x.2).map (mkF x.1)
def coalesceL (sortP : List Per → List Per) (l : List Fact) : List Fact := catG (gC sortP) (groupsL (rightL l))
set_option maxRecDepth 4000 in
set_option maxHeartbeats 16000000 in
theorem coalesce1_spec {sortP : List Per → List Per} (hs : Sorts sortP) (x : List Val × List Per) (B : Nat) (hB : B ≤ 3000000000000) (hr : x.1.length ≤ 4294967296) (hp : x.2.length ≤ 1000000000000) (hu : unionL sortP x.2 ≠ []) :
    GrpOk 42 x (gC sortP x) B := by
  intro sz acc hacc hsz
  refine spec_ofB 3 Try.func42 rfl (by kernel_rfl) (by simp [Try.f42, grpA]) (by simp [outB]) rfl (fun w0 K0 uf => vc_ok _ _ _ (by kernel_rfl) ?_)
  have hun := union_frz hs false x.2 (by simp) (by omega)
  unfold gC at *
  have hul : 0 < (unionL sortP x.2).length := List.length_pos_iff.2 hu
  generalize unionL sortP x.2 = U at *
  rw [List.length_map] at hacc
  simp only [Try.f42]
  simp -dsimp [initB, initEnv, pinsOf, outB, grpA]
  refine VC.mk _ hun ?_
  simp -dsimp
  refine VL.loop (fun m : KI => ⟨[(10, .c (i64 m.k)), (9, .c (i64 U.length)), (8, .c (.sl U.isEmpty (U.map Per.cells))), (0, .c (.sl x.1.isEmpty (vals x.1))), (1, .c (.sl false (x.2.map Per.cells))), (2, .ptr 1 0)],
      [(1, some (.box false [.own 2 (acc ++ (U.take m.k).map (mkF x.1)).length])), (2, some (.arr m.nl m.sz (facts (acc ++ (U.take m.k).map (mkF x.1))) 0)),
       (3, some (.pin (uf 0) (.c (.sl x.1.isEmpty (vals x.1))))), (4, some (.pin (uf 1) (.c (.sl false (x.2.map Per.cells))))), (5, some (.pin (uf 2) (.ptr 1 0)))]⟩)
    (fun m => m.k ≤ U.length ∧ m.nl = (acc ++ (U.take m.k).map (mkF x.1)).isEmpty ∧ m.sz = if m.k = 0 then sz else 3) (fun m => U.length - m.k) ⟨0, acc.isEmpty, sz⟩ (by kernel_rfl) ⟨Nat.zero_le _, by simp, rfl⟩ (by simp [St.le]) ?_
  intro ⟨m, z, sx⟩ ⟨hm1, hx, hsx⟩
  simp only at hm1 hx hsx
  by_cases m1 : m < U.length
  · have hwm : IntKind.i64.wrap ((m : Int) + 1) = (m : Int) + 1 := IntWalk.i64_in _ (by omega)
    have htk := take_snoc m1
    have hmin : min m U.length = m := by omega
    simp -dsimp [m1, Per.cells]
    refine VL.draw (by kernel_rfl) [(0, false), (0, false), (2, false), (6, false), (0, false), (30, false), (62, false), (127, true), (255, true)] (by kernel_rfl) ?_
    simp -dsimp [m1, Per.cells]
    refine ⟨by decide, VCE.mk _ (copied_at false _ x.1.isEmpty x.1 rfl hr) ?_⟩
    have hadd : acc.length + (min m U.length + 1) = acc.length + min m U.length + 1 := rfl
    simp -dsimp [hwm, maxLen, hadd]
    have htk2 : List.take (m + 1) (List.map (Fact.cells ∘ mkF x.1) U) = List.take m (List.map (Fact.cells ∘ mkF x.1) U) ++ [[C.sl x.1.isEmpty (vals x.1), i64 U[m].f, i64 U[m].t]] := by
      have := congrArg (List.map (Fact.cells ∘ mkF x.1)) htk
      rw [List.map_append, List.map_take, List.map_take, List.map_singleton] at this
      exact this
    refine ⟨fun e => ?_, by omega, ⟨m + 1, false, 3⟩, ⟨by simp only; omega, ?_, by simp⟩, ?_, by simp only; omega⟩
    · rw [hsx]
      split
      · rename_i h0
        refine hsz ?_
        rintro rfl
        rw [e, h0] at hx
        simp at hx
      · rfl
    · simp only
      rw [← List.map_take, htk]; simp
      intro _ e; rw [e] at m1; simp at m1
    · have hmin2 : min (m + 1) U.length = m + 1 := by omega
      simp [St.le, htk2, hmin, hmin2]
      omega
  · obtain rfl : m = U.length := by omega
    rw [List.take_length] at *
    obtain rfl : sx = 3 := by rw [hsx, if_neg (by omega)]
    simp -dsimp
    rw [hx]
    simp [resEnd, outB, pinsEnd, grpA]
theorem union_ne {sortP : List Per → List Per} (hs : Sorts sortP) {ps : List Per} (hr : ∀ p ∈ ps, right p = true) (hn : ps ≠ []) : unionL sortP ps ≠ [] := by
  intro e
  obtain ⟨h1, h2⟩ := unionL_ok hs ps
  cases ps with
  | nil => exact hn rfl
  | cons p ps =>
    have hp := hr p (by simp)
    have := h2 p.f
    rw [e, inL_nil] at this
    have a := (right_iff p).1 hp
    have : someP (p :: ps) p.f = true := by
      unfold someP
      rw [List.any_eq_true]
      exact ⟨p, by simp, by rw [hp, (has_iff p p.f).2 ⟨by omega, by omega⟩]; rfl⟩
    simp_all
theorem group_ne : ∀ (n : Nat) (l : List Fact), l.length ≤ n → ∀ x ∈ groupsL l, x.2 ≠ []
  | n, [], _ => by rw [groupsL_nil]; simp
  | 0, f :: l, h => by simp at h
  | n + 1, f :: l, h => by
    have hlen := (List.dropWhile_sublist (alikeR f.row) (l := l)).length_le
    intro x hx
    rw [groupsL_cons] at hx
    rcases List.mem_cons.1 hx with rfl | hx
    · simp
    · exact group_ne n _ (by simp at h; omega) x hx
theorem coalesce_pre {sortP : List Per → List Per} (hs : Sorts sortP) (l : List Fact) : (coalesceL sortP l).length ≤ l.length := by
  have h1 := catG_le (gC sortP) (fun x => x.2.length) (groupsL (rightL l)) fun x hx => by
    unfold gC; rw [List.length_map]; exact unionL_len hs x.2
  rw [groups_sum _ _ (Nat.le_refl _)] at h1
  exact Nat.le_trans h1 (rightL_len l)

set_option maxRecDepth 4000 in
set_option maxHeartbeats 16000000 in
theorem coalesce_spec {sortP : List Per → List Per} (hs : Sorts sortP) (hf : SortsF) (nl : Bool) (l : List Fact) (hl : l.length ≤ 100000000000) (hr : Rows1 l) :
    Con Try.prog 18 [.c (.sl nl (facts l))] [.c (.sl (coalesceL sortP l).isEmpty (facts (coalesceL sortP l)))] := by
  refine Con.frz (rs := [.fr (coalesceL sortP l).isEmpty (if (rightL l).isEmpty then 0 else 3) (facts (coalesceL sortP l)) 0]) ?_ 0 rfl
  refine spec_of Try.func18 rfl (by kernel_rfl) (by simp [Try.f18]) (fun w0 K0 => vc_ok _ _ _ (by kernel_rfl) ?_)
  have hcp := coalesce_pre hs l
  unfold coalesceL at *
  have hri := right_spec hf nl l (by omega) hr
  have hgi := fun x => @group_in l x
  have hgr0 := fun x => @group_right l x
  have hrl := rightL_len l
  have hrN : ∀ f ∈ rightL l, f.nl = f.row.isEmpty ∧ f.row.length ≤ 4294967296 := by
    intro f hf
    obtain ⟨g, hg, _, rfl⟩ := rightL_mem.1 hf
    exact ⟨rfl, hr g hg⟩
  generalize rightL l = r at *
  have hgr := group_spec 42 (gC sortP) 3000000000000 r.isEmpty r (by omega) hrN (fun x hx => by
    obtain ⟨⟨f, hf, e⟩, h2⟩ := hgi x hx
    exact coalesce1_spec hs x _ (Nat.le_refl _) (by rw [← e]; exact hr f hf) (by omega) (union_ne hs (hgr0 x hx) (group_ne _ _ (Nat.le_refl _) x hx))) (by omega)
  generalize catG (gC sortP) (groupsL r) = m at *
  simp only [Try.f18]
  simp -dsimp
  refine VC.mk _ hri ?_
  simp -dsimp
  refine VC.lend _ _ _ [] _ (oτ 192 193) [193] (lend_out (by decide) hgr ?_ ?_ ?_ ?_) ?_
  · simp [renSs, renS, oτ]
  · simp [St.rs, vlook]
  · simp [St.rs, vlook]
  · simp [keptP, keptQ]
  simp -dsimp [outB, retS, renSs, oτ]
end Go.Proofs.Ytmkbclnhopoiiaa
