/- Contract: Coalesce. -/
import Derived.Test.YtmkbclnhopoiiaaGreatBPA
import Derived.Test.YtmkbclnhopoiiaaGreatEB
set_option linter.unusedSimpArgs false
set_option linter.unusedVariables false
namespace Go.Proofs.YtmkbclnhopoiiaaGreat
open Go.VL Go.RowKit

def gC (sortP : List Per → List Per) (x : List Val × List Per) : List Fact := (unionL sortP x.2).map (mkF x.1)
def coalesceL (sortP : List Per → List Per) (l : List Fact) : List Fact := catG (gC sortP) (groupsL (rightL l))
set_option maxRecDepth 4000 in
set_option maxHeartbeats 16000000 in
theorem coalesce1_spec {sortP : List Per → List Per} (hs : Sorts sortP) (x : List Val × List Per) (B : Nat) (hB : B ≤ 3518437208883) (hr : x.1.length ≤ 4398046511104) (hp : x.2.length ≤ 3518437208883) (hu : unionL sortP x.2 ≠ []) :
    GrpOk 45 x (gC sortP x) B := by
  intro sz acc hacc hsz
  refine spec_ofB 3 Tryz.func45 rfl (by kernel_rfl) (by simp [Tryz.f45, grpA]) (by simp [outB]) rfl (fun w0 K0 uf => vc_ok _ _ _ (by kernel_rfl) ?_)
  have hun := union_frz hs false x.2 (by simp) (by omega)
  unfold gC at *
  have hul : 0 < (unionL sortP x.2).length := List.length_pos_iff.2 hu
  generalize unionL sortP x.2 = U at *
  rw [List.length_map] at hacc
  simp only [Tryz.f45]
  simp -dsimp [initB, initEnv, pinsOf, outB, grpA]
  refine VC.mk _ hun ?_
  simp -dsimp
  refine VL.loop (fun m : KI => ⟨[(10, .c (i64 m.k)), (9, .c (i64 U.length)), (8, .c (.sl U.isEmpty (U.map Per.cells))), (0, .c (.sl x.1.isEmpty (vals x.1))), (1, .c (.sl false (x.2.map Per.cells))), (2, .ptr 1 0)],
      [(1, some (.box false [.own 2 (acc ++ (U.take m.k).map (mkF x.1)).length])), (2, some (.arr m.nl m.sz (facts (acc ++ (U.take m.k).map (mkF x.1))) 0)),
       (3, some (.pin (uf 0) (.c (.sl x.1.isEmpty (vals x.1))))), (4, some (.pin (uf 1) (.c (.sl false (x.2.map Per.cells))))), (5, some (.pin (uf 2) (.ptr 1 0)))]⟩)
    (fun m => m.k ≤ U.length ∧ m.nl = (acc ++ (U.take m.k).map (mkF x.1)).isEmpty ∧ m.sz = if m.k = 0 then sz else 3) (fun m => U.length - m.k) ⟨0, acc.isEmpty, sz⟩ (by kernel_rfl) ⟨Nat.zero_le _, by simp, rfl⟩ (by simp [St.le]) ?_
  intro ⟨m, z, sx⟩ ⟨hm1, hx, hsx⟩
  simp only at hm1 hx hsx
  by_cases m1 : m < U.length
  · have hwm : IntKind.i64.wrap ((m : Int) + 1) = (m : Int) + 1 := IntWalk.i64_in _ (by omega)
    have htk := take_snoc m1
    have hmin : min m U.length = m := by omega
    simp -dsimp [m1, Per.cells]
    refine VL.draw (by kernel_rfl) [(0, false), (0, false), (2, false), (6, false), (0, false), (30, false), (62, false), (127, true), (255, true)] (by kernel_rfl) ?_
    simp -dsimp [m1, Per.cells]
    refine ⟨by decide, VCE.mk _ (copied_at false _ x.1.isEmpty x.1 rfl hr) ?_⟩
    have hadd : acc.length + (min m U.length + 1) = acc.length + min m U.length + 1 := rfl
    simp -dsimp [hwm, maxLen, hadd]
    have htk2 : List.take (m + 1) (List.map (Fact.cells ∘ mkF x.1) U) = List.take m (List.map (Fact.cells ∘ mkF x.1) U) ++ [[C.sl x.1.isEmpty (vals x.1), i64 U[m].f, i64 U[m].t]] := by
      have := congrArg (List.map (Fact.cells ∘ mkF x.1)) htk
      rw [List.map_append, List.map_take, List.map_take, List.map_singleton] at this
      exact this
    refine ⟨fun e => ?_, by omega, ⟨m + 1, false, 3⟩, ⟨by simp only; omega, ?_, by simp⟩, ?_, by simp only; omega⟩
    · rw [hsx]
      split
      · rename_i h0
        refine hsz ?_
        rintro rfl
        rw [e, h0] at hx
        simp at hx
      · rfl
    · simp only
      rw [← List.map_take, htk]; simp
      intro _ e; rw [e] at m1; simp at m1
    · have hmin2 : min (m + 1) U.length = m + 1 := by omega
      simp [St.le, htk2, hmin, hmin2]
      omega
  · obtain rfl : m = U.length := by omega
    rw [List.take_length] at *
    obtain rfl : sx = 3 := by rw [hsx, if_neg (by omega)]
    simp -dsimp
    rw [hx]
    simp [resEnd, outB, pinsEnd, grpA]
theorem union_ne {sortP : List Per → List Per} (hs : Sorts sortP) {ps : List Per} (hr : ∀ p ∈ ps, right p = true) (hn : ps ≠ []) : unionL sortP ps ≠ [] := by
  intro e
  obtain ⟨h1, h2⟩ := unionL_ok hs ps
  cases ps with
  | nil => exact hn rfl
  | cons p ps =>
    have hp := hr p (by simp)
    have := h2 p.f
    rw [e, inL_nil] at this
    have a := (right_iff p).1 hp
    have : someP (p :: ps) p.f = true := by
      unfold someP
      rw [List.any_eq_true]
      exact ⟨p, by simp, by rw [hp, (has_iff p p.f).2 ⟨by omega, by omega⟩]; rfl⟩
    simp_all
theorem group_ne : ∀ (n : Nat) (l : List Fact), l.length ≤ n → ∀ x ∈ groupsL l, x.2 ≠ []
  | n, [], _ => by rw [groupsL_nil]; simp
  | 0, f :: l, h => by simp at h
  | n + 1, f :: l, h => by
    have hlen := (List.dropWhile_sublist (alikeR f.row) (l := l)).length_le
    intro x hx
    rw [groupsL_cons] at hx
    rcases List.mem_cons.1 hx with rfl | hx
    · simp
    · exact group_ne n _ (by simp at h; omega) x hx
theorem coalesce_pre {sortP : List Per → List Per} (hs : Sorts sortP) (l : List Fact) : (coalesceL sortP l).length ≤ l.length := by
  have h1 := catG_le (gC sortP) (fun x => x.2.length) (groupsL (rightL l)) fun x hx => by
    unfold gC; rw [List.length_map]; exact unionL_len hs x.2
  rw [groups_sum _ _ (Nat.le_refl _)] at h1
  exact Nat.le_trans h1 (rightL_len l)

set_option maxRecDepth 4000 in
set_option maxHeartbeats 16000000 in
theorem coalesce_spec {sortP : List Per → List Per} (hs : Sorts sortP) (hf : SortsF) (nl : Bool) (l : List Fact) (hl : l.length ≤ 3518437208883) (hr : Rows1 l) :
    Con Tryz.prog 15 [.c (.sl nl (facts l))] [.c (.sl (coalesceL sortP l).isEmpty (facts (coalesceL sortP l)))] := by
  refine Con.frz (rs := [.fr (coalesceL sortP l).isEmpty (if (rightL l).isEmpty then 0 else 3) (facts (coalesceL sortP l)) 0]) ?_ 0 rfl
  refine spec_of Tryz.func15 rfl (by kernel_rfl) (by simp [Tryz.f15]) (fun w0 K0 => vc_ok _ _ _ (by kernel_rfl) ?_)
  have hcp := coalesce_pre hs l
  unfold coalesceL at *
  have hri := right_spec hf nl l (by omega) hr
  have hgi := fun x => @group_in l x
  have hgr0 := fun x => @group_right l x
  have hrl := rightL_len l
  have hrN : ∀ f ∈ rightL l, f.nl = f.row.isEmpty ∧ f.row.length ≤ 4398046511104 := by
    intro f hf
    obtain ⟨g, hg, _, rfl⟩ := rightL_mem.1 hf
    exact ⟨rfl, hr g hg⟩
  generalize rightL l = r at *
  have hgr := group_spec 45 (gC sortP) 3518437208883 r.isEmpty r (by omega) hrN (fun x hx => by
    obtain ⟨⟨f, hf, e⟩, h2⟩ := hgi x hx
    exact coalesce1_spec hs x _ (Nat.le_refl _) (by rw [← e]; exact hr f hf) (by omega) (union_ne hs (hgr0 x hx) (group_ne _ _ (Nat.le_refl _) x hx))) (by omega)
  generalize catG (gC sortP) (groupsL r) = m at *
  simp only [Tryz.f15]
  simp -dsimp
  refine VC.mk _ hri ?_
  simp -dsimp
  refine VC.lend _ _ _ [] _ (oτ 192 193) [193] (lend_out (by decide) hgr ?_ ?_ ?_ ?_) ?_
  · simp [renSs, renS, oτ]
  · simp [St.rs, vlook]
  · simp [St.rs, vlook]
  · simp [keptP, keptQ]
  simp -dsimp [outB, retS, renSs, oτ]
end Go.Proofs.YtmkbclnhopoiiaaGreat
/- The same rows; the rows of an instant are in order, each as often as it is told. -/
set_option linter.unusedSimpArgs false
set_option linter.unusedVariables false
namespace Go.Proofs.YtmkbclnhopoiiaaGreat
open Go.VL Go.RowKit

theorem snds_step {xs ys : List (Bool × List Val)} {k : Nat} (h : k < xs.length) (h' : k < ys.length) (e : (xs.take k).map Prod.snd = (ys.take k).map Prod.snd) (e' : xs[k].2 = ys[k].2) : (xs.take (k + 1)).map Prod.snd = (ys.take (k + 1)).map Prod.snd := by
  rw [take_snoc h, take_snoc h', List.map_append, List.map_append, e]
  simp [e']
set_option maxRecDepth 4000 in
set_option maxHeartbeats 8000000 in
theorem sameRows_spec (na nb : Bool) (xs ys : List (Bool × List Val)) (hl : xs.length ≤ 140737488355328) (hr : ∀ x ∈ xs, x.2.length ≤ 4398046511104) : Con Tryz.prog 25 [.c (.sl na (xs.map rowV)), .c (.sl nb (ys.map rowV))] [.c (bln (decide (xs.map Prod.snd = ys.map Prod.snd)))] := by
  refine spec_of Tryz.func25 rfl (by kernel_rfl) (by simp [Tryz.f25]) (fun w0 K0 => vc_ok _ _ _ (by kernel_rfl) ?_)
  simp only [Tryz.f25]
  simp -dsimp
  refine VIf.mk (fun h => ?_) (fun h => ?_)
  · simp -dsimp
    intro e
    have := congrArg List.length e
    simp at this
    simp [this] at h
  have hlen : xs.length = ys.length := by simp at h; omega
  simp -dsimp
  refine VL.loop (fun k : Nat => ⟨[(5, .c (i64 k)), (0, .c (.sl na (xs.map rowV))), (1, .c (.sl nb (ys.map rowV)))], []⟩) (fun k => k ≤ xs.length ∧ (xs.take k).map Prod.snd = (ys.take k).map Prod.snd) (fun k => xs.length - k) 0 (by kernel_rfl) (by simp) (by simp [St.le]) ?_
  intro k ⟨hk, heq⟩
  by_cases h1 : k < xs.length
  · have h2 : k < ys.length := by omega
    have hw : IntKind.i64.wrap ((k : Int) + 1) = (k : Int) + 1 := IntWalk.i64_in _ (by omega)
    have hrk := hr xs[k] (List.getElem_mem h1)
    simp -dsimp [h1, h2]
    refine VL.draw (by kernel_rfl) [(0, false), (0, false), (3, false), (7, false), (0, false), (0, false), (48, false), (112, false), (255, true), (511, true)] (by kernel_rfl) ?_
    simp -dsimp [h1, h2]
    refine VC.mk _ (refSame_spec _ _ xs[k].2 ys[k].2 (by omega)) ?_
    simp -dsimp
    refine VIf.mk (fun h => ?_) (fun h => ?_)
    · simp -dsimp
      intro e
      have a1 : (xs.map Prod.snd)[k]? = some xs[k].2 := by simp [h1]
      have a2 : (ys.map Prod.snd)[k]? = some ys[k].2 := by simp [h2]
      rw [e, a2] at a1
      have := Option.some.inj a1
      simp [this] at h
    · simp at h
      simp -dsimp [hw]
      refine ⟨k + 1, ⟨by omega, by have := snds_step h1 h2 heq h; rwa [List.map_take, List.map_take] at this⟩, ?_, by omega⟩
      simp [St.le]
  · obtain rfl : k = xs.length := by omega
    simp -dsimp
    rw [List.take_length, hlen, List.take_length] at heq
    exact heq
def flE (rs : List (List Val)) : List (Bool × List Val) := rs.map fun r => (r.isEmpty, r)
def flC (rs : List (List Val)) : List (Bool × List Val) := rs.map fun r => (false, r)
@[simp] theorem flE_snd (rs : List (List Val)) : (flE rs).map Prod.snd = rs := by unfold flE; rw [List.map_map]; exact List.map_id' rs
@[simp] theorem flC_snd (rs : List (List Val)) : (flC rs).map Prod.snd = rs := by unfold flC; rw [List.map_map]; exact List.map_id' rs
theorem flE_rows (rs : List (List Val)) : (flE rs).map rowV = rowsE rs := by unfold flE rowsE; rw [List.map_map]; rfl
theorem flC_rows (rs : List (List Val)) : (flC rs).map rowV = rowsC rs := by unfold flC rowsC; rw [List.map_map]; rfl

/-! ### Rows in order -/
abbrev RUp (rs : List (List Val)) : Prop := rs.Pairwise fun a b => cmpR a b ≤ 0
theorem slice_up (l : List Fact) (t : Int) : RUp (sliceL l t) := by
  unfold sliceL validR
  refine List.pairwise_map.2 ?_
  exact (sortF_up _).sublist List.filter_sublist
theorem slice_count (l : List Fact) (t : Int) (r : List Val) : (sliceL l t).count r = cnt l r t := by
  rw [← rightL_cnt]
  unfold sliceL validR cnt
  rw [List.count_eq_countP, List.countP_map, List.countP_eq_length_filter, List.filter_filter]
  congr 1
  refine List.filter_congr fun f hf => ?_
  obtain ⟨g, _, h1, rfl⟩ := rightL_mem.1 hf
  have h2 : right (norm g).p = true := h1
  simp only [Function.comp, validAt, h2, Bool.true_and]
  rw [Bool.eq_iff_iff]
  simp [and_comm]
theorem RUp.ext {a b : List (List Val)} (ha : RUp a) (hb : RUp b) (h : ∀ r, a.count r = b.count r) : a = b := by
  refine uniq_sorted (List.perm_iff_count.2 h) ha hb fun x _ y _ h1 h2 => ?_
  have := Cmp.row.anti x y
  exact (cmpR_0 x y).1 (by omega)
theorem slice_eq (a b : List Fact) (t : Int) : sliceL a t = sliceL b t ↔ ∀ r, cnt a r t = cnt b r t := by
  constructor
  · intro e r; rw [← slice_count, e, slice_count]
  · intro e; exact (slice_up a t).ext (slice_up b t) fun r => by rw [slice_count, slice_count, e]
theorem slice_len (l : List Fact) (t : Int) : (sliceL l t).length ≤ l.length := Nat.le_trans (validR_len _ t) (rightL_len l)
theorem slice_row {l : List Fact} {t : Int} {r : List Val} (h : r ∈ sliceL l t) : ∃ f ∈ l, f.row = r := by
  obtain ⟨f, hf, rfl⟩ := List.mem_map.1 h
  obtain ⟨g, hg, _, rfl⟩ := rightL_mem.1 (List.mem_filter.1 hf).1
  exact ⟨g, hg, rfl⟩

/-! ### Each once -/
def onceS (acc : List (List Val)) (r : List Val) : List (List Val) := if acc.getLast? = some r then acc else acc ++ [r]
def onceL (rs : List (List Val)) : List (List Val) := rs.foldl onceS []
theorem onceL_snoc (rs : List (List Val)) (r : List Val) : onceL (rs ++ [r]) = onceS (onceL rs) r := by unfold onceL; rw [List.foldl_append]; rfl
theorem onceL_ok (rs : List (List Val)) : RUp rs → RSort (onceL rs) ∧ (∀ x, x ∈ onceL rs ↔ x ∈ rs) ∧ (onceL rs).getLast? = rs.getLast? := by
  refine rev_ind (p := fun rs => RUp rs → RSort (onceL rs) ∧ (∀ x, x ∈ onceL rs ↔ x ∈ rs) ∧ (onceL rs).getLast? = rs.getLast?) ?_ ?_ rs
  · intro _; exact ⟨by simp [onceL, RSort], by simp [onceL], rfl⟩
  · intro l r ih hup
    obtain ⟨u1, _, u3⟩ := List.pairwise_append.1 hup
    obtain ⟨i1, i2, i3⟩ := ih u1
    rw [onceL_snoc]
    unfold onceS
    by_cases h : (onceL l).getLast? = some r
    · rw [if_pos h]
      have hr : r ∈ l := (i2 r).1 (List.mem_of_getLast? h)
      refine ⟨i1, fun x => ?_, ?_⟩
      · rw [i2, List.mem_append, List.mem_singleton]
        constructor
        · exact .inl
        · rintro (h | rfl)
          · exact h
          · exact hr
      · rw [h]; simp
    · rw [if_neg h]
      refine ⟨?_, fun x => ?_, by simp⟩
      · unfold RSort
        rw [List.pairwise_append]
        refine ⟨i1, by simp, fun x hx y hy => ?_⟩
        simp at hy
        subst hy
        have hxl := (i2 x).1 hx
        have h1 := u3 x hxl y (by simp)
        rcases Int.lt_or_eq_of_le h1 with h2 | h2
        · exact h2
        · exfalso
          have e := (cmpR_0 x y).1 h2
          subst e
          -- the last of l is x too
          rcases List.eq_nil_or_concat l with rfl | ⟨l', z, rfl⟩
          · simp at hxl
          · have hz := u3 z (by simp) x (by simp)
            have hxz : cmpR x z ≤ 0 := by
              rw [List.concat_eq_append] at hxl u1
              rcases List.mem_append.1 hxl with hm | hm
              · exact (List.pairwise_append.1 u1).2.2 x hm z (by simp)
              · simp at hm; subst hm; rw [Cmp.row.self]; exact Int.le_refl _
            have := Cmp.row.anti x z
            have e2 := (cmpR_0 x z).1 (by omega)
            subst e2
            rw [i3] at h
            simp at h
      · rw [List.mem_append, List.mem_append, i2]

/-! ### Coalesced -/
section
variable {sortP : List Per → List Per}
def Apart (f g : Fact) : Prop := cmpR f.row g.row ≤ 0 ∧ (f.row = g.row → f.p.t < g.p.f)
theorem apart_ord {f g : Fact} (hf : right f.p = true) (h : Apart f g) : ordF f g ≤ 0 := by
  unfold ordF lexC
  by_cases e : cmpR f.row g.row = 0
  · rw [if_pos e]
    show (if cmpI f.p.f g.p.f = 0 then cmpI f.p.t g.p.t else cmpI f.p.f g.p.f) ≤ 0
    have h2 := h.2 ((cmpR_0 _ _).1 e)
    have := (right_iff _).1 hf
    have : cmpI f.p.f g.p.f = -1 := (cmpI_neg _ _).2 (by omega)
    rw [if_neg (by omega)]; omega
  · rw [if_neg e]; exact h.1
theorem coalesce_flat (l : List Fact) : coalesceL sortP l = (rowsOf l).flatMap fun r => (unionL sortP (perOf l r)).map (mkF r) := by
  unfold coalesceL catG gC
  exact groups_flatMap l fun r ps => (unionL sortP ps).map (mkF r)
theorem coalesce_apart (hs : Sorts sortP) (l : List Fact) : (∀ f ∈ coalesceL sortP l, right f.p = true ∧ Normed f) ∧ (coalesceL sortP l).Pairwise Apart := by
  rw [coalesce_flat]
  constructor
  · intro f hf
    obtain ⟨r, _, hf⟩ := List.mem_flatMap.1 hf
    obtain ⟨p, hp, rfl⟩ := List.mem_map.1 hf
    exact ⟨(unionL_ok hs _).1.ok p hp, rfl⟩
  · rw [List.pairwise_flatMap]
    refine ⟨fun r _ => ?_, (rowsOf_ok l).1.imp fun {a b} hab x hx y hy => ?_⟩
    · rw [List.pairwise_map]
      refine (unionL_ok hs (perOf l r)).1.apart.imp fun {p q} h => ⟨?_, fun _ => h⟩
      show cmpR r r ≤ 0
      rw [Cmp.row.self]; exact Int.le_refl _
    · obtain ⟨p, _, rfl⟩ := List.mem_map.1 hx
      obtain ⟨q, _, rfl⟩ := List.mem_map.1 hy
      refine ⟨Int.le_of_lt hab, fun e => ?_⟩
      have e : a = b := e
      subst e
      rw [Cmp.row.self] at hab; omega
theorem coalesce_form (hs : Sorts sortP) (l : List Fact) : IsForm sortP (coalesceL sortP l) (rowsOf l) (fun r => stepsL (unionL sortP (perOf l r)) []) fun r t => (cntP (unionL sortP (perOf l r)) t : Int) - cntP [] t := by
  refine ⟨(rowsOf_ok l).1, fun r _ => stepsL_ok (unionL_ok hs _).1.ok (by simp), ?_⟩
  obtain ⟨h1, h2⟩ := coalesce_apart hs l
  have h3 : sortF (coalesceL sortP l) = coalesceL sortP l := sortF_self (fun f hf => (h1 f hf).2) (h2.imp_of_mem fun {f g} hf _ h => apart_ord (h1 f hf).1 h)
  unfold formL
  rw [← h3, coalesce_flat]
  congr 1
  refine flatMap_congr' fun r _ => ?_
  have hu := (unionL_ok hs (perOf l r)).1
  refine (layers_canon hs r (stepsL_ok hu.ok (by simp)) hu fun t => ?_).symm
  have : cntP [] t = 0 := rfl
  rw [this, canon_cntP hu]
  split <;> rfl
theorem coalesce_cnt (hs : Sorts sortP) (l : List Fact) (r : List Val) (t : Int) : cnt (coalesceL sortP l) r t = if 0 < cnt l r t then 1 else 0 := by
  rw [(coalesce_form hs l).cnt hs r t]
  obtain ⟨hu, hi⟩ := unionL_ok hs (perOf l r)
  have h0 : cntP [] t = 0 := rfl
  have hin : inL (unionL sortP (perOf l r)) t = decide (0 < cnt l r t) := by
    rw [hi, ← perOf_cnt, Bool.eq_iff_iff]
    unfold someP cntP
    rw [List.any_eq_true, decide_eq_true_eq]
    constructor
    · rintro ⟨p, hp, h⟩
      rw [Bool.and_eq_true] at h
      exact List.length_pos_of_mem (List.mem_filter.2 ⟨hp, h.2⟩)
    · intro h
      obtain ⟨p, hp⟩ := List.exists_mem_of_length_pos h
      obtain ⟨hp, h⟩ := List.mem_filter.1 hp
      exact ⟨p, hp, by rw [perOf_right l r p hp, h]; rfl⟩
  by_cases hr : r ∈ rowsOf l
  · rw [if_pos hr, h0, canon_cntP hu, hin]
    by_cases hc : 0 < cnt l r t
    · simp [hc]
    · simp [hc]
  · rw [if_neg hr, if_neg]
    intro h; exact hr ((rowsOf_ok l).2 r t h)
theorem coalesce_idem (hs : Sorts sortP) (l : List Fact) : coalesceL sortP (coalesceL sortP l) = coalesceL sortP l := by
  refine (coalesce_form hs _).ext (coalesce_form hs l) hs fun r t => ?_
  rw [coalesce_cnt hs, coalesce_cnt hs]
  split <;> simp
theorem coalesce_slice (hs : Sorts sortP) (l : List Fact) (t : Int) : sliceL (coalesceL sortP l) t = onceL (sliceL l t) := by
  obtain ⟨h1, h2, _⟩ := onceL_ok (sliceL l t) (slice_up l t)
  refine (slice_up _ t).ext (h1.imp fun {a b} h => Int.le_of_lt h) fun r => ?_
  rw [slice_count, coalesce_cnt hs, ← slice_count]
  by_cases hm : r ∈ sliceL l t
  · rw [if_pos (List.count_pos_iff.2 hm)]
    have a := List.nodup_iff_count.1 h1.nodup r
    have b := List.count_pos_iff.2 ((h2 r).2 hm)
    omega
  · rw [if_neg (by rw [List.count_pos_iff]; exact hm)]
    exact (List.count_eq_zero.2 (fun h => hm ((h2 r).1 h))).symm
theorem coalesce_rows {l : List Fact} {f : Fact} (h : f ∈ coalesceL sortP l) : ∃ g ∈ l, g.row = f.row := by
  unfold coalesceL at h
  obtain ⟨x, hx, h⟩ := catG_in h
  obtain ⟨⟨g, hg, e⟩, _⟩ := group_in hx
  obtain ⟨p, _, rfl⟩ := List.mem_map.1 h
  exact ⟨g, hg, e⟩
theorem coalesce_rows1 {l : List Fact} (h : Rows1 l) : Rows1 (coalesceL sortP l) := fun f hf => by
  obtain ⟨g, hg, e⟩ := coalesce_rows hf
  rw [← e]; exact h g hg
end
end Go.Proofs.YtmkbclnhopoiiaaGreat
/- Plain law: the same normal form just if the same is said between all edges; facts turned round and cut. -/
set_option linter.unusedSimpArgs false
set_option linter.unusedVariables false
namespace Go.Proofs.YtmkbclnhopoiiaaGreat
open Go.VL Go.RowKit

theorem cnt_between {ps : List Per} {l : List Fact} (h : ∀ f ∈ l, f.p ∈ ps) {i : Nat} (hi : i + 1 < (edgesL ps).length) {t : Int} (h1 : (edgesL ps)[i]! ≤ t) (h2 : t < (edgesL ps)[i + 1]!) (r : List Val) : cnt l r (edgesL ps)[i]! = cnt l r t := by
  unfold cnt
  congr 1
  refine List.filter_congr fun f hf => ?_
  congr 1
  unfold validAt
  by_cases hr : right f.p = true
  · rw [has_between (h f hf) hr hi h1 h2]
  · simp only [Bool.not_eq_true] at hr
    rw [hr]; rfl
theorem cnt_in {ps : List Per} {l : List Fact} (h : ∀ f ∈ l, f.p ∈ ps) {r : List Val} {t : Int} (hc : 0 < cnt l r t) : ∃ i, i + 1 < (edgesL ps).length ∧ (edgesL ps)[i]! ≤ t ∧ t < (edgesL ps)[i + 1]! := by
  unfold cnt at hc
  obtain ⟨f, hf⟩ := List.exists_mem_of_length_pos hc
  obtain ⟨hf, hv⟩ := List.mem_filter.1 hf
  rw [Bool.and_eq_true] at hv
  have hv := hv.2
  unfold validAt at hv
  rw [Bool.and_eq_true, has_iff] at hv
  obtain ⟨hE, hmE⟩ := edgesL_ok ps
  obtain ⟨jf, f1, f2⟩ := mem_get! ((hmE f.p.f).2 ((mem_endsOf _ _).2 ⟨f.p, h f hf, hv.1, .inl rfl⟩))
  obtain ⟨jt, t1, t2⟩ := mem_get! ((hmE f.p.t).2 ((mem_endsOf _ _).2 ⟨f.p, h f hf, hv.1, .inr rfl⟩))
  exact rise_between hE (t := t) (i := jf) jt t1 f1 (by omega) (by omega)
/-- the same at all edges -/
def sameK (a b : List Fact) (E : List Int) (k : Nat) : Bool := (List.range k).all fun i => decide (sliceL a E[i]! = sliceL b E[i]!)
theorem sameK_snoc (a b : List Fact) (E : List Int) (k : Nat) : sameK a b E (k + 1) = (sameK a b E k && decide (sliceL a E[k]! = sliceL b E[k]!)) := by unfold sameK; rw [List.range_succ, List.all_append]; simp
section
variable {sortP : List Per → List Per}
theorem normal_same (hs : Sorts sortP) (a b : List Fact) : decide (normalL sortP a = normalL sortP b) = sameK a b (edgesL (pers (a ++ b))) ((edgesL (pers (a ++ b))).length - 1) := by
  have ha : ∀ f ∈ a, f.p ∈ pers (a ++ b) := fun f hf => List.mem_map.2 ⟨f, by simp [hf], rfl⟩
  have hb : ∀ f ∈ b, f.p ∈ pers (a ++ b) := fun f hf => List.mem_map.2 ⟨f, by simp [hf], rfl⟩
  rw [Bool.eq_iff_iff, decide_eq_true_eq, normal_eq hs]
  unfold sameK
  rw [List.all_eq_true]
  simp only [List.mem_range, decide_eq_true_eq, slice_eq]
  constructor
  · intro h i _ r; exact h r _
  · intro h r t
    have key : (∃ i, i + 1 < (edgesL (pers (a ++ b))).length ∧ (edgesL (pers (a ++ b)))[i]! ≤ t ∧ t < (edgesL (pers (a ++ b)))[i + 1]!) → cnt a r t = cnt b r t := by
      rintro ⟨i, h1, h2, h3⟩
      rw [← cnt_between ha h1 h2 h3 r, ← cnt_between hb h1 h2 h3 r]
      exact h i (by omega) r
    rcases Nat.eq_zero_or_pos (cnt a r t) with e1 | e1
    · rcases Nat.eq_zero_or_pos (cnt b r t) with e2 | e2
      · rw [e1, e2]
      · exact key (cnt_in hb e2)
    · exact key (cnt_in ha e1)

/-! ### Facts turned round, some cut in two -/
def cutF (c : Int) (f : Fact) : List Fact := if right f.p && decide (f.p.f < c) && decide (c < f.p.t) then [⟨f.nl, f.row, ⟨f.p.f, c⟩⟩, ⟨f.nl, f.row, ⟨c, f.p.t⟩⟩] else [f]
def turnK (c : Int) (l : List Fact) (k : Nat) : List Fact := (l.reverse.take k).flatMap (cutF c)
theorem turnK_snoc (c : Int) (l : List Fact) {k : Nat} (h : k < l.length) : turnK c l (k + 1) = turnK c l k ++ cutF c l[l.length - 1 - k] := by
  unfold turnK
  rw [take_snoc (by simpa using h), List.flatMap_append]
  simp
theorem cutF_cnt (c : Int) (f : Fact) (r : List Val) (t : Int) : cnt (cutF c f) r t = cnt [f] r t := by
  unfold cutF
  split
  · rename_i h
    rw [Bool.and_eq_true, Bool.and_eq_true, decide_eq_true_eq, decide_eq_true_eq] at h
    obtain ⟨⟨h1, h2⟩, h3⟩ := h
    have a1 := (right_iff _).1 h1
    have b1 : right ⟨f.p.f, c⟩ = true := by rw [right_iff]; simp only; omega
    have b2 : right ⟨c, f.p.t⟩ = true := by rw [right_iff]; simp only; omega
    rw [cnt_cons, cnt_cons, cnt_cons]
    simp only [cnt_nil, validAt, h1, b1, b2, Bool.true_and, has_iff]
    by_cases hr : f.row = r
    · simp only [hr, true_and]
      split <;> split <;> split <;> omega
    · simp [hr]
  · rfl
theorem turn_cnt (c : Int) (l : List Fact) (r : List Val) (t : Int) : cnt (turnK c l l.length) r t = cnt l r t := by
  have e : turnK c l l.length = l.reverse.flatMap (cutF c) := by unfold turnK; rw [List.take_of_length_le (by simp)]
  rw [e, ← cnt_perm (List.reverse_perm l) r t]
  generalize l.reverse = m
  induction m with
  | nil => rfl
  | cons f m ih =>
    rw [List.flatMap_cons, cnt_append, cutF_cnt, ih]
    have := cnt_append [f] m r t
    rw [List.singleton_append] at this
    rw [this]
theorem turnK_len (c : Int) (l : List Fact) : ∀ k, k ≤ l.length → (turnK c l k).length ≤ 2 * k
  | 0, _ => by simp [turnK]
  | k + 1, h => by
    rw [turnK_snoc c l (by omega), List.length_append]
    have := turnK_len c l k (by omega)
    have : (cutF c l[l.length - 1 - k]).length ≤ 2 := by unfold cutF; split <;> simp
    omega
theorem turn_rows {c : Int} {l : List Fact} (h : Rows1 l) : Rows1 (turnK c l l.length) := by
  intro f hf
  unfold turnK at hf
  obtain ⟨g, hg, hf⟩ := List.mem_flatMap.1 hf
  have hg := List.mem_reverse.1 (List.mem_of_mem_take hg)
  unfold cutF at hf
  split at hf
  · simp at hf
    rcases hf with rfl | rfl <;> exact h g hg
  · simp at hf; subst hf; exact h _ hg
theorem turn_normal (hs : Sorts sortP) (c : Int) (l : List Fact) : normalL sortP (turnK c l l.length) = normalL sortP l := (normal_eq hs _ _).2 fun r t => turn_cnt c l r t
end
end Go.Proofs.YtmkbclnhopoiiaaGreat
