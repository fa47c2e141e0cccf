/- Contracts: a fact made; Slice. -/
import Derived.Test.YtmkbclnhopoiiaaGreatBRA
import Derived.Test.YtmkbclnhopoiiaaGreatBMA
import Derived.Test.YtmkbclnhopoiiaaGreatBOA
import Derived.Test.YtmkbclnhopoiiaaGreatBTA
set_option linter.unusedSimpArgs false
set_option linter.unusedVariables false
namespace Go.Proofs.YtmkbclnhopoiiaaGreat
open Go.VL Go.RowKit

/-- a fact of one number -/
def num1 (n f t : Int) : Fact := ⟨false, [⟨1, n, []⟩], ⟨f, t⟩⟩
set_option maxRecDepth 4000 in
set_option maxHeartbeats 4000000 in
theorem fact_spec (n f t : Int) : Con Tryz.prog 28 [.c (i64 n), .c (i64 f), .c (i64 t)] [.ag (num1 n f t).cells] := by
  refine spec_of Tryz.func28 rfl (by kernel_rfl) (by simp [Tryz.f28]) (fun w0 K0 => vc_ok _ _ _ (by kernel_rfl) ?_)
  simp only [Tryz.f28]
  simp -dsimp [Fact.cells, num1]
  exact ⟨by decide, rfl⟩

def rowE (r : List Val) : List C := [.sl r.isEmpty (vals r)]
@[simp] theorem rowE_len (r : List Val) : (rowE r).length = 1 := rfl
def rowsE (rs : List (List Val)) : List (List C) := rs.map rowE
@[simp] theorem rowsE_len (rs : List (List Val)) : (rowsE rs).length = rs.length := by simp [rowsE]
/-- the rows that are valid at an instant -/
def validR (r : List Fact) (t : Int) : List (List Val) := (r.filter fun f => has f.p t).map Fact.row
def sliceL (l : List Fact) (t : Int) : List (List Val) := validR (rightL l) t
theorem validR_snoc (r : List Fact) (t : Int) {k : Nat} (h : k < r.length) : validR (r.take (k + 1)) t = validR (r.take k) t ++ if has r[k].p t then [r[k].row] else [] := by
  unfold validR
  rw [take_snoc h, List.filter_append, List.map_append]
  by_cases e : has r[k].p t = true <;> simp [e]
theorem validR_len (r : List Fact) (t : Int) : (validR r t).length ≤ r.length := by
  unfold validR
  rw [List.length_map]; exact List.length_filter_le _ _
set_option maxRecDepth 4000 in
set_option maxHeartbeats 8000000 in
theorem slice_spec (hf : SortsF) (nl : Bool) (l : List Fact) (t : Int) (hl : l.length ≤ 3518437208883) (hr : Rows1 l) :
    Con Tryz.prog 26 [.c (.sl nl (facts l)), .c (i64 t)] [.c (.sl (sliceL l t).isEmpty (rowsE (sliceL l t)))] := by
  refine Con.frz (rs := [.fr (sliceL l t).isEmpty (if (sliceL l t).isEmpty then 0 else 1) (rowsE (sliceL l t)) 0]) ?_ 0 rfl
  refine spec_of Tryz.func26 rfl (by kernel_rfl) (by simp [Tryz.f26]) (fun w0 K0 => vc_ok _ _ _ (by kernel_rfl) ?_)
  simp only [Tryz.f26]
  have hri := right_spec hf nl l hl hr
  have hrl := rightL_len l
  have hrN : ∀ f ∈ rightL l, f.nl = f.row.isEmpty := by
    intro f hf
    obtain ⟨g, hg, _, rfl⟩ := rightL_mem.1 hf
    rfl
  unfold sliceL
  generalize rightL l = r at *
  simp -dsimp
  refine VC.mk _ hri ?_
  simp -dsimp
  refine VL.loop (fun i : KI => ⟨[(11, .c (i64 i.k)), (10, .c (i64 r.length)), (9, .c (.sl r.isEmpty (facts r))), (5, .own 320 (validR (r.take i.k) t).length), (1, .c (i64 t))], [(320, some (.arr i.nl i.sz (rowsE (validR (r.take i.k) t)) 0))]⟩)
    (fun i => i.k ≤ r.length ∧ i.nl = (validR (r.take i.k) t).isEmpty ∧ i.sz = if i.nl then 0 else 1) (fun i => r.length - i.k) ⟨0, true, 0⟩ (by kernel_rfl) ⟨by simp, rfl, rfl⟩ (by simp [St.le, validR, rowsE]) ?_
  intro ⟨k, z, sz⟩ ⟨hk, hz, hsz⟩
  simp only at hk hz hsz
  have hvl := validR_len (r.take k) t
  rw [List.length_take] at hvl
  by_cases h1 : k < r.length
  · have hw : IntKind.i64.wrap ((k : Int) + 1) = (k : Int) + 1 := IntWalk.i64_in _ (by omega)
    have hsn := validR_snoc r t h1
    have hnk := hrN _ (List.getElem_mem h1)
    simp -dsimp [h1, Fact.cells]
    refine VC.mk _ (has_at _ r[k].p t rfl) ?_
    simp -dsimp
    refine VIf.mk (fun h => ?_) (fun h => ?_)
    · rw [h, if_pos rfl] at hsn
      simp -dsimp [hw, maxLen]
      refine ⟨fun e => by rw [hsz, e]; rfl, by omega, ⟨k + 1, false, 1⟩, ⟨by simp only; omega, by rw [hsn]; simp, rfl⟩, ?_, by simp only; omega⟩
      simp [St.le, hsn, rowsE, rowE, hnk]
    · rw [h, if_neg (by simp), List.append_nil] at hsn
      simp -dsimp [hw]
      refine ⟨⟨k + 1, z, sz⟩, ⟨by simp only; omega, by rw [hsn]; exact hz, hsz⟩, ?_, by simp only; omega⟩
      simp [St.le, hsn]
  · obtain rfl : k = r.length := by omega
    rw [List.take_length] at *
    simp -dsimp
    refine ⟨hz, ?_⟩
    rw [hsz, hz]
    cases validR r t <;> simp
end Go.Proofs.YtmkbclnhopoiiaaGreat
/- Contract: Clip. -/
set_option linter.unusedSimpArgs false
set_option linter.unusedVariables false
namespace Go.Proofs.YtmkbclnhopoiiaaGreat
open Go.VL Go.RowKit

/-- the facts within a period -/
def clipP (p : Per) (l : List Fact) : List Fact := (l.filter fun f => lapOk f.p p).map fun f => mkF f.row (lap f.p p)
def clipL (sortP : List Per → List Per) (l : List Fact) (p : Per) : List Fact := normalL sortP (clipP p l)
theorem clipP_snoc (p : Per) (l : List Fact) {k : Nat} (h : k < l.length) : clipP p (l.take (k + 1)) = clipP p (l.take k) ++ if lapOk l[k].p p then [mkF l[k].row (lap l[k].p p)] else [] := by
  unfold clipP
  rw [take_snoc h, List.filter_append, List.map_append]
  by_cases e : lapOk l[k].p p = true <;> simp [e]
theorem clipP_len (p : Per) (l : List Fact) : (clipP p l).length ≤ l.length := by
  unfold clipP
  rw [List.length_map]; exact List.length_filter_le _ _
theorem clipP_rows {p : Per} {l : List Fact} (hr : Rows1 l) : Rows1 (clipP p l) := by
  intro f hf
  obtain ⟨g, hg, rfl⟩ := List.mem_map.1 hf
  exact hr g (List.mem_filter.1 hg).1
theorem normal_one {sortP : List Per → List Per} (hs : Sorts sortP) (hi : SortsI) (hf : SortsF) (nl z : Bool) (xs : List (List C)) (l : List Fact) (h : xs = [[.sl z (facts l)]]) (hl : l.length ≤ 3518437208883) (hr : Rows1 l) (hB : (catG (gN sortP) (groupsL (rightL l))).length ≤ 3518437208883) :
    Con Tryz.prog 12 [.c (.sl nl xs)] [.c (.sl (normalL sortP l).isEmpty (facts (normalL sortP l)))] := by
  have e : catF [(z, l)] = l := by simp [catF]
  have := normal_spec hs hi hf nl [(z, l)] (by simp) (by rw [e]; exact hl) (by rw [e]; exact hr) (by rw [e]; exact hB)
  rw [e] at this
  rw [h]
  exact this
theorem overlap_at (cs ds : List C) (a b : Per) (h : cs = a.cells) (h' : ds = b.cells) : Con Tryz.prog 52 [.agg cs, .agg ds] [.ag (lap a b).cells, .c (bln (lapOk a b))] := by rw [h, h']; exact overlap_spec a b

set_option maxRecDepth 4000 in
set_option maxHeartbeats 8000000 in
theorem clip_spec {sortP : List Per → List Per} (hs : Sorts sortP) (hi : SortsI) (hf : SortsF) (nl : Bool) (l : List Fact) (p : Per) (hl : l.length ≤ 3518437208883) (hr : Rows1 l) (hB : (catG (gN sortP) (groupsL (rightL (clipP p l)))).length ≤ 3518437208883) :
    Con Tryz.prog 21 [.c (.sl nl (facts l)), .agg p.cells] [.c (.sl (clipL sortP l p).isEmpty (facts (clipL sortP l p)))] := by
  refine spec_of Tryz.func21 rfl (by kernel_rfl) (by simp [Tryz.f21]) (fun w0 K0 => vc_ok _ _ _ (by kernel_rfl) ?_)
  simp only [Tryz.f21]
  simp -dsimp [Per.cells]
  refine VL.loop (fun i : KI => ⟨[(12, .c (i64 i.k)), (11, .c (i64 l.length)), (10, .c (.sl nl (facts l))), (3, .ptr 192 0), (5, .own 320 (clipP p (l.take i.k)).length)], [(192, some (.box false [.c (i64 p.f), .c (i64 p.t)])), (320, some (.arr i.nl i.sz (facts (clipP p (l.take i.k))) 0))]⟩)
    (fun i => i.k ≤ l.length ∧ i.nl = (clipP p (l.take i.k)).isEmpty ∧ i.sz = if i.nl then 0 else 3) (fun i => l.length - i.k) ⟨0, true, 0⟩ (by kernel_rfl) ⟨by simp, rfl, rfl⟩ (by simp [St.le, clipP]) ?_
  intro ⟨k, z, sz⟩ ⟨hk, hz, hsz⟩
  simp only at hk hz hsz
  have hvl := clipP_len p (l.take k)
  rw [List.length_take] at hvl
  by_cases h1 : k < l.length
  · have hw : IntKind.i64.wrap ((k : Int) + 1) = (k : Int) + 1 := IntWalk.i64_in _ (by omega)
    have hsn := clipP_snoc p l h1
    have hrk := hr _ (List.getElem_mem h1)
    simp -dsimp [h1, Fact.cells]
    refine VC.mk _ (overlap_at _ _ l[k].p p rfl rfl) ?_
    simp -dsimp [Per.cells]
    refine VIf.mk (fun h => ?_) (fun h => ?_)
    · rw [h, if_pos rfl] at hsn
      simp -dsimp
      refine VL.draw (by kernel_rfl) [(0, false), (0, false), (2, false), (6, false), (14, false), (0, false), (62, false), (126, false), (255, true), (511, true)] (by kernel_rfl) ?_
      simp -dsimp
      refine ⟨by decide, VCE.mk _ (copied_at false _ l[k].nl l[k].row rfl hrk) ?_⟩
      simp -dsimp [hw, maxLen]
      refine ⟨fun e => by rw [hsz, e]; rfl, by omega, ⟨k + 1, false, 3⟩, ⟨by simp only; omega, by rw [hsn]; simp, rfl⟩, ?_, by simp only; omega⟩
      simp [St.le, hsn, mkF, Fact.cells]
    · rw [h, if_neg (by simp), List.append_nil] at hsn
      simp -dsimp [hw]
      refine ⟨⟨k + 1, z, sz⟩, ⟨by simp only; omega, by rw [hsn]; exact hz, hsz⟩, ?_, by simp only; omega⟩
      simp [St.le, hsn]
  · obtain rfl : k = l.length := by omega
    rw [List.take_length] at *
    have hcr := clipP_rows (p := p) hr
    have hcl := clipP_len p l
    unfold clipL
    have hno := normal_one hs hi hf false z _ (clipP p l) rfl (by omega) hcr hB
    generalize clipP p l = c at *
    generalize normalL sortP c = d at *
    simp -dsimp
    refine ⟨by decide, VCL.snap ?_⟩
    simp -dsimp
    refine VC.mk _ hno ?_
    simp -dsimp
end Go.Proofs.YtmkbclnhopoiiaaGreat
/- Plain law: a normal form has no more facts than were told. -/
set_option linter.unusedSimpArgs false
set_option linter.unusedVariables false
namespace Go.Proofs.YtmkbclnhopoiiaaGreat
open Go.VL Go.RowKit

theorem len_of_count : ∀ (S J : List Int), (∀ e, S.count e ≤ J.count e) → S.length ≤ J.length
  | [], _, _ => by simp
  | x :: S, J, h => by
    have hx := h x
    rw [List.count_cons_self] at hx
    have hm : x ∈ J := List.count_pos_iff.1 (by omega)
    have := len_of_count S (J.erase x) fun e => by
      have := h e
      by_cases he : e = x
      · subst he
        rw [List.count_erase_self]
        rw [List.count_cons_self] at this
        omega
      · rw [List.count_erase_of_ne he]
        rwa [List.count_cons_of_ne (fun h => he h.symm)] at this
    rw [List.length_erase_of_mem hm] at this
    have := List.length_pos_of_mem hm
    simp only [List.length_cons]
    omega
theorem cntP_cons (p : Per) (ps : List Per) (t : Int) : cntP (p :: ps) t = (if has p t then 1 else 0) + cntP ps t := by
  unfold cntP
  rw [List.filter_cons]
  by_cases h : has p t = true
  · rw [if_pos h, if_pos h, List.length_cons]; omega
  · rw [if_neg h, if_neg h]; omega
theorem cntP_up (e : Int) : ∀ (ps : List Per), cntP ps e ≤ cntP ps (e - 1) + (ps.map Per.f).count e
  | [] => by simp [cntP]
  | p :: ps => by
    have ih := cntP_up e ps
    rw [cntP_cons, cntP_cons, List.map_cons, List.count_cons]
    by_cases h : has p e = true
    · rw [if_pos h]
      by_cases h' : has p (e - 1) = true
      · rw [if_pos h']; omega
      · rw [if_neg h']
        have : p.f = e := by
          rw [has_iff] at h h'; omega
        rw [if_pos (by simp [this])]; omega
    · rw [if_neg h]; omega
theorem cntP_down (e : Int) : ∀ (ps : List Per), cntP ps (e - 1) ≤ cntP ps e + (ps.map Per.t).count e
  | [] => by simp [cntP]
  | p :: ps => by
    have ih := cntP_down e ps
    rw [cntP_cons, cntP_cons, List.map_cons, List.count_cons]
    by_cases h : has p (e - 1) = true
    · rw [if_pos h]
      by_cases h' : has p e = true
      · rw [if_pos h']; omega
      · rw [if_neg h']
        have : p.t = e := by
          rw [has_iff] at h h'; omega
        rw [if_pos (by simp [this])]; omega
    · rw [if_neg h]; omega
theorem canon_starts {u : List Per} (hu : Canon u) {e : Int} : (u.map Per.f).count e ≤ 1 ∧ (0 < (u.map Per.f).count e → inL u e = true ∧ inL u (e - 1) = false) := by
  have hn : (u.map Per.f).Nodup := by
    rw [List.nodup_iff_pairwise_ne, List.pairwise_map]
    refine List.Pairwise.imp_of_mem (fun {p q} hp hq h => ?_) hu.apart
    have := (right_iff p).1 (hu.ok p hp)
    omega
  refine ⟨List.nodup_iff_count.1 hn e, fun h => ?_⟩
  obtain ⟨p, hp, rfl⟩ := List.mem_map.1 (List.count_pos_iff.1 h)
  have hr := (right_iff p).1 (hu.ok p hp)
  refine ⟨(inL_iff u _).2 ⟨p, hp, by omega, by omega⟩, ?_⟩
  rw [Bool.eq_false_iff]
  intro hin
  obtain ⟨q, hq, h1, h2⟩ := (inL_iff u _).1 hin
  obtain ⟨i, hi, rfl⟩ := List.getElem_of_mem hp
  obtain ⟨j, hj, rfl⟩ := List.getElem_of_mem hq
  have hap := List.pairwise_iff_getElem.1 hu.apart
  rcases Nat.lt_trichotomy i j with h | h | h
  · have := hap i j hi hj h; omega
  · subst h; omega
  · have := hap j i hj hi h; omega
section
variable {sortP : List Per → List Per}
theorem layers_count (hs : Sorts sortP) (row : List Val) {st : List (Per × Int)} {c : Int → Int} (h : StepsOf st c) (e : Int) : ∀ N, ((layersN sortP row st N).map fun f => f.p.f).count e ≤ min N (c e).toNat - (c (e - 1)).toNat
  | 0 => by simp [layersN]
  | N + 1 => by
    have ih := layers_count hs row h e N
    obtain ⟨u1, u2⟩ := h.union hs N
    rw [layersN_succ, List.map_append, List.count_append, List.map_map]
    have e1 : ((fun f : Fact => f.p.f) ∘ mkF row) = Per.f := rfl
    rw [e1]
    obtain ⟨c1, c2⟩ := canon_starts u1 (e := e)
    rcases Nat.eq_zero_or_pos (((unionL sortP (here st (N + 1))).map Per.f).count e) with h0 | h0
    · rw [h0]; omega
    · obtain ⟨d1, d2⟩ := c2 h0
      rw [u2] at d1 d2
      simp at d1 d2
      omega
/-- no more layers' facts than periods -/
theorem layers_len (hs : Sorts sortP) (row : List Val) {plus minus : List Per} (hp : ∀ p ∈ plus, right p = true) (hm : ∀ p ∈ minus, right p = true) : (layersL sortP row (stepsL plus minus)).length ≤ plus.length + minus.length := by
  have h := stepsL_ok hp hm
  have := len_of_count ((layersL sortP row (stepsL plus minus)).map fun f => f.p.f) (plus.map Per.f ++ minus.map Per.t) fun e => by
    have h1 := layers_count hs row h e (maxN (stepsL plus minus))
    have h2 := cntP_up e plus
    have h3 := cntP_down e minus
    rw [List.count_append]
    refine Nat.le_trans h1 ?_
    omega
  simpa using this
end
theorem groups_sum : ∀ (n : Nat) (l : List Fact), l.length ≤ n → ((groupsL l).map fun x => x.2.length).sum = l.length
  | n, [], _ => by rw [groupsL_nil]; rfl
  | 0, f :: l, h => by simp at h
  | n + 1, f :: l, h => by
    have hsub := List.dropWhile_sublist (alikeR f.row) (l := l)
    have hlen := hsub.length_le
    have ih := groups_sum n (l.dropWhile (alikeR f.row)) (by simp at h; omega)
    rw [groupsL_cons, List.map_cons, List.sum_cons, ih]
    have := congrArg List.length (List.takeWhile_append_dropWhile (p := alikeR f.row) (l := l))
    rw [List.length_append] at this
    simp
    omega
theorem catG_le (G : List Val × List Per → List Fact) (w : List Val × List Per → Nat) : ∀ (gs : List (List Val × List Per)), (∀ x ∈ gs, (G x).length ≤ w x) → (catG G gs).length ≤ (gs.map w).sum
  | [], _ => by simp
  | x :: gs, h => by
    have ih := catG_le G w gs fun y hy => h y (by simp [hy])
    have := h x (by simp)
    unfold catG at *
    rw [List.flatMap_cons, List.length_append, List.map_cons, List.sum_cons]
    omega
theorem sum_add {α : Type} (f g : α → Nat) : ∀ (l : List α), (l.map fun x => f x + g x).sum = (l.map f).sum + (l.map g).sum
  | [] => rfl
  | x :: l => by rw [List.map_cons, List.sum_cons, sum_add f g l, List.map_cons, List.map_cons, List.sum_cons, List.sum_cons]; omega
theorem off_sum : ∀ (gs : List (List Val × List Per)) (mi : List Fact), (gs.map Prod.fst).Nodup → (gs.map fun x => (offM mi x.1).length).sum ≤ mi.length
  | [], mi, _ => by simp
  | x :: gs, mi, h => by
    rw [List.map_cons] at h
    obtain ⟨h1, h2⟩ := List.nodup_cons.1 h
    have ih := off_sum gs (mi.filter fun f => !alikeR x.1 f) h2
    have e : (gs.map fun y => (offM (mi.filter fun f => !alikeR x.1 f) y.1).length) = gs.map fun y => (offM mi y.1).length := by
      refine List.map_congr_left fun y hy => ?_
      unfold offM
      rw [List.filter_filter]
      congr 2
      refine List.filter_congr fun f _ => ?_
      simp only [alikeR]
      by_cases hf : f.row = y.1
      · have : ¬ f.row = x.1 := by
          intro e2
          exact h1 (List.mem_map.2 ⟨y, hy, by rw [← hf, e2]⟩)
        simp [hf, this]
        rw [hf] at this
        exact this
      · simp [hf]
    rw [e] at ih
    rw [List.map_cons, List.sum_cons]
    have hsplit : (mi.filter (alikeR x.1)).length + (mi.filter fun f => !alikeR x.1 f).length = mi.length := by
      clear ih e h
      induction mi with
      | nil => rfl
      | cons f mi ih =>
        rw [List.filter_cons, List.filter_cons]
        cases alikeR x.1 f <;> simp <;> omega
    have : (offM mi x.1).length = (mi.filter (alikeR x.1)).length := by unfold offM; rw [List.length_map]
    omega
section
variable {sortP : List Per → List Per}
theorem group_right {l : List Fact} {x : List Val × List Per} (h : x ∈ groupsL (rightL l)) : ∀ p ∈ x.2, right p = true := by
  obtain ⟨_, h2, _⟩ := groups_ok _ (rightL l) (Nat.le_refl _) (sortF_up _)
  obtain ⟨e, _⟩ := h2 x h
  rw [e]
  exact perOf_right l x.1
theorem normal_pre (hs : Sorts sortP) (l : List Fact) : (catG (gN sortP) (groupsL (rightL l))).length ≤ l.length := by
  have h1 := catG_le (gN sortP) (fun x => x.2.length) (groupsL (rightL l)) fun x hx => by
    have := layers_len hs x.1 (plus := x.2) (minus := []) (group_right hx) (by simp)
    simpa [gN] using this
  rw [groups_sum _ _ (Nat.le_refl _)] at h1
  exact Nat.le_trans h1 (rightL_len l)
theorem except_pre (hs : Sorts sortP) (a b : List Fact) : (catG (gX sortP (rightL b)) (groupsL (rightL a))).length ≤ a.length + b.length := by
  have h1 := catG_le (gX sortP (rightL b)) (fun x => x.2.length + (offM (rightL b) x.1).length) (groupsL (rightL a)) fun x hx =>
    layers_len hs x.1 (plus := x.2) (minus := offM (rightL b) x.1) (group_right hx) (perOf_right b x.1)
  rw [sum_add, groups_sum _ _ (Nat.le_refl _)] at h1
  have h2 := off_sum (groupsL (rightL a)) (rightL b) (rowsOf_ok a).1.nodup
  have := rightL_len a
  have := rightL_len b
  omega
theorem normal_len (hs : Sorts sortP) (l : List Fact) : (normalL sortP l).length ≤ l.length := by
  rw [normalL_eq, sortF_len]; exact normal_pre hs l
theorem except_len (hs : Sorts sortP) (a b : List Fact) : (exceptL sortP a b).length ≤ a.length + b.length := by
  rw [exceptL_eq, sortF_len]; exact except_pre hs a b
/-- rows of what comes out are rows of what went in -/
theorem normal_rows {l : List Fact} {f : Fact} (h : f ∈ normalL sortP l) : ∃ g ∈ l, g.row = f.row := by
  rw [normalL_eq, (sortF_perm _).mem_iff] at h
  obtain ⟨x, hx, h⟩ := catG_in h
  obtain ⟨⟨g, hg, e⟩, _⟩ := group_in hx
  exact ⟨g, hg, by rw [e, (layers_row h).1]⟩
theorem except_rows {a b : List Fact} {f : Fact} (h : f ∈ exceptL sortP a b) : ∃ g ∈ a, g.row = f.row := by
  rw [exceptL_eq, (sortF_perm _).mem_iff] at h
  obtain ⟨x, hx, h⟩ := catG_in h
  obtain ⟨⟨g, hg, e⟩, _⟩ := group_in hx
  exact ⟨g, hg, by rw [e, (layers_row h).1]⟩
theorem normal_rows1 {l : List Fact} (h : Rows1 l) : Rows1 (normalL sortP l) := fun f hf => by
  obtain ⟨g, hg, e⟩ := normal_rows hf
  rw [← e]; exact h g hg
theorem except_rows1 {a b : List Fact} (h : Rows1 a) : Rows1 (exceptL sortP a b) := fun f hf => by
  obtain ⟨g, hg, e⟩ := except_rows hf
  rw [← e]; exact h g hg
end
end Go.Proofs.YtmkbclnhopoiiaaGreat
/- Plain law: one row's canonical periods are a form; what the guard asks; facts cut. -/
set_option linter.unusedSimpArgs false
set_option linter.unusedVariables false
namespace Go.Proofs.YtmkbclnhopoiiaaGreat
open Go.VL Go.RowKit

section
variable {sortP : List Per → List Per}
theorem Canon.none {u : List Per} (h : Canon u) (e : ∀ t, inL u t = false) : u = [] := h.ext Canon.nil fun t => by rw [e, inL_nil]
theorem layers_canon (hs : Sorts sortP) (row : List Val) {st : List (Per × Int)} {c : Int → Int} (h : StepsOf st c) {u : List Per} (hu : Canon u) (hc : ∀ t, c t = if inL u t then 1 else 0) : layersL sortP row st = u.map (mkF row) := by
  have h1 : ∀ d, layersN sortP row st (1 + d) = u.map (mkF row) := by
    intro d
    induction d with
    | zero =>
      obtain ⟨a1, a2⟩ := h.union hs 0
      have : unionL sortP (here st (0 + 1)) = u := a1.ext hu fun t => by
        rw [a2, hc]
        by_cases e : inL u t = true
        · rw [e]; simp
        · simp only [Bool.not_eq_true] at e; rw [e]; simp
      rw [show 1 + 0 = 0 + 1 from rfl, layersN_succ, this]
      simp [layersN]
    | succ d ih =>
      obtain ⟨a1, a2⟩ := h.union hs (1 + d)
      have : unionL sortP (here st (1 + d + 1)) = [] := a1.none fun t => by
        rw [a2, hc, decide_eq_false_iff_not]
        split <;> omega
      rw [show 1 + (d + 1) = 1 + d + 1 by omega, layersN_succ, this, ih]
      simp
  rw [← layersN_stop hs row st (N := 1 + maxN st) (here_big (by omega)), h1]
theorem canon_cntP {u : List Per} (hu : Canon u) (t : Int) : cntP u t = if inL u t then 1 else 0 := canon_cnt hu t
theorem one_form (hs : Sorts sortP) (row : List Val) {u : List Per} (hu : Canon u) : IsForm sortP (sortF (u.map (mkF row))) [row] (fun _ => stepsL u []) fun _ t => (cntP u t : Int) - cntP [] t := by
  have hst := stepsL_ok (plus := u) (minus := []) hu.ok (by simp)
  refine ⟨by simp [RSort], fun r _ => hst, ?_⟩
  unfold formL
  have hl := layers_canon hs row hst hu fun t => by
    have : cntP [] t = 0 := rfl
    rw [this, canon_cntP hu]
    split <;> rfl
  simp only [List.flatMap_cons, List.flatMap_nil, List.append_nil]
  rw [hl]
theorem sortF_self {l : List Fact} (hn : ∀ f ∈ l, Normed f) (hs : l.Pairwise fun f g => ordF f g ≤ 0) : sortF l = l := (sortF_uniq hn (List.Perm.refl _) hs).symm

def row1 (n : Int) : List Val := [⟨1, n, []⟩]
theorem num1_eq (n f t : Int) : num1 n f t = mkF (row1 n) ⟨f, t⟩ := rfl
theorem num1_cnt (n f t : Int) (l : List Fact) (r : List Val) (x : Int) : cnt (num1 n f t :: l) r x = (if row1 n = r ∧ right ⟨f, t⟩ = true ∧ f ≤ x ∧ x < t then 1 else 0) + cnt l r x := by
  rw [cnt_cons]
  congr 1
  have : (num1 n f t).row = r ∧ validAt (num1 n f t) x = true ↔ row1 n = r ∧ right ⟨f, t⟩ = true ∧ f ≤ x ∧ x < t := by
    unfold validAt
    rw [Bool.and_eq_true, has_iff]
    exact Iff.rfl
  by_cases h : row1 n = r ∧ right ⟨f, t⟩ = true ∧ f ≤ x ∧ x < t
  · rw [if_pos (this.2 h), if_pos h]
  · rw [if_neg (fun h' => h (this.1 h')), if_neg h]
theorem awake_l (hs : Sorts sortP) : normalL sortP [num1 1 0 5, num1 1 5 9] = [num1 1 0 9] := by
  have hu : Canon [⟨0, 9⟩] := ⟨by decide, by simp⟩
  have h := one_form hs (row1 1) hu
  have e : sortF ([⟨0, 9⟩].map (mkF (row1 1))) = [num1 1 0 9] := by
    rw [List.map_singleton, ← num1_eq]
    exact sortF_self (by simp; rfl) (by simp)
  rw [e] at h
  refine (normal_form _).ext h hs fun r t => ?_
  rw [normal_cnt hs, num1_cnt, num1_cnt, num1_cnt, cnt_nil]
  have r1 : right ⟨0, 5⟩ = true := by decide
  have r2 : right ⟨5, 9⟩ = true := by decide
  have r3 : right ⟨0, 9⟩ = true := by decide
  simp only [r1, r2, r3, true_and]
  by_cases h : row1 1 = r
  · simp only [h, true_and]
    split <;> split <;> split <;> omega
  · simp [h]
theorem awake_m (hs : Sorts sortP) : exceptL sortP [num1 1 0 9] [num1 1 2 3] = [num1 1 0 2, num1 1 3 9] := by
  have hu : Canon [⟨0, 2⟩, ⟨3, 9⟩] := ⟨by decide, by simp⟩
  have h := one_form hs (row1 1) hu
  have e : sortF ([⟨0, 2⟩, ⟨3, 9⟩].map (mkF (row1 1))) = [num1 1 0 2, num1 1 3 9] := by
    show sortF [num1 1 0 2, num1 1 3 9] = _
    refine sortF_self (by
      intro f hf
      simp at hf
      rcases hf with rfl | rfl <;> rfl) ?_
    have : ordF (num1 1 0 2) (num1 1 3 9) ≤ 0 := by decide
    simpa using this
  rw [e] at h
  refine (except_form _ _).ext h hs fun r t => ?_
  rw [except_cnt hs, num1_cnt, num1_cnt, num1_cnt, num1_cnt, cnt_nil]
  have r1 : right ⟨0, 9⟩ = true := by decide
  have r2 : right ⟨2, 3⟩ = true := by decide
  have r3 : right ⟨0, 2⟩ = true := by decide
  have r4 : right ⟨3, 9⟩ = true := by decide
  simp only [r1, r2, r3, r4, true_and]
  by_cases h : row1 1 = r
  · simp only [h, true_and]
    split <;> split <;> split <;> split <;> omega
  · simp [h]
theorem awake_s : sliceL [num1 1 0 2, num1 1 3 9] 4 = [row1 1] := by
  have e : rightL [num1 1 0 2, num1 1 3 9] = [num1 1 0 2, num1 1 3 9] := by
    unfold rightL
    show sortF [num1 1 0 2, num1 1 3 9] = _
    refine sortF_self (by
      intro f hf
      simp at hf
      rcases hf with rfl | rfl <;> rfl) ?_
    have : ordF (num1 1 0 2) (num1 1 3 9) ≤ 0 := by decide
    simpa using this
  unfold sliceL
  rw [e]
  rfl

/-! ### Facts cut to a period -/
theorem lap_valid (f : Fact) (p : Per) (t : Int) : (lapOk f.p p = true ∧ validAt (mkF f.row (lap f.p p)) t = true) ↔ (validAt f t = true ∧ right p = true ∧ has p t = true) := by
  have hlo : lapOk f.p p = true ↔ right f.p = true ∧ right p = true ∧ right (lapP f.p p) = true := by
    unfold lapOk; rw [Bool.and_eq_true, Bool.and_eq_true, and_assoc]
  have hlp : lapOk f.p p = true → lap f.p p = lapP f.p p := fun h => by unfold lap; rw [if_pos h]
  have e1 : (lapP f.p p).f = max f.p.f p.f := rfl
  have e2 : (lapP f.p p).t = min f.p.t p.t := rfl
  unfold validAt
  rw [Bool.and_eq_true, Bool.and_eq_true, has_iff, has_iff, has_iff]
  show lapOk f.p p = true ∧ right (lap f.p p) = true ∧ (lap f.p p).f ≤ t ∧ t < (lap f.p p).t ↔ _
  constructor
  · rintro ⟨h1, h2, h3, h4⟩
    rw [hlp h1] at h2 h3 h4
    obtain ⟨h5, h6, _⟩ := hlo.1 h1
    rw [e1] at h3
    rw [e2] at h4
    exact ⟨⟨h5, by omega, by omega⟩, h6, by omega, by omega⟩
  · rintro ⟨⟨h1, h2, h3⟩, h4, h5, h6⟩
    have a1 := (right_iff _).1 h1
    have a2 := (right_iff _).1 h4
    have h7 : right (lapP f.p p) = true := by rw [right_iff, e1, e2]; omega
    have h8 := hlo.2 ⟨h1, h4, h7⟩
    rw [hlp h8, e1, e2]
    exact ⟨h8, h7, by omega, by omega⟩
theorem clipP_cnt (p : Per) (r : List Val) (t : Int) : ∀ (l : List Fact), cnt (clipP p l) r t = if right p && has p t then cnt l r t else 0
  | [] => by simp [clipP]
  | f :: l => by
    have ih := clipP_cnt p r t l
    have hv := lap_valid f p t
    rw [cnt_cons]
    unfold clipP at *
    rw [List.filter_cons]
    by_cases hl : lapOk f.p p = true
    · rw [if_pos hl, List.map_cons, cnt_cons, ih]
      simp only [hl, true_and] at hv
      by_cases hc : (right p && has p t) = true
      · rw [if_pos hc, if_pos hc]
        rw [Bool.and_eq_true] at hc
        congr 1
        by_cases h : f.row = r ∧ validAt f t = true
        · rw [if_pos h, if_pos ⟨h.1, hv.2 ⟨h.2, hc⟩⟩]
        · rw [if_neg h, if_neg (fun h' => h ⟨h'.1, (hv.1 h'.2).1⟩)]
      · rw [if_neg hc, if_neg hc, if_neg]
        rintro ⟨_, h⟩
        exact hc (by rw [Bool.and_eq_true]; exact (hv.1 h).2)
    · rw [if_neg hl, ih]
      by_cases hc : (right p && has p t) = true
      · rw [if_pos hc, if_pos hc, if_neg, Nat.zero_add]
        rintro ⟨_, h⟩
        rw [Bool.and_eq_true] at hc
        exact hl (hv.2 ⟨h, hc⟩).1
      · rw [if_neg hc, if_neg hc]
theorem clip_cnt (hs : Sorts sortP) (l : List Fact) (p : Per) (r : List Val) (t : Int) : cnt (clipL sortP l p) r t = if right p && has p t then cnt l r t else 0 := by
  unfold clipL
  rw [normal_cnt hs, clipP_cnt]
theorem clip_len (hs : Sorts sortP) (l : List Fact) (p : Per) : (clipL sortP l p).length ≤ l.length := Nat.le_trans (normal_len hs _) (clipP_len p l)
theorem clip_rows1 {l : List Fact} (p : Per) (h : Rows1 l) : Rows1 (clipL sortP l p) := normal_rows1 (clipP_rows h)
/-- cut to two periods one after the other -/
theorem clip_clip (hs : Sorts sortP) (l : List Fact) (p q : Per) : clipL sortP (clipL sortP l p) q = clipL sortP (clipL sortP l q) p := by
  refine (normal_form _).ext (normal_form _) hs fun r t => ?_
  show cnt (clipL sortP (clipL sortP l p) q) r t = cnt (clipL sortP (clipL sortP l q) p) r t
  rw [clip_cnt hs, clip_cnt hs, clip_cnt hs, clip_cnt hs]
  by_cases h1 : (right p && has p t) = true <;> by_cases h2 : (right q && has q t) = true <;> simp [h1, h2]
theorem form_nil (hs : Sorts sortP) {m : List Fact} {rows : List (List Val)} {S : List Val → List (Per × Int)} {c : List Val → Int → Int} (h : IsForm sortP m rows S c) (e : ∀ r t, cnt m r t = 0) : m = [] := by
  have h0 : normalL sortP [] = [] := by
    have e : groupsL (rightL []) = [] := by
      have : rightL [] = [] := by
        have := rightL_len []
        simpa using this
      rw [this, groupsL_nil]
    unfold normalL
    rw [e]
    have := sortF_len []
    simpa using this
  rw [← h0]
  exact h.ext (normal_form []) hs fun r t => by rw [e, normal_cnt hs, cnt_nil]
/-- two parts that meet -/
theorem clip_apart (hs : Sorts sortP) (l : List Fact) {p q : Per} (h : p.t = q.f) : clipL sortP (clipL sortP l p) q = [] := by
  refine form_nil hs (normal_form _) fun r t => ?_
  rw [clip_cnt hs]
  by_cases h2 : (right q && has q t) = true
  · rw [if_pos h2, clip_cnt hs, if_neg]
    rw [Bool.and_eq_true, has_iff] at h2 ⊢
    omega
  · rw [if_neg h2]
theorem clip_meet (hs : Sorts sortP) (l : List Fact) {p q : Per} (hp : right p = true) (hq : right q = true) (h : p.t = q.f) : normalL sortP (clipL sortP l p ++ clipL sortP l q) = clipL sortP l ⟨p.f, q.t⟩ := by
  refine (normal_form _).ext (normal_form _) hs fun r t => ?_
  rw [normal_cnt hs, cnt_append, clip_cnt hs, clip_cnt hs, clip_cnt hs]
  have a1 := (right_iff _).1 hp
  have a2 := (right_iff _).1 hq
  have h3 : right ⟨p.f, q.t⟩ = true := by rw [right_iff]; simp only; omega
  simp only [hp, hq, h3, Bool.true_and]
  have e1 : has ⟨p.f, q.t⟩ t = (has p t || has q t) := by
    rw [Bool.eq_iff_iff, Bool.or_eq_true, has_iff, has_iff, has_iff]
    show p.f ≤ t ∧ t < q.t ↔ _
    omega
  have e2 : (has p t && has q t) = false := by
    rw [Bool.eq_false_iff, ne_eq, Bool.and_eq_true, has_iff, has_iff]; omega
  rw [e1]
  cases h1 : has p t <;> cases h2 : has q t <;> simp [h1, h2] at e2 ⊢
end
end Go.Proofs.YtmkbclnhopoiiaaGreat
/- Contract: the guard of the statements. -/
set_option linter.unusedSimpArgs false
set_option linter.unusedVariables false
namespace Go.Proofs.YtmkbclnhopoiiaaGreat
open Go.VL Go.RowKit

theorem rows_num {l : List Fact} (h : ∀ f ∈ l, f.row.length ≤ 1) : Rows1 l := fun f hf => by have := h f hf; omega
theorem normal_two {sortP : List Per → List Per} (hs : Sorts sortP) (hi : SortsI) (hf : SortsF) (xs : List (List C)) (a b : Bool) (l m : List Fact) (h : xs = [[.sl a (facts l)], [.sl b (facts m)]]) (hl : l.length ≤ 100000000000) (hm : m.length ≤ 100000000000) (hr : Rows1 l) (hr2 : Rows1 m) :
    Con Tryz.prog 12 [.c (.sl false xs)] [.c (.sl (normalL sortP (l ++ m)).isEmpty (facts (normalL sortP (l ++ m))))] := by
  have e : catF [(a, l), (b, m)] = l ++ m := by simp [catF]
  have hr3 : Rows1 (l ++ m) := fun f hf => by
    rcases List.mem_append.1 hf with h | h
    · exact hr f h
    · exact hr2 f h
  have hlen : (l ++ m).length ≤ 300000000000 := by rw [List.length_append]; omega
  have hp := normal_pre hs (l ++ m)
  have := normal_spec hs hi hf false [(a, l), (b, m)] (by simp) (by rw [e]; omega) (by rw [e]; exact hr3) (by rw [e]; omega)
  rw [e] at this
  rw [h]
  exact this
/-- the contracts, without what a normal form's length asks -/
theorem normal_con {sortP : List Per → List Per} (hs : Sorts sortP) (hi : SortsI) (hf : SortsF) (nl z : Bool) (xs : List (List C)) (l : List Fact) (h : xs = [[.sl z (facts l)]]) (hl : l.length ≤ 3518437208883) (hr : Rows1 l) :
    Con Tryz.prog 12 [.c (.sl nl xs)] [.c (.sl (normalL sortP l).isEmpty (facts (normalL sortP l)))] :=
  normal_one hs hi hf nl z xs l h hl hr (by have := normal_pre hs l; omega)
theorem except_con {sortP : List Per → List Per} (hs : Sorts sortP) (hi : SortsI) (hf : SortsF) (na nb : Bool) (xs ys : List (List C)) (a b : List Fact) (h : xs = facts a) (h' : ys = facts b) (la : a.length ≤ 1500000000000) (lb : b.length ≤ 1500000000000) (ra : Rows1 a) (rb : Rows1 b) :
    Con Tryz.prog 17 [.c (.sl na xs), .c (.sl nb ys)] [.c (.sl (exceptL sortP a b).isEmpty (facts (exceptL sortP a b)))] := by
  rw [h, h']
  exact except_spec hs hi hf na nb a b (by omega) (by omega) ra rb (by have := except_pre hs a b; omega)
theorem clip_con {sortP : List Per → List Per} (hs : Sorts sortP) (hi : SortsI) (hf : SortsF) (nl : Bool) (l : List Fact) (p : Per) (cs : List C) (h : cs = p.cells) (hl : l.length ≤ 3518437208883) (hr : Rows1 l) :
    Con Tryz.prog 21 [.c (.sl nl (facts l)), .agg cs] [.c (.sl (clipL sortP l p).isEmpty (facts (clipL sortP l p)))] := by
  rw [h]
  exact clip_spec hs hi hf nl l p hl hr (by have := normal_pre hs (clipP p l); have := clipP_len p l; omega)

set_option maxRecDepth 4000 in
set_option maxHeartbeats 16000000 in
theorem awake_spec {sortP : List Per → List Per} (hs : Sorts sortP) (hi : SortsI) (hf : SortsF) : Con Tryz.prog 5 [] [.c (bln true)] := by
  refine spec_of Tryz.func5 rfl (by kernel_rfl) (by simp [Tryz.f5]) (fun w0 K0 => vc_ok _ _ _ (by kernel_rfl) ?_)
  simp only [Tryz.f5]
  simp -dsimp
  refine VC.mk _ (fact_spec 1 0 5) ?_
  simp -dsimp
  refine ⟨by decide, VC.mk _ (fact_spec 1 5 9) ?_⟩
  simp -dsimp
  refine ⟨by decide, by decide, VCL.snap ?_⟩
  simp -dsimp
  have h1 := normal_two hs hi hf _ false false [num1 1 0 5] [num1 1 5 9] rfl (by simp) (by simp) (rows_num (by simp [num1])) (rows_num (by simp [num1]))
  rw [show [num1 1 0 5] ++ [num1 1 5 9] = [num1 1 0 5, num1 1 5 9] from rfl, awake_l hs] at h1
  refine VC.mk _ h1 ?_
  simp -dsimp
  refine VC.mk _ (fact_spec 1 2 3) ?_
  simp -dsimp
  refine ⟨by decide, VCL.snap ?_⟩
  simp -dsimp
  have h2 := except_con hs hi hf false false _ _ [num1 1 0 9] [num1 1 2 3] rfl rfl (by simp) (by simp) (rows_num (by simp [num1])) (rows_num (by simp [num1]))
  rw [awake_m hs] at h2
  refine VC.mk _ h2 ?_
  have h3 := slice_spec hf false [num1 1 0 2, num1 1 3 9] 4 (by simp) (rows_num (by simp [num1]))
  rw [awake_s] at h3
  simp -dsimp [num1, Fact.cells]
  refine VG.mk [.c (.sl false (rowsE [row1 1]))] _ (fun _ => h3) rfl ?_
  simp -dsimp [rowsE, rowE, row1]
end Go.Proofs.YtmkbclnhopoiiaaGreat
