/- Contracts: the document's Normal, Except, Join. -/
import Derived.Test.YtmkbclnhopoiiaaGreatGRA
import Derived.Test.YtmkbclnhopoiiaaGreatBVA
import Derived.Test.YtmkbclnhopoiiaaGreatBQA
set_option linter.unusedSimpArgs false
set_option linter.unusedVariables false
namespace Go.Proofs.YtmkbclnhopoiiaaGreat
open Go.VL Go.RowKit

set_option maxRecDepth 4000 in
set_option maxHeartbeats 4000000 in
theorem both_spec (na nb : Bool) (a b : List Fact) (ha : a.length ≤ 1000000000000) (hb : b.length ≤ 1000000000000) : Con Tryz.prog 14 [.c (.sl na (facts a)), .c (.sl nb (facts b))] [.c (.sl false (facts (a ++ b)))] := by
  refine Con.frz (rs := [.fr false 3 (facts (a ++ b)) 0]) ?_ 0 rfl
  refine spec_of Tryz.func14 rfl (by kernel_rfl) (by simp [Tryz.f14]) (fun w0 K0 => vc_ok _ _ _ (by kernel_rfl) ?_)
  simp only [Tryz.f14]
  simp -dsimp [maxLen]
  exact ⟨by omega, by omega⟩


theorem strips_inj : ∀ {l m : List Fact}, (∀ f ∈ l, Normed f) → (∀ f ∈ m, Normed f) → strips l = strips m → l = m
  | [], [], _, _, _ => rfl
  | [], _ :: _, _, _, h => by simp [strips] at h
  | _ :: _, [], _, _, h => by simp [strips] at h
  | f :: l, g :: m, hl, hm, h => by
    unfold strips at h
    rw [List.map_cons, List.map_cons] at h
    obtain ⟨h1, h2⟩ := List.cons.inj h
    have e := strips_inj (l := l) (m := m) (fun x hx => hl x (by simp [hx])) (fun x hx => hm x (by simp [hx])) h2
    have h3 := hl f (by simp)
    have h4 := hm g (by simp)
    unfold Normed at h3 h4
    unfold Fact.strip at h1
    obtain ⟨e1, e2⟩ := Prod.mk.inj h1
    rw [e]
    congr 1
    cases f; cases g
    simp at e1 e2 h3 h4
    subst e1 e2
    simp [h3, h4]

/-- the counterpart of a list in the document's edges -/
theorem edges_ok (l : List Fact) : Rise (edgesL (pers l)) ∧ ∀ i, i + 1 < (edgesL (pers l)).length → right ⟨(edgesL (pers l))[i]!, (edgesL (pers l))[i + 1]!⟩ = true :=
  ⟨(edgesL_ok _).1, fun i hi => edge_right hi⟩
theorem facts_ref {sortP : List Per → List Per} (hs : Sorts sortP) {E : List Int} (hE : Rise E) (hr : ∀ i, i + 1 < E.length → right ⟨E[i]!, E[i + 1]!⟩ = true) (NL : Nat → Bool) (G : Nat → List (List Val)) {m : List Fact} {rows : List (List Val)} {S : List Val → List (Per × Int)} {c : List Val → Int → Int}
    (h : IsForm sortP m rows S c) (e : ∀ r t, cnt m r t = (rowsIn E G t).count r) (nl : Bool) (hl : E.length ≤ 1000000000) (hG : ∀ i, (G i).length ≤ 4000000000000 ∧ ∀ r ∈ G i, r.length ≤ 4398046511104) (hm : m.length ≤ 3518437208883) :
    Con Tryz.prog 36 [.c (.sl nl ((cellsOf E NL G).map CD.cells))] [.c (.sl (refF sortP E NL G).isEmpty (facts (refF sortP E NL G)))] := by
  have heq := ref_eq hs hE hr NL G h e
  have hlen : (factsP sortP (cellsOf E NL G)).length = m.length := by
    rw [← heq, List.length_map]; exact (sortF_len _).symm
  have hsn := ref_seen hs hE hr NL G
  exact facts_spec hs nl (cellsOf E NL G) (by rw [cellsOf_len]; omega) (fun c hc => by
    obtain ⟨i, _, rfl⟩ := List.mem_map.1 hc
    exact hG i) (by omega) (by omega)
theorem same_ref {sortP : List Per → List Per} (hs : Sorts sortP) {E : List Int} (hE : Rise E) (hr : ∀ i, i + 1 < E.length → right ⟨E[i]!, E[i + 1]!⟩ = true) (NL : Nat → Bool) (G : Nat → List (List Val)) {m : List Fact} {rows : List (List Val)} {S : List Val → List (Per × Int)} {c : List Val → Int → Int}
    (h : IsForm sortP m rows S c) (e : ∀ r t, cnt m r t = (rowsIn E G t).count r) (na nb : Bool) (hm : m.length ≤ 140737488355328) (hr1 : Rows1 m) : Con Tryz.prog 11 [.c (.sl na (facts m)), .c (.sl nb (facts (refF sortP E NL G)))] [.c (bln true)] := by
  have heq := ref_eq hs hE hr NL G h e
  have := sameF_spec na nb m (refF sortP E NL G) hm hr1
  rw [show strips m = strips (refF sortP E NL G) by rw [← heq, strips_norm], decide_eq_true rfl] at this
  exact this

/-! ### Cells that are changed one by one -/
def mixC (E : List Int) (NL NL' : Nat → Bool) (G G' : Nat → List (List Val)) (i : Nat) : List (List C) :=
  (List.range (E.length - 1)).map fun j => if j < i then [i64 (ge E j), i64 (ge E (j + 1)), .sl (NL' j) (rowsW fF (G' j))] else [i64 (ge E j), i64 (ge E (j + 1)), .sl (NL j) (rowsW fF (G j))]
@[simp] theorem mixC_len (E : List Int) (NL NL' : Nat → Bool) (G G' : Nat → List (List Val)) (i : Nat) : (mixC E NL NL' G G' i).length = E.length - 1 := by simp [mixC]
theorem mixC_0 (E : List Int) (NL NL' : Nat → Bool) (G G' : Nat → List (List Val)) : mixC E NL NL' G G' 0 = (cellsOf E NL G).map CD.cells := by
  unfold mixC cellsOf
  rw [List.map_map]
  refine List.map_congr_left fun j _ => ?_
  rw [if_neg (by omega)]; rfl
theorem mixC_n (E : List Int) (NL NL' : Nat → Bool) (G G' : Nat → List (List Val)) : mixC E NL NL' G G' (E.length - 1) = (cellsOf E NL' G').map CD.cells := by
  unfold mixC cellsOf
  rw [List.map_map]
  refine List.map_congr_left fun j hj => ?_
  rw [if_pos (by have := List.mem_range.1 hj; omega)]; rfl
theorem mixC_get (E : List Int) (NL NL' : Nat → Bool) (G G' : Nat → List (List Val)) (i : Nat) (h : i < (mixC E NL NL' G G' i).length) : (mixC E NL NL' G G' i)[i] = [i64 (ge E i), i64 (ge E (i + 1)), .sl (NL i) (rowsW fF (G i))] := by
  simp only [mixC, List.getElem_map, List.getElem_range]
  rw [if_neg (by omega)]
theorem mixC_set (E : List Int) (NL NL' : Nat → Bool) (G G' : Nat → List (List Val)) {i : Nat} (h : i < E.length - 1) : (mixC E NL NL' G G' i).set i [i64 (ge E i), i64 (ge E (i + 1)), .sl (NL' i) (rowsW fF (G' i))] = mixC E NL NL' G G' (i + 1) := by
  refine List.ext_getElem (by simp) fun j h1 h2 => ?_
  have hj : j < E.length - 1 := by simpa using h2
  rw [List.getElem_set]
  simp only [mixC, List.getElem_map, List.getElem_range]
  by_cases e : i = j
  · subst e
    rw [if_pos rfl, if_pos (by omega)]
  · rw [if_neg e]
    by_cases e2 : j < i
    · rw [if_pos e2, if_pos (by omega)]
    · rw [if_neg e2, if_neg (by omega)]
def nG (l : List Fact) (i : Nat) : List (List Val) := rowsAt l (edgesL (pers l))[i]!
def nNL (l : List Fact) (i : Nat) : Bool := (nG l i).isEmpty
theorem cellsC_of (l : List Fact) : cellsC l (edgesL (pers l)) ((edgesL (pers l)).length - 1) = (cellsOf (edgesL (pers l)) (nNL l) (nG l)).map CD.cells := by
  unfold cellsC cellsOf
  rw [List.map_map]
  rfl

/-! ### What is said between edges -/
theorem rows_in {l : List Fact} {ps : List Per} (h : ∀ f ∈ l, f.p ∈ ps) {i : Nat} (hi : i + 1 < (edgesL ps).length) {t : Int} (h1 : (edgesL ps)[i]! ≤ t) (h2 : t < (edgesL ps)[i + 1]!) : (rowsAt l (edgesL ps)[i]!).Perm (atT l t) := by
  refine (rowsAt_perm l _).trans ?_
  refine List.perm_iff_count.2 fun r => ?_
  have e := cnt_between h hi h1 h2 r
  rw [cnt_at, cnt_at] at e
  exact e
theorem rows_out {l : List Fact} {ps : List Per} (h : ∀ f ∈ l, f.p ∈ ps) {t : Int} (ho : ∀ i, i + 1 < (edgesL ps).length → ¬ ((edgesL ps)[i]! ≤ t ∧ t < (edgesL ps)[i + 1]!)) : atT l t = [] := by
  rw [List.eq_nil_iff_forall_not_mem]
  intro r hr
  have : 0 < cnt l r t := by rw [cnt_at]; exact List.count_pos_iff.2 hr
  obtain ⟨i, a, b, c⟩ := cnt_in h this
  exact ho i a ⟨b, c⟩

/-! ### Normal -/
def refNormal (sortP : List Per → List Per) (l : List Fact) : List Fact := refF sortP (edgesL (pers l)) (nNL l) (nG l)
theorem pers_mem {l m : List Fact} (h : ∀ f ∈ l, f ∈ m) : ∀ f ∈ l, f.p ∈ pers m := fun f hf => List.mem_map.2 ⟨f, h f hf, rfl⟩
/-- the rows between edges are those of each instant there -/
theorem in_perm {ps : List Per} {t : Int} {F : Nat → List (List Val)} {m : List (List Val)} (hi : ∀ i, i + 1 < (edgesL ps).length → (edgesL ps)[i]! ≤ t → t < (edgesL ps)[i + 1]! → (F i).Perm m) (ho : (∀ i, i + 1 < (edgesL ps).length → ¬ ((edgesL ps)[i]! ≤ t ∧ t < (edgesL ps)[i + 1]!)) → m = []) :
    (rowsIn (edgesL ps) F t).Perm m := by
  by_cases h : ∃ i, i + 1 < (edgesL ps).length ∧ (edgesL ps)[i]! ≤ t ∧ t < (edgesL ps)[i + 1]!
  · obtain ⟨i, h1, h2, h3⟩ := h
    rw [rowsIn_some (edgesL_ok ps).1 h1 h2 h3]
    exact hi i h1 h2 h3
  · have h' := fun i hi h2 => h ⟨i, hi, h2⟩
    rw [rowsIn_none h', ho h']
theorem nG_perm (l : List Fact) (t : Int) : (rowsIn (edgesL (pers l)) (nG l) t).Perm (atT l t) :=
  in_perm (fun i h1 h2 h3 => rows_in (pers_mem fun f hf => hf) h1 h2 h3) fun ho => rows_out (pers_mem fun f hf => hf) ho
theorem rowsAt_bound {l : List Fact} {t : Int} (hl : l.length ≤ 4000000000000) (hr : Rows1 l) : (rowsAt l t).length ≤ 4000000000000 ∧ ∀ r ∈ rowsAt l t, r.length ≤ 4398046511104 :=
  ⟨Nat.le_trans (rowsAt_len l t) hl, fun r h => by obtain ⟨f, hf, _, rfl⟩ := rowsAt_mem h; exact hr f hf⟩
theorem edges_le (l : List Fact) : (edgesL (pers l)).length ≤ 2 * l.length := by
  have := edgesL_len (pers l)
  rw [List.length_map] at this; omega
theorem nnorm_cnt {sortP : List Per → List Per} (hs : Sorts sortP) (l : List Fact) (r : List Val) (t : Int) : cnt (normalL sortP l) r t = (rowsIn (edgesL (pers l)) (nG l) t).count r := by
  rw [normal_cnt hs, cnt_at]; exact (List.perm_iff_count.1 (nG_perm l t) r).symm

set_option maxRecDepth 4000 in
set_option maxHeartbeats 8000000 in
theorem refNormal_spec {sortP : List Per → List Per} (hs : Sorts sortP) (nl : Bool) (l : List Fact) (hl : l.length ≤ 400000000) (hr : Rows1 l) :
    Con Tryz.prog 13 [.c (.sl nl (facts l))] [.c (.sl (refNormal sortP l).isEmpty (facts (refNormal sortP l)))] := by
  refine spec_of Tryz.func13 rfl (by kernel_rfl) (by simp [Tryz.f13]) (fun w0 K0 => vc_ok _ _ _ (by kernel_rfl) ?_)
  simp only [Tryz.f13]
  have kc := cells_spec nl l (by omega) hr
  rw [cellsC_of] at kc
  have hE := edges_ok l
  have hle := edges_le l
  have hm := normal_len hs l
  have kf := facts_ref hs hE.1 hE.2 (nNL l) (nG l) (normal_form l) (nnorm_cnt hs l) (decide ((edgesL (pers l)).length ≤ 1)) (by omega) (fun i => rowsAt_bound (by omega) hr) (by omega)
  unfold refNormal
  simp -dsimp
  refine VC.mk _ kc ?_
  simp -dsimp
  refine VC.mk _ kf ?_
  simp -dsimp
theorem same_normal {sortP : List Per → List Per} (hs : Sorts sortP) (na nb : Bool) (l : List Fact) (hl : l.length ≤ 400000000) (hr : Rows1 l) :
    Con Tryz.prog 11 [.c (.sl na (facts (normalL sortP l))), .c (.sl nb (facts (refNormal sortP l)))] [.c (bln true)] := by
  have hE := edges_ok l
  have hm := normal_len hs l
  exact same_ref hs hE.1 hE.2 (nNL l) (nG l) (normal_form l) (nnorm_cnt hs l) na nb (by omega) (normal_rows1 hr)

/-! ### Except -/
def xE (a b : List Fact) : List Int := edgesL (pers (a ++ b))
def xG (a b : List Fact) (i : Nat) : List (List Val) := lessL (rowsAt a (xE a b)[i]!) (rowsAt b (xE a b)[i]!)
def refExcept (sortP : List Per → List Per) (a b : List Fact) : List Fact := refF sortP (xE a b) (fun i => (xG a b i).isEmpty) (xG a b)
theorem xa_mem (a b : List Fact) : ∀ f ∈ a, f.p ∈ pers (a ++ b) := pers_mem fun f hf => List.mem_append_left _ hf
theorem xb_mem (a b : List Fact) : ∀ f ∈ b, f.p ∈ pers (a ++ b) := pers_mem fun f hf => List.mem_append_right _ hf
theorem except_in {sortP : List Per → List Per} (hs : Sorts sortP) (a b : List Fact) (r : List Val) (t : Int) : cnt (exceptL sortP a b) r t = (rowsIn (xE a b) (xG a b) t).count r := by
  rw [except_cnt hs, cnt_at, cnt_at]
  by_cases h : ∃ i, i + 1 < (edgesL (pers (a ++ b))).length ∧ (edgesL (pers (a ++ b)))[i]! ≤ t ∧ t < (edgesL (pers (a ++ b)))[i + 1]!
  · obtain ⟨i, h1, h2, h3⟩ := h
    have e1 : (rowsAt a (xE a b)[i]!).count r = (atT a t).count r := List.perm_iff_count.1 (rows_in (xa_mem a b) h1 h2 h3) r
    have e2 : (rowsAt b (xE a b)[i]!).count r = (atT b t).count r := List.perm_iff_count.1 (rows_in (xb_mem a b) h1 h2 h3) r
    rw [show rowsIn (xE a b) (xG a b) t = xG a b i from rowsIn_some (edgesL_ok _).1 h1 h2 h3]
    unfold xG
    rw [less_count, e1, e2]
  · have h' := fun i hi h2 => h ⟨i, hi, h2⟩
    rw [show rowsIn (xE a b) (xG a b) t = [] from rowsIn_none h', rows_out (xa_mem a b) h']
    simp

set_option maxRecDepth 4000 in
set_option maxHeartbeats 16000000 in
theorem refExcept_spec {sortP : List Per → List Per} (hs : Sorts sortP) (na nb : Bool) (a b : List Fact) (la : a.length ≤ 200000000) (lb : b.length ≤ 200000000) (ra : Rows1 a) (rb : Rows1 b) :
    Con Tryz.prog 18 [.c (.sl na (facts a)), .c (.sl nb (facts b))] [.c (.sl (refExcept sortP a b).isEmpty (facts (refExcept sortP a b)))] := by
  refine spec_of Tryz.func18 rfl (by kernel_rfl) (by simp [Tryz.f18]) (fun w0 K0 => vc_ok _ _ _ (by kernel_rfl) ?_)
  simp only [Tryz.f18]
  have kb := both_spec na nb a b (by omega) (by omega)
  have rab : Rows1 (a ++ b) := fun f hf => by
    rcases List.mem_append.1 hf with h | h
    · exact ra f h
    · exact rb f h
  have lab : (a ++ b).length = a.length + b.length := List.length_append
  have kc := cells_spec0 false (a ++ b) (by omega) rab
  rw [cellsC_of] at kc
  have hE := edges_ok (a ++ b)
  have hle := edges_le (a ++ b)
  have hm := except_len hs a b
  have kf : ∀ z, Con Tryz.prog 36 [.c (.sl z ((cellsOf (xE a b) (fun i => (xG a b i).isEmpty) (xG a b)).map CD.cells))] [.c (.sl (refExcept sortP a b).isEmpty (facts (refExcept sortP a b)))] := fun z => facts_ref hs hE.1 hE.2 (fun i => (xG a b i).isEmpty) (xG a b) (except_form a b) (except_in hs a b) z (by omega) (fun i => ⟨Nat.le_trans (less_len _ _) (rowsAt_bound (by omega) ra).1, fun r hr => (rowsAt_bound (by omega) ra).2 r ((less_sub _ _).subset hr)⟩) (by omega)
  generalize refExcept sortP a b = R at *
  rw [← mixC_0 _ _ (fun i => (xG a b i).isEmpty) _ (xG a b)] at kc
  simp only [← mixC_n (xE a b) (nNL (a ++ b)) (fun i => (xG a b i).isEmpty) (nG (a ++ b)) (xG a b)] at kf
  change Con Tryz.prog 34 _ [.fr (decide ((xE a b).length ≤ 1)) (if (xE a b).length ≤ 1 then 0 else 3) (mixC (xE a b) _ _ _ _ 0) 0] at kc
  have hset := @mixC_set (xE a b) (nNL (a ++ b)) (fun i => (xG a b i).isEmpty) (nG (a ++ b)) (xG a b)
  have hget := @mixC_get (xE a b) (nNL (a ++ b)) (fun i => (xG a b i).isEmpty) (nG (a ++ b)) (xG a b)
  have kl : ∀ i, Con Tryz.prog 51 [.c (.sl (rowsAt a (ge (xE a b) i)).isEmpty (rowsC (rowsAt a (ge (xE a b) i)))), .c (.sl (rowsAt b (ge (xE a b) i)).isEmpty (rowsC (rowsAt b (ge (xE a b) i))))] [.c (.sl (xG a b i).isEmpty (rowsW fF (xG a b i)))] := fun i =>
    less_spec fF fF _ _ (rowsAt a (ge (xE a b) i)) (rowsAt b (ge (xE a b) i)) (rowsAt_bound (by omega) ra).1 (rowsAt_bound (by omega) rb).1 (fun r hr => by have := (rowsAt_bound (by omega) ra).2 r hr; omega)
  change (xE a b).length ≤ _ at hle
  generalize hM : mixC (xE a b) (nNL (a ++ b)) (fun i => (xG a b i).isEmpty) (nG (a ++ b)) (xG a b) = M at *
  have hML : ∀ i, (M i).length = (xE a b).length - 1 := fun i => by rw [← hM]; exact mixC_len ..
  generalize xE a b = E at *
  simp -dsimp
  refine VC.mk _ kb ?_
  simp -dsimp
  rw [facts, List.map_append] at kc
  refine VC.mk _ kc ?_
  simp -dsimp
  refine VL.loop (fun i : Nat => ⟨[(6, .c (i64 i)), (5, .own 640 (E.length - 1)), (0, .c (.sl na (facts a))), (1, .c (.sl nb (facts b)))], [(640, some (.arr (decide (E.length ≤ 1)) (if E.length ≤ 1 then 0 else 3) (M i) 0))]⟩)
    (fun i => i ≤ E.length - 1) (fun i => E.length - 1 - i) 0 (by kernel_rfl) (by simp) (by simp [St.le, hML]) ?_
  intro i hi
  by_cases h1 : i < E.length - 1
  · have hw : IntKind.i64.wrap ((i : Int) + 1) = (i : Int) + 1 := IntWalk.i64_in _ (by omega)
    have hd : decide (E.length ≤ 1) = false := decide_eq_false (by omega)
    have hz : (if E.length ≤ 1 then 0 else 3) = 3 := if_neg (by omega)
    have hc1 : ((i : Int) < ((E.length - 1 : Nat) : Int)) = True := eq_true (by omega)
    have hgi := hget i (by rw [hML]; exact h1)
    have hsi := hset h1
    simp -dsimp [hML, h1, hd, hz, hc1]
    refine VL.draw (by kernel_rfl) [(0, false), (0, false), (0, false), (0, false), (0, false), (24, false), (56, false), (120, false), (252, false), (0, false), (0, false), (0, false), (3072, false), (7168, false), (15360, false), (32764, false), (65532, false), (131071, true), (262143, true), (524287, true)] (by kernel_rfl) ?_
    simp -dsimp [hML, h1, hgi]
    refine VCE.mk _ (rows_spec na a (ge E i) (by omega) ra) ?_
    simp -dsimp [hML, h1, hgi]
    refine VCE.mk _ (rows_spec nb b (ge E i) (by omega) rb) ?_
    simp -dsimp
    refine VCE.mk _ (kl i) ?_
    simp -dsimp [hML, h1, hgi, hsi, hw]
    refine ⟨i + 1, by omega, ?_, by omega⟩
    simp [St.le, hd, hz]
  · obtain rfl : i = E.length - 1 := by omega
    simp -dsimp [hML]
    refine VCL.snap ?_
    simp -dsimp [hML]
    refine VC.mk _ (kf _) ?_
    simp -dsimp
end Go.Proofs.YtmkbclnhopoiiaaGreat
/- Contracts: the document's Join. -/
set_option linter.unusedSimpArgs false
set_option linter.unusedVariables false
namespace Go.Proofs.YtmkbclnhopoiiaaGreat
open Go.VL Go.RowKit

def jG (a b : List Fact) (i : Nat) : List (List Val) := pairsL (rowsAt a (xE a b)[i]!) (rowsAt b (xE a b)[i]!)
def refJoin (sortP : List Per → List Per) (a b : List Fact) : List Fact := refF sortP (xE a b) (fun i => (jG a b i).isEmpty) (jG a b)
theorem join_in {sortP : List Per → List Per} (hs : Sorts sortP) (a b : List Fact) (r : List Val) (t : Int) : cnt (joinL sortP a b) r t = (rowsIn (xE a b) (jG a b) t).count r := by
  unfold joinL
  rw [normal_cnt hs, cnt_at, atT_join]
  refine (List.perm_iff_count.1 (in_perm (ps := pers (a ++ b)) (F := jG a b) (m := pairsL (atT a t) (atT b t)) (fun i h1 h2 h3 => ?_) (fun ho => ?_)) r).symm
  · exact pairs_perm (rows_in (xa_mem a b) h1 h2 h3) (rows_in (xb_mem a b) h1 h2 h3)
  · rw [rows_out (xa_mem a b) ho]; rfl
theorem rows2_at {a b : List Fact} (r2 : Rows2 a b) (t : Int) : ∀ x ∈ rowsAt a t, ∀ y ∈ rowsAt b t, x.length + y.length ≤ 4398046511104 := fun x hx y hy => by
  obtain ⟨f, hf, _, rfl⟩ := rowsAt_mem hx
  obtain ⟨g, hg, _, rfl⟩ := rowsAt_mem hy
  exact r2 f hf g hg
theorem jG_bound {a b : List Fact} (la : a.length ≤ 1048576) (lb : b.length ≤ 1048576) (r2 : Rows2 a b) (i : Nat) : (jG a b i).length ≤ 4000000000000 ∧ ∀ r ∈ jG a b i, r.length ≤ 4398046511104 := by
  refine ⟨?_, fun r hr => ?_⟩
  · unfold jG
    rw [pairs_len]
    exact Nat.le_trans (Nat.mul_le_mul (Nat.le_trans (rowsAt_len _ _) la) (Nat.le_trans (rowsAt_len _ _) lb)) (by decide)
  · obtain ⟨x, hx, hr⟩ := List.mem_flatMap.1 hr
    obtain ⟨y, hy, rfl⟩ := List.mem_map.1 hr
    rw [List.length_append]
    exact rows2_at r2 _ x hx y hy

set_option maxRecDepth 4000 in
set_option maxHeartbeats 16000000 in
theorem refJoin_spec {sortP : List Per → List Per} (hs : Sorts sortP) (na nb : Bool) (a b : List Fact) (la : a.length ≤ 1048576) (lb : b.length ≤ 1048576) (r2 : Rows2 a b) (ra : Rows1 a) (rb : Rows1 b) :
    Con Tryz.prog 20 [.c (.sl na (facts a)), .c (.sl nb (facts b))] [.c (.sl (refJoin sortP a b).isEmpty (facts (refJoin sortP a b)))] := by
  refine spec_of Tryz.func20 rfl (by kernel_rfl) (by simp [Tryz.f20]) (fun w0 K0 => vc_ok _ _ _ (by kernel_rfl) ?_)
  simp only [Tryz.f20]
  have kb := both_spec na nb a b (by omega) (by omega)
  have rab : Rows1 (a ++ b) := fun f hf => by
    rcases List.mem_append.1 hf with h | h
    · exact ra f h
    · exact rb f h
  have lab : (a ++ b).length = a.length + b.length := List.length_append
  have kc := cells_spec0 false (a ++ b) (by omega) rab
  rw [cellsC_of] at kc
  have hE := edges_ok (a ++ b)
  have hle := edges_le (a ++ b)
  have hml : a.length * b.length ≤ 1048576 * 1048576 := Nat.mul_le_mul (by omega) (by omega)
  have hm := Nat.le_trans (normal_len hs (joinP a b)) (joinP_len a b)
  have hG := jG_bound la lb r2
  have kf : ∀ z, Con Tryz.prog 36 [.c (.sl z ((cellsOf (xE a b) (fun i => (jG a b i).isEmpty) (jG a b)).map CD.cells))] [.c (.sl (refJoin sortP a b).isEmpty (facts (refJoin sortP a b)))] := fun z => facts_ref hs hE.1 hE.2 (fun i => (jG a b i).isEmpty) (jG a b) (normal_form (joinP a b)) (join_in hs a b) z (by omega) hG (by omega)
  generalize refJoin sortP a b = R at *
  rw [← mixC_0 _ _ (fun i => (jG a b i).isEmpty) _ (jG a b)] at kc
  simp only [← mixC_n (xE a b) (nNL (a ++ b)) (fun i => (jG a b i).isEmpty) (nG (a ++ b)) (jG a b)] at kf
  change Con Tryz.prog 34 _ [.fr (decide ((xE a b).length ≤ 1)) (if (xE a b).length ≤ 1 then 0 else 3) (mixC (xE a b) _ _ _ _ 0) 0] at kc
  have hset := @mixC_set (xE a b) (nNL (a ++ b)) (fun i => (jG a b i).isEmpty) (nG (a ++ b)) (jG a b)
  have hget := @mixC_get (xE a b) (nNL (a ++ b)) (fun i => (jG a b i).isEmpty) (nG (a ++ b)) (jG a b)
  have kl : ∀ i, Con Tryz.prog 53 [.c (.sl (rowsAt a (ge (xE a b) i)).isEmpty (rowsC (rowsAt a (ge (xE a b) i)))), .c (.sl (rowsAt b (ge (xE a b) i)).isEmpty (rowsC (rowsAt b (ge (xE a b) i))))] [.c (.sl (jG a b i).isEmpty (rowsW fF (jG a b i)))] := fun i =>
    pairs_spec fF fF _ _ (rowsAt a (ge (xE a b) i)) (rowsAt b (ge (xE a b) i)) (rowsAt_bound (by omega) ra).1 (rowsAt_bound (by omega) rb).1 (Nat.le_trans (Nat.mul_le_mul (Nat.le_trans (rowsAt_len _ _) la) (Nat.le_trans (rowsAt_len _ _) lb)) (by decide)) (rows2_at r2 _)
  change (xE a b).length ≤ _ at hle
  generalize hM : mixC (xE a b) (nNL (a ++ b)) (fun i => (jG a b i).isEmpty) (nG (a ++ b)) (jG a b) = M at *
  have hML : ∀ i, (M i).length = (xE a b).length - 1 := fun i => by rw [← hM]; exact mixC_len ..
  generalize xE a b = E at *
  simp -dsimp
  refine VC.mk _ kb ?_
  simp -dsimp
  rw [facts, List.map_append] at kc
  refine VC.mk _ kc ?_
  simp -dsimp
  refine VL.loop (fun i : Nat => ⟨[(6, .c (i64 i)), (5, .own 640 (E.length - 1)), (0, .c (.sl na (facts a))), (1, .c (.sl nb (facts b)))], [(640, some (.arr (decide (E.length ≤ 1)) (if E.length ≤ 1 then 0 else 3) (M i) 0))]⟩)
    (fun i => i ≤ E.length - 1) (fun i => E.length - 1 - i) 0 (by kernel_rfl) (by simp) (by simp [St.le, hML]) ?_
  intro i hi
  by_cases h1 : i < E.length - 1
  · have hw : IntKind.i64.wrap ((i : Int) + 1) = (i : Int) + 1 := IntWalk.i64_in _ (by omega)
    have hd : decide (E.length ≤ 1) = false := decide_eq_false (by omega)
    have hz : (if E.length ≤ 1 then 0 else 3) = 3 := if_neg (by omega)
    have hc1 : ((i : Int) < ((E.length - 1 : Nat) : Int)) = True := eq_true (by omega)
    have hgi := hget i (by rw [hML]; exact h1)
    have hsi := hset h1
    simp -dsimp [hML, h1, hd, hz, hc1]
    refine VL.draw (by kernel_rfl) [(0, false), (0, false), (0, false), (0, false), (0, false), (24, false), (56, false), (120, false), (252, false), (0, false), (0, false), (0, false), (3072, false), (7168, false), (15360, false), (32764, false), (65532, false), (131071, true), (262143, true), (524287, true)] (by kernel_rfl) ?_
    simp -dsimp [hML, h1, hgi]
    refine VCE.mk _ (rows_spec na a (ge E i) (by omega) ra) ?_
    simp -dsimp [hML, h1, hgi]
    refine VCE.mk _ (rows_spec nb b (ge E i) (by omega) rb) ?_
    simp -dsimp
    refine VCE.mk _ (kl i) ?_
    simp -dsimp [hML, h1, hgi, hsi, hw]
    refine ⟨i + 1, by omega, ?_, by omega⟩
    simp [St.le, hd, hz]
  · obtain rfl : i = E.length - 1 := by omega
    simp -dsimp [hML]
    refine VCL.snap ?_
    simp -dsimp [hML]
    refine VC.mk _ (kf _) ?_
    simp -dsimp

theorem same_except {sortP : List Per → List Per} (hs : Sorts sortP) (na nb : Bool) (a b : List Fact) (la : a.length ≤ 200000000) (lb : b.length ≤ 200000000) (ra : Rows1 a) :
    Con Tryz.prog 11 [.c (.sl na (facts (exceptL sortP a b))), .c (.sl nb (facts (refExcept sortP a b)))] [.c (bln true)] := by
  have hE := edges_ok (a ++ b)
  have hm := except_len hs a b
  exact same_ref hs hE.1 hE.2 _ (xG a b) (except_form a b) (except_in hs a b) na nb (by omega) (except_rows1 ra)
theorem same_join {sortP : List Per → List Per} (hs : Sorts sortP) (na nb : Bool) (a b : List Fact) (la : a.length ≤ 1048576) (lb : b.length ≤ 1048576) (r2 : Rows2 a b) :
    Con Tryz.prog 11 [.c (.sl na (facts (joinL sortP a b))), .c (.sl nb (facts (refJoin sortP a b)))] [.c (bln true)] := by
  have hE := edges_ok (a ++ b)
  have hml : a.length * b.length ≤ 1048576 * 1048576 := Nat.mul_le_mul (by omega) (by omega)
  have hm := Nat.le_trans (normal_len hs (joinP a b)) (joinP_len a b)
  exact same_ref hs hE.1 hE.2 _ (jG a b) (normal_form (joinP a b)) (join_in hs a b) na nb (by omega) (normal_rows1 (join_rows1 r2))
end Go.Proofs.YtmkbclnhopoiiaaGreat
/- Contracts: the document's Count. -/
set_option linter.unusedSimpArgs false
set_option linter.unusedVariables false
namespace Go.Proofs.YtmkbclnhopoiiaaGreat
open Go.VL Go.RowKit

def lenR (rs : List (List Val)) : List (List Val) := if 0 < rs.length then [num rs.length] else []
def cG (l : List Fact) (i : Nat) : List (List Val) := lenR (nG l i)
def cNL (l : List Fact) (i : Nat) : Bool := (cG l i).isEmpty
def refCount (sortP : List Per → List Per) (l : List Fact) : List Fact := refF sortP (edgesL (pers l)) (cNL l) (cG l)
theorem count_in {sortP : List Per → List Per} (hs : Sorts sortP) (l : List Fact) (r : List Val) (t : Int) : cnt (countL sortP l) r t = (rowsIn (edgesL (pers l)) (cG l) t).count r := by
  unfold countL
  rw [normal_cnt hs, cnt_at, count_at, (slice_at l t).length_eq]
  refine (List.perm_iff_count.1 (in_perm (ps := pers l) (F := cG l) (m := lenR (atT l t)) (fun i h1 h2 h3 => ?_) (fun ho => ?_)) r).symm
  · have := rows_in (pers_mem (l := l) fun f hf => hf) h1 h2 h3
    unfold cG lenR
    rw [show (nG l i).length = (atT l t).length from this.length_eq]
  · rw [rows_out (pers_mem (l := l) fun f hf => hf) ho]; rfl
theorem lenR_bound (rs : List (List Val)) : (lenR rs).length ≤ 4000000000000 ∧ ∀ r ∈ lenR rs, r.length ≤ 4398046511104 := by
  unfold lenR
  split
  · exact ⟨by simp, fun r hr => by simp at hr; subst hr; show 1 ≤ _; omega⟩
  · exact ⟨by simp, fun r hr => by simp at hr⟩

set_option maxRecDepth 4000 in
set_option maxHeartbeats 16000000 in
theorem refCount_spec {sortP : List Per → List Per} (hs : Sorts sortP) (na : Bool) (l : List Fact) (hl : l.length ≤ 200000000) (hr : Rows1 l) :
    Con Tryz.prog 24 [.c (.sl na (facts l))] [.c (.sl (refCount sortP l).isEmpty (facts (refCount sortP l)))] := by
  refine spec_of Tryz.func24 rfl (by kernel_rfl) (by simp [Tryz.f24]) (fun w0 K0 => vc_ok _ _ _ (by kernel_rfl) ?_)
  simp only [Tryz.f24]
  have kc := cells_spec0 na l (by omega) hr
  rw [cellsC_of] at kc
  have hE := edges_ok l
  have hle := edges_le l
  have hm : (countL sortP l).length ≤ 2 * l.length := Nat.le_trans (normal_len hs _) (countP_len l)
  have hn : ∀ i, (nG l i).length ≤ l.length := fun i => rowsAt_len _ _
  have hcg : ∀ i, cG l i = lenR (nG l i) := fun _ => rfl
  have hcn : ∀ i, cNL l i = (cG l i).isEmpty := fun _ => rfl
  have kf : ∀ z, Con Tryz.prog 36 [.c (.sl z ((cellsOf (edgesL (pers l)) (cNL l) (cG l)).map CD.cells))] [.c (.sl (refCount sortP l).isEmpty (facts (refCount sortP l)))] :=
    fun z => facts_ref hs hE.1 hE.2 (cNL l) (cG l) (normal_form (countP l)) (count_in hs l) z (by omega) (fun i => lenR_bound _) (by unfold countL at hm; omega)
  generalize refCount sortP l = R at *
  rw [← mixC_0 _ _ (cNL l) _ (cG l)] at kc
  simp only [← mixC_n (edgesL (pers l)) (nNL l) (cNL l) (nG l) (cG l)] at kf
  have hset := @mixC_set (edgesL (pers l)) (nNL l) (cNL l) (nG l) (cG l)
  have hget := @mixC_get (edgesL (pers l)) (nNL l) (cNL l) (nG l) (cG l)
  generalize hM : mixC (edgesL (pers l)) (nNL l) (cNL l) (nG l) (cG l) = M at *
  have hML : ∀ i, (M i).length = (edgesL (pers l)).length - 1 := fun i => by rw [← hM]; exact mixC_len ..
  generalize nG l = NG at *
  generalize nNL l = NN at *
  generalize edgesL (pers l) = E at *
  simp -dsimp
  refine VC.mk _ kc ?_
  simp -dsimp
  refine VL.loop (fun i : Nat => ⟨[(4, .c (i64 i)), (3, .own 448 (E.length - 1))], [(448, some (.arr (decide (E.length ≤ 1)) (if E.length ≤ 1 then 0 else 3) (M i) 0))]⟩)
    (fun i => i ≤ E.length - 1) (fun i => E.length - 1 - i) 0 (by kernel_rfl) (by simp) (by simp [St.le, hML]) ?_
  intro i hi
  by_cases h1 : i < E.length - 1
  · have hw : IntKind.i64.wrap ((i : Int) + 1) = (i : Int) + 1 := IntWalk.i64_in _ (by omega)
    have hd : decide (E.length ≤ 1) = false := decide_eq_false (by omega)
    have hz : (if E.length ≤ 1 then 0 else 3) = 3 := if_neg (by omega)
    have hc1 : ((i : Int) < ((E.length - 1 : Nat) : Int)) = True := eq_true (by omega)
    have hgi := hget i (by rw [hML]; exact h1)
    have hsi := hset h1
    simp -dsimp [hML, h1, hd, hz, hc1, hgi]
    refine VIf.mk (fun h => ?_) (fun h => ?_)
    · have h0 : 0 < (NG i).length := by simpa using h
      have hci : cG l i = [num (NG i).length] := by rw [hcg]; unfold lenR; rw [if_pos h0]
      rw [hcn, hci] at hsi
      simp -dsimp [hML, h1, hgi]
      refine ⟨by decide, i + 1, by omega, ?_, by omega⟩
      simp [St.le, hd, hz, hw]
      exact hsi
    · have h0 : ¬ 0 < (NG i).length := by simpa using h
      have hci : cG l i = [] := by rw [hcg]; unfold lenR; rw [if_neg h0]
      rw [hcn, hci] at hsi
      simp -dsimp [hML, hw]
      refine ⟨i + 1, by omega, ?_, by omega⟩
      simp [St.le, hd, hz, hgi]
      exact hsi
  · obtain rfl : i = E.length - 1 := by omega
    simp -dsimp [hML]
    refine VCL.snap ?_
    simp -dsimp [hML]
    refine VC.mk _ (kf _) ?_
    simp -dsimp
theorem same_count {sortP : List Per → List Per} (hs : Sorts sortP) (na nb : Bool) (l : List Fact) (hl : l.length ≤ 200000000) :
    Con Tryz.prog 11 [.c (.sl na (facts (countL sortP l))), .c (.sl nb (facts (refCount sortP l)))] [.c (bln true)] := by
  have hE := edges_ok l
  have hm : (countL sortP l).length ≤ 2 * l.length := Nat.le_trans (normal_len hs _) (countP_len l)
  exact same_ref hs hE.1 hE.2 (cNL l) (cG l) (normal_form (countP l)) (count_in hs l) na nb (by unfold countL at hm; omega) (normal_rows1 (countP_rows l))

/-! ### Clip -/
def zeroF (p : Per) : Fact := ⟨true, [], p⟩
def clE (l : List Fact) (p : Per) : List Int := edgesL (pers (l ++ [zeroF p]))
def clG (l : List Fact) (p : Per) (i : Nat) : List (List Val) := if right p && has p (clE l p)[i]! then rowsAt l (clE l p)[i]! else []
def refClip (sortP : List Per → List Per) (l : List Fact) (p : Per) : List Fact := refF sortP (clE l p) (fun i => (clG l p i).isEmpty) (clG l p)
theorem clip_in {sortP : List Per → List Per} (hs : Sorts sortP) (l : List Fact) (p : Per) (r : List Val) (t : Int) : cnt (clipL sortP l p) r t = (rowsIn (clE l p) (clG l p) t).count r := by
  unfold clipL
  rw [normal_cnt hs, clipP_cnt, cnt_at]
  have hl : ∀ f ∈ l, f.p ∈ pers (l ++ [zeroF p]) := pers_mem fun f hf => List.mem_append_left _ hf
  have hp : p ∈ pers (l ++ [zeroF p]) := List.mem_map.2 ⟨zeroF p, by simp, rfl⟩
  have key : (rowsIn (clE l p) (clG l p) t).Perm (if right p && has p t then atT l t else []) := by
    refine in_perm (ps := pers (l ++ [zeroF p])) (fun i h1 h2 h3 => ?_) (fun ho => ?_)
    · have h4 := rows_in hl h1 h2 h3
      unfold clG
      by_cases hr : right p = true
      · have h5 : has p (clE l p)[i]! = has p t := has_between hp hr h1 h2 h3
        rw [h5]
        split
        · exact h4
        · exact .refl _
      · simp only [Bool.not_eq_true] at hr
        rw [hr]; exact .refl _
    · rw [rows_out hl ho]; simp
  rw [List.perm_iff_count.1 key r]
  split <;> simp
theorem clG_bound {l : List Fact} (p : Per) (hl : l.length ≤ 4000000000000) (hr : Rows1 l) (i : Nat) : (clG l p i).length ≤ 4000000000000 ∧ ∀ r ∈ clG l p i, r.length ≤ 4398046511104 := by
  unfold clG
  split
  · exact rowsAt_bound hl hr
  · exact ⟨by simp, fun r hr => by simp at hr⟩
theorem same_clip {sortP : List Per → List Per} (hs : Sorts sortP) (na nb : Bool) (l : List Fact) (p : Per) (hl : l.length ≤ 200000000) (hr : Rows1 l) :
    Con Tryz.prog 11 [.c (.sl na (facts (clipL sortP l p))), .c (.sl nb (facts (refClip sortP l p)))] [.c (bln true)] := by
  have hE := edges_ok (l ++ [zeroF p])
  have hm := clip_len hs l p
  exact same_ref hs hE.1 hE.2 _ (clG l p) (normal_form (clipP p l)) (clip_in hs l p) na nb (by unfold clipL at hm; omega) (clip_rows1 p hr)

set_option maxRecDepth 4000 in
set_option maxHeartbeats 16000000 in
theorem refClip_spec {sortP : List Per → List Per} (hs : Sorts sortP) (na : Bool) (l : List Fact) (p : Per) (hl : l.length ≤ 200000000) (hr : Rows1 l) :
    Con Tryz.prog 22 [.c (.sl na (facts l)), .agg p.cells] [.c (.sl (refClip sortP l p).isEmpty (facts (refClip sortP l p)))] := by
  refine spec_of Tryz.func22 rfl (by kernel_rfl) (by simp [Tryz.f22]) (fun w0 K0 => vc_ok _ _ _ (by kernel_rfl) ?_)
  simp only [Tryz.f22]
  have hr0 : Rows1 (l ++ [zeroF p]) := fun f hf => by
    rcases List.mem_append.1 hf with h | h
    · exact hr f h
    · simp at h; subst h; show 0 ≤ _; omega
  have hll : (l ++ [zeroF p]).length = l.length + 1 := by simp
  have kc := cells_spec0 false (l ++ [zeroF p]) (by omega) hr0
  rw [cellsC_of] at kc
  have hE := edges_ok (l ++ [zeroF p])
  have hle := edges_le (l ++ [zeroF p])
  have hm := clip_len hs l p
  have kf : ∀ z, Con Tryz.prog 36 [.c (.sl z ((cellsOf (clE l p) (fun i => (clG l p i).isEmpty) (clG l p)).map CD.cells))] [.c (.sl (refClip sortP l p).isEmpty (facts (refClip sortP l p)))] :=
    fun z => facts_ref hs hE.1 hE.2 _ (clG l p) (normal_form (clipP p l)) (clip_in hs l p) z (by omega) (clG_bound p (by omega) hr) (by unfold clipL at hm; omega)
  generalize refClip sortP l p = R at *
  rw [← mixC_0 _ _ (fun i => (clG l p i).isEmpty) _ (clG l p)] at kc
  simp only [← mixC_n (clE l p) (nNL (l ++ [zeroF p])) (fun i => (clG l p i).isEmpty) (nG (l ++ [zeroF p])) (clG l p)] at kf
  change Con Tryz.prog 34 _ [.fr (decide ((clE l p).length ≤ 1)) (if (clE l p).length ≤ 1 then 0 else 3) (mixC (clE l p) _ _ _ _ 0) 0] at kc
  have hset := @mixC_set (clE l p) (nNL (l ++ [zeroF p])) (fun i => (clG l p i).isEmpty) (nG (l ++ [zeroF p])) (clG l p)
  have hget := @mixC_get (clE l p) (nNL (l ++ [zeroF p])) (fun i => (clG l p i).isEmpty) (nG (l ++ [zeroF p])) (clG l p)
  have hcg : ∀ i, clG l p i = if right p && has p (ge (clE l p) i) then rowsAt l (ge (clE l p) i) else [] := fun _ => rfl
  change (clE l p).length ≤ _ at hle
  generalize hM : mixC (clE l p) (nNL (l ++ [zeroF p])) (fun i => (clG l p i).isEmpty) (nG (l ++ [zeroF p])) (clG l p) = M at *
  have hML : ∀ i, (M i).length = (clE l p).length - 1 := fun i => by rw [← hM]; exact mixC_len ..
  generalize clE l p = E at *
  rw [facts, List.map_append] at kc
  simp -dsimp [Per.cells]
  refine VL.draw (by kernel_rfl) [(0, false), (0, false), (3, false), (0, false), (8, false), (24, false), (63, true), (127, true), (255, true)] (by kernel_rfl) ?_
  simp -dsimp [maxLen]
  refine ⟨by omega, by omega, VCL.snap ?_⟩
  simp -dsimp
  refine VC.mk _ kc ?_
  simp -dsimp
  refine VL.loop (fun i : Nat => ⟨[(6, .c (i64 i)), (5, .own 896 (E.length - 1)), (3, .ptr 192 0), (0, .c (.sl na (facts l)))], [(896, some (.arr (decide (E.length ≤ 1)) (if E.length ≤ 1 then 0 else 3) (M i) 0)), (192, some (.box false [.c (i64 p.f), .c (i64 p.t)]))]⟩)
    (fun i => i ≤ E.length - 1) (fun i => E.length - 1 - i) 0 (by kernel_rfl) (by simp) (by simp [St.le, hML]) ?_
  intro i hi
  by_cases h1 : i < E.length - 1
  · have hw : IntKind.i64.wrap ((i : Int) + 1) = (i : Int) + 1 := IntWalk.i64_in _ (by omega)
    have hd : decide (E.length ≤ 1) = false := decide_eq_false (by omega)
    have hz : (if E.length ≤ 1 then 0 else 3) = 3 := if_neg (by omega)
    have hc1 : ((i : Int) < ((E.length - 1 : Nat) : Int)) = True := eq_true (by omega)
    have hgi := hget i (by rw [hML]; exact h1)
    have hsi := hset h1
    simp -dsimp [hML, h1, hd, hz, hc1, hgi]
    refine VL.draw (by kernel_rfl) [(0, true), (1, true), (3, true), (7, false), (7, false), (7, false), (55, false), (119, false), (247, false), (511, true), (1023, true)] (by kernel_rfl) ?_
    simp -dsimp [hML, h1, hgi]
    refine VC.mk _ (refRight_at _ p rfl) ?_
    simp -dsimp [hML, h1, hgi]
    refine VG.mk [.c (bln (has p (ge E i)))] _ (fun _ => refHas_at _ p (ge E i) rfl) rfl ?_
    simp -dsimp
    have hci := hcg i
    refine VIf.mk (fun h => ?_) (fun h => ?_)
    · rw [h, if_pos rfl] at hci
      rw [hci] at hsi
      simp -dsimp [hML, h1, hgi]
      refine VC.mk _ (rows_spec na l (ge E i) (by omega) hr) ?_
      simp -dsimp [hML, h1, hgi, hw]
      refine ⟨i + 1, by omega, ?_, by omega⟩
      simp [St.le, hd, hz]
      exact hsi
    · rw [h, if_neg (by simp)] at hci
      rw [hci] at hsi
      simp -dsimp [hML, hw]
      refine ⟨i + 1, by omega, ?_, by omega⟩
      simp [St.le, hd, hz]
      exact hsi
  · obtain rfl : i = E.length - 1 := by omega
    simp -dsimp [hML]
    refine VCL.snap ?_
    simp -dsimp [hML]
    refine VC.mk _ (kf _) ?_
    simp -dsimp
end Go.Proofs.YtmkbclnhopoiiaaGreat
/- Contracts: the document's Coalesce. -/
set_option linter.unusedSimpArgs false
set_option linter.unusedVariables false
namespace Go.Proofs.YtmkbclnhopoiiaaGreat
open Go.VL Go.RowKit

def coG (l : List Fact) (i : Nat) : List (List Val) := seenC [] (nG l i)
def coNL (l : List Fact) (i : Nat) : Bool := (coG l i).isEmpty
def refCoalesce (sortP : List Per → List Per) (l : List Fact) : List Fact := refF sortP (edgesL (pers l)) (coNL l) (coG l)
theorem coalesce_in {sortP : List Per → List Per} (hs : Sorts sortP) (l : List Fact) (r : List Val) (t : Int) : cnt (coalesceL sortP l) r t = (rowsIn (edgesL (pers l)) (coG l) t).count r := by
  rw [coalesce_cnt hs, cnt_at]
  have hm : ∀ f ∈ l, f.p ∈ pers l := pers_mem fun f hf => hf
  by_cases h : ∃ i, i + 1 < (edgesL (pers l)).length ∧ (edgesL (pers l))[i]! ≤ t ∧ t < (edgesL (pers l))[i + 1]!
  · obtain ⟨i, h1, h2, h3⟩ := h
    have e := rows_in hm h1 h2 h3
    rw [rowsIn_some (edgesL_ok _).1 h1 h2 h3]
    unfold coG
    rw [seenC_count]
    have : r ∈ nG l i ↔ 0 < (atT l t).count r := by
      rw [List.count_pos_iff]
      exact e.mem_iff
    by_cases hr : r ∈ nG l i
    · rw [if_pos hr, if_pos (this.1 hr)]
    · rw [if_neg hr, if_neg fun h => hr (this.2 h)]
  · have h' := fun i hi h2 => h ⟨i, hi, h2⟩
    rw [rowsIn_none h', rows_out hm h']
    simp
theorem coG_bound {l : List Fact} (hl : l.length ≤ 4000000000000) (hr : Rows1 l) (i : Nat) : (coG l i).length ≤ 4000000000000 ∧ ∀ r ∈ coG l i, r.length ≤ 4398046511104 := by
  have hb := rowsAt_bound (t := (edgesL (pers l))[i]!) hl hr
  have hsub : ∀ r ∈ coG l i, r ∈ nG l i := fun r h => (seenC_mem _ _ r h).resolve_left (by simp)
  exact ⟨Nat.le_trans (nodup_len (seenC_nodup _ _ (by simp)) hsub) hb.1, fun r h => hb.2 r (hsub r h)⟩
theorem same_coalesce {sortP : List Per → List Per} (hs : Sorts sortP) (na nb : Bool) (l : List Fact) (hl : l.length ≤ 200000000) (hr : Rows1 l) :
    Con Tryz.prog 11 [.c (.sl na (facts (coalesceL sortP l))), .c (.sl nb (facts (refCoalesce sortP l)))] [.c (bln true)] := by
  have hE := edges_ok l
  have hm := coalesce_pre hs l
  exact same_ref hs hE.1 hE.2 (coNL l) (coG l) (coalesce_form hs l) (coalesce_in hs l) na nb (by omega) (coalesce_rows1 hr)
set_option maxRecDepth 4000 in
set_option maxHeartbeats 16000000 in
theorem refCoalesce_spec {sortP : List Per → List Per} (hs : Sorts sortP) (na : Bool) (l : List Fact) (hl : l.length ≤ 200000000) (hr : Rows1 l) :
    Con Tryz.prog 16 [.c (.sl na (facts l))] [.c (.sl (refCoalesce sortP l).isEmpty (facts (refCoalesce sortP l)))] := by
  refine spec_of Tryz.func16 rfl (by kernel_rfl) (by simp [Tryz.f16]) (fun w0 K0 => vc_ok _ _ _ (by kernel_rfl) ?_)
  simp only [Tryz.f16]
  have kc := cells_spec0 na l (by omega) hr
  rw [cellsC_of] at kc
  have hE := edges_ok l
  have hle := edges_le l
  have kf : ∀ z, Con Tryz.prog 36 [.c (.sl z ((cellsOf (edgesL (pers l)) (coNL l) (coG l)).map CD.cells))] [.c (.sl (refCoalesce sortP l).isEmpty (facts (refCoalesce sortP l)))] :=
    fun z => facts_ref hs hE.1 hE.2 (coNL l) (coG l) (coalesce_form hs l) (coalesce_in hs l) z (by omega) (coG_bound (by omega) hr) (by have := coalesce_pre hs l; omega)
  have hn : ∀ i, (nG l i).length ≤ l.length := fun i => rowsAt_len _ _
  have hnr : ∀ i, ∀ r ∈ nG l i, r.length ≤ 140737488355328 := fun i r h => by have := (rowsAt_bound (by omega) hr).2 r h; omega
  have hcg : ∀ i, coG l i = seenC [] (nG l i) := fun _ => rfl
  have hcn : ∀ i, coNL l i = (coG l i).isEmpty := fun _ => rfl
  generalize refCoalesce sortP l = R at *
  rw [← mixC_0 _ _ (coNL l) _ (coG l)] at kc
  simp only [← mixC_n (edgesL (pers l)) (nNL l) (coNL l) (nG l) (coG l)] at kf
  have hset := @mixC_set (edgesL (pers l)) (nNL l) (coNL l) (nG l) (coG l)
  have hget := @mixC_get (edgesL (pers l)) (nNL l) (coNL l) (nG l) (coG l)
  generalize hM : mixC (edgesL (pers l)) (nNL l) (coNL l) (nG l) (coG l) = M at *
  have hML : ∀ i, (M i).length = (edgesL (pers l)).length - 1 := fun i => by rw [← hM]; exact mixC_len ..
  generalize nG l = NG at *
  generalize nNL l = NN at *
  generalize edgesL (pers l) = E at *
  simp -dsimp
  refine VC.mk _ kc ?_
  simp -dsimp
  refine VL.loop (fun i : Nat => ⟨[(4, .c (i64 i)), (3, .own 512 (E.length - 1))], [(512, some (.arr (decide (E.length ≤ 1)) (if E.length ≤ 1 then 0 else 3) (M i) 0))]⟩)
    (fun i => i ≤ E.length - 1) (fun i => E.length - 1 - i) 0 (by kernel_rfl) (by simp) (by simp [St.le, hML]) ?_
  intro i hi
  by_cases h1 : i < E.length - 1
  · have hw : IntKind.i64.wrap ((i : Int) + 1) = (i : Int) + 1 := IntWalk.i64_in _ (by omega)
    have hd : decide (E.length ≤ 1) = false := decide_eq_false (by omega)
    have hz : (if E.length ≤ 1 then 0 else 3) = 3 := if_neg (by omega)
    have hc1 : ((i : Int) < ((E.length - 1 : Nat) : Int)) = True := eq_true (by omega)
    have hgi := hget i (by rw [hML]; exact h1)
    have hsi := hset h1
    have hni := hn i
    have hnri := hnr i
    rw [hcn, hcg] at hsi
    simp -dsimp [hML, h1, hd, hz, hc1]
    generalize hN : NG i = N at *
    refine VL.loop (fun j : KI => ⟨[(6, .c (i64 j.k)), (5, .own 320 (seenC [] (N.take j.k)).length), (4, .c (i64 i)), (3, .own 512 (E.length - 1))], [(320, some (.arr j.nl j.sz (rowsW fF (seenC [] (N.take j.k))) 0)), (512, some (.arr false 3 (M i) 0))]⟩)
      (fun j => j.k ≤ N.length ∧ RI j (seenC [] (N.take j.k))) (fun j => N.length - j.k) ⟨0, true, 0⟩ (by kernel_rfl) ⟨by simp, rfl, rfl⟩ (by simp [St.le, seenC, rowsW]) ?_
    intro ⟨j, y, sy⟩ ⟨hj, hy, hsy⟩
    simp only at hj hy hsy
    by_cases j1 : j < N.length
    · have hwj : IntKind.i64.wrap ((j : Int) + 1) = (j : Int) + 1 := IntWalk.i64_in _ (by omega)
      have hsj := seenC_snoc [] N j1
      have hpj : ∀ r ∈ seenC [] (N.take j), r.length ≤ 140737488355328 := fun r hr => by
        rcases seenC_mem _ _ r hr with h | h
        · simp at h
        · exact hnri r (List.mem_of_mem_take h)
      have hlj : (seenC [] (N.take j)).length ≤ N.length := Nat.le_trans (nodup_len (seenC_nodup _ _ (by simp)) (fun r hr => (seenC_mem _ _ r hr).resolve_left (by simp))) (by rw [List.length_take]; omega)
      simp -dsimp [hML, h1, hgi, j1]
      have hno := number_plain fF y false (seenC [] (N.take j)) N[j] (by omega) hpj
      generalize hS : seenC [] (N.take j) = S0 at *
      refine VCL.seen (cs := [C.sl (fF N[j]) (vals N[j])]) y sy (rowsW fF S0) 0 _ (by kernel_rfl) hno (by simp) rfl ?_
      simp -dsimp [retS, renSs, renS, plainSs]
      refine VIf.mk (fun h => ?_) (fun h => ?_)
      · have h0 : S0.count N[j] = 0 := by simpa using h
        unfold seenS at hsj
        rw [if_pos h0] at hsj
        simp -dsimp [hML, h1, hgi, j1, hwj, maxLen]
        refine ⟨fun e => by rw [hsy, e]; rfl, by omega, ⟨j + 1, false, 1⟩, ⟨by simp only; omega, by rw [hsj]; exact RI.next⟩, ?_, by simp only; omega⟩
        simp [St.le, hsj, rowsW_snoc]
      · have h0 : ¬ S0.count N[j] = 0 := by simpa using h
        unfold seenS at hsj
        rw [if_neg h0] at hsj
        simp -dsimp [hwj]
        refine ⟨⟨j + 1, y, sy⟩, ⟨by simp only; omega, by rw [hsj]; exact ⟨hy, hsy⟩⟩, ?_, by simp only; omega⟩
        simp [St.le, hsj]
    · obtain rfl : j = N.length := by omega
      rw [List.take_length] at *
      simp -dsimp [hML, h1, hgi]
      refine ⟨i + 1, by omega, ?_, by omega⟩
      simp [St.le, hd, hz, hw, hy]
      exact hsi
  · obtain rfl : i = E.length - 1 := by omega
    simp -dsimp [hML]
    refine VCL.snap ?_
    simp -dsimp [hML]
    refine VC.mk _ (kf _) ?_
    simp -dsimp
end Go.Proofs.YtmkbclnhopoiiaaGreat
