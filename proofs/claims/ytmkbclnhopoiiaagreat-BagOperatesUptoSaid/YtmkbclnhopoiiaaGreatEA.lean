/- Plain laws of the edges of periods: each end once, rising; and of what stands between two edges. -/
import Derived.Test.YtmkbclnhopoiiaaGreatQA
import Derived.Lib.SlicesCompact
import Derived.Test.YtmkbclnhopoiiaaGreatV31
set_option linter.unusedSimpArgs false
set_option linter.unusedVariables false
namespace Go.Proofs.YtmkbclnhopoiiaaGreat
open Go.VL Go.RowKit

/-- strictly rising -/
def Rise (l : List Int) : Prop := l.Pairwise (· < ·)
theorem Rise.ext : ∀ {l m : List Int}, Rise l → Rise m → (∀ t, t ∈ l ↔ t ∈ m) → l = m
  | [], [], _, _, _ => rfl
  | [], y :: m, _, _, h => by have := (h y).2 (by simp); simp at this
  | x :: l, [], _, _, h => by have := (h x).1 (by simp); simp at this
  | x :: l, y :: m, hl, hm, h => by
    obtain ⟨l1, l2⟩ := List.pairwise_cons.1 hl
    obtain ⟨m1, m2⟩ := List.pairwise_cons.1 hm
    have hx := (h x).1 (by simp)
    have hy := (h y).2 (by simp)
    have e : x = y := by
      rcases List.mem_cons.1 hx with e | e
      · exact e
      · rcases List.mem_cons.1 hy with e2 | e2
        · exact e2.symm
        · have := l1 y e2; have := m1 x e; omega
    subst e
    congr 1
    refine Rise.ext l2 m2 fun t => ⟨fun ht => ?_, fun ht => ?_⟩
    · rcases List.mem_cons.1 ((h t).1 (by simp [ht])) with e | e
      · have := l1 t ht; omega
      · exact e
    · rcases List.mem_cons.1 ((h t).2 (by simp [ht])) with e | e
      · have := m1 t ht; omega
      · exact e

open Go.Lib in
theorem compactUpTo_ok (d : Array Int) (hs : ∀ i j, i < j → j < d.size → d[i]! ≤ d[j]!) : ∀ m, m ≤ d.size → Rise (compactUpTo d m) ∧ (∀ t, t ∈ compactUpTo d m ↔ ∃ j, j < m ∧ d[j]! = t)
  | 0, _ => by simp [compactUpTo, Rise]
  | m + 1, h => by
    obtain ⟨h1, h2⟩ := compactUpTo_ok d hs m (by omega)
    rw [compactUpTo_succ]
    by_cases hk : keeps d m = true
    · rw [if_pos hk]
      refine ⟨?_, fun t => ?_⟩
      · unfold Rise at h1 ⊢
        rw [List.pairwise_append]
        refine ⟨h1, by simp, fun x hx y hy => ?_⟩
        simp at hy
        subst hy
        obtain ⟨j, hj, rfl⟩ := (h2 x).1 hx
        simp [keeps] at hk
        rcases hk with hk | hk
        · omega
        · have a := hs (m - 1) m (by omega) (by omega)
          have b : d[j]! ≤ d[m - 1]! := by
            by_cases e : j = m - 1
            · subst e; exact Int.le_refl _
            · exact hs j (m - 1) (by omega) (by omega)
          omega
      · rw [List.mem_append, h2, List.mem_singleton]
        constructor
        · rintro (⟨j, hj, rfl⟩ | rfl)
          · exact ⟨j, by omega, rfl⟩
          · exact ⟨m, by omega, rfl⟩
        · rintro ⟨j, hj, rfl⟩
          by_cases e : j = m
          · subst e; exact .inr rfl
          · exact .inl ⟨j, by omega, rfl⟩
    · rw [if_neg hk, List.append_nil]
      refine ⟨h1, fun t => ?_⟩
      rw [h2]
      constructor
      · rintro ⟨j, hj, rfl⟩; exact ⟨j, by omega, rfl⟩
      · rintro ⟨j, hj, rfl⟩
        by_cases e : j = m
        · subst e
          simp [keeps] at hk
          exact ⟨j - 1, by omega, hk.2.symm⟩
        · exact ⟨j, by omega, rfl⟩

theorem compact_ok (zs : List Int) (hs : zs.Pairwise (· ≤ ·)) : Rise (Go.Lib.compact zs) ∧ ∀ t, t ∈ Go.Lib.compact zs ↔ t ∈ zs := by
  have h := compactUpTo_ok zs.toArray (fun i j hij hj => by
    have hj' : j < zs.length := by simpa using hj
    have := (List.pairwise_iff_getElem.1 hs) i j (by omega) hj' hij
    simpa [hj', (show i < zs.length by omega)] using this) zs.length (by simp)
  refine ⟨h.1, fun t => (h.2 t).trans ?_⟩
  rw [List.mem_iff_getElem]
  constructor
  · rintro ⟨j, hj, rfl⟩; exact ⟨j, hj, by simp [hj]⟩
  · rintro ⟨j, hj, rfl⟩; exact ⟨j, hj, by simp [hj]⟩

/-- the ends of those that are periods -/
def endsOf (l : List Per) : List Int := (l.filter right).flatMap fun p => [p.f, p.t]
theorem endsOf_snoc (l : List Per) {k : Nat} (h : k < l.length) : endsOf (l.take (k + 1)) = endsOf (l.take k) ++ (if right l[k] then [l[k].f, l[k].t] else []) := by
  unfold endsOf
  rw [take_snoc h, List.filter_append, List.flatMap_append]
  by_cases hr : right l[k] = true <;> simp [hr]
theorem endsOf_len (l : List Per) : (endsOf l).length ≤ 2 * l.length := by
  induction l with
  | nil => simp [endsOf]
  | cons p l ih =>
    unfold endsOf at *
    by_cases hr : right p = true <;> simp [hr] at ih ⊢ <;> omega
theorem mem_endsOf (l : List Per) (t : Int) : t ∈ endsOf l ↔ ∃ p ∈ l, right p = true ∧ (t = p.f ∨ t = p.t) := by
  simp [endsOf, and_assoc]
theorem endsOf_pos (l : List Per) {t : Int} (h : t ∈ endsOf l) : 0 ≤ t := by
  obtain ⟨p, _, hr, e⟩ := (mem_endsOf l t).1 h
  have := (right_iff p).1 hr
  rcases e with rfl | rfl <;> omega

def sortI (l : List Int) : List Int := l.mergeSort fun x y => decide (x ≤ y)
theorem sortI_perm (l : List Int) : (sortI l).Perm l := List.mergeSort_perm _ _
theorem sortI_len (l : List Int) : (sortI l).length = l.length := (sortI_perm l).length_eq
theorem sortI_sorted (l : List Int) : (sortI l).Pairwise (· ≤ ·) := by
  have := List.pairwise_mergeSort (le := fun x y : Int => decide (x ≤ y)) (fun a b c h1 h2 => by simp at *; omega) (fun a b => by simp; omega) l
  exact this.imp (by simp)
/-- each end once, rising -/
def edgesL (l : List Per) : List Int := Go.Lib.compact (sortI (endsOf l))
theorem edgesL_ok (l : List Per) : Rise (edgesL l) ∧ ∀ t, t ∈ edgesL l ↔ t ∈ endsOf l := by
  obtain ⟨h1, h2⟩ := compact_ok (sortI (endsOf l)) (sortI_sorted _)
  exact ⟨h1, fun t => (h2 t).trans (sortI_perm _).mem_iff⟩
theorem compact_len (zs : List Int) : (Go.Lib.compact zs).length ≤ zs.length := by
  unfold Go.Lib.compact Go.Lib.compactUpTo
  rw [List.length_map]
  exact Nat.le_trans (List.length_filter_le _ _) (by simp)
theorem edgesL_len (l : List Per) : (edgesL l).length ≤ 2 * l.length :=
  Nat.le_trans (compact_len _) (by rw [sortI_len]; exact endsOf_len l)

/-! ### The reference: the least end that is later, again and again -/
def laterB (out : List Int) (t : Int) : Bool := decide (out.length = 0) || decide (out[out.length - 1]! < t)
def nextS (out : List Int) (n t : Int) : Int := if laterB out t && (decide (n < 0) || decide (t < n)) then t else n
def nextL (out : List Int) (l : List Int) : Int := l.foldl (nextS out) (-1)
theorem nextL_snoc (out l : List Int) (t : Int) : nextL out (l ++ [t]) = nextS out (nextL out l) t := by
  unfold nextL; rw [List.foldl_append]; rfl
theorem rev_ind {α : Type} {p : List α → Prop} (h0 : p []) (h1 : ∀ l a, p l → p (l ++ [a])) (l : List α) : p l := by
  have : ∀ m : List α, p m.reverse := fun m => by
    induction m with
    | nil => exact h0
    | cons a m ih => rw [List.reverse_cons]; exact h1 _ _ ih
  have h := this l.reverse
  rwa [List.reverse_reverse] at h
theorem nextL_ok (out : List Int) : ∀ (l : List Int), (∀ t ∈ l, 0 ≤ t) →
    (nextL out l = -1 ∧ ∀ t ∈ l, laterB out t = false) ∨ (0 ≤ nextL out l ∧ nextL out l ∈ l ∧ laterB out (nextL out l) = true ∧ ∀ t ∈ l, laterB out t = true → nextL out l ≤ t) := by
  intro l
  refine rev_ind (p := fun l => (∀ t ∈ l, 0 ≤ t) → (nextL out l = -1 ∧ ∀ t ∈ l, laterB out t = false) ∨ (0 ≤ nextL out l ∧ nextL out l ∈ l ∧ laterB out (nextL out l) = true ∧ ∀ t ∈ l, laterB out t = true → nextL out l ≤ t)) ?_ ?_ l
  · intro _; exact .inl ⟨rfl, by simp⟩
  · intro l t ih hp
    have ht := hp t (by simp)
    have ih := ih (fun x hx => hp x (by simp [hx]))
    rw [nextL_snoc]
    generalize nextL out l = n at *
    unfold nextS
    by_cases hlt : laterB out t = true
    · rcases ih with ⟨rfl, h⟩ | ⟨h0, h1, h2, h3⟩
      · rw [if_pos (by simp [hlt])]
        refine .inr ⟨ht, by simp, hlt, fun x hx hlx => ?_⟩
        rcases List.mem_append.1 hx with hx | hx
        · rw [h x hx] at hlx; cases hlx
        · simp at hx; omega
      · by_cases htn : t < n
        · rw [if_pos (by simp [hlt, htn])]
          refine .inr ⟨ht, by simp, hlt, fun x hx hlx => ?_⟩
          rcases List.mem_append.1 hx with hx | hx
          · have := h3 x hx hlx; omega
          · simp at hx; omega
        · rw [if_neg (by simp [hlt, htn]; omega)]
          refine .inr ⟨h0, by simp [h1], h2, fun x hx hlx => ?_⟩
          rcases List.mem_append.1 hx with hx | hx
          · exact h3 x hx hlx
          · simp at hx; omega
    · have hlt' : laterB out t = false := by simpa using hlt
      rw [if_neg (by simp [hlt'])]
      rcases ih with ⟨rfl, h⟩ | ⟨h0, h1, h2, h3⟩
      · refine .inl ⟨rfl, fun x hx => ?_⟩
        rcases List.mem_append.1 hx with hx | hx
        · exact h x hx
        · simp at hx; subst hx; exact hlt'
      · refine .inr ⟨h0, by simp [h1], h2, fun x hx hlx => ?_⟩
        rcases List.mem_append.1 hx with hx | hx
        · exact h3 x hx hlx
        · simp at hx; subst hx; rw [hlt'] at hlx; cases hlx

theorem laterB_take {E : List Int} (hE : Rise E) {k j : Nat} (hk : k ≤ E.length) (hj : j < E.length) : laterB (E.take k) E[j] = decide (k ≤ j) := by
  unfold laterB
  have hlen : (E.take k).length = k := by rw [List.length_take]; omega
  rw [hlen]
  rcases Nat.eq_zero_or_pos k with rfl | hk0
  · simp
  · have h1 : (E.take k)[k - 1]! = E[k - 1] := by
      rw [getElem!_pos _ _ (by omega)]; simp
    rw [h1]
    have hlt := List.pairwise_iff_getElem.1 hE
    by_cases h : k ≤ j
    · have := hlt (k - 1) j (by omega) hj (by omega)
      simp [h, this]
    · have : ¬ E[k - 1] < E[j] := by
        by_cases e : j = k - 1
        · subst e; exact Int.lt_irrefl _
        · have := hlt j (k - 1) hj (by omega) (by omega); omega
      have hk2 : ¬ k = 0 := by omega
      simp [h, this, hk2]

/-- with the first k edges told, the next end is the k-th edge -/
theorem nextL_edge (l : List Per) {k : Nat} (hk : k ≤ (edgesL l).length) : nextL ((edgesL l).take k) (endsOf l) = if h : k < (edgesL l).length then (edgesL l)[k] else -1 := by
  obtain ⟨hE, hm⟩ := edgesL_ok l
  generalize edgesL l = E at *
  rcases nextL_ok (E.take k) (endsOf l) (fun t ht => endsOf_pos l ht) with ⟨h1, h2⟩ | ⟨h0, h1, h2, h3⟩
  · rw [h1]
    by_cases h : k < E.length
    · have := h2 E[k] ((hm _).1 (List.getElem_mem h))
      rw [laterB_take hE hk h] at this
      simp at this
    · rw [dif_neg h]
  · generalize nextL (E.take k) (endsOf l) = n at *
    obtain ⟨j, hj, rfl⟩ := List.getElem_of_mem ((hm n).2 h1)
    rw [laterB_take hE hk hj] at h2
    have hkj : k ≤ j := by simpa using h2
    have hlt : k < E.length := by omega
    rw [dif_pos hlt]
    have a := h3 E[k] ((hm _).1 (List.getElem_mem hlt)) (by rw [laterB_take hE hk hlt]; simp)
    by_cases e : k = j
    · subst e; rfl
    · have := List.pairwise_iff_getElem.1 hE k j hlt hj (by omega)
      omega
end Go.Proofs.YtmkbclnhopoiiaaGreat
/- Contract: the document's edges of periods. -/
set_option linter.unusedSimpArgs false
set_option linter.unusedVariables false
namespace Go.Proofs.YtmkbclnhopoiiaaGreat
open Go.VL Go.RowKit

def ints (l : List Int) : List (List C) := l.map fun x => [C.v (.int .i64 x)]
@[simp] theorem ints_len (l : List Int) : (ints l).length = l.length := by simp [ints]
@[simp] theorem ints_app (l m : List Int) : ints (l ++ m) = ints l ++ ints m := by simp [ints]
@[simp] theorem ints_nil : ints [] = [] := rfl
theorem ints_get (l : List Int) (k : Nat) (h : k < l.length) : (ints l)[k]?.getD [] = [i64 l[k]] := by
  simp [ints, List.getElem?_eq_getElem h]
@[simp] theorem ints_at (l : List Int) (k : Nat) (h : k < (ints l).length) : (ints l)[k] = [i64 (l[k]'(by simpa using h))] := by simp [ints]
def ez (m : List Int) : Nat := if m.isEmpty then 0 else 1

/-- the two ends, the first j of them -/
def two (p : Per) (j : Nat) : List Int := [p.f, p.t].take j

set_option maxRecDepth 4000 in
set_option maxHeartbeats 16000000 in
theorem refEdges_spec (nl : Bool) (l : List Per) (hl : l.length ≤ 8796093022207) :
    Con Tryz.prog 79 [.c (.sl nl (l.map Per.cells))] [.fr (edgesL l).isEmpty (ez (edgesL l)) (ints (edgesL l)) 0] := by
  refine spec_of Tryz.func79 rfl (by kernel_rfl) (by simp [Tryz.f79]) (fun w0 K0 => vc_ok _ _ _ (by kernel_rfl) ?_)
  simp only [Tryz.f79]
  simp -dsimp
  have hnext := fun k hk => nextL_edge l (k := k) hk
  have hel := edgesL_len l
  have hpos0 : ∀ t ∈ edgesL l, 0 ≤ t := fun t ht => endsOf_pos l (((edgesL_ok l).2 t).1 ht)
  generalize edgesL l = E at *
  refine VL.loop (fun i : LI => ⟨[(3, .own 192 (E.take i.k).length), (0, .c (.sl nl (l.map Per.cells)))], [(192, some (.arr i.nl i.sz (ints (E.take i.k)) 0))]⟩)
    (fun i => i.k ≤ E.length ∧ i.nl = (E.take i.k).isEmpty ∧ i.sz = ez (E.take i.k)) (fun i => E.length - i.k) ⟨0, true, 0⟩ (by kernel_rfl) (by simp [ez]) (by simp [St.le]) ?_
  intro ⟨k, nl', sz⟩ ⟨hk, hnl, hsz⟩
  simp only at hk hnl hsz
  have hnx := hnext k hk
  have hsn := fun h : k < E.length => take_snoc (l := E) (k := k) h
  have hol : (E.take k).length = k := by rw [List.length_take]; omega
  generalize ho : E.take k = out at *
  simp -dsimp
  refine VL.loop (fun i : Nat => ⟨[(5, .c (i64 i)), (4, .c (i64 (nextL out (endsOf (l.take i))))), (3, .own 192 out.length), (0, .c (.sl nl (l.map Per.cells)))], [(192, some (.arr nl' sz (ints out) 0))]⟩)
    (fun i => i ≤ l.length) (fun i => l.length - i) 0 (by kernel_rfl) (by simp) (by simp [St.le, nextL, endsOf]) ?_
  intro i hi
  by_cases hlt : i < l.length
  · have hw : IntKind.i64.wrap ((i : Int) + 1) = (i : Int) + 1 := IntWalk.i64_in _ (by omega)
    have hes := endsOf_snoc l hlt
    simp -dsimp [hlt, Per.cells]
    refine VC.mk _ (refRight_at _ l[i] rfl) ?_
    simp -dsimp
    refine VIf.mk (fun h2 => ?_) (fun h2 => ?_)
    · have hr : right l[i] = false := by simpa using h2
      rw [hr, if_neg (by simp), List.append_nil] at hes
      simp -dsimp [hw]
      refine ⟨i + 1, by omega, ?_, by omega⟩
      simp [St.le, hes]
    · have hr : right l[i] = true := by simpa using h2
      rw [hr, if_pos rfl] at hes
      simp -dsimp [hlt, Per.cells]
      refine VL.draw (by kernel_rfl) [(0, false), (0, false), (3, false), (7, false), (15, false), (0, false), (0, false), (96, false), (224, false), (480, false), (1023, false), (0, false)] (by kernel_rfl) ?_
      simp -dsimp [hlt, Per.cells]
      refine VL.loop (fun j : Nat => ⟨[(32, .c (i64 j)), (31, .agg [i64 l[i].f, i64 l[i].t]), (5, .c (i64 i)), (4, .c (i64 (nextL out (endsOf (l.take i) ++ two l[i] j)))), (3, .own 192 out.length), (0, .c (.sl nl (l.map Per.cells)))], [(192, some (.arr nl' sz (ints out) 0))]⟩)
        (fun j => j ≤ 2) (fun j => 2 - j) 0 (by kernel_rfl) (by simp) (by simp [St.le, two]) ?_
      intro j hj
      have hws : IntKind.i64.wrap ((out.length : Int) - 1) = (out.length : Int) - 1 := IntWalk.i64_in _ (by omega)
      have h012 : j = 0 ∨ j = 1 ∨ j = 2 := by omega
      rcases h012 with rfl | rfl | rfl
      · have hn2 : nextL out (endsOf (l.take i) ++ two l[i] 1) = nextS out (nextL out (endsOf (l.take i) ++ two l[i] 0)) l[i].f := by
          rw [← nextL_snoc]; simp [two]
        generalize nextL out (endsOf (l.take i) ++ two l[i] 0) = n at *
        simp -dsimp
        match out, hnl, hn2, hol, hsz, hnext, ho, hnx, hws with
        | [], hnl, hn2, hol, _, _, _, _, _ =>
          simp -dsimp [defC]
          refine VIf.mk (fun h => ?_) (fun h => ?_)
          · refine ⟨1, by omega, ?_, by omega⟩
            have e : nextS [] n l[i].f = l[i].f := by
              unfold nextS
              rw [if_pos]
              simp [laterB] at h ⊢; omega
            simp [St.le, hn2, e]
          · refine ⟨1, by omega, ?_, by omega⟩
            have e : nextS [] n l[i].f = n := by
              unfold nextS
              rw [if_neg]
              simp [laterB] at h ⊢; omega
            simp [St.le, hn2, e]
        | x :: r, hnl, hn2, hol, hsz, _, _, _, hws =>
          generalize hout : x :: r = out at *
          have hne : 0 < out.length := by rw [← hout]; simp
          have hT : IntKind.i64.wrap ((out.length : Int) - 1) = ((out.length - 1 : Nat) : Int) := by rw [hws]; omega
          have hl1 : out.length - 1 < out.length := by omega
          have hg : (ints out)[out.length - 1]?.getD [] = [i64 out[out.length - 1]] := ints_get _ _ hl1
          have hlast : out[out.length - 1]! = out[out.length - 1] := getElem!_pos out _ hl1
          have hn0 : ((out.length : Int) == 0) = false := by simp; intro e; rw [e] at hne; simp at hne
          have hnl2 : nl' = false := by rw [hnl, ← hout]; rfl
          have hsz2 : sz = 1 := by rw [hsz, ← hout]; rfl
          subst hnl2 hsz2
          have hd : nextS out n l[i].f = if laterB out l[i].f = true ∧ (n < 0 ∨ l[i].f < n) then l[i].f else n := by
            unfold nextS; simp
          have hlb : laterB out l[i].f = decide (out[out.length - 1] < l[i].f) := by
            unfold laterB; rw [hlast]; simp; intro e; rw [e] at hne; simp at hne
          simp -dsimp [hn0, hT, hl1]
          refine ⟨fun a => ⟨a, fun b => ⟨a, b⟩⟩, VIf.mk (fun h => ?_) (fun h => ?_)⟩
          · refine ⟨1, by omega, ?_, by omega⟩
            have e : nextS out n l[i].f = l[i].f := by
              rw [hd, if_pos]
              rw [hlb]
              simp at h ⊢; omega
            simp [St.le, hn2, e]
          · refine ⟨1, by omega, ?_, by omega⟩
            have e : nextS out n l[i].f = n := by
              rw [hd, if_neg]
              rw [hlb]
              simp at h ⊢; omega
            simp [St.le, hn2, e]
      · have hn2 : nextL out (endsOf (l.take i) ++ two l[i] 2) = nextS out (nextL out (endsOf (l.take i) ++ two l[i] 1)) l[i].t := by
          rw [← nextL_snoc]; simp [two]
        generalize nextL out (endsOf (l.take i) ++ two l[i] 1) = n at *
        simp -dsimp
        match out, hnl, hn2, hol, hsz, hnext, ho, hnx, hws with
        | [], hnl, hn2, hol, _, _, _, _, _ =>
          simp -dsimp [defC]
          refine VIf.mk (fun h => ?_) (fun h => ?_)
          · refine ⟨2, by omega, ?_, by omega⟩
            have e : nextS [] n l[i].t = l[i].t := by
              unfold nextS
              rw [if_pos]
              simp [laterB] at h ⊢; omega
            simp [St.le, hn2, e]
          · refine ⟨2, by omega, ?_, by omega⟩
            have e : nextS [] n l[i].t = n := by
              unfold nextS
              rw [if_neg]
              simp [laterB] at h ⊢; omega
            simp [St.le, hn2, e]
        | x :: r, hnl, hn2, hol, hsz, _, _, _, hws =>
          generalize hout : x :: r = out at *
          have hne : 0 < out.length := by rw [← hout]; simp
          have hT : IntKind.i64.wrap ((out.length : Int) - 1) = ((out.length - 1 : Nat) : Int) := by rw [hws]; omega
          have hl1 : out.length - 1 < out.length := by omega
          have hg : (ints out)[out.length - 1]?.getD [] = [i64 out[out.length - 1]] := ints_get _ _ hl1
          have hlast : out[out.length - 1]! = out[out.length - 1] := getElem!_pos out _ hl1
          have hn0 : ((out.length : Int) == 0) = false := by simp; intro e; rw [e] at hne; simp at hne
          have hnl2 : nl' = false := by rw [hnl, ← hout]; rfl
          have hsz2 : sz = 1 := by rw [hsz, ← hout]; rfl
          subst hnl2 hsz2
          have hd : nextS out n l[i].t = if laterB out l[i].t = true ∧ (n < 0 ∨ l[i].t < n) then l[i].t else n := by
            unfold nextS; simp
          have hlb : laterB out l[i].t = decide (out[out.length - 1] < l[i].t) := by
            unfold laterB; rw [hlast]; simp; intro e; rw [e] at hne; simp at hne
          simp -dsimp [hn0, hT, hl1]
          refine ⟨fun a => ⟨a, fun b => ⟨a, b⟩⟩, VIf.mk (fun h => ?_) (fun h => ?_)⟩
          · refine ⟨2, by omega, ?_, by omega⟩
            have e : nextS out n l[i].t = l[i].t := by
              rw [hd, if_pos]
              rw [hlb]
              simp at h ⊢; omega
            simp [St.le, hn2, e]
          · refine ⟨2, by omega, ?_, by omega⟩
            have e : nextS out n l[i].t = n := by
              rw [hd, if_neg]
              rw [hlb]
              simp at h ⊢; omega
            simp [St.le, hn2, e]
      · have hn2 : nextL out (endsOf (l.take i) ++ two l[i] 2) = nextL out (endsOf (l.take (i + 1))) := by rw [hes]; rfl
        simp -dsimp [hw]
        refine ⟨i + 1, by omega, ?_, by omega⟩
        simp [St.le, hn2]
  · obtain rfl : i = l.length := by omega
    rw [List.take_length, hnx]
    simp -dsimp
    by_cases hkl : k < E.length
    · have hpos : 0 ≤ E[k] := hpos0 _ (List.getElem_mem hkl)
      rw [dif_pos hkl]
      have hsn := hsn hkl
      have hd : decide (E[k] < 0) = false := by simp; omega
      simp -dsimp [hd, maxLen]
      refine ⟨fun e => by rw [hsz]; rw [hnl] at e; simp [ez, e], by omega, ⟨k + 1, false, 1⟩, ⟨hkl, ?_, ?_⟩, ?_, by simp; omega⟩
      · rw [hsn]; simp
      · rw [hsn]; simp [ez]
      · simp [St.le, hsn, ints]
        omega
    · rw [dif_neg hkl]
      obtain rfl : k = E.length := by omega
      rw [List.take_length] at ho
      subst ho
      simp -dsimp
      exact ⟨hnl, hsz⟩
end Go.Proofs.YtmkbclnhopoiiaaGreat
/- Contract: the edges of periods. -/
set_option linter.unusedSimpArgs false
set_option linter.unusedVariables false
namespace Go.Proofs.YtmkbclnhopoiiaaGreat
open Go.VL Go.RowKit

def rowI (i : Nat) (l : List Int) : List (Nat × Res) := [(i, .arr false 1 (ints l) 0)]

/-- the library's Sort and Compact of whole numbers -/
structure SortsI : Prop where
  con : ∀ l : List Int, l.length ≤ 140737488355328 → ConB Tryz.prog 77 [.own 1 l.length] (rowI 1 l) [] [.own 1 l.length] (rowI 1 (sortI l))
  nil : Con Tryz.prog 77 [.c (.sl true [])] []
  cmp : ∀ l : List Int, l.length ≤ 140737488355328 → ConB Tryz.prog 78 [.own 1 l.length] (rowI 1 l) [.own 1 (Go.Lib.compact l).length] [if (Go.Lib.compact l).length = l.length then .own 1 l.length else .un] (rowI 1 (Go.Lib.compact l))
  cnil : Con Tryz.prog 78 [.c (.sl true [])] [.c (.sl true [])]

set_option maxRecDepth 4000 in
set_option maxHeartbeats 4000000 in
theorem compact_nil : Con Tryz.prog 78 [.c (.sl true [])] [.c (.sl true [])] := by
  refine spec_of Tryz.func78 rfl (by kernel_rfl) (by simp [Tryz.f78]) (fun w0 K0 => vc_ok _ _ _ (by kernel_rfl) ?_)
  simp only [Tryz.f78]
  simp -dsimp

set_option maxRecDepth 4000 in
set_option maxHeartbeats 8000000 in
theorem edges_spec (hi : SortsI) (nl : Bool) (l : List Per) (_ : nl = true → l = []) (hl : l.length ≤ 8796093022207) :
    Con Tryz.prog 58 [.c (.sl nl (l.map Per.cells))] [.fr (edgesL l).isEmpty (ez (edgesL l)) (ints (edgesL l)) 0] := by
  refine spec_of Tryz.func58 rfl (by kernel_rfl) (by simp [Tryz.f58]) (fun w0 K0 => vc_ok _ _ _ (by kernel_rfl) ?_)
  simp only [Tryz.f58]
  simp -dsimp
  refine VL.loop (fun i : LI => ⟨[(8, .c (i64 i.k)), (7, .c (i64 l.length)), (6, .c (.sl nl (l.map Per.cells))), (3, .own 192 (endsOf (l.take i.k)).length)],
      [(192, some (.arr i.nl i.sz (ints (endsOf (l.take i.k))) 0))]⟩)
    (fun i => i.k ≤ l.length ∧ i.nl = (endsOf (l.take i.k)).isEmpty ∧ i.sz = ez (endsOf (l.take i.k))) (fun i => l.length - i.k) ⟨0, true, 0⟩ (by kernel_rfl) (by simp [endsOf, ez]) (by simp [St.le, endsOf]) ?_
  intro ⟨k, nl', sz⟩ ⟨hk, hnl, hsz⟩
  simp only at hk hnl hsz
  have hol := endsOf_len (l.take k)
  have hlk : (l.take k).length = k := by rw [List.length_take]; omega
  have hsu := fun h : k < l.length => endsOf_snoc l h
  generalize ho : endsOf (l.take k) = out at *
  simp -dsimp
  refine VIf.mk (fun h => ?_) (fun h => ?_)
  · have hlt : k < l.length := by simpa using h
    have hw : IntKind.i64.wrap ((k : Int) + 1) = (k : Int) + 1 := IntWalk.i64_in _ (by omega)
    have hsu := hsu hlt
    simp -dsimp [hlt, Per.cells]
    refine VC.mk _ (check_at _ l[k] rfl) ?_
    simp -dsimp
    refine VIf.mk (fun h2 => ?_) (fun h2 => ?_)
    · have hr : right l[k] = true := by simpa using h2
      rw [if_pos hr] at hsu
      simp -dsimp [maxLen, hw]
      refine ⟨fun e => ?_, by omega, ⟨k + 1, false, 1⟩, ⟨hlt, ?_, ?_⟩, ?_, by simp; omega⟩
      · rw [hsz]; rw [hnl] at e; simp [ez, e]
      · rw [hsu]; simp
      · rw [hsu]; simp [ez]
      · simp [St.le, hsu, ints]
    · have hr : right l[k] = false := by simpa using h2
      rw [hr, if_neg (by simp), List.append_nil] at hsu
      simp -dsimp [hw]
      refine ⟨⟨k + 1, nl', sz⟩, ⟨hlt, by rw [hsu]; exact hnl, by rw [hsu]; exact hsz⟩, ?_, by simp; omega⟩
      simp [St.le, hsu]
  · simp at h
    obtain rfl : k = l.length := by omega
    rw [List.take_length] at ho
    have hed : edgesL l = Go.Lib.compact (sortI out) := by unfold edgesL; rw [ho]
    rw [hed]
    rcases List.eq_nil_or_concat out with rfl | ⟨ini, q, hq⟩
    · obtain rfl : nl' = true := hnl
      have e : sortI [] = [] := by simp [sortI]
      have e2 : Go.Lib.compact (sortI []) = [] := by rw [e]; rfl
      rw [e2]
      simp -dsimp
      refine VCL.snap ?_
      simp -dsimp
      refine VC.mk _ hi.nil ?_
      simp -dsimp
      refine VCL.snap ?_
      simp -dsimp
      refine VC.mk _ hi.cnil ?_
      simp -dsimp [ez]
    · have hne : out.isEmpty = false := by rw [hq]; simp
      have hnl2 : nl' = false := by rw [hnl, hne]
      have hsz2 : sz = 1 := by rw [hsz]; simp [ez, hne]
      subst hnl2 hsz2
      have hcne : (Go.Lib.compact (sortI out)).isEmpty = false := by
        have hm := (compact_ok (sortI out) (sortI_sorted out)).2 q
        have : q ∈ Go.Lib.compact (sortI out) := hm.2 ((sortI_perm out).mem_iff.2 (by rw [hq]; simp))
        rw [List.isEmpty_eq_false_iff]
        intro e; rw [e] at this; simp at this
      clear hq ho hsu hnl hsz hed
      have hcs := hi.con out (by omega)
      have hlen := sortI_len out
      have hcc := hi.cmp (sortI out) (by omega)
      generalize sortI out = so at *
      have hcl := compact_len so
      generalize Go.Lib.compact so = co at *
      simp -dsimp
      refine VCL.lend (rowI 1 out) (rowI 1 so) [.own 1 out.length] _ _ (fun _ => 192) [] ⟨hcs, ?_, ?_, ?_, ?_, ?_, ?_, ?_⟩ ?_
      · simp [renSs, renS]
      · simp [rowI, renR]
      · simp [rowI]
      · simp [rowI]
      · simp [rowI, Res.nam]
      · simp [S.nams]
      · simp [rowI, lk, keptP]
        exact ⟨1, _, ⟨rfl, rfl⟩, _, ⟨rfl, rfl⟩, by simp, by simp [hlen]⟩
      simp -dsimp [rowI, retS, renSs]
      refine VCL.lend (rowI 1 so) (rowI 1 co) [.own 1 so.length] _ _ (fun _ => 192) [192] ⟨hcc, ?_, ?_, ?_, ?_, ?_, ?_, ?_⟩ ?_
      · simp [renSs, renS, hlen]
      · simp [rowI, renR]
      · simp [rowI]
      · simp [rowI]
      · simp [rowI, Res.nam]
      · simp [rowI, S.nams, S.nam]
      · simp [rowI]
      simp -dsimp [rowI, retS, renSs, renS]
      have hc2 : co ≠ [] := List.isEmpty_eq_false_iff.1 hcne
      simp [ez, hcne, hc2]
end Go.Proofs.YtmkbclnhopoiiaaGreat
