/- Contracts of functions of the seat, proved in a logic on data over the model (part RA). -/
import Derived.Test.YtlphpbcafplnbaaGreatPD
set_option linter.unusedSimpArgs false
set_option linter.unusedVariables false
namespace Go.Proofs.YtlphpbcafplnbaaGreat
open Go.VL Go.RowKit
mutual
def hasE (sc : List SCol) (k : Nat) : Ex → Bool
  | .mk op _ text of _ args => if op = wName then decide (findC sc of text = .ok k) else if op = wNumber ∨ op = wText then false else hasEs sc k args
def hasEs (sc : List SCol) (k : Nat) : List Ex → Bool
  | [] => false
  | e :: r => hasE sc k e || hasEs sc k r
end
theorem hasEs_any (sc : List SCol) (k : Nat) : ∀ l : List Ex, hasEs sc k l = l.any (hasE sc k)
  | [] => by rw [hasEs]; rfl
  | e :: r => by rw [hasEs, hasEs_any sc k r]; rfl
def namesK (sc : List SCol) (e : Ex) (k : Nat) : List Int := ((List.range k).filter fun (i : Nat) => hasE sc i e).map fun (i : Nat) => (i : Int)
def namesE (sc : List SCol) (e : Ex) : List Int := namesK sc e sc.length
theorem namesK_snoc (sc : List SCol) (e : Ex) (k : Nat) : namesK sc e (k + 1) = namesK sc e k ++ if hasE sc k e then [(k : Int)] else [] := by
  unfold namesK
  rw [List.range_succ, List.filter_append, List.map_append]
  by_cases h : hasE sc k e = true <;> simp [h]
theorem namesK_le (sc : List SCol) (e : Ex) (k : Nat) : (namesK sc e k).length ≤ k := by
  unfold namesK
  rw [List.length_map]
  have := List.length_filter_le (fun i => hasE sc i e) (List.range k)
  rwa [List.length_range] at this
theorem mem_names (sc : List SCol) (e : Ex) (x : Int) : x ∈ namesE sc e ↔ ∃ i : Nat, i < sc.length ∧ hasE sc i e = true ∧ x = i := by
  unfold namesE namesK
  rw [List.mem_map]
  constructor
  · rintro ⟨i, hi, rfl⟩
    rw [List.mem_filter, List.mem_range] at hi
    exact ⟨i, hi.1, hi.2, rfl⟩
  · rintro ⟨i, h1, h2, rfl⟩
    exact ⟨i, List.mem_filter.2 ⟨List.mem_range.2 h1, h2⟩, rfl⟩
theorem mem_cols (op : List UInt8) (k : Int) (v : Val) (place : Int) (nl : Bool) (args : List Tm) (x : Int) :
    x ∈ colsT (.mk op k v place nl args) ↔ (op = wColumn ∧ x = place) ∨ x ∈ colsTs args := by
  rw [colsT]
  obtain ⟨_, c2⟩ := compact_ok (sortI ((if op = wColumn then [place] else []) ++ colsTs args)) (sortI_sorted _)
  rw [c2 x, (sortI_perm _).mem_iff, List.mem_append]
  by_cases e : op = wColumn <;> simp [e]
mutual
theorem cols_names (sc : List SCol) : ∀ (e : Ex) (t : Tm), bindE sc e = .ok t → ∀ x : Int, x ∈ colsT t ↔ ∃ i : Nat, i < sc.length ∧ hasE sc i e = true ∧ x = i
  | .mk op int text of nl args, t, h, x => by
    rw [bindE] at h
    simp only [hasE]
    by_cases h1 : op = wNumber
    · rw [if_pos h1] at h
      cases h
      subst h1
      rw [mem_cols, colsTs]
      simp
    rw [if_neg h1] at h
    by_cases h2 : op = wText
    · rw [if_pos h2] at h
      split at h
      · cases h
      cases h
      subst h2
      rw [mem_cols, colsTs]
      simp
    rw [if_neg h2] at h
    by_cases h3 : op = wName
    · rw [if_pos h3] at h
      simp only [h3, if_true]
      cases hf : findC sc of text with
      | no c => rw [hf] at h; cases h
      | ok i =>
        rw [hf] at h
        cases h
        rw [mem_cols, colsTs]
        have hi := findC_lt hf
        constructor
        · rintro (⟨_, rfl⟩ | h)
          · exact ⟨i, hi, by simp, rfl⟩
          · cases h
        · rintro ⟨j, _, h5, rfl⟩
          have h6 : Fd.ok i = Fd.ok j := of_decide_eq_true h5
          cases h6
          exact .inl ⟨rfl, rfl⟩
    rw [if_neg h3] at h
    simp only [h3, h1, h2, or_self, if_false]
    cases hb : bindEs sc args with
    | no c => rw [hb] at h; cases h
    | ok ts =>
      rw [hb] at h
      simp only at h
      split at h
      · rename_i hk
        cases h
        have hop : op ≠ wColumn := by
          rintro rfl
          rcases kindK_len hk with ⟨_, h | h⟩ | ⟨_, h⟩
          · cases h
          · cases h
          · simp [two2] at h
        rw [mem_cols, cols_namess sc args ts hb x]
        simp [hop]
      · cases h
theorem cols_namess (sc : List SCol) : ∀ (l : List Ex) (ts : List Tm), bindEs sc l = .ok ts → ∀ x : Int, x ∈ colsTs ts ↔ ∃ i : Nat, i < sc.length ∧ hasEs sc i l = true ∧ x = i
  | [], ts, h, x => by
    rw [bindEs] at h
    cases h
    rw [colsTs]
    simp [hasEs]
  | e :: r, ts, h, x => by
    rw [bindEs] at h
    cases hb : bindE sc e with
    | no c => rw [hb] at h; cases h
    | ok t =>
      rw [hb] at h
      simp only at h
      cases hbs : bindEs sc r with
      | no c => rw [hbs] at h; cases h
      | ok us =>
        rw [hbs] at h
        cases h
        rw [colsTs, List.mem_append, cols_names sc e t hb x, cols_namess sc r us hbs x]
        simp only [hasEs, Bool.or_eq_true]
        constructor
        · rintro (⟨i, h1, h2, h3⟩ | ⟨i, h1, h2, h3⟩)
          · exact ⟨i, h1, .inl h2, h3⟩
          · exact ⟨i, h1, .inr h2, h3⟩
        · rintro ⟨i, h1, h2 | h2, h3⟩
          · exact .inl ⟨i, h1, h2, h3⟩
          · exact .inr ⟨i, h1, h2, h3⟩
end
def allB (fr n : Int) (l : List Int) : Bool := decide (0 < l.length) && l.all fun x => decide (fr ≤ x) && decide (x < fr + n)
theorem allB_iff (fr n : Int) (l : List Int) : allB fr n l = true ↔ (∃ x, x ∈ l) ∧ ∀ x ∈ l, fr ≤ x ∧ x < fr + n := by
  unfold allB
  rw [Bool.and_eq_true, decide_eq_true_eq, List.all_eq_true]
  constructor
  · rintro ⟨h1, h2⟩
    exact ⟨⟨l[0], List.getElem_mem h1⟩, fun x hx => by simpa using h2 x hx⟩
  · rintro ⟨⟨x, hx⟩, h2⟩
    exact ⟨List.length_pos_of_mem hx, fun y hy => by simpa using h2 y hy⟩
theorem last_mem : ∀ (l : List Int) (x : Int), (x :: l)[(x :: l).length - 1]! ∈ x :: l := by
  intro l x
  rw [getElem!_pos (x :: l) ((x :: l).length - 1) (by simp)]
  exact List.getElem_mem _
theorem rise_last : ∀ (l : List Int) (x : Int), Rise (x :: l) → ∀ y ∈ x :: l, x ≤ y ∧ y ≤ (x :: l)[(x :: l).length - 1]!
  | [], x, _, y, hy => by
    simp at hy
    subst hy
    exact ⟨Int.le_refl _, Int.le_refl _⟩
  | z :: l, x, h, y, hy => by
    obtain ⟨h1, h2⟩ := List.pairwise_cons.1 h
    have ih := rise_last l z h2
    have e : (x :: z :: l)[(x :: z :: l).length - 1]! = (z :: l)[(z :: l).length - 1]! := by
      rw [getElem!_pos (x :: z :: l) ((x :: z :: l).length - 1) (by simp), getElem!_pos (z :: l) ((z :: l).length - 1) (by simp)]
      simp
    rw [e]
    have hz := ih z (by simp)
    have hxz := h1 z (by simp)
    rcases List.mem_cons.1 hy with rfl | hy
    · exact ⟨Int.le_refl _, by omega⟩
    · have := ih y hy
      exact ⟨by omega, this.2⟩
theorem ownB_iff (cs : List Int) (fr n : Int) (h : Rise cs) : ownB cs fr n = true ↔ (∃ x, x ∈ cs) ∧ ∀ x ∈ cs, fr ≤ x ∧ x < fr + n := by
  cases cs with
  | nil => simp [ownB]
  | cons x r =>
    have hl := rise_last r x h
    have hm := last_mem r x
    simp only [ownB]
    generalize (x :: r)[(x :: r).length - 1]! = la at *
    rw [Bool.and_eq_true, decide_eq_true_eq, decide_eq_true_eq]
    constructor
    · rintro ⟨h1, h2⟩
      exact ⟨⟨x, by simp⟩, fun y hy => by have := hl y hy; omega⟩
    · rintro ⟨_, h2⟩
      exact ⟨(h2 x (by simp)).1, (h2 la hm).2⟩
theorem own1 (sc : List SCol) (m : Nat) (e : Ex) (t : Tm) (h : bindE sc e = .ok t) (hb : t.Bd m) (fr n : Int) : ownB (colsT t) fr n = allB fr n (namesE sc e) := by
  have hr := (colsT_in m t hb).1
  have hm : ∀ x, x ∈ colsT t ↔ x ∈ namesE sc e := fun x => by rw [cols_names sc e t h x, mem_names]
  rw [Bool.eq_iff_iff, ownB_iff _ _ _ hr, allB_iff]
  simp only [hm]
end Go.Proofs.YtlphpbcafplnbaaGreat
set_option linter.unusedSimpArgs false
set_option linter.unusedVariables false
namespace Go.Proofs.YtlphpbcafplnbaaGreat
open Go.VL Go.RowKit
theorem own_any (sc : List SCol) (m : Nat) (fr n : Int) : ∀ (l : List Ex), (∀ t ∈ l.filterMap (termE sc), t.Bd m) →
    (l.filterMap (termE sc)).any (fun t => ownB (colsT t) fr n) = (l.filter (okE sc)).any (fun e => allB fr n (namesE sc e))
  | [], _ => rfl
  | e :: r, h => by
    have hx : termE sc e = match bindE sc e with | .ok t => some t | .no _ => none := rfl
    have hy : okE sc e = match bindE sc e with | .ok _ => true | .no _ => false := rfl
    cases hb : bindE sc e with
    | no c =>
      rw [hb] at hx hy
      rw [List.filterMap_cons, hx, List.filter_cons, hy]
      rw [List.filterMap_cons, hx] at h
      exact own_any sc m fr n r h
    | ok t =>
      rw [hb] at hx hy
      rw [List.filterMap_cons, hx, List.filter_cons, hy]
      rw [List.filterMap_cons, hx] at h
      simp only [if_true, List.any_cons]
      rw [own1 sc m e t hb (h t (by simp)), own_any sc m fr n r (fun t ht => h t (by simp [ht]))]
theorem taken_len (sc : List SCol) : ∀ (l : List Ex), (l.filterMap (termE sc)).length = (l.filter (okE sc)).length
  | [] => rfl
  | e :: r => by
    have hx : termE sc e = match bindE sc e with | .ok t => some t | .no _ => none := rfl
    have hy : okE sc e = match bindE sc e with | .ok _ => true | .no _ => false := rfl
    cases hb : bindE sc e with
    | no c =>
      rw [hb] at hx hy
      rw [List.filterMap_cons, hx, List.filter_cons, hy]
      exact taken_len sc r
    | ok t =>
      rw [hb] at hx hy
      rw [List.filterMap_cons, hx, List.filter_cons, hy]
      simp only [if_true, List.length_cons]
      rw [taken_len sc r]
theorem own_has (q : Qry) (i : Nat) : decide (0 < (ownL q i).length) = q.ts.any (ownT q i) := by
  unfold ownL
  rw [List.length_map, Bool.eq_iff_iff, decide_eq_true_eq, List.any_eq_true, List.length_pos_iff_exists_mem]
  simp only [List.mem_filter]
def planN (n : Nat) : Pln := ⟨decide (20 ≤ (n : Int)), (n : Int) / 4 % 5, (n : Int) / 2 % 2 == 1, (n : Int) % 2 == 1⟩
def noN (two t d : Bool) (p : Pln) : Bool := !two && (p.swap || p.way != 0) || two && p.way == 0 || p.push && !t || p.early && !d
def noX (a b : Bool) (p : Pln) : Bool := decide (3 ≤ p.way) && (p.swap && !a || !p.swap && !b)
def plansR (two t d a b : Bool) (k : Nat) : List Pln := ((List.range k).map planN).filter fun p => !noN two t d p && !noX a b p
theorem plansR_snoc (two t d a b : Bool) (k : Nat) : plansR two t d a b (k + 1) = plansR two t d a b k ++ if (!noN two t d (planN k) && !noX a b (planN k)) = true then [planN k] else [] := by
  unfold plansR
  rw [List.range_succ, List.map_append, List.filter_append, List.map_singleton]
  by_cases h : (!noN two t d (planN k) && !noX a b (planN k)) = true <;> simp [h]
theorem plansR_le (two t d a b : Bool) (k : Nat) : (plansR two t d a b k).length ≤ k := by
  unfold plansR
  refine Nat.le_trans (List.length_filter_le _ _) ?_
  simp
def plansG (two t d a b : Bool) : List Pln := ((flagsL two).take (flagsL two).length).flatMap fun sw => (List.range 5).flatMap fun (w : Nat) =>
  if (two == ((w : Int) == 0)) || (decide (3 ≤ (w : Int)) && !(bif sw then a else b)) then [] else L3 t d sw w (flagsL t).length
theorem plansL_G (q : Qry) : plansL q = plansG (twoQ q) (hasT q) (hasD q) (inner q ⟨true, 0, false, false⟩).ix (inner q ⟨false, 0, false, false⟩).ix := by
  unfold plansL L1 plansG
  congr 1
  funext sw
  unfold L2
  congr 1
  funext w
  cases sw <;> rfl
theorem plansG_two : ∀ t d a b : Bool, plansG true t d a b = plansR true t d a b 40 := by decide +kernel
theorem plansG_one : ∀ t d a b i j : Bool, plansG false t d a b = plansR false t d i j 40 := by decide +kernel
theorem plans_ref (q : Qry) : plansL q = plansR (twoQ q) (hasT q) (hasD q) (q.src[0]!).ix (q.src[1]!).ix 40 := by
  rw [plansL_G]
  cases h : twoQ q with
  | false => exact plansG_one _ _ _ _ _ _
  | true =>
    have h2 : (q.src.length : Int) = 2 := by unfold twoQ at h; exact eq_of_beq h
    have e0 : inner q ⟨true, 0, false, false⟩ = q.src[0]! := rfl
    have e1 : inner q ⟨false, 0, false, false⟩ = q.src[1]! := by
      unfold inner
      rw [if_neg]
      unfold innerB
      simp
      omega
    rw [e0, e1]
    exact plansG_two _ _ _ _
structure Dry where
  q : Qry
  es : List Ex
  en : Bool
  sc : List SCol
def Dry.cells (d : Dry) : List C := [.sl d.q.sn (srcs d.q.src), .sl d.en (exprs d.es), .sl false (scols d.sc), .sl d.q.dn (d.q.du.map Per.cells)]
structure Dry.Good (d : Dry) (m : Nat) : Prop where
  good : d.q.Good m
  chk : checkQ d.q = 0
  len : d.q.ts.length = d.es.length
  sc : d.sc.length ≤ 1000
  fit : ∀ e ∈ d.es, e.fit
  own : ∀ fr n : Int, d.q.ts.any (fun t => ownB (colsT t) fr n) = d.es.any (fun e => allB fr n (namesE d.sc e))
def fromD (d : Dry) (i : Nat) : Int := if i = 1 then (d.q.src[0]!).cols else 0
def ownK2 (d : Dry) (i k : Nat) : Bool := (d.es.take k).any fun e => allB (fromD d i) (d.q.src[i]!).cols (namesE d.sc e)
def ownD (d : Dry) (i : Nat) : Bool := ownK2 d i d.es.length
theorem ownD_has {d : Dry} {m : Nat} (h : d.Good m) (i : Nat) (hi : i < d.q.src.length) : ownD d i = decide (0 < (ownL d.q i).length) := by
  have hl := check_len h.chk
  have hf : fromK d.q.src i = fromD d i := by
    unfold fromK fromD
    have : i = 0 ∨ i = 1 := by omega
    rcases this with rfl | rfl
    · simp
    · rw [if_pos rfl]
      match hq : d.q.src, hi with
      | x :: y :: r, _ => simp
      | [x], hi => simp at hi
  have ht : ownT d.q i = fun t => ownB (colsT t) (fromD d i) (d.q.src[i]!).cols := by
    funext t
    unfold ownT
    rw [hf]
  rw [own_has, ht, h.own]
  unfold ownD ownK2
  rw [List.take_length]
end Go.Proofs.YtlphpbcafplnbaaGreat
