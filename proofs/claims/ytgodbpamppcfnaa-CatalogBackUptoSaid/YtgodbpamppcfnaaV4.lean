/-
  A logic on data over the model's walk, part 4: reading: loads, addresses, parts, pieces.
-/
import Derived.Test.YtgodbpamppcfnaaV3
set_option linter.unusedSimpArgs false
set_option linter.unusedVariables false
namespace Go.VL
open Go.RowKit

section
variable {P : Program} {w : World}

theorem run_loadVar_one {t : TypeId} {n : Nat} {b : Addr} {u : Value} (h : tySz P t = some (false, n)) (hc : w.cell? b = some u) : (loadVar t b).run P w = .ok u w := by
  simp [loadVar, run_isAgg h, run_load, hc]
theorem run_loadVar_agg {t : TypeId} {n : Nat} {b : Addr} {us : List Value} (h : tySz P t = some (true, n)) (hn : us.length = n) (hc : ∀ (j : Nat) v, us[j]? = some v → w.cell? (b.add j) = some v) : (loadVar t b).run P w = .ok (.agg us.toArray) w := by
  have := run_loadCells_list (P := P) w b us hc
  rw [hn] at this
  simp [loadVar, run_isAgg h, run_sizeOf h, this]

theorem add_lit' (b o n : Nat) (s : Option Nat) : Addr.add ⟨b, o, s⟩ n = ⟨b, o + n, if n = 0 then s else none⟩ := by
  unfold Addr.add
  by_cases h : n = 0
  · simp [h]
  · simp [h]
theorem add_lit (b o n : Nat) : Addr.add ⟨b, o, none⟩ n = ⟨b, o + n, none⟩ := Addr.add_lit b o n

theorem LR_VR {K : Nat → Nat → Prop} (b : Nat) : ∀ (cs : List C) (o : Nat), LR K w b o cs → ∃ us : List Value, VR K w cs us ∧ us.length = cs.length ∧ ∀ (j : Nat) v, us[j]? = some v → w.cell? ⟨b, o + j, none⟩ = some v
  | [], o, _ => ⟨[], by simp [VR], rfl, by simp⟩
  | c :: r, o, h => by
    rw [LR] at h
    obtain ⟨⟨_, u, hu, hc⟩, hr⟩ := h
    obtain ⟨us, h1, h2, h3⟩ := LR_VR b r (o + 1) hr
    refine ⟨u :: us, by rw [VR]; exact ⟨u, us, rfl, hc, h1⟩, by simp [h2], fun j v hj => ?_⟩
    cases j with
    | zero => simp at hj; subst hj; exact hu
    | succ j => have := h3 j v (by simpa using hj); rwa [show o + 1 + j = o + (j + 1) from by omega] at this

theorem LR_take {K : Nat → Nat → Prop} {b o : Nat} {cs : List C} (n : Nat) (h : LR K w b o cs) : LR K w b o (cs.take n) := by
  rw [LR_iff] at h ⊢
  intro k c hk
  rw [List.getElem?_take] at hk
  split at hk
  · exact h k c hk
  · cases hk
theorem LR_drop {K : Nat → Nat → Prop} {b o : Nat} {cs : List C} (n : Nat) (h : LR K w b o cs) : LR K w b (o + n) (cs.drop n) := by
  rw [LR_iff] at h ⊢
  intro k c hk
  rw [List.getElem?_drop] at hk
  have := h (n + k) c hk
  rwa [← Nat.add_assoc] at this
theorem VR_take {K : Nat → Nat → Prop} {cs : List C} {us : List Value} (n : Nat) (h : VR K w cs us) : VR K w (cs.take n) (us.take n) := by
  rw [VR_iff] at h ⊢
  refine ⟨by simp [h.1], fun k c u hk hu => ?_⟩
  rw [List.getElem?_take] at hk hu
  split at hk
  · rename_i hlt; rw [if_pos hlt] at hu; exact h.2 k c u hk hu
  · cases hk
theorem VR_drop {K : Nat → Nat → Prop} {cs : List C} {us : List Value} (n : Nat) (h : VR K w cs us) : VR K w (cs.drop n) (us.drop n) := by
  rw [VR_iff] at h ⊢
  refine ⟨by simp [h.1], fun k c u hk hu => ?_⟩
  rw [List.getElem?_drop] at hk hu
  exact h.2 _ c u hk hu
theorem VR_append {K : Nat → Nat → Prop} {cs ds : List C} {us vs : List Value} (h : VR K w cs us) (h' : VR K w ds vs) : VR K w (cs ++ ds) (us ++ vs) := by
  induction cs generalizing us with
  | nil => rw [VR] at h; subst h; exact h'
  | cons c r ih =>
    rw [VR] at h
    obtain ⟨u, us', rfl, h1, h2⟩ := h
    rw [List.cons_append, List.cons_append, VR]
    exact ⟨u, _, rfl, h1, ih h2⟩
end

/-- all cells data -/
def allC : List S → Option (List C)
  | [] => some []
  | .c x :: r => (allC r).map (x :: ·)
  | _ :: _ => none

def pload (P : Program) (st : St) (t : TypeId) (a : S) : S × Prop :=
  match tySz P t with
  | some (false, _) =>
    match a with
    | .c (.dp (c :: _)) => (.c c, True)
    | .c (.dp []) => (.c default, False)
    | .ptr i o =>
      match st.rs i with
      | some (.box _ ss) => match ss[o]? with
        | some s => (s, True)
        | none => no
      | _ => no
    | .ep i n j o =>
      match st.rs i with
      | some (.arr _ sz xs _) => (.c ((xs.getD j []).getD o default), xs.length = n ∧ j < n ∧ o < sz)
      | _ => no
    | _ => no
  | some (true, m) =>
    match a with
    | .c (.dp cs) => (.agg (cs.take m), m ≤ cs.length)
    | .ptr i o =>
      match st.rs i with
      | some (.box _ ss) => match allC ((ss.drop o).take m) with
        | some cs => (.agg cs, cs.length = m)
        | none => no
      | _ => no
    | .ep i n j o =>
      match st.rs i with
      | some (.arr _ sz xs _) => (.agg (((xs.getD j []).drop o).take m), xs.length = n ∧ j < n ∧ o + m ≤ sz)
      | _ => no
    | _ => no
  | none => no

section
variable {P : Program} {w0 : World} {K0 : K0T} {nt : Nat} {st : St} {a : Act} {w : World} {g : G}

theorem allC_VR : ∀ (ss : List S) (cs : List C) (us : List Value), allC ss = some cs → us.length = ss.length → (∀ (k : Nat) s u, ss[k]? = some s → us[k]? = some u → SR g w st.rs s u) → VR g.K w cs us
  | [], cs, us, h, hl, _ => by
    simp [allC] at h; subst h
    cases us with
    | nil => simp [VR]
    | cons u r => simp at hl
  | s :: r, cs, us, h, hl, hs => by
    cases us with
    | nil => simp at hl
    | cons u us =>
      cases s with
      | c x =>
        simp only [allC, Option.map_eq_some_iff] at h
        obtain ⟨cs', h1, rfl⟩ := h
        rw [VR]
        have h0 := hs 0 _ u rfl rfl
        rw [SR] at h0
        exact ⟨u, us, rfl, h0, allC_VR r cs' us h1 (by simpa using hl) (fun k s' u' e1 e2 => hs (k + 1) s' u' (by simpa using e1) (by simpa using e2))⟩
      | _ => simp [allC] at h

theorem cell_of_heap {w : World} {b o : Nat} {cur : Array Value} {E : TypeId} {fz : Nat × Nat} (h : w.heap[b]? = some (.cells cur E fz)) : w.cell? ⟨b, o, none⟩ = cur[o]? := by
  simp [World.cell?, h]

theorem Holds.elem {K : Nat → Nat → Prop} {sz : Nat} {xs : List (List C)} {cur : Array Value} (h : Holds K w sz xs cur) {j : Nat} (hj : j < xs.length) :
    (xs.getD j []).length = sz ∧ ∃ us : List Value, VR K w (xs.getD j []) us ∧ us.length = sz ∧ ∀ (k : Nat) v, us[k]? = some v → cur[j * sz + k]? = some v := by
  have e : xs[j]? = some (xs.getD j []) := by simp [List.getD, List.getElem?_eq_getElem hj]
  obtain ⟨h1, h2⟩ := h j _ e
  refine ⟨h1, ?_⟩
  generalize xs.getD j [] = c at *
  have key : ∀ (c : List C) (o : Nat), (∀ (k : Nat) (d : C), c[k]? = some d → ∃ u, cur[o + k]? = some u ∧ CR K w d u) → ∃ us : List Value, VR K w c us ∧ us.length = c.length ∧ ∀ (k : Nat) v, us[k]? = some v → cur[o + k]? = some v := by
    intro c
    induction c with
    | nil => intro o _; exact ⟨[], by simp [VR], rfl, by simp⟩
    | cons d r ih =>
      intro o hh
      obtain ⟨u, hu, hd⟩ := hh 0 d rfl
      obtain ⟨us, e1, e2, e3⟩ := ih (o + 1) (fun k d hk => by have := hh (k + 1) d (by simpa using hk); rwa [show o + 1 + k = o + (k + 1) from by omega])
      refine ⟨u :: us, by rw [VR]; exact ⟨u, us, rfl, hd, e1⟩, by simp [e2], fun k v hk => ?_⟩
      cases k with
      | zero => simp at hk; subst hk; exact hu
      | succ k => have := e3 k v (by simpa using hk); rwa [show o + 1 + k = o + (k + 1) from by omega] at this
  obtain ⟨us, e1, e2, e3⟩ := key c (j * sz) h2
  exact ⟨us, e1, by rw [e2, h1], e3⟩

theorem pload_ok (hT : T w0 K0 nt st a w g) {t : TypeId} {s : S} {u : Value} (hs : SR g w st.rs s u) (h : (pload P st t s).2) :
    ∃ r, (Instr.loadAt t u).run P w = .ok r w ∧ SR g w st.rs (pload P st t s).1 r := by
  have hl : ∀ (b : Addr), (Instr.loadAt t (.pointer (some b))).run P w = (loadVar t b).run P w := fun b => by simp [Instr.loadAt, Instr.sureAddr]
  unfold pload at h ⊢
  split at h
  · rename_i n ht
    split at h
    · rename_i c r
      simp only [SR, CR, LR] at hs
      obtain ⟨b, o, rfl, ⟨_, v, hv, hc⟩, _⟩ := hs
      exact ⟨v, by rw [hl]; exact run_loadVar_one ht hv, by rw [SR]; exact hc⟩
    · exact h.elim
    · rename_i i o
      split at h
      · rename_i fz ss hr
        rw [SR] at hs
        obtain ⟨b, hb, rfl⟩ := hs fz ss hr
        obtain ⟨b', cur, E, h1, h2, h3, h4, h5, h6⟩ := hT.res i _ hr
        rw [hb] at h1
        simp at h1; subst h1
        split at h
        · rename_i s' hs'
          obtain ⟨v, e1, e2, e3⟩ := h5 o s' hs'
          exact ⟨v, by rw [hl]; exact run_loadVar_one ht (by rw [cell_of_heap h3]; exact e1), e2⟩
        · exact h.elim
      · exact h.elim
    · rename_i i m j o
      split at h
      · rename_i nil sz xs fx hr
        obtain ⟨h1, h2, h3⟩ := h
        rw [SR] at hs
        obtain ⟨b, cap, hb, rfl⟩ := hs nil sz xs fx hr h1
        rcases hT.res i _ hr with ⟨_, _, e, _⟩ | ⟨_, b', cap', cur, E, e1, e2, e3, e4, e5, e6, e7, e8, e9⟩
        · rw [hb] at e; simp at e
        · rw [hb] at e1
          simp at e1; obtain ⟨rfl, _, rfl⟩ := e1
          obtain ⟨k1, us, k2, k3, k4⟩ := e8.elem (j := j) (by omega)
          have ho : o < us.length := by omega
          have k5 := k4 o us[o] (by simp [ho])
          refine ⟨us[o], by rw [hl]; exact run_loadVar_one ht (by rw [cell_of_heap e3]; exact k5), ?_⟩
          rw [SR]
          refine ((VR_iff _ _).1 k2).2 o _ _ ?_ (by simp [ho])
          have : o < (xs.getD j []).length := by omega
          simp only [List.getD_eq_getElem?_getD] at this ⊢
          rw [List.getElem?_eq_getElem this]; rfl
      · exact h.elim
    · exact h.elim
  · rename_i m ht
    split at h
    · rename_i cs
      simp only [SR, CR] at hs
      obtain ⟨b, o, rfl, hlr⟩ := hs
      obtain ⟨us, e1, e2, e3⟩ := LR_VR b _ o (LR_take m hlr)
      refine ⟨.agg us.toArray, by rw [hl]; exact run_loadVar_agg ht (by have h' : m ≤ cs.length := h; rw [e2]; simp; omega) (fun j v hj => by rw [add_lit]; exact e3 j v hj), ?_⟩
      rw [SR]; exact ⟨us, rfl, e1⟩
    · rename_i i o
      split at h
      · rename_i fz ss hr
        rw [SR] at hs
        obtain ⟨b, hb, rfl⟩ := hs fz ss hr
        obtain ⟨b', cur, E, h1, h2, h3, h4, h5, h6⟩ := hT.res i _ hr
        rw [hb] at h1
        simp at h1; subst h1
        split at h
        · rename_i cs hcs
          have hlen : ((ss.drop o).take m).length = cs.length := by
            have : ∀ (l : List S) (cs : List C), allC l = some cs → l.length = cs.length := by
              intro l
              induction l with
              | nil => intro cs h; simp [allC] at h; subst h; rfl
              | cons s r ih =>
                intro cs h
                cases s with
                | c x => simp only [allC, Option.map_eq_some_iff] at h; obtain ⟨cs', h1, rfl⟩ := h; simp [ih _ h1]
                | _ => simp [allC] at h
            exact this _ _ hcs
          refine ⟨.agg ((cur.toList.drop o).take m).toArray, ?_, ?_⟩
          · rw [hl]
            refine run_loadVar_agg ht ?_ (fun j v hj => ?_)
            · simp at hlen ⊢; omega
            · rw [add_lit, cell_of_heap h3]
              rw [List.getElem?_take] at hj
              split at hj
              · rw [List.getElem?_drop] at hj; simpa using hj
              · cases hj
          · rw [SR]
            refine ⟨_, rfl, allC_VR (st := st) _ _ _ hcs (by simp at hlen ⊢; omega) (fun k s' v e1 e2 => ?_)⟩
            rw [List.getElem?_take] at e1 e2
            split at e1
            · rename_i hlt
              rw [if_pos hlt] at e2
              rw [List.getElem?_drop] at e1 e2
              obtain ⟨v', k1, k2, k3⟩ := h5 _ _ e1
              have : v' = v := by simp at e2; rw [k1] at e2; exact Option.some.inj e2
              subst this; exact k2
            · cases e1
        · exact h.elim
      · exact h.elim
    · rename_i i n j o
      split at h
      · rename_i nil sz xs fx hr
        obtain ⟨h1, h2, h3⟩ := h
        rw [SR] at hs
        obtain ⟨b, cap, hb, rfl⟩ := hs nil sz xs fx hr h1
        rcases hT.res i _ hr with ⟨_, _, e, _⟩ | ⟨_, b', cap', cur, E, e1, e2, e3, e4, e5, e6, e7, e8, e9⟩
        · rw [hb] at e; simp at e
        · rw [hb] at e1
          simp at e1; obtain ⟨rfl, _, rfl⟩ := e1
          obtain ⟨k1, us, k2, k3, k4⟩ := e8.elem (j := j) (by omega)
          refine ⟨.agg ((us.drop o).take m).toArray, ?_, by rw [SR]; exact ⟨_, rfl, VR_take m (VR_drop o k2)⟩⟩
          rw [hl]
          refine run_loadVar_agg ht (by simp; omega) (fun k v hk => ?_)
          rw [add_lit, cell_of_heap e3]
          rw [List.getElem?_take] at hk
          split at hk
          · rw [List.getElem?_drop] at hk
            have := k4 _ _ hk
            rwa [← Nat.add_assoc] at this
          · cases hk
      · exact h.elim
    · exact h.elim
  · exact h.elim

end
end Go.VL
