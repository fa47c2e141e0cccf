/- Plain laws of what Analyse reckons. -/
import Derived.Test.YtddhmoffjpnbgaaT12
set_option linter.unusedSimpArgs false
set_option linter.unusedVariables false
namespace Go.Proofs.Ytddhmoffjpnbgaa
open Go.VL Go.RowKit

def com (l : List Ent) (t : Int) : Bool := l.any fun e => e.kind == 3 && e.txn == t
def ent (l : List Ent) (t : Int) : Bool := l.any fun e => e.txn == t
theorem com_snoc (l : List Ent) (t : Int) {k : Nat} (h : k < l.length) : com (l.take (k + 1)) t = (com (l.take k) t || (l[k].kind == 3 && l[k].txn == t)) := by
  unfold com; rw [List.take_succ_eq_append_getElem h, List.any_append]; simp
theorem ent_snoc (l : List Ent) (t : Int) {k : Nat} (h : k < l.length) : ent (l.take (k + 1)) t = (ent (l.take k) t || (l[k].txn == t)) := by
  unfold ent; rw [List.take_succ_eq_append_getElem h, List.any_append]; simp
theorem cget_put (c : List Two) (t v u : Int) : cget (kPut Prod.fst (t, v) c) u = if t = u then v else cget c u := by
  have h := kFnd_put Prod.fst (t, v) u c
  unfold cget
  cases h1 : kFnd Prod.fst u (kPut Prod.fst (t, v) c) with
  | none =>
    rw [h1] at h
    split at h
    · simp at h
    · rename_i hne
      have hne' : ¬ t = u := hne
      rw [if_neg hne']
      cases h2 : kFnd Prod.fst u c with
      | none => rfl
      | some y => rw [h2] at h; simp at h
  | some y =>
    rw [h1] at h
    split at h
    · rename_i he
      have he' : t = u := he
      rw [if_pos he']
      simp at h
      simp [h]
    · rename_i hne
      have hne' : ¬ t = u := hne
      rw [if_neg hne']
      cases h2 : kFnd Prod.fst u c with
      | none => rw [h2] at h; simp at h
      | some z => rw [h2] at h; simp at h; simp [h]
/-- what Analyse finds -/
structure AS.Law (l : List Ent) (s : AS) : Prop where
  done : ∀ t, (cget s.done t = 0) ↔ com l t = false
  seen : ∀ t, t ∈ s.seen.map Prod.fst ↔ ent l t = true
  coms : ∀ t, cntC s.coms t = if com l t then 1 else 0
theorem cntC_app (c : List Two) (x : Two) (t : Int) : cntC (c ++ [x]) t = cntC c t + if x.1 = t then 1 else 0 := by
  unfold cntC
  rw [List.filter_append, List.length_append]
  by_cases e : x.1 = t <;> simp [e]
theorem runA_law (ms : List Int) (l : List Ent) : ∀ k, k ≤ l.length → AS.Law (l.take k) (runA ms (l.take k))
  | 0, _ => ⟨by simp [runA, AS.init, cget, kFnd, com], by simp [runA, AS.init, ent], by simp [runA, AS.init, cntC, com]⟩
  | k + 1, h => by
    obtain ⟨h1, h2, h3⟩ := runA_law ms l k (by omega)
    have hok := runA_ok ms l k (by omega)
    rw [runA_snoc ms l h]
    generalize runA ms (l.take k) = s at *
    have hcs := com_snoc l (h := h)
    have hes := ent_snoc l (h := h)
    have hseen : ∀ t, t ∈ (kPut Prod.fst (l[k].txn, cget s.seen l[k].txn + 1) s.seen).map Prod.fst ↔ ent (l.take (k + 1)) t = true := by
      intro t
      have hk2 := kPut_keys Prod.fst (l[k].txn, cget s.seen l[k].txn + 1) s.seen
      have h2t := h2 t
      rw [hes, hk2]
      split
      · rename_i hm
        rw [h2t]
        constructor
        · intro q; rw [q]; rfl
        · intro q
          rcases Bool.or_eq_true _ _ ▸ q with q | q
          · exact q
          · have e : l[k].txn = t := by simpa using q
            rw [← h2 t, ← e]; exact hm
      · rename_i hm
        rw [List.mem_append, h2t]
        simp
        constructor
        · rintro (q | q)
          · exact .inl q
          · exact .inr q.symm
        · rintro (q | q)
          · exact .inl q
          · exact .inr q.symm
    unfold AS.step
    split
    · rename_i hk3
      simp only at hk3
      refine ⟨fun t => ?_, hseen, fun t => ?_⟩
      · show cget (kPut Prod.fst (l[k].txn, cget s.done l[k].txn + 1) s.done) t = 0 ↔ _
        rw [cget_put, hcs]
        have hb := cget_le hok.done l[k].txn
        by_cases e : l[k].txn = t
        · rw [if_pos e]
          simp [hk3, e]
          rw [e] at hb; omega
        · rw [if_neg e, h1 t]
          simp [e]
      · show cntC (if cget s.done l[k].txn = 0 then s.coms ++ [(l[k].txn, l[k].stamp)] else s.coms) t = _
        rw [hcs]
        have hd := h1 l[k].txn
        by_cases e0 : cget s.done l[k].txn = 0
        · rw [if_pos e0, cntC_app, h3 t]
          have hc := hd.1 e0
          by_cases e : l[k].txn = t
          · rw [e] at hc; simp [hc, hk3, e]
          · simp [e]
        · rw [if_neg e0, h3 t]
          have hc : com (l.take k) l[k].txn = true := by
            cases hq : com (l.take k) l[k].txn with
            | true => rfl
            | false => exact (e0 (hd.2 hq)).elim
          by_cases e : l[k].txn = t
          · rw [e] at hc; simp [hc]
          · simp [e]
    · rename_i hk3
      simp only at hk3
      refine ⟨fun t => ?_, hseen, fun t => ?_⟩
      · show cget s.done t = 0 ↔ _
        rw [hcs, h1 t]; simp [hk3]
      · show cntC s.coms t = _
        rw [hcs, h3 t]; simp [hk3]
theorem runA_law' (ms : List Int) (l : List Ent) : AS.Law l (runA ms l) := by
  have := runA_law ms l l.length (Nat.le_refl _)
  rwa [List.take_length] at this
theorem runA_ok' (ms : List Int) (l : List Ent) : (runA ms l).Ok l.length := by
  have := runA_ok ms l l.length (Nat.le_refl _)
  rwa [List.take_length] at this
theorem cntL_count (l : List Int) (t : Int) : cntL l t = l.count t := by
  unfold cntL; rw [← List.countP_eq_length_filter]; rfl
theorem lost_mem (ms : List Int) (l : List Ent) (t : Int) : t ∈ losers (runA ms l) ↔ ent l t = true ∧ com l t = false := by
  have h := runA_law' ms l
  unfold losers
  rw [List.mem_filter, h.seen t]
  simp [h.done t]
theorem lost_nodup (ms : List Int) (l : List Ent) : (losers (runA ms l)).Nodup := (runA_ok' ms l).ns.sublist List.filter_sublist
theorem lost_cnt (ms : List Int) (l : List Ent) (t : Int) : cntL (sortI (losers (runA ms l))) t = if ent l t = true ∧ com l t = false then 1 else 0 := by
  rw [cntL_count, (sortI_perm _).count_eq, (lost_nodup ms l).count]
  simp only [lost_mem]
theorem runA_frs (ms : List Int) (l : List Ent) : runA ms (frs l) = runA ms l := by
  unfold runA frs
  rw [List.zipIdx_map, List.foldl_map]
  rfl
theorem com_frs (l : List Ent) (t : Int) : com (frs l) t = com l t := by
  unfold com frs; rw [List.any_map]; rfl
theorem ent_frs (l : List Ent) (t : Int) : ent (frs l) t = ent l t := by
  unfold ent frs; rw [List.any_map]; rfl
/-- more entries -/
theorem step_more (ms : List Int) (s : AS) (x : Ent × Nat) : s.coms <+: (AS.step ms s x).coms ∧ s.pages.length ≤ (AS.step ms s x).pages.length ∧ s.last ≤ (AS.step ms s x).last := by
  unfold AS.step
  split
  · refine ⟨?_, Nat.le_refl _, by simp only; omega⟩
    simp only
    split
    · exact List.prefix_append _ _
    · exact List.prefix_rfl
  · refine ⟨List.prefix_rfl, ?_, by simp only; omega⟩
    simp only
    unfold kPut
    split <;> simp
theorem runA_more (ms : List Int) (l : List Ent) (n : Nat) : ∀ d, n + d ≤ l.length → (runA ms (l.take n)).coms <+: (runA ms (l.take (n + d))).coms ∧ (runA ms (l.take n)).pages.length ≤ (runA ms (l.take (n + d))).pages.length ∧ (runA ms (l.take n)).last ≤ (runA ms (l.take (n + d))).last
  | 0, _ => ⟨List.prefix_rfl, Nat.le_refl _, Int.le_refl _⟩
  | d + 1, h => by
    obtain ⟨h1, h2, h3⟩ := runA_more ms l n d (by omega)
    have hsn := runA_snoc ms l (k := n + d) (by omega)
    obtain ⟨g1, g2, g3⟩ := step_more ms (runA ms (l.take (n + d))) (l[n + d], n + d)
    rw [show n + (d + 1) = n + d + 1 from rfl, hsn]
    exact ⟨h1.trans g1, Nat.le_trans h2 g2, Int.le_trans h3 g3⟩
end Go.Proofs.Ytddhmoffjpnbgaa
