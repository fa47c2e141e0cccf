/- Own rows, also inside structs, lent to a function whose contract speaks of data and whose results hold new rows. -/
import Derived.Test.YtgodbpamppcfnaaVN8
import Derived.Test.YtgodbpamppcfnaaVN2
set_option linter.unusedSimpArgs false
set_option linter.unusedVariables false
namespace Go.VL
open Go.RowKit
/-- an argument, also a struct, as a datum -/
def seenB (b : List (Nat × Res)) : S → S → Prop
  | .st ss, .agg ds => seenAs b ss (ds.map .c)
  | s, d => seenA b s d
def seenBs (b : List (Nat × Res)) : List S → List S → Prop
  | [], [] => True
  | s :: r, d :: l => seenB b s d ∧ seenBs b r l
  | _, _ => False
mutual
/-- plain, or own rows -/
def flatS1 : S → Bool
  | .c x => flatC x
  | .own _ _ => true
  | .st ss => flatS2 ss
  | _ => false
def flatS2 : List S → Bool
  | [] => true
  | s :: r => flatS1 s && flatS2 r
end
def flatArr : Res → Bool
  | .arr _ _ xs fx => xs.all (fun e => e.all flatC) && fx == 0
  | _ => false
theorem VR_of_SRs {g : G} {w : World} {R : Nat → Option Res} : ∀ (cs : List C) (us : List Value), SRs g w R (cs.map .c) us → VR g.K w cs us
  | [], us, h => by rw [List.map_nil, SRs] at h; rw [VR]; exact h
  | c :: r, us, h => by
    rw [List.map_cons, SRs] at h
    obtain ⟨u, us', rfl, h1, h2⟩ := h
    rw [VR]
    rw [SR] at h1
    exact ⟨u, us', rfl, h1, VR_of_SRs r us' h2⟩
mutual
theorem flatS1_ok {g g' : G} {w w' : World} {R R' : Nat → Option Res} (hR : ∀ i nil sz xs fx, R' i = some (.arr nil sz xs fx) → (∀ _ : True, True) → True) : ∀ (s : S) (u : Value), flatS1 s = true → (∀ i, i ∈ s.nam → R i = R' i ∧ g'.loc i = g.loc i) → SR g w R s u → SR g' w' R' s u
  | .c x, u, hf, _, h => by rw [flatS1] at hf; rw [SR] at h ⊢; exact flat_CR hf h
  | .own i n, u, _, hn, h => by
    rw [SR] at h ⊢
    intro nil sz xs fx e1 e2
    obtain ⟨q1, q2⟩ := hn i (by simp [S.nam])
    rw [q2]
    exact h nil sz xs fx (by rw [q1]; exact e1) e2
  | .st ss, u, hf, hn, h => by
    rw [flatS1] at hf
    rw [SR] at h ⊢
    obtain ⟨us, rfl, h1, h2⟩ := h
    exact ⟨us, rfl, flatS2_ok hR ss us hf (fun i hi => hn i (by rw [S.nam]; exact hi)) h1, h2⟩
  | .agg _, _, hf, _, _ => by simp [flatS1] at hf
  | .tup _, _, hf, _, _ => by simp [flatS1] at hf
  | .ptr _ _, _, hf, _, _ => by simp [flatS1] at hf
  | .ep _ _ _ _, _, hf, _, _ => by simp [flatS1] at hf
  | .g _ _, _, hf, _, _ => by simp [flatS1] at hf
  | .suf _ _ _, _, hf, _, _ => by simp [flatS1] at hf
  | .fnp _ _, _, hf, _, _ => by simp [flatS1] at hf
  | .mp _, _, hf, _, _ => by simp [flatS1] at hf
  | .me _ _ _, _, hf, _, _ => by simp [flatS1] at hf
  | .pre _ _ _, _, hf, _, _ => by simp [flatS1] at hf
  | .un, _, hf, _, _ => by simp [flatS1] at hf
theorem flatS2_ok {g g' : G} {w w' : World} {R R' : Nat → Option Res} (hR : ∀ i nil sz xs fx, R' i = some (.arr nil sz xs fx) → (∀ _ : True, True) → True) : ∀ (ss : List S) (us : List Value), flatS2 ss = true → (∀ i, i ∈ S.nams ss → R i = R' i ∧ g'.loc i = g.loc i) → SRs g w R ss us → SRs g' w' R' ss us
  | [], us, _, _, h => by rw [SRs] at h ⊢; exact h
  | s :: r, us, hf, hn, h => by
    rw [flatS2, Bool.and_eq_true] at hf
    rw [SRs] at h ⊢
    obtain ⟨u, us', rfl, h1, h2⟩ := h
    exact ⟨u, us', rfl, flatS1_ok hR s u hf.1 (fun i hi => hn i (by rw [S.nams]; exact List.mem_append_left _ hi)) h1, flatS2_ok hR r us' hf.2 (fun i hi => hn i (by rw [S.nams]; exact List.mem_append_right _ hi)) h2⟩
end

theorem men_seenA {b : List (Nat × Res)} {j : Nat} : ∀ (s d : S), seenA b s d → s.men j = true → (lk b j).isSome = true
  | .own i n, .c (.sl nil xs), h, hj => by
    obtain ⟨sz, fx, h3, _⟩ := h
    simp [S.men] at hj; subst hj
    rw [h3]; rfl
  | .pre i n m, .c (.sl nil xs), h, hj => by
    obtain ⟨_, sz, ys, fx, h3, _⟩ := h
    simp [S.men] at hj; subst hj
    rw [h3]; rfl
  | .c x, _, _, hj => by simp [S.men] at hj
  | .agg x, _, _, hj => by simp [S.men] at hj
theorem men_seenAs {b : List (Nat × Res)} {j : Nat} : ∀ (ss ds : List S), seenAs b ss ds → S.mens j ss = true → (lk b j).isSome = true
  | [], _, _, hj => by simp [S.mens] at hj
  | s :: r, [], h, _ => h.elim
  | s :: r, d :: l, h, hj => by
    rw [S.mens, Bool.or_eq_true] at hj
    rcases hj with hj | hj
    · exact men_seenA s d h.1 hj
    · exact men_seenAs r l h.2 hj
theorem men_seenBs {b : List (Nat × Res)} {j : Nat} : ∀ (ss ds : List S), seenBs b ss ds → S.mens j ss = true → (lk b j).isSome = true
  | [], _, _, hj => by simp [S.mens] at hj
  | s :: r, [], h, _ => h.elim
  | s :: r, d :: l, h, hj => by
    rw [S.mens, Bool.or_eq_true] at hj
    rcases hj with hj | hj
    · have h1 := h.1
      cases s with
      | st ss =>
        cases d with
        | agg ds => exact men_seenAs ss _ h1 (by rw [S.men] at hj; exact hj)
        | _ => exact h1.elim
      | c x => exact men_seenA (.c x) d h1 hj
      | agg x => exact men_seenA (.agg x) d h1 hj
      | own i n => exact men_seenA (.own i n) d h1 hj
      | pre i n m => exact men_seenA (.pre i n m) d h1 hj
      | _ => exact h1.elim
    · exact men_seenBs r l h.2 hj
/-- a contract that tells besides that what is lent stays where it is -/
def ConK (P : Program) (f : FuncId) (args : List S) (b : List (Nat × Res)) (rs args' : List S) (b' : List (Nat × Res)) : Prop :=
  callable P f = true ∧ ∀ (w : World) (g : G) (us : List Value), M w ⟨g.K, lent g b, []⟩ (lk b) w g → SRs g w (lk b) args us →
    Calls P f us.toArray w fun e w' => ∃ (vs : List Value) (g' : G), e = .returned (retV vs) ∧ M w ⟨g.K, lent g b, []⟩ (lk b') w' g' ∧ SRs g' w' (lk b') rs vs ∧ SRs g' w' (lk b') args' us ∧ ∀ i r, lk b i = some r → g'.loc i = g.loc i
theorem ConK.seenB {P : Program} {f : FuncId} {b b1 : List (Nat × Res)} {as0 ds rs1 as1 : List S} (hb : ∀ p ∈ b, isArr p.2 = true) (hN : ∀ p ∈ b, p.1 ∉ b1.map (·.1))
    (hA0 : seenBs b as0 ds) (hfl : ∀ p ∈ b1, flatArr p.2 = true) (hrs : flatS2 rs1 = true) (hcl : ∀ j ∈ S.nams rs1, j ∈ b1.map (·.1)) (h : ConB P f ds [] rs1 as1 b1) : ConK P f as0 b rs1 as0 (b ++ b1) := by
  refine ⟨h.1, fun w g us hM hargs => ?_⟩
  let K1 : Nat → Nat → Prop := fun b' o => g.K b' o ∨ ∃ i nil sz xs fx, lk b i = some (Res.arr nil sz xs fx) ∧ blk (g.loc i) = some b' ∧ o < xs.length * sz
  have kp : Keeps g.K w K1 w := ⟨fun _ _ h => .inl h, fun _ _ _ => rfl⟩
  have hlt1 : ∀ b' o, K1 b' o → b' < w.heap.size := by
    rintro b' o (h | ⟨i, nil, sz, xs, fx, h1, h2, h3⟩)
    · exact hM.klt b' o h
    · exact (hM.res i _ h1).lt h2
  have hpre : ∀ i nil sz xs fx m, lk b i = some (Res.arr nil sz xs fx) → m ≤ xs.length → nil = false → ∃ b' cap, g.loc i = .slice (some ⟨b', 0, none⟩) xs.length cap ∧ xs.length ≤ cap ∧ cap ≤ maxLen ∧ CR K1 w (.sl false (xs.take m)) (.slice (some ⟨b', 0, none⟩) m cap) := by
    rintro i nil sz xs fx m hi hm rfl
    rcases hM.res i _ hi with ⟨q, _⟩ | ⟨_, b', cap, cur, E, q1, q2, q3, q4, q5, q6, q7, q8, q9⟩
    · cases q
    · refine ⟨b', cap, q1, q4, q5, ?_⟩
      rw [CR]
      have hml : (xs.take m).length = m := by simp; omega
      refine .inr ⟨rfl, b', 0, none, cap, sz, by rw [hml], by rw [hml]; omega, q5, .inr rfl, ?_⟩
      rw [ER_iff]
      intro j e hj
      rw [List.getElem?_take] at hj
      split at hj
      · rename_i hjm
        obtain ⟨k1, k2⟩ := q8 j e hj
        refine ⟨k1, ?_⟩
        rw [LR_iff]
        intro k c hc
        obtain ⟨u, e1, e2⟩ := k2 k c hc
        have hjlt : j < xs.length := (List.getElem?_eq_some_iff.1 hj).1
        have hklt : k < sz := by rw [← k1]; exact (List.getElem?_eq_some_iff.1 hc).1
        have hle : (j + 1) * sz ≤ xs.length * sz := Nat.mul_le_mul_right _ (by omega)
        rw [Nat.add_mul] at hle
        refine ⟨.inr ⟨i, false, sz, xs, fx, hi, by rw [q1]; rfl, by omega⟩, u, ?_, CR.mono kp c u e2⟩
        rw [cell_of_heap q3, Nat.zero_add]; exact e1
      · cases hj
  have hdata : ∀ (as0 ds : List S) (us : List Value), seenAs b as0 ds → SRs g w (lk b) as0 us → SRs ⟨K1, fun _ => undef⟩ w (lk []) ds us := by
    intro as0
    induction as0 with
    | nil =>
      intro ds us hA hs
      cases ds with
      | nil => rw [SRs] at hs ⊢; exact hs
      | cons _ _ => exact hA.elim
    | cons s r ih =>
      intro ds us hA hs
      cases ds with
      | nil => exact hA.elim
      | cons d l =>
        obtain ⟨hA1, hA2⟩ := hA
        rw [SRs] at hs
        obtain ⟨u, us', rfl, h1, h2⟩ := hs
        have := ih l us' hA2 h2
        rw [SRs]
        refine ⟨u, us', rfl, ?_, this⟩
        cases s with
        | c x =>
          cases d with
          | c y => obtain rfl : x = y := hA1; rw [SR] at h1 ⊢; exact CR.mono kp x u h1
          | _ => exact hA1.elim
        | agg x =>
          cases d with
          | agg y =>
            obtain rfl : x = y := hA1
            rw [SR] at h1 ⊢
            obtain ⟨vs, e1, e2⟩ := h1
            exact ⟨vs, e1, VR.mono kp x vs e2⟩
          | _ => exact hA1.elim
        | own i n =>
          cases d with
          | c y =>
            cases y with
            | sl nil xs =>
              obtain ⟨sz, fx, h3, h4⟩ := hA1
              rw [SR] at h1
              have hu := h1 nil sz xs fx h3 h4
              show SR _ _ _ (S.c (C.sl nil xs)) u
              simp only [SR]
              cases nil with
              | true =>
                rcases hM.res i _ h3 with ⟨_, q1, q2, _⟩ | ⟨q, _⟩
                · subst q1; rw [CR]; exact .inl ⟨rfl, rfl, by rw [hu, q2]⟩
                · cases q
              | false =>
                obtain ⟨b', cap, e1, e2, e3, e4⟩ := hpre i false sz xs fx xs.length h3 (Nat.le_refl _) rfl
                rw [hu, e1]
                rw [List.take_length] at e4
                exact e4
            | _ => exact hA1.elim
          | _ => exact hA1.elim
        | pre i n m =>
          cases d with
          | c y =>
            cases y with
            | sl nil xs =>
              obtain ⟨rfl, sz, ys, fx, h3, h4, h5, rfl⟩ := hA1
              rw [SR] at h1
              simp only [SR]
              obtain ⟨aa, cc, q1, q2⟩ := h1 false sz ys fx h3 h4
              obtain ⟨b', cap, e1, e2, e3, e4⟩ := hpre i false sz ys fx m h3 (by omega) rfl
              rw [e1, h4] at q1
              cases q1
              rw [q2]
              exact e4
            | _ => exact hA1.elim
          | _ => exact hA1.elim
        | _ => exact hA1.elim
  have hdataB : ∀ (as0 ds : List S) (us : List Value), seenBs b as0 ds → SRs g w (lk b) as0 us → SRs ⟨K1, fun _ => undef⟩ w (lk []) ds us := by
    intro as0
    induction as0 with
    | nil =>
      intro ds us hA hs
      cases ds with
      | nil => rw [SRs] at hs ⊢; exact hs
      | cons _ _ => exact hA.elim
    | cons s r ih =>
      intro ds us hA hs
      cases ds with
      | nil => exact hA.elim
      | cons d l =>
        obtain ⟨hA1, hA2⟩ := hA
        rw [SRs] at hs
        obtain ⟨u, us', rfl, h1, h2⟩ := hs
        have hone : seenA b s d → SR ⟨K1, fun _ => undef⟩ w (lk []) d u := fun q => by
          have := hdata [s] [d] [u] ⟨q, trivial⟩ (by rw [SRs]; exact ⟨u, [], rfl, h1, by rw [SRs]⟩)
          rw [SRs] at this
          obtain ⟨u2, us2, e, q1, _⟩ := this
          cases e
          exact q1
        rw [SRs]
        refine ⟨u, us', rfl, ?_, ih l us' hA2 h2⟩
        cases s with
        | st ss =>
          cases d with
          | agg ds =>
            rw [SR] at h1
            obtain ⟨vs, rfl, k1, k2⟩ := h1
            rw [SR]
            exact ⟨vs, rfl, VR_of_SRs (g := ⟨K1, fun _ => undef⟩) ds vs (hdata ss _ vs hA1 k1)⟩
          | _ => exact hA1.elim
        | _ => exact hone hA1
  have hM1 : M w ⟨K1, lent ⟨K1, fun _ => undef⟩ [], []⟩ (lk []) w ⟨K1, fun _ => undef⟩ := by
    refine ⟨Bel.refl _ _ _, fun _ _ k => k, fun _ _ k _ => k, hlt1, fun i r hi => by simp [lk, vlook] at hi, fun i j ri rj hi => by simp [lk, vlook] at hi, fun _ _ _ => rfl⟩
  refine (h.2 w ⟨K1, fun _ => undef⟩ us hM1 (hdataB as0 ds us hA0 hargs)).mono fun e w' ⟨vs, g1, he, hM2, hrs2, _⟩ => ?_
  have hnl : ∀ k, ¬ lent ⟨K1, fun _ => undef⟩ [] k := fun k ⟨i, r, hi, _⟩ => by simp [lk, vlook] at hi
  have hsz := hM2.below.size
  have hblock : ∀ k, k < w.heap.size → w'.heap[k]? = w.heap[k]? := fun k hk => hM2.below.block k ⟨hk, hnl k⟩
  let g' : G := ⟨g.K, fun i => if i ∈ b1.map (·.1) then g1.loc i else g.loc i⟩
  have hkeep : Keeps g.K w g'.K w' := ⟨fun _ _ h => h, fun b o hk => by
    have := hM.klt b o hk
    simp only [World.cell?]; rw [hblock b this]⟩
  have hold : ∀ i r, lk b i = some r → g'.loc i = g.loc i ∧ lk (b ++ b1) i = some r := fun i r hi => by
    refine ⟨?_, by rw [lk_append, hi]; rfl⟩
    show (if _ then _ else _) = _
    rw [if_neg (hN (i, r) (lk_mem hi))]
  have hnew : ∀ i, i ∈ b1.map (·.1) → lk (b ++ b1) i = lk b1 i ∧ g'.loc i = g1.loc i := fun i hi => by
    refine ⟨?_, if_pos hi⟩
    rw [lk_append, if_neg]
    intro q
    obtain ⟨r, hr⟩ := Option.isSome_iff_exists.1 q
    exact hN (i, r) (lk_mem hr) hi
  have hfresh : ∀ i r, lk (b ++ b1) i = some r → lk b i = some r ∨ (lk b1 i = some r ∧ i ∈ b1.map (·.1)) := fun i r hi => by
    rw [lk_append] at hi
    split at hi
    · exact .inl hi
    · exact .inr ⟨hi, List.mem_map.2 ⟨(i, r), lk_mem hi, rfl⟩⟩
  have hge : ∀ i r k, lk b1 i = some r → blk (g1.loc i) = some k → w.heap.size ≤ k := fun i r k hi hk => by
    have hr := (hM2.res i r hi).block hk
    rcases Nat.lt_or_ge k w.heap.size with q | q
    · exact (hr.1 ⟨q, hnl k⟩).elim
    · exact q
  refine ⟨vs, g', he, ⟨⟨hM2.below.os, hM2.below.tape, hM2.below.output, hsz, fun k hk => hblock k hk.1, hM2.below.drawn⟩, fun _ _ h => h, hM.kold, fun b o hk => Nat.lt_of_lt_of_le (hM.klt b o hk) hsz, fun i r hi => ?_, fun i j ri rj hi hj hne k h1 h2 => ?_, fun b o hk => hkeep.cell b o hk⟩, ?_, ?_, fun i r hi => (hold i r hi).1⟩
  · rcases hfresh i r hi with hb1 | ⟨hb1, hm1⟩
    · have hr := hM.res i r hb1
      obtain ⟨e1, e2⟩ := hold i r hb1
      have har := hb (i, r) (lk_mem hb1)
      refine RR.mono hkeep e1 (fun b' hb' => ⟨hblock b' (hr.lt hb'), fun _ h => h⟩) (fun fz ss e => by subst e; cases har) (fun v s e => by subst e; cases har) (fun m e => by subst e; cases har) hr
    · have hf := hfl (i, r) (lk_mem hb1)
      have hr := hM2.res i r hb1
      obtain ⟨_, e2⟩ := hnew i hm1
      cases r with
      | arr nil sz xs fx =>
        simp only [flatArr, Bool.and_eq_true, List.all_eq_true, beq_iff_eq] at hf
        obtain ⟨f1, rfl⟩ := hf
        rcases hr with ⟨s1, s2, s3, s4⟩ | ⟨s0, b', cap, cur, E, s1, s2, s3, s4, s5, s6, s7, s8, s9⟩
        · exact .inl ⟨s1, s2, by rw [e2]; exact s3, rfl⟩
        · have hb' := hge i _ b' hb1 (by rw [s1]; rfl)
          refine .inr ⟨s0, b', cap, cur, E, by rw [e2]; exact s1, fun ho => by have := ho.1; omega, s3, s4, s5, s6, by omega, fun j e hj => ?_, fun o => ⟨fun hk => by have := hM.klt b' o hk; omega, fun ho => by omega⟩⟩
          obtain ⟨t1, t2⟩ := s8 j e hj
          refine ⟨t1, fun kk c hc => ?_⟩
          obtain ⟨u, u1, u2⟩ := t2 kk c hc
          exact ⟨u, u1, flat_CR (f1 e (List.mem_of_getElem? hj) c (List.mem_of_getElem? hc)) u2⟩
      | _ => cases hf
  · rcases hfresh i ri hi with hb1 | ⟨hb1, hm1⟩
    · rcases hfresh j rj hj with hb2 | ⟨hb2, hm2⟩
      · rw [(hold i ri hb1).1] at h1
        rw [(hold j rj hb2).1] at h2
        exact hM.dis i j ri rj hb1 hb2 hne k h1 h2
      · rw [(hold i ri hb1).1] at h1
        rw [(hnew j hm2).2] at h2
        have := hge j rj k hb2 h2
        have := (hM.res i ri hb1).lt h1
        omega
    · rw [(hnew i hm1).2] at h1
      have hk1 := hge i ri k hb1 h1
      rcases hfresh j rj hj with hb2 | ⟨hb2, hm2⟩
      · rw [(hold j rj hb2).1] at h2
        have := (hM.res j rj hb2).lt h2
        omega
      · rw [(hnew j hm2).2] at h2
        exact hM2.dis i j ri rj hb1 hb2 hne k h1 h2
  · refine flatS2_ok (g := g1) (w := w') (R := lk b1) (fun _ _ _ _ _ _ _ => trivial) rs1 vs hrs (fun i hi => ?_) hrs2
    obtain ⟨q1, q2⟩ := hnew i (hcl i hi)
    exact ⟨q1.symm, q2⟩
  · refine SRs.mono hkeep as0 us (fun j hj => ?_) hargs
    cases hq : lk b j with
    | some r =>
      obtain ⟨q1, q2⟩ := hold j r hq
      exact Cmp.same (by rw [q2, hq]) q1
    | none => have := men_seenBs as0 ds hA0 hj; rw [hq] at this; cases this
end Go.VL
