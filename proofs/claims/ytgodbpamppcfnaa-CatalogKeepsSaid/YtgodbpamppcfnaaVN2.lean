/- Own rows lent to functions whose contracts speak of data; results in new memory, of plain cells. -/
import Derived.Test.YtgodbpamppcfnaaVN1
set_option linter.unusedSimpArgs false
set_option linter.unusedVariables false
namespace Go.VL
open Go.RowKit

/-- an argument, as a datum -/
def seenA (b : List (Nat × Res)) : S → S → Prop
  | .c x, .c y => x = y
  | .agg x, .agg y => x = y
  | .own i n, .c (.sl nil xs) => ∃ sz fx, lk b i = some (Res.arr nil sz xs fx) ∧ xs.length = n
  | .pre i n m, .c (.sl nil xs) => nil = false ∧ ∃ sz ys fx, lk b i = some (.arr false sz ys fx) ∧ ys.length = n ∧ m ≤ n ∧ xs = ys.take m
  | _, _ => False
def seenAs (b : List (Nat × Res)) : List S → List S → Prop
  | [], [] => True
  | s :: r, d :: l => seenA b s d ∧ seenAs b r l
  | _, _ => False
/-- is a result plain, or a new row of plain cells, none of which stays? -/
def flatC : C → Bool
  | .v _ => true
  | _ => false
def flatR : Rt → Bool
  | .c x => flatC x
  | .fr _ _ xs fx => xs.all (fun e => e.all flatC) && fx == 0
  | _ => false
def resS (N : Nat) : List Rt → List S
  | [] => []
  | .c x :: r => .c x :: resS (N + 1) r
  | .ag cs :: r => .agg cs :: resS (N + 1) r
  | .fr _ _ xs _ :: r => .own N xs.length :: resS (N + 1) r
def resB (N : Nat) : List Rt → List (Nat × Res)
  | [] => []
  | .fr nil sz xs fx :: r => (N, .arr nil sz xs fx) :: resB (N + 1) r
  | _ :: r => resB (N + 1) r
def isArr : Res → Bool
  | .arr .. => true
  | _ => false

theorem lk_append (b c : List (Nat × Res)) (i : Nat) : lk (b ++ c) i = if (lk b i).isSome then lk b i else lk c i := by
  induction b with
  | nil => simp [lk, vlook]
  | cons p b ih =>
    unfold lk at ih ⊢
    simp only [List.cons_append, List.map_cons, vlook]
    cases p.1 == i with
    | true => simp
    | false => simpa using ih
theorem lk_resB : ∀ (rts : List Rt) (N i : Nat) (r : Res), lk (resB N rts) i = some r → ∃ k nil sz xs fx, i = N + k ∧ rts[k]? = some (Rt.fr nil sz xs fx) ∧ r = .arr nil sz xs fx
  | [], N, i, r, h => by simp [resB, lk, vlook] at h
  | .c x :: l, N, i, r, h => by
    obtain ⟨k, nil, sz, xs, fx, h1, h2, h3⟩ := lk_resB l (N + 1) i r h
    exact ⟨k + 1, nil, sz, xs, fx, by omega, by simpa using h2, h3⟩
  | .ag x :: l, N, i, r, h => by
    obtain ⟨k, nil, sz, xs, fx, h1, h2, h3⟩ := lk_resB l (N + 1) i r h
    exact ⟨k + 1, nil, sz, xs, fx, by omega, by simpa using h2, h3⟩
  | .fr nil sz xs fx :: l, N, i, r, h => by
    rw [resB] at h
    unfold lk at h
    simp only [List.map_cons, vlook] at h
    cases hk : (N == i) with
    | true =>
      rw [hk] at h
      simp at h hk
      exact ⟨0, nil, sz, xs, fx, by omega, rfl, h.symm⟩
    | false =>
      rw [hk] at h
      obtain ⟨k, nil, sz, xs, fx, h1, h2, h3⟩ := lk_resB l (N + 1) i r h
      exact ⟨k + 1, nil, sz, xs, fx, by omega, by simpa using h2, h3⟩
theorem resB_at : ∀ (rts : List Rt) (N k : Nat) (nil : Bool) (sz : Nat) (xs : List (List C)) (fx : Nat), rts[k]? = some (Rt.fr nil sz xs fx) → lk (resB N rts) (N + k) = some (Res.arr nil sz xs fx)
  | [], N, k, nil, sz, xs, fx, h => by simp at h
  | r :: l, N, 0, nil, sz, xs, fx, h => by
    simp at h; subst h
    simp [resB, lk, vlook]
  | r :: l, N, k + 1, nil, sz, xs, fx, h => by
    have ih := resB_at l (N + 1) k nil sz xs fx (by simpa using h)
    rw [show N + (k + 1) = N + 1 + k from by omega]
    cases r with
    | c x => exact ih
    | ag x => exact ih
    | fr n2 s2 x2 f2 =>
      rw [resB]
      unfold lk at ih ⊢
      simp only [List.map_cons, vlook]
      rw [show (N == N + 1 + k) = false from by simp; omega]
      exact ih
theorem resS_len (rts : List Rt) : ∀ N, (resS N rts).length = rts.length := by
  induction rts with
  | nil => intro N; rfl
  | cons r l ih => intro N; cases r <;> simp [resS, ih]
theorem resS_at : ∀ (rts : List Rt) (N k : Nat) (s : S), (resS N rts)[k]? = some s → ∃ r, rts[k]? = some r ∧ s = (match r with | .c x => S.c x | .ag cs => .agg cs | .fr _ _ xs _ => .own (N + k) xs.length)
  | [], N, k, s, h => by simp [resS] at h
  | r :: l, N, 0, s, h => by
    cases r <;> simp [resS] at h <;> exact ⟨_, rfl, by simp [← h]⟩
  | r :: l, N, k + 1, s, h => by
    have : (resS (N + 1) l)[k]? = some s := by cases r <;> simpa [resS] using h
    obtain ⟨r', h1, h2⟩ := resS_at l (N + 1) k s this
    refine ⟨r', by simpa using h1, ?_⟩
    rw [h2, show N + (k + 1) = N + 1 + k from by omega]
theorem flat_CR {K K' : Nat → Nat → Prop} {w w' : World} {c : C} {u : Value} (hf : flatC c = true) (h : CR K w c u) : CR K' w' c u := by
  cases c with
  | v x => rw [CR] at h ⊢; exact h
  | _ => cases hf

theorem ConB.seenX {P : Program} {f : FuncId} (hc : callable P f = true) {b : List (Nat × Res)} {as0 ds : List S} {rts : List Rt} (N : Nat) (hb : ∀ p ∈ b, isArr p.2 = true) (hN : ∀ p ∈ b, ∀ k, k < rts.length → p.1 ≠ N + k)
    (hA : seenAs b as0 ds) (hfl : rts.all flatR = true) (h : Con P f ds rts) : ConB P f as0 b (resS N rts) as0 (b ++ resB N rts) := by
  refine ⟨hc, fun w g us hM hargs => ?_⟩
  let K1 : Nat → Nat → Prop := fun b' o => g.K b' o ∨ ∃ i nil sz xs fx, lk b i = some (Res.arr nil sz xs fx) ∧ blk (g.loc i) = some b' ∧ o < xs.length * sz
  have kp : Keeps g.K w K1 w := ⟨fun _ _ h => .inl h, fun _ _ _ => rfl⟩
  have hlt1 : ∀ b' o, K1 b' o → b' < w.heap.size := by
    rintro b' o (h | ⟨i, nil, sz, xs, fx, h1, h2, h3⟩)
    · exact hM.klt b' o h
    · exact (hM.res i _ h1).lt h2
  have hpre : ∀ i nil sz xs fx m, lk b i = some (Res.arr nil sz xs fx) → m ≤ xs.length → nil = false → ∃ b' cap, g.loc i = .slice (some ⟨b', 0, none⟩) xs.length cap ∧ xs.length ≤ cap ∧ cap ≤ maxLen ∧ CR K1 w (.sl false (xs.take m)) (.slice (some ⟨b', 0, none⟩) m cap) := by
    rintro i nil sz xs fx m hi hm rfl
    rcases hM.res i _ hi with ⟨q, _⟩ | ⟨_, b', cap, cur, E, q1, q2, q3, q4, q5, q6, q7, q8, q9⟩
    · cases q
    · refine ⟨b', cap, q1, q4, q5, ?_⟩
      rw [CR]
      have hml : (xs.take m).length = m := by simp; omega
      refine .inr ⟨rfl, b', 0, none, cap, sz, by rw [hml], by rw [hml]; omega, q5, .inr rfl, ?_⟩
      rw [ER_iff]
      intro j e hj
      rw [List.getElem?_take] at hj
      split at hj
      · rename_i hjm
        obtain ⟨k1, k2⟩ := q8 j e hj
        refine ⟨k1, ?_⟩
        rw [LR_iff]
        intro k c hc
        obtain ⟨u, e1, e2⟩ := k2 k c hc
        have hjlt : j < xs.length := (List.getElem?_eq_some_iff.1 hj).1
        have hklt : k < sz := by rw [← k1]; exact (List.getElem?_eq_some_iff.1 hc).1
        have hle : (j + 1) * sz ≤ xs.length * sz := Nat.mul_le_mul_right _ (by omega)
        rw [Nat.add_mul] at hle
        refine ⟨.inr ⟨i, false, sz, xs, fx, hi, by rw [q1]; rfl, by omega⟩, u, ?_, CR.mono kp c u e2⟩
        rw [cell_of_heap q3, Nat.zero_add]; exact e1
      · cases hj
  have hdata : ∀ (as0 ds : List S) (us : List Value), seenAs b as0 ds → SRs g w (lk b) as0 us → DRs K1 w ds us := by
    intro as0
    induction as0 with
    | nil =>
      intro ds us hA hs
      cases ds with
      | nil => unfold DRs; rw [SRs] at hs ⊢; exact hs
      | cons _ _ => exact hA.elim
    | cons s r ih =>
      intro ds us hA hs
      cases ds with
      | nil => exact hA.elim
      | cons d l =>
        obtain ⟨hA1, hA2⟩ := hA
        rw [SRs] at hs
        obtain ⟨u, us', rfl, h1, h2⟩ := hs
        have := ih l us' hA2 h2
        unfold DRs at this ⊢
        rw [SRs]
        refine ⟨u, us', rfl, ?_, this⟩
        cases s with
        | c x =>
          cases d with
          | c y => obtain rfl : x = y := hA1; rw [SR] at h1 ⊢; exact CR.mono kp x u h1
          | _ => exact hA1.elim
        | agg x =>
          cases d with
          | agg y =>
            obtain rfl : x = y := hA1
            rw [SR] at h1 ⊢
            obtain ⟨vs, e1, e2⟩ := h1
            exact ⟨vs, e1, VR.mono kp x vs e2⟩
          | _ => exact hA1.elim
        | own i n =>
          cases d with
          | c y =>
            cases y with
            | sl nil xs =>
              obtain ⟨sz, fx, h3, h4⟩ := hA1
              rw [SR] at h1
              have hu := h1 nil sz xs fx h3 h4
              show SR _ _ _ (S.c (C.sl nil xs)) u
              simp only [SR]
              cases nil with
              | true =>
                rcases hM.res i _ h3 with ⟨_, q1, q2, _⟩ | ⟨q, _⟩
                · subst q1; rw [CR]; exact .inl ⟨rfl, rfl, by rw [hu, q2]⟩
                · cases q
              | false =>
                obtain ⟨b', cap, e1, e2, e3, e4⟩ := hpre i false sz xs fx xs.length h3 (Nat.le_refl _) rfl
                rw [hu, e1]
                rw [List.take_length] at e4
                exact e4
            | _ => exact hA1.elim
          | _ => exact hA1.elim
        | pre i n m =>
          cases d with
          | c y =>
            cases y with
            | sl nil xs =>
              obtain ⟨rfl, sz, ys, fx, h3, h4, h5, rfl⟩ := hA1
              rw [SR] at h1
              simp only [SR]
              obtain ⟨aa, cc, q1, q2⟩ := h1 false sz ys fx h3 h4
              obtain ⟨b', cap, e1, e2, e3, e4⟩ := hpre i false sz ys fx m h3 (by omega) rfl
              rw [e1, h4] at q1
              cases q1
              rw [q2]
              exact e4
            | _ => exact hA1.elim
          | _ => exact hA1.elim
        | _ => exact hA1.elim
  refine ((h w K1 us hlt1 (hdata as0 ds us hA hargs)).calls hc).mono fun e w' ⟨vs, he, hbel, K', p1, p2, p3, p4⟩ => ?_
  obtain ⟨r1, r2, r3⟩ := p4
  have hsz := hbel.size
  let g' : G := ⟨g.K, fun i => if N ≤ i ∧ i < N + rts.length then vs.getD (i - N) undef else g.loc i⟩
  have hkeep : Keeps g.K w g'.K w' := ⟨fun _ _ h => h, fun b o hk => by
    have := hM.klt b o hk
    simp only [World.cell?]; rw [hbel.block b this]⟩
  have hold : ∀ i r, lk b i = some r → g'.loc i = g.loc i ∧ lk (b ++ resB N rts) i = some r := fun i r hi => by
    refine ⟨?_, by rw [lk_append, hi]; rfl⟩
    show (if _ then _ else _) = _
    rw [if_neg]
    rintro ⟨q1, q2⟩
    exact hN (i, r) (lk_mem hi) (i - N) (by omega) (by simp; omega)
  have hfresh : ∀ i r, lk (b ++ resB N rts) i = some r → lk b i = some r ∨ ∃ k nil sz xs fx, i = N + k ∧ rts[k]? = some (Rt.fr nil sz xs fx) ∧ r = .arr nil sz xs fx ∧ g'.loc i = vs.getD k undef := fun i r hi => by
    rw [lk_append] at hi
    split at hi
    · exact .inl hi
    · right
      obtain ⟨k, nil, sz, xs, fx, q1, q2, q3⟩ := lk_resB rts N i r hi
      refine ⟨k, nil, sz, xs, fx, q1, q2, q3, ?_⟩
      have hk : k < rts.length := (List.getElem?_eq_some_iff.1 q2).1
      show (if _ then _ else _) = _
      rw [if_pos (by omega)]
      congr 1
      omega
  have hvs : ∀ k r, rts[k]? = some r → ∃ v, vs[k]? = some v ∧ vs.getD k undef = v ∧ RtR K' w' w.heap.size r v := fun k r hk => by
    have hlt : k < vs.length := by rw [r1]; exact (List.getElem?_eq_some_iff.1 hk).1
    exact ⟨vs[k], by simp [hlt], by simp [List.getD, hlt], r2 k r _ hk (by simp [hlt])⟩
  have hge : ∀ k nil sz xs fx v b', rts[k]? = some (Rt.fr nil sz xs fx) → vs[k]? = some v → blk v = some b' → w.heap.size ≤ b' := fun k nil sz xs fx v b' hk hv hb' => by
    have := r2 k _ v hk hv
    rw [RtR] at this
    rcases this with ⟨_, _, q, _⟩ | ⟨_, b2, cap, cur, E, q1, q2, _⟩
    · simp at q; rw [q] at hb'; simp [blk] at hb'
    · simp at q1; rw [q1] at hb'; simp [blk] at hb'; omega
  have hcmp : ∀ i, (lk b i).isSome = true → Cmp g (lk b) g' (lk (b ++ resB N rts)) i := fun i hi => by
    obtain ⟨r, hr⟩ := Option.isSome_iff_exists.1 hi
    obtain ⟨q1, q2⟩ := hold i r hr
    exact Cmp.same (by rw [q2, hr]) q1
  have hflat : ∀ k nil sz xs fx, rts[k]? = some (Rt.fr nil sz xs fx) → (∀ e ∈ xs, ∀ c ∈ e, flatC c = true) ∧ fx = 0 := fun k nil sz xs fx hk => by
    have := List.all_eq_true.1 hfl _ (List.mem_of_getElem? hk)
    simp only [flatR, Bool.and_eq_true, List.all_eq_true, beq_iff_eq] at this
    exact this
  refine ⟨vs, g', he, ⟨⟨hbel.os, hbel.tape, hbel.output, hsz, fun k hk => hbel.block k hk.1, hbel.drawn⟩, fun _ _ h => h, hM.kold, fun b o hk => Nat.lt_of_lt_of_le (hM.klt b o hk) hsz, fun i r hi => ?_, fun i j ri rj hi hj hne k h1 h2 => ?_, fun b o hk => hkeep.cell b o hk⟩, ?_, ?_⟩
  · rcases hfresh i r hi with hb1 | ⟨k, nil, sz, xs, fx, rfl, q2, rfl, q4⟩
    · have hr := hM.res i r hb1
      obtain ⟨e1, e2⟩ := hold i r hb1
      have har := hb (i, r) (lk_mem hb1)
      refine RR.mono hkeep e1 (fun b' hb' => ⟨hbel.block b' (hr.lt hb'), fun _ h => h⟩) (fun fz ss e => by subst e; cases har) (fun v s e => by subst e; cases har) (fun m e => by subst e; cases har) hr
    · obtain ⟨v, v1, v2, v3⟩ := hvs k _ q2
      obtain ⟨f1, rfl⟩ := hflat k nil sz xs fx q2
      rw [v2] at q4
      rw [RtR] at v3
      rcases v3 with ⟨s1, s2, s3, s4⟩ | ⟨s0, b', cap, cur, E, s1, s2, s3, s4, s5, s6, s7, s8, s9⟩
      · exact .inl ⟨s1, s2, by rw [q4]; simpa using s3, rfl⟩
      · refine .inr ⟨s0, b', cap, cur, E, by rw [q4]; simpa using s1, fun ho => ?_, s3, s4, s5, s6, by omega, fun j e hj => ?_, fun o => ⟨fun hk => ?_, fun ho => by omega⟩⟩
        · have := ho.1; omega
        · obtain ⟨t1, t2⟩ := s8 j e hj
          refine ⟨t1, fun kk c hc => ?_⟩
          obtain ⟨u, u1, u2⟩ := t2 kk c hc
          exact ⟨u, u1, flat_CR (f1 e (List.mem_of_getElem? hj) c (List.mem_of_getElem? hc)) u2⟩
        · have := hM.klt b' o hk; omega
  · rcases hfresh i ri hi with hb1 | ⟨k1, nil1, sz1, xs1, fx1, rfl, q2, rfl, q4⟩
    · rcases hfresh j rj hj with hb2 | ⟨k2, nil2, sz2, xs2, fx2, rfl, q2', rfl, q4'⟩
      · rw [(hold i ri hb1).1] at h1
        rw [(hold j rj hb2).1] at h2
        exact hM.dis i j ri rj hb1 hb2 hne k h1 h2
      · rw [(hold i ri hb1).1] at h1
        obtain ⟨v, v1, v2, v3⟩ := hvs k2 _ q2'
        rw [q4', v2] at h2
        have := hge k2 _ _ _ _ v k q2' v1 h2
        have := (hM.res i ri hb1).lt h1
        omega
    · obtain ⟨v, v1, v2, v3⟩ := hvs k1 _ q2
      rw [q4, v2] at h1
      rcases hfresh j rj hj with hb2 | ⟨k2, nil2, sz2, xs2, fx2, rfl, q2', rfl, q4'⟩
      · rw [(hold j rj hb2).1] at h2
        have := hge k1 _ _ _ _ v k q2 v1 h1
        have := (hM.res j rj hb2).lt h2
        omega
      · obtain ⟨v', v1', v2', v3'⟩ := hvs k2 _ q2'
        rw [q4', v2'] at h2
        exact r3 k1 k2 _ _ v v' (fun e => hne (by rw [e])) q2 q2' v1 v1' rfl rfl k h1 h2
  · rw [SRs_iff]
    refine ⟨by rw [resS_len]; exact r1, fun k s u hs hu => ?_⟩
    obtain ⟨r, q1, q2⟩ := resS_at rts N k s hs
    have hr := r2 k r u q1 hu
    have hfr := List.all_eq_true.1 hfl _ (List.mem_of_getElem? q1)
    cases r with
    | c x =>
      rw [RtR] at hr
      rw [q2, SR]
      exact flat_CR hfr hr
    | ag x => cases hfr
    | fr nil sz xs fx =>
      rw [q2]
      show SR _ _ _ (.own (N + k) xs.length) u
      rw [SR]
      intro nil' sz' xs' fx' e1 e2
      have hk : k < rts.length := (List.getElem?_eq_some_iff.1 q1).1
      show _ = (if _ then _ else _)
      rw [if_pos (by omega)]
      simp [List.getD, show N + k - N = k from by omega, hu]
  · have hm : ∀ (as0 ds : List S) (us : List Value), seenAs b as0 ds → SRs g w (lk b) as0 us → SRs g' w' (lk (b ++ resB N rts)) as0 us := by
      intro as0
      induction as0 with
      | nil => intro ds us _ hs; rw [SRs] at hs ⊢; exact hs
      | cons s r ih =>
        intro ds us hA hs
        cases ds with
        | nil => exact hA.elim
        | cons d l =>
          obtain ⟨hA1, hA2⟩ := hA
          rw [SRs] at hs ⊢
          obtain ⟨u, us', rfl, h1, h2⟩ := hs
          refine ⟨u, us', rfl, SR.mono hkeep s u (fun j hj => hcmp j ?_) h1, ih l us' hA2 h2⟩
          cases s with
          | own i n =>
            cases d with
            | c y =>
              cases y with
              | sl nil xs =>
                obtain ⟨sz, fx, h3, _⟩ := hA1
                simp [S.men] at hj; subst hj
                rw [h3]; rfl
              | _ => exact hA1.elim
            | _ => exact hA1.elim
          | pre i n m =>
            cases d with
            | c y =>
              cases y with
              | sl nil xs =>
                obtain ⟨_, sz, ys, fx, h3, _⟩ := hA1
                simp [S.men] at hj; subst hj
                rw [h3]; rfl
              | _ => exact hA1.elim
            | _ => exact hA1.elim
          | c x => simp [S.men] at hj
          | agg x => simp [S.men] at hj
          | _ => exact hA1.elim
    exact hm as0 ds us hA hargs
theorem renS_id : ∀ (s : S), renS id s = s := by
  suffices h : (∀ s : S, renS id s = s) ∧ (∀ ss : List S, renSs id ss = ss) from h.1
  refine ⟨fun s => ?_, fun ss => ?_⟩
  · exact S.rec (motive_1 := fun s => renS id s = s) (motive_2 := fun ss => renSs id ss = ss) (fun _ => rfl) (fun _ => rfl) (fun ss ih => by rw [renS, ih]) (fun _ _ => rfl) (fun _ _ => rfl) (fun _ _ _ _ => rfl) (fun b s ih => by rw [renS, ih]) (fun ss ih => by rw [renS, ih]) (fun _ _ _ => rfl)
      (fun f ss ih => by rw [renS, ih]) (fun _ => rfl) (fun _ _ _ => rfl) (fun _ _ _ => rfl) rfl rfl (fun s r h1 h2 => by rw [renSs, h1, h2]) s
  · induction ss with
    | nil => rfl
    | cons s r ih =>
      rw [renSs, ih]
      congr 1
      exact S.rec (motive_1 := fun s => renS id s = s) (motive_2 := fun ss => renSs id ss = ss) (fun _ => rfl) (fun _ => rfl) (fun ss ih => by rw [renS, ih]) (fun _ _ => rfl) (fun _ _ => rfl) (fun _ _ _ _ => rfl) (fun b s ih => by rw [renS, ih]) (fun ss ih => by rw [renS, ih]) (fun _ _ _ => rfl)
        (fun f ss ih => by rw [renS, ih]) (fun _ => rfl) (fun _ _ _ => rfl) (fun _ _ _ => rfl) rfl rfl (fun s r h1 h2 => by rw [renSs, h1, h2]) s
theorem renSs_id : ∀ (ss : List S), renSs id ss = ss
  | [] => rfl
  | s :: r => by rw [renSs, renS_id, renSs_id r]
theorem nams_resS : ∀ (rts : List Rt) (N j : Nat), j ∈ S.nams (resS N rts) → ((resB N rts).map (·.1)).contains j = true ∨ ∃ r ∈ rts, flatR r = false
  | [], N, j, h => by simp [resS, S.nams] at h
  | .c x :: r, N, j, h => by
    rw [resS, S.nams] at h
    have h' : j ∈ S.nams (resS (N + 1) r) := by simpa [S.nam] using h
    rcases nams_resS r (N + 1) j h' with q | ⟨x, q1, q2⟩
    · exact .inl q
    · exact .inr ⟨x, by simp [q1], q2⟩
  | .ag cs :: r, N, j, h => .inr ⟨.ag cs, by simp, rfl⟩
  | .fr nil sz xs fx :: r, N, j, h => by
    rw [resS, S.nams] at h
    simp only [S.nam, List.mem_append, List.mem_singleton] at h
    rcases h with rfl | h
    · left; simp [resB]
    · rcases nams_resS r (N + 1) j h with q | ⟨x, q1, q2⟩
      · left; simp only [resB, List.map_cons, List.contains_cons, q, Bool.or_true]
      · exact .inr ⟨x, by simp [q1], q2⟩
theorem isArr_nam {r : Res} (h : isArr r = true) : r.nam = [] := by cases r <;> first | rfl | cases h
theorem resB_arr (rts : List Rt) : ∀ N, ∀ p ∈ resB N rts, isArr p.2 = true := by
  induction rts with
  | nil => intro N p hp; simp [resB] at hp
  | cons r l ih =>
    intro N p hp
    cases r with
    | c x => exact ih (N + 1) p hp
    | ag x => exact ih (N + 1) p hp
    | fr nil sz xs fx =>
      rw [resB] at hp
      rcases List.mem_cons.1 hp with rfl | hp
      · rfl
      · exact ih (N + 1) p hp
theorem lendSeen {P : Program} {st : St} {f : FuncId} {args : List S} (b : List (Nat × Res)) (N : Nat) (ds : List S) (rts : List Rt) (hc : callable P f = true) (h : Con P f ds rts) (hA : seenAs b args ds)
    (hb : ∀ p ∈ b, st.rs p.1 = some p.2 ∧ isArr p.2 = true ∧ keptP p.2 p.2 p.1 args args) (hN : ∀ p ∈ b, ∀ k, k < rts.length → p.1 ≠ N + k) (hnd : ((b ++ resB N rts).map (·.1)).Nodup) (hfl : rts.all flatR = true) :
    LendOk P st f args b (b ++ resB N rts) args (resS N rts) args id ((resB N rts).map (·.1)) := by
  have hall : ∀ p ∈ b ++ resB N rts, isArr p.2 = true := fun p hp => by
    rcases List.mem_append.1 hp with hp | hp
    · exact (hb p hp).2.1
    · exact resB_arr rts N p hp
  refine ⟨ConB.seenX hc N (fun p hp => (hb p hp).2.1) hN hA hfl h, (renSs_id _).symm, fun p hp => ?_, hnd, fun p hp => ?_, fun p hp j hj => ?_, fun j hj => ?_, fun p hp => ?_⟩
  · have := hb p hp
    have e : renR id p.2 = p.2 := by have := this.2.1; revert this; cases p.2 <;> intro h <;> first | rfl | cases h
    rw [e]; exact this.1
  · exact List.mem_map.2 ⟨p, List.mem_append_left _ hp, rfl⟩
  · rw [isArr_nam (hall p hp)] at hj; simp at hj
  · rcases nams_resS rts N j hj with q | ⟨r, q1, q2⟩
    · rw [List.contains_iff_mem] at q
      rw [List.map_append]
      exact List.mem_append_right _ q
    · have := List.all_eq_true.1 hfl r q1
      rw [q2] at this; cases this
  · rcases List.mem_append.1 hp with hp' | hp'
    · refine .inr ⟨p.2, ?_, (hb p hp').2.2⟩
      have hnd' : (b.map (·.1)).Nodup := by rw [List.map_append] at hnd; exact (List.nodup_append.1 hnd).1
      have : ∀ (b : List (Nat × Res)), (b.map (·.1)).Nodup → p ∈ b → lk b p.1 = some p.2 := by
        intro b
        induction b with
        | nil => intro _ h; cases h
        | cons q b ih =>
          intro hn hm
          simp only [List.map_cons, List.nodup_cons] at hn
          unfold lk at ih ⊢
          simp only [List.map_cons, vlook]
          rcases List.mem_cons.1 hm with rfl | hm
          · simp
          · have : (q.1 == p.1) = false := by
              simp only [beq_eq_false_iff_ne, ne_eq]
              intro e
              exact hn.1 (e ▸ List.mem_map.2 ⟨p, hm, rfl⟩)
            rw [this]
            exact ih hn.2 hm
      exact this b hnd' hp'
    · exact .inl (List.mem_map.2 ⟨p, hp', rfl⟩)
theorem kept_own {i n : Nat} {nil : Bool} {sz : Nat} {xs : List (List C)} {fx : Nat} {x y : List S} (h : xs.length = n) : keptP (.arr nil sz xs fx) (.arr nil sz xs fx) i (.own i n :: x) (.own i n :: y) :=
  .inl ⟨rfl, rfl, rfl, nil, sz, xs, fx, nil, xs, fx, rfl, rfl, h, h⟩
theorem kept_pre {i n m : Nat} {nil : Bool} {sz : Nat} {xs : List (List C)} {fx : Nat} {x y : List S} (h : xs.length = n) : keptP (.arr nil sz xs fx) (.arr nil sz xs fx) i (.pre i n m :: x) (.pre i n m :: y) :=
  .inl ⟨rfl, rfl, rfl, rfl, nil, sz, xs, fx, nil, xs, fx, rfl, rfl, h, h⟩
/-- OWN ROWS ARE LENT to a function whose contract speaks of data; its results are plain or new rows of plain cells -/
theorem VCL.seenX {P : Program} {st : St} {d : Option Nat} {K : St → Prop} {f : FuncId} {args : List S} (b : List (Nat × Res)) (N : Nat) (ds : List S) (rts : List Rt) (hc : callable P f = true) (h : Con P f ds rts) (hA : seenAs b args ds)
    (hb : ∀ p ∈ b, st.rs p.1 = Option.some p.2 ∧ isArr p.2 = true ∧ keptP p.2 p.2 p.1 args args) (hN : ∀ p ∈ b, ∀ k, k < rts.length → p.1 ≠ N + k) (hnd : ((b ++ resB N rts).map (·.1)).Nodup) (hfl : rts.all flatR = true)
    (hk : force (tick ((lendSt st id ((resB N rts).map (·.1)) (b ++ resB N rts)).putd d (retS id (resS N rts)))) K) : VCL P d st f [] args K .mk :=
  VCL.lend b (b ++ resB N rts) args (resS N rts) args id ((resB N rts).map (·.1)) (lendSeen b N ds rts hc h hA hb hN hnd hfl) hk
end Go.VL
