/-
  A logic on data over the model's walk, part 36: a contract that speaks of data, for an own row that is lent: it is left as it is.
-/
import Derived.Test.YtgodbpamppcfnaaV34
import Derived.Test.YtgodbpamppcfnaaVB
set_option linter.unusedSimpArgs false
set_option linter.unusedVariables false
namespace Go.VL
open Go.RowKit

/-- plain slots: data whose values hold no address -/
def plainRts (vs : List Value) : List Rt := vs.map fun v => .c (.v v)
def plainSs (vs : List Value) : List S := vs.map fun v => .c (.v v)

theorem ConB.seen {P : Program} {f : FuncId} (hc : callable P f = true) {nil : Bool} {sz : Nat} {xs : List (List C)} {fx : Nat} {ds : List S} {rvs : List Value} (hds : ∀ s ∈ ds, ∃ c, s = S.c c)
    (h : Con P f (.c (.sl nil xs) :: ds) (plainRts rvs)) :
    ConB P f (.own 1 xs.length :: ds) [(1, .arr nil sz xs fx)] (plainSs rvs) (.own 1 xs.length :: ds) [(1, .arr nil sz xs fx)] := by
  refine ⟨hc, fun w g us hM hargs => ?_⟩
  have hb1 : lk [(1, Res.arr nil sz xs fx)] 1 = some (.arr nil sz xs fx) := rfl
  rw [SRs] at hargs
  obtain ⟨u1, us1, rfl, hu1, hds1⟩ := hargs
  rw [SR] at hu1
  have e1 := hu1 nil sz xs fx hb1 rfl
  have hres := hM.res 1 _ hb1
  -- the row's cells, seen as such that stay
  obtain ⟨K1, hsub, hlt1, hrow⟩ : ∃ K1 : Nat → Nat → Prop, (∀ b o, g.K b o → K1 b o) ∧ (∀ b o, K1 b o → b < w.heap.size) ∧ CR K1 w (.sl nil xs) (g.loc 1) := by
    rcases hres with ⟨h1, h2, h3, _⟩ | ⟨h0, b, cap, cur, E, q1, q2, q3, q4, q5, q6, q7, q8, q9⟩
    · exact ⟨g.K, fun _ _ h => h, hM.klt, by rw [CR]; exact .inl ⟨h1, h2, h3⟩⟩
    · have hbl : b < w.heap.size := (Array.getElem?_eq_some_iff.1 q3).1
      refine ⟨fun b' o => g.K b' o ∨ (b' = b ∧ o < xs.length * sz), fun _ _ h => .inl h, fun b' o hk => ?_, ?_⟩
      · rcases hk with hk | ⟨rfl, _⟩
        · exact hM.klt b' o hk
        · exact hbl
      · have kp : Keeps g.K w (fun b' o => g.K b' o ∨ (b' = b ∧ o < xs.length * sz)) w := ⟨fun _ _ h => .inl h, fun _ _ _ => rfl⟩
        have : RR ⟨fun b' o => g.K b' o ∨ (b' = b ∧ o < xs.length * sz), g.loc⟩ w (fun _ => none) (fun _ => True) 1 (.arr nil sz xs xs.length) := by
          refine .inr ⟨h0, b, cap, cur, E, q1, trivial, q3, q4, q5, q6, Nat.le_refl _, q8.mono kp, fun o => ⟨fun hk => ?_, fun ho => .inr ⟨rfl, ho⟩⟩⟩
          rcases hk with hk | ⟨_, hk⟩
          · have := (q9 o).1 hk
            have := Nat.mul_le_mul_right sz q7
            omega
          · exact hk
        exact this.datum
  have hdr : DRs K1 w (.c (.sl nil xs) :: ds) (u1 :: us1) := by
    unfold DRs
    rw [SRs]
    refine ⟨u1, us1, rfl, ?_, ?_⟩
    · rw [SR, e1]; exact hrow
    · rw [SRs_iff] at hds1 ⊢
      refine ⟨hds1.1, fun k s u hs hu => ?_⟩
      obtain ⟨c, rfl⟩ := hds s (List.mem_of_getElem? hs)
      have := hds1.2 k _ u hs hu
      rw [SR] at this ⊢
      exact CR.mono ⟨hsub, fun _ _ _ => rfl⟩ c u this
  refine ((h w K1 (u1 :: us1) hlt1 hdr).calls hc).mono fun e w' ⟨vs, he, hbel, K', p1, p2, p3, p4⟩ => ?_
  have hkeep : Keeps g.K w g.K w' := ⟨fun _ _ h => h, fun b o hk => by
    have := hM.klt b o hk
    simp only [World.cell?]; rw [hbel.block b this]⟩
  have hsz := hbel.size
  refine ⟨vs, g, he, ⟨⟨hbel.os, hbel.tape, hbel.output, hsz, fun k hk => hbel.block k hk.1, hbel.drawn⟩, fun _ _ h => h, hM.kold, fun b o hk => Nat.lt_of_lt_of_le (hM.klt b o hk) hsz, fun i r hi => ?_, hM.dis, fun b o hk => hkeep.cell b o hk⟩, ?_, ?_⟩
  · have hr := hM.res i r hi
    have hir : r = .arr nil sz xs fx := (Prod.mk.inj (List.mem_singleton.1 (lk_mem hi))).2
    subst hir
    refine RR.mono hkeep rfl (fun b hb => ⟨?_, fun _ h => h⟩) (fun fz ss e => by cases e) (fun v s e => by cases e) (fun m e => by cases e) hr
    have hlt : b < w.heap.size := hr.lt hb
    exact hbel.block b hlt
  · obtain ⟨r1, r2, _⟩ := p4
    rw [SRs_iff]
    unfold plainSs plainRts at *
    rw [List.length_map] at r1
    refine ⟨by rw [List.length_map]; exact r1, fun k s u hs hu => ?_⟩
    rw [List.getElem?_map] at hs
    cases hk : rvs[k]? with
    | none => rw [hk] at hs; simp at hs
    | some v =>
      rw [hk] at hs
      simp at hs
      subst hs
      have := r2 k (.c (.v v)) u (by rw [List.getElem?_map, hk]; rfl) hu
      rw [RtR, CR] at this
      rw [SR, CR]
      exact this
  · rw [SRs]
    refine ⟨u1, us1, rfl, ?_, ?_⟩
    · rw [SR]; intro nil' sz' xs' fx' hr hl; exact hu1 nil' sz' xs' fx' hr hl
    · rw [SRs_iff] at hds1 ⊢
      refine ⟨hds1.1, fun k s u hs hu => ?_⟩
      obtain ⟨c, rfl⟩ := hds s (List.mem_of_getElem? hs)
      have := hds1.2 k _ u hs hu
      rw [SR] at this ⊢
      exact CR.mono hkeep c u this

theorem renSs_c (τ : Nat → Nat) : ∀ cs : List C, renSs τ (cs.map S.c) = cs.map S.c
  | [] => rfl
  | c :: r => by rw [List.map_cons, renSs, renS, renSs_c τ r]
theorem nams_plain : ∀ rvs : List Value, S.nams (plainSs rvs) = []
  | [] => rfl
  | v :: r => by
    have := nams_plain r
    unfold plainSs at *
    rw [List.map_cons, S.nams, this]; rfl
/-- AN OWN ROW IS LENT to a function that has a contract on data, and left as it is -/
theorem VCL.seen {P : Program} {st : St} {d : Option Nat} {K : St → Prop} {f : FuncId} {i n : Nat} {cs : List C} (nil : Bool) (sz : Nat) (xs : List (List C)) (fx : Nat) (rvs : List Value) (hc : callable P f = true)
    (h : Con P f (.c (.sl nil xs) :: cs.map S.c) (plainRts rvs)) (hn : n = xs.length) (hr : st.rs i = Option.some (Res.arr nil sz xs fx))
    (hk : force (tick ((lendSt st (fun _ => i) [] [(1, Res.arr nil sz xs fx)]).putd d (retS (fun _ => i) (plainSs rvs)))) K) : VCL P d st f [] (.own i n :: cs.map S.c) K .mk := by
  subst hn
  have hcon := ConB.seen hc (sz := sz) (fx := fx) (fun s hs => by
    obtain ⟨c, _, rfl⟩ := List.mem_map.1 hs
    exact ⟨c, rfl⟩) h
  refine VCL.lend [(1, Res.arr nil sz xs fx)] [(1, Res.arr nil sz xs fx)] (.own 1 xs.length :: cs.map S.c) _ _ (fun _ => i) [] ⟨hcon, ?_, ?_, ?_, ?_, ?_, ?_, ?_⟩ hk
  · rw [renSs, renS, renSs_c]
  · intro p hp; simp at hp; subst hp; exact hr
  · simp
  · simp
  · intro p hp; simp at hp; subst hp; simp [Res.nam]
  · intro j hj
    exfalso
    rw [nams_plain] at hj; simp at hj
  · intro p hp; simp at hp; subst hp
    right
    refine ⟨_, rfl, ?_⟩
    rw [keptP]
    exact .inl ⟨rfl, rfl, rfl, nil, sz, xs, fx, nil, xs, fx, rfl, rfl, rfl, rfl⟩
end Go.VL
