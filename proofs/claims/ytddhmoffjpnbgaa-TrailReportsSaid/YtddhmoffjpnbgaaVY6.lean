/- Rounds, part 6: a call whose results hang on an order that the tape gives, at its caller. -/
import Derived.Test.YtddhmoffjpnbgaaVY5
set_option linter.unusedSimpArgs false
set_option linter.unusedVariables false
namespace Go.VL
open Go.RowKit

/-- what was lent is not known any more -/
def goneB (b : List (Nat × Res)) : List (Nat × Res) := b.map fun p => (p.1, Res.pin undef .un)
def fullB (b b' : List (Nat × Res)) : List (Nat × Res) := b' ++ goneB b
theorem lk_gone : ∀ (b : List (Nat × Res)) (i : Nat) (r : Res), lk (goneB b) i = some r → r = .pin undef .un ∧ i ∈ b.map (·.1)
  | [], i, r, h => by simp [goneB, lk, vlook] at h
  | p :: b, i, r, h => by
    unfold goneB lk at h
    simp only [List.map_cons, vlook] at h
    cases hk : (p.1 == i) with
    | true => rw [hk] at h; simp at h hk; exact ⟨h.symm, by simp [hk]⟩
    | false =>
      rw [hk] at h
      obtain ⟨h1, h2⟩ := lk_gone b i r h
      exact ⟨h1, by rw [List.map_cons]; exact List.mem_cons_of_mem _ h2⟩
theorem lk_goneS (b : List (Nat × Res)) (i : Nat) (h : i ∈ b.map (·.1)) : (lk (goneB b) i).isSome = true := by
  rw [← lk_some]
  simpa [goneB, List.map_map, Function.comp_def] using h

section
variable {P : Program} {w0 : World} {K0 : K0T} {nt : Nat} {st : St} {a : Act} {w : World} {g : G}
structure LendX (P : Program) (st : St) (fid : FuncId) (args : List S) (b : List (Nat × Res)) (Q : List S → List (Nat × Res) → Prop) (as0 : List S) (τ : Nat → Nat) : Prop where
  con : ConX P fid as0 b Q
  args : args = renSs τ as0
  pre : ∀ p ∈ b, st.rs (τ p.1) = some (renR τ p.2)
  bnd : (b.map fun p => τ p.1).Nodup
  inj : ∀ rs b', Q rs b' → ((fullB b b').map fun p => τ p.1).Nodup
  cl : ∀ rs b', Q rs b' → ∀ p ∈ b', ∀ j ∈ p.2.nam, j ∈ b'.map (·.1)
  clr : ∀ rs b', Q rs b' → ∀ j ∈ S.nams rs, j ∈ b'.map (·.1)
theorem LendX.calls {fid : FuncId} {args : List S} {b : List (Nat × Res)} {Q : List S → List (Nat × Res) → Prop} {as0 : List S} {τ : Nat → Nat} (L : LendX P st fid args b Q as0 τ) (h : T w0 K0 nt st a w g) {us : List Value} (hu : SRs g w st.rs args us) :
    Calls P fid us.toArray w fun e w' => ∃ (rs : List S) (b' : List (Nat × Res)) (vs : List Value) (g' : G), Q rs b' ∧ e = .returned (retV vs) ∧ T w0 K0 nt (lendSt st τ ((fullB b b').map fun p => τ p.1) (fullB b b')) a w' g' ∧
      SRs g' w' (lendSt st τ ((fullB b b').map fun p => τ p.1) (fullB b b')).rs (renSs τ rs) vs := by
  have hb : ∀ i r, lk b i = some r → st.rs (τ i) = some (renR τ r) := fun i r hi => L.pre (i, r) (lk_mem hi)
  have injb : ∀ i j ri rj, lk b i = some ri → lk b j = some rj → τ i = τ j → i = j := fun i j ri rj hi hj e => (Prod.mk.inj (nodup_inj L.bnd (lk_mem hi) (lk_mem hj) e)).1
  have hu0 := hu
  rw [L.args] at hu
  have hu' := SRs_ren1 hb as0 us hu
  have hM0 : M w ⟨g.K, lent ⟨g.K, fun i => g.loc (τ i)⟩ b, []⟩ (lk b) w ⟨g.K, fun i => g.loc (τ i)⟩ := by
    refine ⟨Bel.refl _ _ _, fun _ _ k => k, fun _ _ k _ => k, h.klt, fun i r hi => ?_, fun i j ri rj hi hj hne k h1 h2 => ?_, fun _ _ _ => rfl⟩
    · exact RR_ren1 hb (fun k hk ho => ho.2 ⟨i, r, hi, hk⟩) (h.res _ _ (hb i r hi))
    · exact h.dis _ _ _ _ (hb i ri hi) (hb j rj hj) (fun e => hne (injb i j ri rj hi hj e)) k h1 h2
  refine (L.con.2 w _ us hM0 hu').mono fun e w' ⟨rs, b', vs, g0, hQ, he, hM, hrs⟩ => ?_
  have hinj := L.inj rs b' hQ
  have hnd : ∀ i, (lk b' i).isSome = true → i ∉ b.map (·.1) := fun i hi hm => by
    obtain ⟨ri, hri⟩ := Option.isSome_iff_exists.1 hi
    unfold fullB at hinj
    rw [List.map_append, List.nodup_append] at hinj
    obtain ⟨p, hp, rfl⟩ := List.mem_map.1 hm
    exact hinj.2.2 (τ p.1) (List.mem_map.2 ⟨(p.1, ri), lk_mem hri, rfl⟩) (τ p.1) (List.mem_map.2 ⟨(p.1, Res.pin undef .un), List.mem_map.2 ⟨p, hp, rfl⟩, rfl⟩) rfl
  let g1 : G := ⟨g0.K, fun i => if i ∈ b.map (·.1) then undef else g0.loc i⟩
  have hl1 : ∀ i, (lk b' i).isSome = true → g1.loc i = g0.loc i := fun i hi => if_neg (hnd i hi)
  have hlk1 : ∀ i, (lk b' i).isSome = true → lk (fullB b b') i = lk b' i := fun i hi => by unfold fullB; rw [lk_append, if_pos hi]
  have hlk2 : ∀ i r, lk (fullB b b') i = some r → lk b' i = some r ∨ (r = .pin undef .un ∧ i ∈ b.map (·.1)) := fun i r hi => by
    unfold fullB at hi
    rw [lk_append] at hi
    split at hi
    · exact .inl hi
    · exact .inr (lk_gone b i r hi)
  have hcmp : ∀ j, j ∈ b'.map (·.1) → Cmp g0 (lk b') g1 (lk (fullB b b')) j := fun j hj => by
    have hs := lk_some.1 hj
    exact Cmp.same (hlk1 j hs) (hl1 j hs)
  have hM1 : M w ⟨g.K, lent ⟨g.K, fun i => g.loc (τ i)⟩ b, []⟩ (lk (fullB b b')) w' g1 := by
    refine ⟨hM.below, hM.k0, hM.kold, hM.klt, fun i r hi => ?_, fun i j ri rj hi hj hne k h1 h2 => ?_, hM.keep⟩
    · rcases hlk2 i r hi with q | ⟨rfl, q⟩
      · exact RR.mono' (g := g0) (g' := g1) (w := w') (w' := w') (R := lk b') (R' := lk (fullB b b')) (Keeps.refl _ _) (hl1 i (by rw [q]; rfl)) (fun _ _ => ⟨rfl, fun _ k => k⟩) (fun j hj => hcmp j (L.cl rs b' hQ (i, r) (lk_mem q) j (r.nam_of hj))) (hM.res i r q)
      · exact ⟨if_pos q, by rw [SR]; trivial⟩
    · have hin : ∀ i r k, lk (fullB b b') i = some r → blk (g1.loc i) = some k → lk b' i = some r ∧ blk (g0.loc i) = some k := fun i r k hi hk => by
        rcases hlk2 i r hi with q | ⟨_, q⟩
        · exact ⟨q, by rw [hl1 i (by rw [q]; rfl)] at hk; exact hk⟩
        · rw [show g1.loc i = undef from if_pos q] at hk; cases hk
      obtain ⟨a1, a2⟩ := hin i ri k hi h1
      obtain ⟨a3, a4⟩ := hin j rj k hj h2
      exact hM.dis i j ri rj a1 a3 hne k a2 a4
  have inj : ∀ i j, (lk (fullB b b') i).isSome = true → (lk (fullB b b') j).isSome = true → τ i = τ j → i = j := by
    intro i j hi hj e
    obtain ⟨ri, hri⟩ := Option.isSome_iff_exists.1 hi
    obtain ⟨rj, hrj⟩ := Option.isSome_iff_exists.1 hj
    exact (Prod.mk.inj (nodup_inj hinj (lk_mem hri) (lk_mem hrj) e)).1
  have sub : ∀ i, (lk b i).isSome = true → (lk (fullB b b') i).isSome = true := fun i hi => by
    have hm := lk_some.2 hi
    rw [← lk_some]
    unfold fullB
    rw [List.map_append]
    exact List.mem_append_right _ (lk_some.2 (lk_goneS b i hm))
  obtain ⟨g', k1, k2, k3, k4⟩ := T.lend h (st' := lendSt st τ ((fullB b b').map fun p => τ p.1) (fullB b b')) (C := (fullB b b').map fun p => τ p.1) hb hM1 inj (fun i r hi j hj => by
      rcases hlk2 i r hi with q | ⟨rfl, _⟩
      · have hm := L.cl rs b' hQ (i, r) (lk_mem q) j (r.nam_of hj)
        have hs := lk_some.1 hm
        rw [hlk1 j hs]; exact hs
      · simp [Res.ment, S.men] at hj) sub (fun i r' hi => .inl (List.mem_map.2 ⟨(i, r'), lk_mem hi, rfl⟩)) rfl (fun i r hi => by
      show vlook none (((fullB b b').map fun p => (τ p.1, some (renR τ p.2))) ++ (st.clrL _).res) (τ i) = _
      rw [look_app, if_pos (List.mem_map.2 ⟨(i, r), lk_mem hi, rfl⟩)]
      exact look_in hinj hi) (fun n hn => by
      show vlook none (((fullB b b').map fun p => (τ p.1, some (renR τ p.2))) ++ (st.clrL _).res) n = _
      rw [look_app, if_neg (fun hm => by
        obtain ⟨p, hp, e⟩ := List.mem_map.1 hm
        exact hn p.1 (lk_some.1 (List.mem_map.2 ⟨p, hp, rfl⟩)) e)]
      rfl)
  have hrs1 : SRs g1 w' (lk (fullB b b')) rs vs := SRs.mono (g := g0) (g' := g1) (w := w') (w' := w') (R := lk b') (R' := lk (fullB b b')) (Keeps.refl _ _) _ _ (fun j hj => hcmp j (L.clr rs b' hQ j (S.nams_of rs hj))) hrs
  refine ⟨rs, b', vs, g', hQ, he, k1, SRs_ren2 k2 rs vs (fun j hj => k4 j ?_) hrs1⟩
  have hs := lk_some.1 (L.clr rs b' hQ j (S.nams_of rs hj))
  rw [hlk1 j hs]; exact hs
/-- A CALL whose results hang on an order -/
theorem VRS.callX {OPS : Array Oper} {dst : Option Nat} {f : Operand} {args : Array Operand} {ats : Array TypeId} {ty : TypeId} {p : String} {af : Array Edge} {l : List Oper} {K : St → Prop} {fid : FuncId} (b : List (Nat × Res)) (Q : List S → List (Nat × Res) → Prop) (as0 : List S) (τ : Nat → Nat)
    (hf : st.ev f = .c (.fn fid [])) (L : LendX P st fid (args.toList.map st.ev) b Q as0 τ)
    (h : ∀ rs b', Q rs b' → VRS P w0 K0 nt OPS l ((lendSt st τ ((fullB b b').map fun p => τ p.1) (fullB b b')).putd dst (retS τ rs)) K) :
    VRS P w0 K0 nt OPS (⟨dst, .call ⟨.value f, args, ats⟩, ty, p, af, none⟩ :: l) st K := by
  refine VRS.step fun hok a w g hT next Q' hn => wanted_step hT rfl ?_
  have hef := hT.ev f
  rw [hf, SR, CR] at hef
  obtain ⟨us0, hfv, hv0⟩ := hef
  rw [VR] at hv0
  subst hv0
  have hargs : SRs g w st.rs (args.toList.map st.ev) (args.toList.map a.eval ++ []) := by rw [List.append_nil]; exact SRs_map _ _ _ (fun x _ => hT.ev x)
  have hexec := run_call (o := ⟨dst, .call ⟨.value f, args, ats⟩, ty, p, af, none⟩) (a := a) (w := w) (us := []) L.con.1 rfl rfl hfv
  unfold Oper.wp
  rw [hexec, Oper.upon_enter]
  refine (L.calls hT hargs).mono fun en w' ⟨rs, b', vs, g', hQ, he, k1, k2⟩ => ?_
  subst he
  refine hn _ _ _ g' (h rs b' hQ) (k1.putd (opOk_dst hok) ?_)
  cases rs with
  | nil =>
    rw [renSs, SRs] at k2
    subst k2
    show SR g' w' _ (.tup (renSs τ [])) (.tuple [].toArray)
    rw [SR, renSs]
    exact ⟨[], rfl, by rw [SRs]⟩
  | cons r rest =>
    cases rest with
    | nil =>
      rw [renSs, renSs, SRs] at k2
      obtain ⟨v, us', rfl, q1, q2⟩ := k2
      rw [SRs] at q2
      subst q2
      exact q1
    | cons r2 rest =>
      have k2' := k2
      rw [renSs, renSs, SRs] at k2
      obtain ⟨v, us', rfl, q1, q2⟩ := k2
      rw [SRs] at q2
      obtain ⟨v2, us2, rfl, q3, q4⟩ := q2
      show SR g' w' _ (.tup (renSs τ (r :: r2 :: rest))) (.tuple (v :: v2 :: us2).toArray)
      rw [SR]
      exact ⟨_, rfl, k2'⟩
end
attribute [simp] fullB goneB
end Go.VL
