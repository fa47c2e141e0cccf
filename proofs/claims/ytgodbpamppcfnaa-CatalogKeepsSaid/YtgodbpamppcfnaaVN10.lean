/- A struct out of two plain fields and two own rows. -/
import Derived.Test.YtgodbpamppcfnaaVN9
set_option linter.unusedSimpArgs false
set_option linter.unusedVariables false
namespace Go.VL
open Go.RowKit
section
variable {P : Program} {w0 : World} {K0 : K0T} {nt : Nat} {OPS : Array Oper} {st : St}
theorem own_one {a : Act} {w : World} {g : G} (hT : T w0 K0 nt st a w g) {i n : Nat} {nil : Bool} {sz : Nat} {xs : List (List C)} {fx : Nat} {u : Value} (h : SR g w st.rs (.own i n) u) (hr : st.rs i = some (.arr nil sz xs fx)) (hn : xs.length = n) : u.oneCell' = true := by
  rw [SR] at h
  have hu := h nil sz xs fx hr hn
  rcases hT.res i _ hr with ⟨_, _, q, _⟩ | ⟨_, b, cap, cur, E, q, _⟩ <;> rw [hu, q] <;> rfl
theorem VRS.bld4 {y : Nat} {t ty : TypeId} {x0 x1 x2 x3 : Operand} {p : String} {af : Array Edge} {l : List Oper} {K : St → Prop} (c0 c1 : C) (i2 n2 i3 n3 : Nat) (nil2 : Bool) (sz2 : Nat) (xs2 : List (List C)) (fx2 : Nat) (nil3 : Bool) (sz3 : Nat) (xs3 : List (List C)) (fx3 : Nat) (z : Value)
    (hp : ∀ v0 v1 v2 v3 : Value, (pbuild P t [(0, .c (.v v0)), (1, .c (.v v1)), (2, .c (.v v2)), (3, .c (.v v3))]).1 = .agg [.v v0, .v v1, .v v2, .v v3, .v z] ∧ (pbuild P t [(0, .c (.v v0)), (1, .c (.v v1)), (2, .c (.v v2)), (3, .c (.v v3))]).2)
    (hx0 : st.ev x0 = .c c0) (hx1 : st.ev x1 = .c c1) (hx2 : st.ev x2 = .own i2 n2) (hx3 : st.ev x3 = .own i3 n3) (hr2 : st.rs i2 = some (.arr nil2 sz2 xs2 fx2)) (hn2 : xs2.length = n2) (hr3 : st.rs i3 = some (.arr nil3 sz3 xs3 fx3)) (hn3 : xs3.length = n3)
    (hk : VRS P w0 K0 nt OPS l (st.put y (.st [.c c0, .c c1, .own i2 n2, .own i3 n3, .c (.v z)])) K) : VRS P w0 K0 nt OPS (⟨some y, .build t #[(0, x0), (1, x1), (2, x2), (3, x3)], ty, p, af, none⟩ :: l) st K := by
  refine VRS.step fun hok a w g hT next Q hn' => wanted_step hT rfl ?_
  have hd := opOk_dst hok
  have e0 := hT.ev x0
  have e1 := hT.ev x1
  have e2 := hT.ev x2
  have e3 := hT.ev x3
  rw [hx0] at e0; rw [hx1] at e1; rw [hx2] at e2; rw [hx3] at e3
  have o0 : (a.eval x0).oneCell' = true := by have q := e0; rw [SR] at q; exact CR.one q
  have o1 : (a.eval x1).oneCell' = true := by have q := e1; rw [SR] at q; exact CR.one q
  have o2 := own_one hT e2 hr2 hn2
  have o3 := own_one hT e3 hr3 hn3
  obtain ⟨p1, p2⟩ := hp (a.eval x0) (a.eval x1) (a.eval x2) (a.eval x3)
  have hc : ∀ v : Value, v.oneCell' = true → SR g w st.rs (.c (.v v)) v := fun v hv => by rw [SR, CR]; exact ⟨rfl, hv⟩
  have hparts : PartsR g w st.rs [(0, .c (.v (a.eval x0))), (1, .c (.v (a.eval x1))), (2, .c (.v (a.eval x2))), (3, .c (.v (a.eval x3)))] (Array.map (fun q : Nat × Operand => (q.1, a.eval q.2)) #[(0, x0), (1, x1), (2, x2), (3, x3)]).toList := by
    simp only [List.map_toArray, List.map_cons, List.map_nil, PartsR]
    exact ⟨_, _, rfl, hc _ o0, _, _, rfl, hc _ o1, _, _, rfl, hc _ o2, _, _, rfl, hc _ o3, rfl⟩
  obtain ⟨r, h1, h2⟩ := pbuild_ok (P := P) (t := t) hparts p2
  rw [p1, SR] at h2
  obtain ⟨us, rfl, h2⟩ := h2
  simp only [VR] at h2
  obtain ⟨u0, us0, rfl, q0, u1, us1, rfl, q1, u2, us2, rfl, q2, u3, us3, rfl, q3, u4, us4, rfl, q4, rfl⟩ := h2
  rw [CR] at q0 q1 q2 q3 q4
  obtain ⟨rfl, _⟩ := q0
  obtain ⟨rfl, _⟩ := q1
  obtain ⟨rfl, _⟩ := q2
  obtain ⟨rfl, _⟩ := q3
  obtain ⟨rfl, oz⟩ := q4
  have hrun : (execOp a.eval ⟨some y, .build t #[(0, x0), (1, x1), (2, x2), (3, x3)], ty, p, af, none⟩).run P w = .ok (.value (.agg [a.eval x0, a.eval x1, a.eval x2, a.eval x3, u4].toArray)) w := by
    simp only [execOp, Sem.run_bind, h1, Result.andThen_ok, Sem.run_pure]
  refine ow_value hrun (hn' _ _ w g hk ?_)
  refine hT.put (hd y rfl) ?_
  rw [SR]
  refine ⟨_, rfl, ?_, ?_⟩
  · simp only [SRs]
    exact ⟨_, _, rfl, e0, _, _, rfl, e1, _, _, rfl, e2, _, _, rfl, e3, _, _, rfl, by rw [SR, CR]; exact ⟨rfl, oz⟩, rfl⟩
  · intro v hv
    simp only [List.mem_cons, List.not_mem_nil, or_false] at hv
    rcases hv with rfl | rfl | rfl | rfl | rfl <;> assumption
/-- a call by its contract, whatever the arguments -/
theorem VRS.callB {OPS : Array Oper} {dst : Option Nat} {f : Operand} {args : Array Operand} {ats : Array TypeId} {ty : TypeId} {p : String} {af : Array Edge} {l : List Oper} {K : St → Prop} {fid : FuncId} (b b' : List (Nat × Res)) (as0 rs as1 : List S) (τ : Nat → Nat) (C : List Nat)
    (hf : st.ev f = .c (.fn fid [])) (L : LendOk P st fid (args.toList.map st.ev) b b' as0 rs as1 τ C)
    (h : VRS P w0 K0 nt OPS l ((lendSt st τ C b').putd dst (retS τ rs)) K) :
    VRS P w0 K0 nt OPS (⟨dst, .call ⟨.value f, args, ats⟩, ty, p, af, none⟩ :: l) st K := by
  refine VRS.step fun hok a w g hT next Q' hn => wanted_step hT rfl ?_
  have hef := hT.ev f
  rw [hf, SR, CR] at hef
  obtain ⟨us0, hfv, hv0⟩ := hef
  rw [VR] at hv0
  subst hv0
  have hargs : SRs g w st.rs (args.toList.map st.ev) (args.toList.map a.eval ++ []) := by rw [List.append_nil]; exact SRs_map _ _ _ (fun x _ => hT.ev x)
  have hexec := run_call (o := ⟨dst, .call ⟨.value f, args, ats⟩, ty, p, af, none⟩) (a := a) (w := w) (us := []) L.con.1 rfl rfl hfv
  unfold Oper.wp
  rw [hexec, Oper.upon_enter]
  refine (L.calls hT hargs).mono fun en w' ⟨vs, g', he, k1, k2⟩ => ?_
  subst he
  refine hn _ _ _ g' h (k1.putd (opOk_dst hok) ?_)
  cases rs with
  | nil =>
    rw [renSs, SRs] at k2
    subst k2
    show SR g' w' _ (.tup (renSs τ [])) (.tuple [].toArray)
    rw [SR, renSs]
    exact ⟨[], rfl, by rw [SRs]⟩
  | cons r rest =>
    cases rest with
    | nil =>
      rw [renSs, renSs, SRs] at k2
      obtain ⟨v, us', rfl, q1, q2⟩ := k2
      rw [SRs] at q2
      subst q2
      exact q1
    | cons r2 rest =>
      have k2' := k2
      rw [renSs, renSs, SRs] at k2
      obtain ⟨v, us', rfl, q1, q2⟩ := k2
      rw [SRs] at q2
      obtain ⟨v2, us2, rfl, q3, q4⟩ := q2
      show SR g' w' _ (.tup (renSs τ (r :: r2 :: rest))) (.tuple (v :: v2 :: us2).toArray)
      rw [SR]
      exact ⟨_, rfl, k2'⟩
end
structure LendK (P : Program) (st : St) (fid : FuncId) (args : List S) (b b' : List (Nat × Res)) (as0 rs as1 : List S) (τ : Nat → Nat) (C : List Nat) : Prop where
  con : ConK P fid as0 b rs as1 b'
  args : args = renSs τ as0
  pre : ∀ p ∈ b, st.rs (τ p.1) = some (renR τ p.2)
  inj : (b'.map fun p => τ p.1).Nodup
  sub : ∀ p ∈ b, p.1 ∈ b'.map (·.1)
  cl : ∀ p ∈ b', ∀ j ∈ p.2.nam, j ∈ b'.map (·.1)
  clr : ∀ j ∈ S.nams rs, j ∈ b'.map (·.1)
  kept : ∀ p ∈ b', τ p.1 ∈ C ∨ ∃ r, lk b p.1 = some r ∧ alikeR r p.2
section
variable {P : Program} {w0 : World} {K0 : K0T} {nt : Nat} {st : St} {a : Act} {w : World} {g : G}
theorem LendK.calls {fid : FuncId} {args : List S} {b b' : List (Nat × Res)} {as0 rs as1 : List S} {τ : Nat → Nat} {C : List Nat} (L : LendK P st fid args b b' as0 rs as1 τ C) (h : T w0 K0 nt st a w g) {us : List Value} (hu : SRs g w st.rs args us) :
    Calls P fid us.toArray w fun e w' => ∃ (vs : List Value) (g' : G), e = .returned (retV vs) ∧ T w0 K0 nt (lendSt st τ C b') a w' g' ∧ SRs g' w' (lendSt st τ C b').rs (renSs τ rs) vs := by
  have hb : ∀ i r, lk b i = some r → st.rs (τ i) = some (renR τ r) := fun i r hi => L.pre (i, r) (lk_mem hi)
  have inj : ∀ i j, (lk b' i).isSome = true → (lk b' j).isSome = true → τ i = τ j → i = j := by
    intro i j hi hj e
    obtain ⟨ri, hri⟩ := Option.isSome_iff_exists.1 hi
    obtain ⟨rj, hrj⟩ := Option.isSome_iff_exists.1 hj
    exact (Prod.mk.inj (nodup_inj L.inj (lk_mem hri) (lk_mem hrj) e)).1
  have sub : ∀ i, (lk b i).isSome = true → (lk b' i).isSome = true := fun i hi => by
    obtain ⟨r, hr⟩ := Option.isSome_iff_exists.1 hi
    exact lk_some.1 (L.sub _ (lk_mem hr))
  have hu0 := hu
  rw [L.args] at hu
  have hu' := SRs_ren1 hb as0 us hu
  have hM0 : M w ⟨g.K, lent ⟨g.K, fun i => g.loc (τ i)⟩ b, []⟩ (lk b) w ⟨g.K, fun i => g.loc (τ i)⟩ := by
    refine ⟨Bel.refl _ _ _, fun _ _ k => k, fun _ _ k _ => k, h.klt, fun i r hi => ?_, fun i j ri rj hi hj hne k h1 h2 => ?_, fun _ _ _ => rfl⟩
    · exact RR_ren1 hb (fun k hk ho => ho.2 ⟨i, r, hi, hk⟩) (h.res _ _ (hb i r hi))
    · exact h.dis _ _ _ _ (hb i ri hi) (hb j rj hj) (fun e => hne (inj i j (sub i (by rw [hi]; rfl)) (sub j (by rw [hj]; rfl)) e)) k h1 h2
  refine (L.con.2 w _ us hM0 hu').mono fun e w' ⟨vs, g0, he, hM, hrs, has, hloc⟩ => ?_
  obtain ⟨g', k1, k2, k3, k4⟩ := T.lend h (st' := lendSt st τ C b') (C := C) hb hM inj (fun i r hi j hj => lk_some.1 (L.cl (i, r) (lk_mem hi) j (r.nam_of hj))) sub (fun i r' hi => by
      rcases L.kept (i, r') (lk_mem hi) with hc | ⟨r, h1, h2⟩
      · exact .inl hc
      · exact .inr ⟨r, h1, h2, hloc i r h1⟩) rfl (fun i r hi => by
      show vlook none ((b'.map fun p => (τ p.1, some (renR τ p.2))) ++ (st.clrL C).res) (τ i) = _
      rw [look_app, if_pos (List.mem_map.2 ⟨(i, r), lk_mem hi, rfl⟩)]
      exact look_in L.inj hi) (fun n hn => by
      show vlook none ((b'.map fun p => (τ p.1, some (renR τ p.2))) ++ (st.clrL C).res) n = _
      rw [look_app, if_neg (fun hm => by
        obtain ⟨p, hp, e⟩ := List.mem_map.1 hm
        exact hn p.1 (lk_some.1 (List.mem_map.2 ⟨p, hp, rfl⟩)) e)]
      rfl)
  exact ⟨vs, g', he, k1, SRs_ren2 k2 rs vs (fun j hj => k4 j (lk_some.1 (L.clr j (S.nams_of rs hj)))) hrs⟩
end
section
variable {P : Program} {w0 : World} {K0 : K0T} {nt : Nat} {OPS : Array Oper} {st : St}
/-- a call that leaves what it is lent where it is -/
theorem VRS.callK {OPS : Array Oper} {dst : Option Nat} {f : Operand} {args : Array Operand} {ats : Array TypeId} {ty : TypeId} {p : String} {af : Array Edge} {l : List Oper} {K : St → Prop} {fid : FuncId} (b b' : List (Nat × Res)) (as0 rs as1 : List S) (τ : Nat → Nat) (C : List Nat)
    (hf : st.ev f = .c (.fn fid [])) (L : LendK P st fid (args.toList.map st.ev) b b' as0 rs as1 τ C)
    (h : VRS P w0 K0 nt OPS l ((lendSt st τ C b').putd dst (retS τ rs)) K) :
    VRS P w0 K0 nt OPS (⟨dst, .call ⟨.value f, args, ats⟩, ty, p, af, none⟩ :: l) st K := by
  refine VRS.step fun hok a w g hT next Q' hn => wanted_step hT rfl ?_
  have hef := hT.ev f
  rw [hf, SR, CR] at hef
  obtain ⟨us0, hfv, hv0⟩ := hef
  rw [VR] at hv0
  subst hv0
  have hargs : SRs g w st.rs (args.toList.map st.ev) (args.toList.map a.eval ++ []) := by rw [List.append_nil]; exact SRs_map _ _ _ (fun x _ => hT.ev x)
  have hexec := run_call (o := ⟨dst, .call ⟨.value f, args, ats⟩, ty, p, af, none⟩) (a := a) (w := w) (us := []) L.con.1 rfl rfl hfv
  unfold Oper.wp
  rw [hexec, Oper.upon_enter]
  refine (L.calls hT hargs).mono fun en w' ⟨vs, g', he, k1, k2⟩ => ?_
  subst he
  refine hn _ _ _ g' h (k1.putd (opOk_dst hok) ?_)
  cases rs with
  | nil =>
    rw [renSs, SRs] at k2
    subst k2
    show SR g' w' _ (.tup (renSs τ [])) (.tuple [].toArray)
    rw [SR, renSs]
    exact ⟨[], rfl, by rw [SRs]⟩
  | cons r rest =>
    cases rest with
    | nil =>
      rw [renSs, renSs, SRs] at k2
      obtain ⟨v, us', rfl, q1, q2⟩ := k2
      rw [SRs] at q2
      subst q2
      exact q1
    | cons r2 rest =>
      have k2' := k2
      rw [renSs, renSs, SRs] at k2
      obtain ⟨v, us', rfl, q1, q2⟩ := k2
      rw [SRs] at q2
      obtain ⟨v2, us2, rfl, q3, q4⟩ := q2
      show SR g' w' _ (.tup (renSs τ (r :: r2 :: rest))) (.tuple (v :: v2 :: us2).toArray)
      rw [SR]
      exact ⟨_, rfl, k2'⟩
/-- a struct that holds own rows is a datum from now on -/
theorem VRS.snapS {l : List Oper} {K : St → Prop} (t : Nat) (ss : List S) (cs : List C) (hg : st.get t = .st ss) (h : vsnaps st ss fun ss' st' => ss' = cs.map .c ∧ VRS P w0 K0 nt OPS l (st'.put t (.agg cs)) K) : VRS P w0 K0 nt OPS l st K := by
  intro hok a w g hT Q hn
  have henv := hT.env t
  rw [hg, SR] at henv
  obtain ⟨us, hu, hss, hone⟩ := henv
  obtain ⟨ss', st', g', ⟨rfl, k1⟩, k2, k3, _⟩ := vsnaps_ok _ _ st g _ hT hss h
  exact k1 hok a w g' (k2.re (by rw [SR]; exact ⟨us, hu, VR_of_SRs cs us k3⟩)) Q hn
end
end Go.VL
