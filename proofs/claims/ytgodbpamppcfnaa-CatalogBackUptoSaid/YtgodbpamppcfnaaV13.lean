/-
  A logic on data over the model's walk, part 13: make, calls; one operation, whole.
-/
import Derived.Test.YtgodbpamppcfnaaV12
set_option linter.unusedSimpArgs false
set_option linter.unusedVariables false
namespace Go.VL
open Go.RowKit

section
variable {P : Program} {w0 : World} {K0 : K0T} {nt : Nat} {st : St} {a : Act} {w : World} {g : G}
variable {o : Oper} {K : St → Prop} {e : Operand → S} {next : Act → World → Prop} {Q : Exit → Act → World → Prop}

theorem wrap_small {n : Int} (h0 : 0 ≤ n) (h1 : n ≤ 9223372036854775807) : IntKind.i64.wrap n = n := IntWalk.i64_in n (by omega)

theorem run_make {t el : TypeId} {i : TypeInfo} {z : Value} {k k' : IntKind} {n m : Int} (ht : P.underlying t = some (.slice el)) (hi : P.info? el = some i) (hz : i.zero = some z) (h0 : 0 ≤ n) (h1 : n ≤ m) (hB0 : 0 < i.bytes) (hB : m.toNat * i.bytes ≤ 140737488355328) (hs : 0 < i.size) (hzs : z.cells.size = i.size) :
    (Instr.makeSlice t (.int k n) (.int k' m)).run P w = .ok (.slice (some ⟨w.heap.size, 0, none⟩) n.toNat m.toNat) (w.alloc (.cells (List.replicate m.toNat z.cells.toList).flatten.toArray el)) := by
  have hm : (m.toNat : Int) = m := Int.toNat_of_nonneg (by omega)
  have hmB : m.toNat * 1 ≤ m.toNat * i.bytes := Nat.mul_le_mul_left _ hB0
  have hw1 : IntKind.i64.wrap n = n := wrap_small h0 (by omega)
  have hw2 : IntKind.i64.wrap m = m := wrap_small (by omega) (by omega)
  have hb : (i.bytes : Int) * m = ((m.toNat * i.bytes : Nat) : Int) := by
    rw [Int.natCast_mul, hm, Int.mul_comm]
  have c1 : ¬ (m < 0) := by omega
  have c2 : ¬ ((i.bytes : Int) * m > 2 ^ 48) := by rw [hb]; omega
  have c3 : ¬ (n < 0) := by omega
  have c4 : ¬ (n > m) := by omega
  have hcells : (Array.map (fun x => z.cells[x % z.cells.size]!) (Array.range (m.toNat * i.size))) = (List.replicate m.toNat z.cells.toList).flatten.toArray := by
    apply Array.ext'
    have hl : z.cells.toList.length = i.size := by simpa using hzs
    have := range_map_flat z.cells.toList (by omega) m.toNat
    simp only [Array.toList_map, Array.toList_range]
    rw [← hl]
    simpa using this
  simp only [Instr.makeSlice, Sem.run_bind, run_underlying ht, Result.andThen_ok, asInt, asIntOf, pure_bind, Sem.run_pure, typeInfo, run_program, hi, hw1, hw2, sizeOf]
  have hcond : ((decide (m < 0) || decide ((i.bytes : Int) * m > 2 ^ 48)) || decide (n < 0) || decide (n > m)) = false := by
    simp only [c1, c2, c3, c4, decide_false, Bool.or_false]
  rw [hcond]
  have hsz : (sizeOf el).run P w = .ok i.size w := by simp [sizeOf, typeInfo, hi]
  have hsz' : ∀ f : Nat → Sem Value, ((sizeOf el) >>= f).run P w = (f i.size).run P w := fun f => by rw [Sem.run_bind, hsz, Result.andThen_ok]
  simp only [sizeOf, typeInfo] at hsz'
  simp only [Bool.false_eq_true, if_false, Sem.run_bind, run_askRoom, Result.andThen_ok, run_program, hi, Sem.run_pure]
  by_cases hz0 : m.toNat * i.size = 0
  · have hm0 : m.toNat = 0 := by
      rcases Nat.mul_eq_zero.1 hz0 with q | q
      · exact q
      · omega
    simp [hm0, newRow, Array.range_zero']
  · simp only [hz0, if_false, zeroValue, Sem.run_bind, typeInfo, run_program, hi, hz, Result.andThen_ok, Sem.run_pure, hcells, newRow, run_newObj, World.alloc_eq]

theorem vmake_ok (h : T w0 K0 nt st a w g) (hd : ∀ t, o.dst = some t → t < nt) {t : TypeId} {l c : Operand} (ho : o.op = .makeSlice t l c) (hl : SR g w st.rs (e l) (a.eval l)) (hc : SR g w st.rs (e c) (a.eval c))
    (hv : vmake P o.dst st t (e l) (e c) K) (hn : ∀ st' a' w' g', K st' → T w0 K0 nt st' a' w' g' → next a' w') : o.wp P a w next Q := by
  unfold vmake at hv
  split at hv
  · rename_i y s B n m hy ht hln hcm
    split at hv
    · rename_i el hel
      split at hv
      · rename_i z hz
        split at hv
        · rename_i zc hzc
          obtain ⟨h0, h1, hB0, hB, hs0, hK⟩ := hv
          obtain ⟨el', i, z', t1, t2, t3, t4, t5, rfl, rfl⟩ := slT_some ht
          rw [hel] at t1
          simp at t1
          subst t1
          have hzz : z = z' := by
            unfold zeroOf at hz
            rw [t2] at hz
            simp only [Option.bind_some, t3] at hz
            cases hz; rfl
          subst hzz
          obtain ⟨k, hk⟩ := sint_eq hln hl
          obtain ⟨k', hk'⟩ := sint_eq hcm hc
          have hrun := run_make (P := P) (w := w) (k := k) (k' := k') hel t2 t3 h0 h1 hB0 hB hs0 t4
          have hzv := cellsS_VR (st := st) hzc (SR_ofConst g w st.rs z)
          have hzl : zc.length = i.size := by have := ((VR_iff _ _).1 hzv).1; simp at this; omega
          have hcap : m.toNat ≤ maxLen := by
            have : m.toNat * 1 ≤ m.toNat * i.bytes := Nat.mul_le_mul_left _ hB0
            simp only [maxLen]; omega
          have hhold : Holds g.K w i.size (List.replicate n.toNat zc) (List.replicate m.toNat z.cells.toList).flatten.toArray := by
            have hfl := flat_rep zc z.cells.toList hzv m.toNat
            have hch := chunks_holds (s := i.size) (n := m.toNat) hfl (by simp [hzl])
            intro j d hj
            have hjn : j < n.toNat := by have := (List.getElem?_eq_some_iff.1 hj).1; simpa using this
            have e1 : d = zc := by simp [hjn] at hj; exact hj.symm
            subst e1
            refine hch j d ?_
            rw [chunks_get _ _ _ _ (by omega)]
            congr 1
            have : ∀ (p : Nat) (q : Nat), q < p → (((List.replicate p d).flatten.drop (q * i.size)).take i.size) = d := by
              intro p
              induction p with
              | zero => intro q h; omega
              | succ p ih =>
                intro q hq
                simp only [List.replicate_succ, List.flatten_cons]
                cases q with
                | zero => simp [← hzl]
                | succ q =>
                  have : (q + 1) * i.size = d.length + q * i.size := by rw [Nat.add_mul, hzl]; omega
                  rw [this, List.drop_append]
                  have hz1 : d.length + q * i.size - d.length = q * i.size := by omega
                  rw [hz1, List.drop_of_length_le (by omega), List.nil_append]
                  exact ih q (by omega)
            exact this _ _ (by omega)
          obtain ⟨g1, m1, m2, m3, m4⟩ := h.newarr (64 * y) i.size (List.replicate n.toNat zc) _ el m.toNat _ (.inl rfl) hhold (by simp; omega) hcap (by simp [t4])
          refine ow_value (o := o) (u := .slice (some ⟨w.heap.size, 0, none⟩) n.toNat m.toNat) (w' := w.alloc (.cells (List.replicate m.toNat z.cells.toList).flatten.toArray el)) (by simp [execOp, ho, hk, hk', hrun]) (hn _ _ _ g1 hK ?_)
          rw [hy]
          refine T.puto m1 (hd y hy) ?_
          rw [m2]; simp
        · exact hv.elim
      · exact hv.elim
    · exact hv.elim
  · exact hv.elim

theorem run_call {c : Call} {f : Operand} {fid : FuncId} {us : List Value} (hcall : callable P fid = true) (ho : o.op = .call c) (hc : c.callee = .value f) (hfv : a.eval f = .func (.func fid) #[] us.toArray) :
    (execOp a.eval o).run P w = .ok (.enter fid ((c.args.toList.map a.eval ++ us).toArray)) w := by
  unfold callable at hcall
  split at hcall
  · rename_i fn hfn
    simp only [Bool.and_eq_true, bne_iff_ne, ne_eq] at hcall
    obtain ⟨c1, c2⟩ := hcall
    have c3 : (fn.name == "runtime.NumGoroutine") = false := by simpa using c1
    have c4 : fn.body.isNone = false := by
      cases hb : fn.body with
      | none => rw [hb] at c2; simp at c2
      | some b => rfl
    obtain ⟨cal, args, ats⟩ := c
    simp only at hc
    subst hc
    have harr : (args.map a.eval) ++ us.toArray = (args.toList.map a.eval ++ us).toArray := by
      apply Array.ext'; simp
    simp only [execOp, ho, resolve, Deferred.ofValue, hfv, Sem.run_bind, Sem.run_pure, Result.andThen_ok, invoke, callFunc, run_program, hfn, c3, c4, Bool.false_eq_true, if_false, Array.empty_append]
    rw [harr]
  · cases hcall

theorem vlend_ok (h : T w0 K0 nt st a w g) (hd : ∀ t, o.dst = some t → t < nt) {c : Call} {f : Operand} {fid : FuncId} {us : List Value} (ho : o.op = .call c) (hc : c.callee = .value f) (hfv : a.eval f = .func (.func fid) #[] us.toArray)
    {args : List S} (hargs : SRs g w st.rs args (c.args.toList.map a.eval ++ us)) (hv : vlend P o.dst st fid args K) (hn : ∀ st' a' w' g', K st' → T w0 K0 nt st' a' w' g' → next a' w') : o.wp P a w next Q := by
  obtain ⟨m, hm⟩ := hv
  obtain ⟨args', st1, g1, ⟨b, b', as0, rs, as1, τ, C, L, hK⟩, h, hargs, _⟩ := vsnapm_ok m _ _ st g _ h hargs hm
  have hexec := run_call (o := o) (a := a) (w := w) L.con.1 ho hc hfv
  unfold Oper.wp
  rw [hexec, Oper.upon_enter]
  refine (L.calls h hargs).mono fun en w' ⟨vs, g', he, k1, k2⟩ => ?_
  subst he
  have hres : SR g' w' (lendSt st1 τ C b').rs (retS τ rs) (retV vs) := by
    cases rs with
    | nil =>
      rw [renSs, SRs] at k2
      subst k2
      show SR g' w' (lendSt st1 τ C b').rs (.tup (renSs τ [])) (.tuple [].toArray)
      rw [SR, renSs]
      exact ⟨[], rfl, by rw [SRs]⟩
    | cons r rest =>
      cases rest with
      | nil =>
        rw [renSs, renSs, SRs] at k2
        obtain ⟨v, us', rfl, q1, q2⟩ := k2
        rw [SRs] at q2
        subst q2
        exact q1
      | cons r2 rest =>
        have k2' := k2
        rw [renSs, renSs, SRs] at k2
        obtain ⟨v, us', rfl, q1, q2⟩ := k2
        rw [SRs] at q2
        obtain ⟨v2, us2, rfl, q3, q4⟩ := q2
        show SR g' w' (lendSt st1 τ C b').rs (.tup (renSs τ (r :: r2 :: rest))) (.tuple (v :: v2 :: us2).toArray)
        rw [SR]
        exact ⟨_, rfl, k2'⟩
  exact hn _ _ _ g' hK (k1.putd hd hres)

theorem vcall_ok (h : T w0 K0 nt st a w g) (hd : ∀ t, o.dst = some t → t < nt) {c : Call} {f : Operand} (ho : o.op = .call c) (hc : c.callee = .value f) (he : ∀ x ∈ o.op.operands.toList, SR g w st.rs (e x) (a.eval x))
    (hv : vcall P o.dst st (e f) (c.args.toList.map e) K) (hn : ∀ st' a' w' g', K st' → T w0 K0 nt st' a' w' g' → next a' w') : o.wp P a w next Q := by
  have hef : SR g w st.rs (e f) (a.eval f) := he f (by rw [ho]; simp [Op.operands, Call.operands, hc])
  have hargs : SRs g w st.rs (c.args.toList.map e) (c.args.toList.map a.eval) := SRs_map _ _ _ (fun x hx => he x (by rw [ho]; simp [Op.operands, Call.operands, hc]; exact .inr (by simpa using hx)))
  unfold vcall at hv
  split at hv
  · rename_i fid caps hf
    rw [hf] at hef
    have hv' : vcallA P o.dst st fid caps (c.args.toList.map e) K ∨ (caps = [] ∧ vlend P o.dst st fid (c.args.toList.map e) K) := by
      unfold vcallQ at hv
      split at hv
      · exact hv
      · exact .inl hv
    clear hv
    rcases hv' with hv | ⟨rfl, hv⟩
    case inr =>
      simp only [SR, CR, VR] at hef
      obtain ⟨us, hfv, rfl⟩ := hef
      exact vlend_ok h hd ho hc hfv (by rw [List.append_nil]; exact hargs) hv hn
    unfold vcallA at hv
    obtain ⟨ss', st', g', k1, k2, k3, k4, k5, k6⟩ := vsnaps_ok _ _ st g _ h hargs hv
    have hef' := k4 _ _ hef
    simp only [SR, CR] at hef'
    obtain ⟨us, hfv, hcv⟩ := hef'
    have hcaps : SRs g' w st'.rs (caps.map .c) us := by
      rw [SRs_iff]
      obtain ⟨q1, q2⟩ := (VR_iff _ _).1 hcv
      refine ⟨by simp [q1], fun k s u e1 e2 => ?_⟩
      simp only [List.getElem?_map, Option.map_eq_some_iff] at e1
      obtain ⟨d, e1, rfl⟩ := e1
      rw [SR]; exact q2 k d u e1 e2
    have hall : SRs g' w st'.rs (ss' ++ caps.map .c) (c.args.toList.map a.eval ++ us) := by
      rw [SRs_iff] at k3 hcaps ⊢
      refine ⟨by simp [k3.1, hcaps.1], fun k s u e1 e2 => ?_⟩
      by_cases hlt : k < ss'.length
      · rw [List.getElem?_append_left hlt] at e1
        rw [List.getElem?_append_left (by rw [k3.1]; exact hlt)] at e2
        exact k3.2 k s u e1 e2
      · rw [List.getElem?_append_right (by omega)] at e1
        rw [List.getElem?_append_right (by rw [k3.1]; omega), k3.1] at e2
        exact hcaps.2 _ s u e1 e2
    rcases k1 with ⟨rs, ⟨hcall, hsp⟩, hK⟩ | hvl
    case inr => exact vlend_ok k2 hd ho hc hfv hall hvl hn
    have hcalls := hsp w g'.K _ k2.klt (DRs_of hall)
    have hexec := run_call (o := o) (a := a) (w := w) hcall ho hc hfv
    unfold Oper.wp
    rw [hexec, Oper.upon_enter]
    refine hcalls.mono fun en w' hpost => ?_
    obtain ⟨vs, rfl, hbel, K', p1, p2, p3, p4⟩ := hpost
    have hB : w0.heap.size ≤ w.heap.size := h.below.size
    have hkeep : Keeps g'.K w K' w' := ⟨p1, fun b o k => by
      have := k2.klt b o k
      simp only [World.cell?]; rw [hbel.block b this]⟩
    have hT1 := k2.world (Bel.of (hbel.mono hB)) hkeep (fun b o k hlt => k2.kold b o (p2 b o k (by have := hlt.1; omega)) hlt) p3 (fun i r b hi hb => by
      have hlt := (k2.res i r hi).lt hb
      exact ⟨hbel.block b hlt, fun o k => p2 b o k hlt⟩)
    have hlow : ∀ i r b, st'.rs i = some r → blk (g'.loc i) = some b → b < w.heap.size ∨ ∃ v ∈ ([] : List Value), blk v = some b := fun i r b hi hb => .inl ((k2.res i r hi).lt hb)
    have hB' : w0.heap.size ≤ w'.heap.size := Nat.le_trans hB hbel.size
    cases hdst : o.dst with
    | none =>
      rw [hdst] at hK
      exact hn _ _ _ _ hK hT1
    | some y =>
      rw [hdst] at hK
      have hlen := p4.1
      have hy := hd y hdst
      cases rs with
      | nil =>
        cases vs with
        | cons v vs => simp at hlen
        | nil =>
          obtain ⟨g2, m1, m2, m3, m4, m5⟩ := T.rets hB' [] [] st' _ (64 * y + 1) w.heap.size [] hT1 hlow p4 hB (by simp)
          exact hn _ _ _ g2 hK (m1.put hy (by rw [SR]; exact ⟨[], rfl, m2⟩))
      | cons r rest =>
        cases vs with
        | nil => simp at hlen
        | cons v vs =>
          cases rest with
          | nil =>
            cases vs with
            | cons v' vs => simp at hlen
            | nil =>
              obtain ⟨g2, m1, m2, m3, m4, m5⟩ := T.rets hB' [r] [v] st' _ (64 * y) w.heap.size [] hT1 hlow p4 hB (by simp)
              refine hn _ _ _ g2 hK (m1.put hy ?_)
              have e1 : (vrets st' (64 * y) [r]).1 = [(vret1 st' (64 * y) r).1] := rfl
              rw [e1, SRs] at m2
              obtain ⟨u, us', q1, q2, _⟩ := m2
              simp at q1
              rw [q1.1]
              exact q2
          | cons r2 rest =>
            cases vs with
            | nil => simp at hlen
            | cons v2 vs =>
              obtain ⟨g2, m1, m2, m3, m4, m5⟩ := T.rets hB' (r :: r2 :: rest) (v :: v2 :: vs) st' _ (64 * y + 1) w.heap.size [] hT1 hlow p4 hB (by simp)
              exact hn _ _ _ g2 hK (m1.put hy (by rw [SR]; exact ⟨_, rfl, m2⟩))
  · exact hv.elim

theorem vloadb_ok (h : T w0 K0 nt st a w g) {t : TypeId} {s : S} {u : Value} {k : S → St → Prop} (hs : SR g w st.rs s u) (hv : vloadb P st t s k) :
    ∃ r s' st' g', (Instr.loadAt t u).run P w = .ok r w ∧ k s' st' ∧ T w0 K0 nt st' a w g' ∧ SR g' w st'.rs s' r ∧ (∀ s u, SR g w st.rs s u → SR g' w st'.rs s u) ∧ g'.loc = g.loc := by
  unfold vloadb at hv
  split at hv
  · rename_i m i off ht
    split at hv
    · rename_i fz ss hr
      rw [SR] at hs
      obtain ⟨b, hb, rfl⟩ := hs fz ss hr
      obtain ⟨b', cur, E, h1, h2, h3, h4, h5, h6⟩ := h.res i _ hr
      rw [hb] at h1
      simp at h1; subst h1
      have hcells : SRs g w st.rs ((ss.drop off).take m) ((cur.toList.drop off).take m) := by
        rw [SRs_iff]
        refine ⟨by simp; omega, fun k s' v e1 e2 => ?_⟩
        rw [List.getElem?_take] at e1 e2
        split at e1
        · rename_i hlt
          rw [if_pos hlt] at e2
          rw [List.getElem?_drop] at e1 e2
          obtain ⟨v', k1, k2, k3⟩ := h5 _ _ e1
          have : v' = v := by simp at e2; rw [k1] at e2; exact Option.some.inj e2
          subst this; exact k2
        · cases e1
      obtain ⟨ss', st', g', ⟨hlen, hk⟩, k2, k3, k4, k5, k6⟩ := vsnaps_ok _ _ st g _ h hcells (vsnaps_length _ _ _ hv)
      split at hk
      · rename_i cs hcs
        obtain ⟨hm, hk⟩ := hk
        have hl3 := ((SRs_iff _ _).1 k3).1
        have hv := allC_VR (st := st') ss' cs _ hcs hl3 ((SRs_iff _ _).1 k3).2
        have hvl := ((VR_iff _ _).1 hv).1
        refine ⟨.agg ((cur.toList.drop off).take m).toArray, .agg cs, st', g', ?_, hk, k2, by rw [SR]; exact ⟨_, rfl, hv⟩, k4, k5⟩
        have hl : (Instr.loadAt t (.pointer (some ⟨b, off, none⟩))).run P w = (loadVar t ⟨b, off, none⟩).run P w := by simp [Instr.loadAt, Instr.sureAddr]
        rw [hl]
        refine run_loadVar_agg ht (by rw [hvl, hm]) (fun j v hj => ?_)
        rw [add_lit, cell_of_heap h3]
        rw [List.getElem?_take] at hj
        split at hj
        · rw [List.getElem?_drop] at hj; simpa using hj
        · cases hj
      · exact hk.elim
    · exact hv.elim
  · obtain ⟨h1, h2⟩ := hv
    obtain ⟨r, e1, e2⟩ := pload_ok h hs h1
    exact ⟨r, _, st, g, e1, h2, h, e2, fun _ _ h => h, rfl⟩

theorem vcap_ok (h : T w0 K0 nt st a w g) {s : S} {u : Value} {k : C → St → Prop} (hs : SR g w st.rs s u) (hv : vcap st s k) :
    ∃ c st' g', k c st' ∧ T w0 K0 nt st' a w g' ∧ CR g'.K w c u ∧ (∀ s u, SR g w st.rs s u → SR g' w st'.rs s u) ∧ Keeps g.K w g'.K w := by
  unfold vcap at hv
  split at hv
  · rw [SR] at hs
    exact ⟨_, st, g, hv, h, hs, fun _ _ q => q, Keeps.refl _ _⟩
  · rename_i i
    split at hv
    · rename_i fz ss hi
      obtain ⟨b, cur, E, h1, h2, h3, h4, h5, h6⟩ := h.res i _ hi
      have hss : SRs g w st.rs ss cur.toList := by
        rw [SRs_iff]
        refine ⟨by simpa using h4, fun k s u e1 e2 => ?_⟩
        obtain ⟨u', q1, q2, _⟩ := h5 k s e1
        rw [← Array.getElem?_toList, e2] at q1
        cases q1
        exact q2
      obtain ⟨ss', st1, g1, k1, k2, k3, k4, k5, k6⟩ := vsnaps_ok _ _ st g _ h hss hv
      split at k1
      · rename_i cs fz2 ss2 hcs hi2
        have hvr : ∀ b' cur' E', g1.loc i = .pointer (some ⟨b', 0, none⟩) → w.heap[b']? = some (.cells cur' E' (0, 0)) → VR g1.K w cs cur'.toList := by
          intro b' cur' E' e1 e2
          rw [k5, h1] at e1
          simp at e1
          subst e1
          rw [h3] at e2
          simp at e2
          obtain ⟨rfl, _⟩ := e2
          exact allC_VR (st := st1) ss' cs _ hcs ((SRs_iff _ _).1 k3).1 ((SRs_iff _ _).1 k3).2
        obtain ⟨g2, m1, m2, m3, m4, m5⟩ := k2.fixbox hi2 hvr
        refine ⟨_, _, g2, k1, m1, ?_, fun s u q => m2 s u (k4 s u q), k6.trans m5⟩
        rw [SR] at hs
        obtain ⟨b', q1, rfl⟩ := hs fz ss hi
        rw [CR]
        exact ⟨b', 0, rfl, m3 b' (by rw [k5]; exact q1)⟩
      · exact k1.elim
    · exact hv.elim
  · exact hv.elim
theorem vcaps_ok : ∀ (ss : List S) (us : List Value) (st : St) (g : G) (k : List C → St → Prop), T w0 K0 nt st a w g → SRs g w st.rs ss us → vcaps st ss k →
    ∃ cs st' g', k cs st' ∧ T w0 K0 nt st' a w g' ∧ VR g'.K w cs us ∧ (∀ s u, SR g w st.rs s u → SR g' w st'.rs s u) ∧ Keeps g.K w g'.K w
  | [], us, st, g, k, h, hs, hv => by
    rw [SRs] at hs
    subst hs
    exact ⟨[], st, g, hv, h, by rw [VR], fun _ _ q => q, Keeps.refl _ _⟩
  | s :: r, us, st, g, k, h, hs, hv => by
    rw [SRs] at hs
    obtain ⟨u, us', rfl, h1, h2⟩ := hs
    rw [vcaps] at hv
    obtain ⟨c, st1, g1, k1, k2, k3, k4, k5⟩ := vcap_ok h h1 hv
    have h2' : SRs g1 w st1.rs r us' := by
      rw [SRs_iff] at h2 ⊢
      exact ⟨h2.1, fun n s u e1 e2 => k4 s u (h2.2 n s u e1 e2)⟩
    obtain ⟨cs, st2, g2, m1, m2, m3, m4, m5⟩ := vcaps_ok r us' st1 g1 _ k2 h2' k1
    refine ⟨c :: cs, st2, g2, m1, m2, ?_, fun s u q => m4 s u (k4 s u q), k5.trans m5⟩
    rw [VR]
    exact ⟨u, us', rfl, CR.mono m5 c u k3, m3⟩

theorem vop_ok (h : T w0 K0 nt st a w g) (hd : ∀ t, o.dst = some t → t < nt) (hst : ∀ t x y, o.op = .store t x y → o.dst = none) (he : ∀ x ∈ o.op.operands.toList, SR g w st.rs (e x) (a.eval x))
    (hv : vop P o.dst st e o.op K) (hn : ∀ st' a' w' g', K st' → T w0 K0 nt st' a' w' g' → next a' w') : o.wp P a w next Q := by
  have pure_case : vpure P o.dst st e o.op K → o.wp P a w next Q := fun hv => vpure_ok h hd he hv hn
  unfold vop at hv
  split at hv
  · rename_i ho
    split at hv
    · rename_i x hx
      obtain ⟨g1, m1, m2, m3, m4⟩ := h.nilR (64 * x)
      refine ow_value (o := o) (u := .slice none 0 0) (w' := w) (by simp [execOp, ho, Act.eval]) (hn _ _ _ g1 hv ?_)
      rw [hx]
      exact T.puto m1 (hd x hx) m2
    · exact hv.elim
  · rename_i t ho
    exact valloc_ok h hd ho hv hn
  · rename_i t x ho
    exact vbox_ok h hd ho (he x (by rw [ho]; simp [Op.operands])) hv hn
  · rename_i t ad x ho
    exact vstore_ok h (hst t ad x ho) ho (he ad (by rw [ho]; simp [Op.operands])) (he x (by rw [ho]; simp [Op.operands])) hv hn
  · rename_i t x ho
    obtain ⟨r, s', st', g', e1, k1, k2, k3, k4, k5⟩ := vloadb_ok h (he x (by rw [ho]; simp [Op.operands])) hv
    exact ow_value (o := o) (u := r) (w' := w) (by simp [execOp, ho, e1]) (hn _ _ _ g' k1 (k2.putd hd k3))
  · rename_i t len parts ho
    exact vbuildSlice_ok h hd ho he hv hn
  · rename_i t l c ho
    exact vmake_ok h hd ho (he l (by rw [ho]; simp [Op.operands])) (he c (by rw [ho]; simp [Op.operands])) hv hn
  · rename_i t x lo hi mx ho
    have key : ∀ (g' : G) (st' : St), (∀ s u, SR g w st.rs s u → SR g' w st'.rs s u) → ∀ (z : Option Operand), (∀ y, z = some y → y ∈ (Op.slice t x lo hi mx).operands.toList) → (∀ s, z.map e = some s → ∃ v, z.map a.eval = some v ∧ SR g' w st'.rs s v) := by
      intro g' st' hk z hz s hs
      cases z with
      | none => simp at hs
      | some y => simp at hs; subst hs; exact ⟨_, rfl, hk _ _ (he y (by rw [ho]; exact hz y rfl))⟩
    obtain ⟨s', st', g', ⟨k1, hK⟩, k2, k3, k4, k5, k6⟩ := vsnap_ok h (he x (by rw [ho]; simp [Op.operands])) hv
    obtain ⟨r, h1, h2⟩ := pslice_ok (P := P) (vlo := lo.map a.eval) (vhi := hi.map a.eval) (vmx := mx.map a.eval) k3 (key g' st' k4 lo (fun y hy => by simp [Op.operands, hy])) (by cases lo <;> simp)
      (key g' st' k4 hi (fun y hy => by simp [Op.operands, hy])) (by cases hi <;> simp) (by cases mx <;> simp) k1
    exact ow_value (o := o) (u := r) (w' := w) (by simp [execOp, ho, h1]) (hn _ _ _ g' hK (k2.putd hd h2))
  · rename_i f first cap ho
    obtain ⟨h1, hv⟩ := hv
    have hss : SRs g w st.rs (cap.toList.map e) (cap.toList.map a.eval) := SRs_map _ _ _ (fun x hx => he x (by rw [ho]; simp [Op.operands]; right; simpa using hx))
    obtain ⟨cs, st', g', hK, k2, k3, k4, k5⟩ := vcaps_ok _ _ st g _ h hss hv
    have e1 : first = #[] := by simpa using h1
    subst e1
    refine ow_value (o := o) (u := .func (.func f) #[] (cap.map a.eval)) (w' := w) (by simp [execOp, ho, Instr.makeFunc]) (hn _ _ _ g' hK (k2.putd hd ?_))
    rw [SR, CR]
    refine ⟨cap.toList.map a.eval, ?_, k3⟩
    congr 1
    apply Array.ext'; simp
  · rename_i t parts ho
    split at hv
    · rename_i i n ho1
      split at hv
      · rename_i nil sz xs fx hr
        obtain ⟨hB, hxn, hK⟩ := hv
        have hparts : ∃ x, parts.toList = [(0, x)] ∧ e x = .own i n := by
          unfold oneOwn at ho1
          cases hq : isOne (tySz P t) with
          | false => rw [hq] at ho1; cases ho1
          | true =>
            rw [hq, cond_true] at ho1
            split at ho1
            · rename_i h1 h2
              simp at ho1
              obtain ⟨rfl, rfl⟩ := ho1
              match hp : parts.toList, h1, h2 with
              | [(k, x)], h1, h2 =>
                simp at h1 h2
                exact ⟨x, by rw [h1], h2⟩
            · cases ho1
        obtain ⟨x, hpx, hex⟩ := hparts
        have hsx := he x (by rw [ho]; simp [Op.operands]; exact ⟨0, by rw [← Array.mem_toList_iff, hpx]; simp⟩)
        have hsx0 := hsx
        rw [hex, SR] at hsx0
        have hu := hsx0 nil sz xs fx hr hxn
        have h1c : (a.eval x).oneCell' = true := by
          rcases h.res i _ hr with ⟨_, _, q, _⟩ | ⟨_, b, cap, cur, E, q, _⟩ <;> rw [hu, q] <;> rfl
        have hd1 : PartsR g w st.rs [(0, .c (.v (a.eval x)))] (parts.map fun p => (p.1, a.eval p.2)).toList := by
          rw [Array.toList_map, hpx]
          simp only [List.map_cons, List.map_nil, PartsR, SR, CR]
          exact ⟨_, _, rfl, ⟨rfl, h1c⟩, rfl⟩
        obtain ⟨r, h1, h2⟩ := pbuild_ok (P := P) (t := t) hd1 (by rw [hB]; trivial)
        rw [hB, SR] at h2
        obtain ⟨us, rfl, h2⟩ := h2
        rw [VR] at h2
        obtain ⟨u, us', rfl, h3, h4⟩ := h2
        rw [VR] at h4
        subst h4
        rw [CR] at h3
        obtain ⟨rfl, _⟩ := h3
        refine ow_value (o := o) (u := .agg [a.eval x].toArray) (w' := w) (by simp [execOp, ho, h1]) (hn _ _ _ g hK (h.putd hd ?_))
        rw [SR]
        refine ⟨[a.eval x], rfl, ?_, by simpa using h1c⟩
        rw [SRs]
        exact ⟨_, _, rfl, by rw [← hex]; exact hsx, by rw [SRs]⟩
      · exact hv.elim
    have hss : SRs g w st.rs (parts.toList.map fun p => e p.2) (parts.toList.map fun p => a.eval p.2) := SRs_map _ _ _ (fun p hp => he p.2 (by rw [ho]; simp [Op.operands]; exact ⟨p.1, by simpa using hp⟩))
    obtain ⟨ss', st', g', ⟨hlen, k1, hK⟩, k2, k3, k4, k5, k6⟩ := vsnaps_ok _ _ st g _ h hss (vsnaps_length _ _ _ hv)
    have hparts : PartsR g' w st'.rs ((parts.toList.map (·.1)).zip ss') (parts.map fun p => (p.1, a.eval p.2)).toList := by
      have := PartsR_zip (g := g') (w := w) (parts.toList.map (·.1)) ss' _ (R := st'.rs) (by simpa using hlen.symm) k3
      have e1 : (parts.toList.map (·.1)).zip (parts.toList.map fun p => a.eval p.2) = (parts.map fun p => (p.1, a.eval p.2)).toList := by
        simp only [Array.toList_map]
        generalize parts.toList = l
        induction l with
        | nil => rfl
        | cons p r ih => simp only [List.map_cons, List.zip_cons_cons, ih]
      rw [e1] at this
      exact this
    obtain ⟨r, h1, h2⟩ := pbuild_ok (P := P) (t := t) hparts k1
    exact ow_value (o := o) (u := r) (w' := w) (by simp [execOp, ho, h1]) (hn _ _ _ g' hK (k2.putd hd h2))
  · rename_i c ho
    split at hv
    · rename_i hcal
      split at hv
      · rename_i t xt d x hts hargs
        obtain ⟨cal, args, ats⟩ := c
        simp only at hcal hts hargs
        subst hcal
        have a1 : ats = #[t, xt] := by rw [← Array.toArray_toList (xs := ats), hts]
        have a2 : args = #[d, x] := by rw [← Array.toArray_toList (xs := args), hargs]
        subst a1; subst a2
        exact vappend_ok h hd ho (he d (by rw [ho]; simp [Op.operands, Call.operands])) (he x (by rw [ho]; simp [Op.operands, Call.operands])) hv hn
      · exact hv.elim
    · rename_i f hcal
      exact vcall_ok h hd ho hcal he hv hn
    · exact pure_case hv
  · exact pure_case hv
end
end Go.VL
