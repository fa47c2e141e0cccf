/-
  A logic on data over the model's walk, part 38: functions that panic; regions that end in a panic.
-/
import Derived.Test.YtgodbpamppcfnaaVB
set_option linter.unusedSimpArgs false
set_option linter.unusedVariables false
namespace Go.VL
open Go.RowKit

/-- the chain of one panic -/
def chainOf (pv : Value) : List PanicEntry := [{ v := pv, recovered := false }]

/-- THE CONTRACT of a call that panics: for these arguments, as data, with this value -/
def ConP (P : Program) (f : FuncId) (args : List S) (pv : Value) : Prop :=
  callable P f = true ∧ ∀ (w : World) (K : Nat → Nat → Prop) (us : List Value), (∀ b o, K b o → b < w.heap.size) → DRs K w args us →
    Calls P f us.toArray w fun e w' => e = .panicked (chainOf pv) ∧ BelowD w.heap.size w w'

/-- plain values -/
def plainC : List C → Option (List Value)
  | [] => some []
  | .v x :: r => (plainC r).map (x :: ·)
  | _ => none
def isIface (P : Program) (t : TypeId) : Bool :=
  match P.underlying t with
  | some (.interface _) => true
  | some _ => false
  | none => true

/-- a value that is packed into an interface -/
def vmi (P : Program) (st : St) (o : Oper) (K : St → Prop) : Prop :=
  match o.guard, o.op, o.dst with
  | none, .makeInterface t x, some y =>
    match st.ev x with
    | .agg cs => ∃ us, plainC cs = some us ∧ isIface P t = false ∧ K (st.put y (.c (.v (.iface t (.agg us.toArray)))))
    | .c (.v u) => isIface P t = false ∧ K (st.put y (.c (.v (.iface t u))))
    | _ => False
  | _, _, _ => False

/-- an operation that panics -/
def vpan (P : Program) (ops : Array Oper) (st : St) (o : Oper) (X : Value → St → Prop) : Prop :=
  gflag ops st o.guard = some true ∧ (o.op.operands.toList.all fun x => flagOf (st.ev x)) = true ∧
  match o.op with
  | .panic x =>
    match peel (st.ev x) with
    | .c (.v (.iface t u)) => X (.iface t u) st
    | _ => False
  | .call c =>
    match c.callee with
    | .value f =>
      match peel (st.ev f) with
      | .c (.fn fid caps) => ∃ pv, (frozenDs st (c.args.toList.map fun x => peel (st.ev x))).2 ∧ ConP P fid ((frozenDs st (c.args.toList.map fun x => peel (st.ev x))).1 ++ caps.map .c) pv ∧ X pv st
      | _ => False
    | _ => False
  | _ => False

/-- a region that comes to a panic -/
def vrp (P : Program) (ops : Array Oper) : List Oper → St → (Value → St → Prop) → Prop
  | [], _, _ => False
  | o :: r, st, X => vpan P ops st o X ∨ (vmi P st o fun st' => vrp P ops r st' X) ∨ (vstepL P ops st o fun st' => vrp P ops r st' X)

section
variable {P : Program} {w0 : World} {K0 : K0T} {nt : Nat} {st : St} {a : Act} {w : World} {g : G} {ops : Array Oper}

theorem plainC_ok {K : Nat → Nat → Prop} : ∀ (cs : List C) (us vs : List Value), plainC cs = some us → VR K w cs vs → vs = us
  | [], us, vs, h, hv => by
    simp [plainC] at h
    rw [VR] at hv
    rw [hv, ← h]
  | .v x :: r, us, vs, h, hv => by
    simp only [plainC, Option.map_eq_some_iff] at h
    obtain ⟨us', h1, rfl⟩ := h
    rw [VR] at hv
    obtain ⟨u, vs', rfl, h2, h3⟩ := hv
    rw [CR] at h2
    rw [h2.1, plainC_ok r us' vs' h1 h3]
  | .sl .. :: r, us, vs, h, _ => by simp [plainC] at h
  | .dp .. :: r, us, vs, h, _ => by simp [plainC] at h
  | .fn .. :: r, us, vs, h, _ => by simp [plainC] at h

theorem run_mkIface {t : TypeId} {o : Oper} {x : Operand} {u : Value} (hi : isIface P t = false) (ho : o.op = .makeInterface t x) (hx : a.eval x = u) : (execOp a.eval o).run P w = .ok (.value (.iface t u)) w := by
  unfold isIface at hi
  split at hi
  · cases hi
  · rename_i d hd hu
    have : (Instr.makeInterface t u).run P w = .ok (.iface t u) w := by
      unfold Instr.makeInterface
      have h1 : (Go.underlying t).run P w = .ok d w := by simp [Go.underlying, hu]
      simp only [Sem.run_bind, h1, Result.andThen_ok]
      rfl
    simp [execOp, ho, hx, this]
  · cases hi

theorem vmi_ok (h : T w0 K0 nt st a w g) {o : Oper} (hok : opOk nt o = true) {K : St → Prop} (hv : vmi P st o K) (next : Act → World → Prop) (Q : Exit → Act → World → Prop)
    (hn : ∀ st' a' w' g', K st' → T w0 K0 nt st' a' w' g' → next a' w') : stepW P ops o a w next Q := by
  unfold vmi at hv
  split at hv
  · rename_i t x y hg ho hd
    have hw : Region.wanted o (yielded ops a.tmps) = true := by simp [Region.wanted, hg]
    unfold stepW
    rw [hw, if_pos rfl]
    have hy := opOk_dst hok y hd
    split at hv
    · rename_i cs hx
      obtain ⟨us, h1, h2, h3⟩ := hv
      have he := h.ev x
      rw [hx, SR] at he
      obtain ⟨vs, e1, e2⟩ := he
      obtain rfl := plainC_ok cs us vs h1 e2
      refine ow_value (run_mkIface h2 ho e1) (hn _ _ w g h3 ?_)
      have := h.putd (dst := o.dst) (s := .c (.v (.iface t (.agg vs.toArray)))) (fun t' e => by rw [hd] at e; cases e; exact hy) (u := .iface t (.agg vs.toArray)) (by rw [SR, CR]; exact ⟨rfl, rfl⟩)
      rw [hd] at this ⊢
      exact this
    · rename_i u hx
      obtain ⟨h2, h3⟩ := hv
      have he := h.ev x
      rw [hx, SR, CR] at he
      refine ow_value (run_mkIface h2 ho he.1) (hn _ _ w g h3 ?_)
      have := h.putd (dst := o.dst) (s := .c (.v (.iface t u))) (fun t' e => by rw [hd] at e; cases e; exact hy) (u := .iface t u) (by rw [SR, CR]; exact ⟨rfl, rfl⟩)
      rw [hd] at this ⊢
      exact this
    · exact hv.elim
  · exact hv.elim

theorem vpan_ok (h : T w0 K0 nt st a w g) {o : Oper} {X : Value → St → Prop} (hv : vpan P ops st o X) (next : Act → World → Prop) (Q : Exit → Act → World → Prop)
    (hn : ∀ pv st' w' g', X pv st' → T w0 K0 nt st' a w' g' → Q (.panic (chainOf pv)) a w') : stepW P ops o a w next Q := by
  obtain ⟨hq, hfl, hv⟩ := hv
  have hw := gflag_ok h hq o rfl
  have hev : ∀ x ∈ o.op.operands.toList, SR g w st.rs (peel (st.ev x)) (a.eval x) := fun x hx => peel_ok (h.ev x) (List.all_eq_true.1 hfl x hx)
  unfold stepW
  rw [hw, if_pos rfl]
  split at hv
  · rename_i x ho
    split at hv
    · rename_i t u hx
      have he := hev x (by rw [ho]; simp [Op.operands])
      rw [hx, SR, CR] at he
      unfold Oper.wp
      have : (execOp a.eval o).run P w = .halt (.panic (.iface t u)) w := by simp [execOp, ho, he.1, Instr.panic, goPanic]
      rw [this]
      exact hn _ _ w g hv h
    · exact hv.elim
  · rename_i c ho
    split at hv
    · rename_i f hc
      split at hv
      · rename_i fid caps hf
        obtain ⟨pv, hfd, ⟨hcall, hsp⟩, hX⟩ := hv
        have hef := hev f (by rw [ho]; simp [Op.operands, Call.operands, hc])
        have hargs : SRs g w st.rs (c.args.toList.map fun x => peel (st.ev x)) (c.args.toList.map a.eval) := SRs_map _ _ _ (fun x hx => hev x (by rw [ho]; simp [Op.operands, Call.operands, hc]; exact .inr (by simpa using hx)))
        have k3 := frozenDs_ok h _ _ hargs hfd
        rw [hf] at hef
        simp only [SR, CR] at hef
        obtain ⟨us, hfv, hcv⟩ := hef
        have hcaps : SRs g w st.rs (caps.map .c) us := by
          rw [SRs_iff]
          obtain ⟨q1, q2⟩ := (VR_iff _ _).1 hcv
          refine ⟨by simp [q1], fun k s u e1 e2 => ?_⟩
          simp only [List.getElem?_map, Option.map_eq_some_iff] at e1
          obtain ⟨d, e1, rfl⟩ := e1
          rw [SR]; exact q2 k d u e1 e2
        have hall : SRs g w st.rs ((frozenDs st (c.args.toList.map fun x => peel (st.ev x))).1 ++ caps.map .c) (c.args.toList.map a.eval ++ us) := by
          rw [SRs_iff] at k3 hcaps ⊢
          refine ⟨by simp [k3.1, hcaps.1], fun k s u e1 e2 => ?_⟩
          by_cases hlt : k < (frozenDs st (c.args.toList.map fun x => peel (st.ev x))).1.length
          · rw [List.getElem?_append_left hlt] at e1
            rw [List.getElem?_append_left (by rw [k3.1]; exact hlt)] at e2
            exact k3.2 k s u e1 e2
          · rw [List.getElem?_append_right (by omega)] at e1
            rw [List.getElem?_append_right (by rw [k3.1]; omega), k3.1] at e2
            exact hcaps.2 _ s u e1 e2
        obtain ⟨cal, args, ats⟩ := c
        simp only at hc
        subst hc
        have harr : (args.map a.eval) ++ us.toArray = (args.toList.map a.eval ++ us).toArray := by
          apply Array.ext'; simp
        have hex : (execOp a.eval o).run P w = (callFunc fid ((args.toList.map a.eval ++ us).toArray)).run P w := by
          simp only [execOp, ho, resolve, Deferred.ofValue, hfv, Sem.run_bind, Sem.run_pure, Result.andThen_ok, invoke, Array.empty_append]
          rw [harr]
        unfold Oper.wp
        rw [hex, run_callable hcall, Oper.upon_enter]
        refine (hsp w g.K _ h.klt (DRs_of hall)).mono fun e w' ⟨he, hbel⟩ => ?_
        subst he
        have hB : w0.heap.size ≤ w.heap.size := h.below.size
        have hkeep : Keeps g.K w g.K w' := ⟨fun _ _ k => k, fun b o k => by
          have := h.klt b o k
          simp only [World.cell?]; rw [hbel.block b this]⟩
        have hT1 := h.world (Bel.of (hbel.mono hB)) hkeep (fun b o k hlt => h.kold b o k hlt) (fun b o k => Nat.lt_of_lt_of_le (h.klt b o k) hbel.size) (fun i r b hi hb => by
          have hlt := (h.res i r hi).lt hb
          exact ⟨hbel.block b hlt, fun o k => k⟩)
        exact hn _ _ _ _ hX hT1
      · exact hv.elim
    · exact hv.elim
  · exact hv.elim

theorem vrp_ok {Q : Exit → Act → World → Prop} {X : Value → St → Prop} : ∀ (l : List Oper) (st : St) (a : Act) (w : World) (g : G), T w0 K0 nt st a w g → (l.all (opOk nt)) = true → vrp P ops l st X →
    (∀ pv st' a' w' g', X pv st' → T w0 K0 nt st' a' w' g' → Q (.panic (chainOf pv)) a' w') → wpList P ops Q l a w
  | [], st, a, w, g, h, _, hv, hn => hv.elim
  | o :: r, st, a, w, g, h, hok, hv, hn => by
    simp only [List.all_cons, Bool.and_eq_true] at hok
    have : stepW P ops o a w (wpList P ops Q r) Q := by
      rcases hv with hv | hv | hv
      · exact vpan_ok h hv _ _ (fun pv st' w' g' h1 h2 => hn pv st' a w' g' h1 h2)
      · exact vmi_ok h hok.1 hv _ _ (fun st' a' w' g' h1 h2 => vrp_ok r st' a' w' g' h2 hok.2 h1 hn)
      · exact vstepL_ok h hok.1 hv _ _ (fun st' a' w' g' h1 h2 => vrp_ok r st' a' w' g' h2 hok.2 h1 hn)
    unfold stepW at this
    unfold wpList
    split
    · rename_i hw; rw [if_pos hw] at this; exact .inl this
    · rename_i hw; rw [if_neg hw] at this; exact this
end

/-- A REGION THAT PANICS -/
theorem vw_panic {P : Program} {w0 : World} {K0 : K0T} {nt : Nat} {id : Nat} {ops : Array Oper} {st : St} {Q : Exit → St → Prop} (hok : (ops.toList.all (opOk nt)) = true)
    (h : vrp P ops ops.toList st fun pv st' => Q (.panic (chainOf pv)) st') : VW P w0 K0 nt (.region id ops false) st Q :=
  fun a w g hT => wp_region_list (vrp_ok ops.toList st a w g hT hok h (fun pv st' a' w' g' h1 h2 => ⟨st', g', h1, h2⟩))

/-- A PANIC's CONTRACT OUT OF A BODY -/
theorem spec_ofP {P : Program} {f : FuncId} {fn : Func} {c : Code} {args : List S} {pv : Value} (hf : P.funcs[f]? = some fn) (hb : fn.body = some c) (hc : callable P f = true) (hn : args.length ≤ fn.ntmps)
    (hv : ∀ w0 K0, VW P w0 K0 fn.ntmps c (initSt args) fun e _ => e = .panic (chainOf pv)) : ConP P f args pv := by
  refine ⟨hc, fun w K us hK hargs => ?_⟩
  have hT := T.init (n := fn.ntmps) hK hargs hn
  refine calls_of_wp hf hb (wp_mono (hv w ⟨K, fun _ => False, []⟩ _ w _ hT) fun e a' w' ⟨st', g', h1, h2⟩ => ?_)
  subst h1
  exact ⟨h2.defers, rfl, ⟨⟨h2.below.os, h2.below.tape, h2.below.output, h2.below.size, fun k hk => h2.below.block k ⟨hk, id⟩⟩, h2.below.drawn⟩⟩

/-! by hand, where a region panics: statements one by one -/
theorem vw_seq {P : Program} {w0 : World} {K0 : K0T} {nt : Nat} {x y : Code} {st : St} {Q : Exit → St → Prop} (h : VW P w0 K0 nt x st (seqQ (fun st' => VW P w0 K0 nt y st' Q) Q)) : VW P w0 K0 nt (.seq x y) st Q := fun a w g hT => by
  refine wp_seq (wp_mono (h a w g hT) fun e a' w' ⟨st', g', h1, h2⟩ => ?_)
  cases e with
  | normal => exact h1 a' w' g' h2
  | _ => exact ⟨st', g', h1, h2⟩
theorem vw_cond {P : Program} {w0 : World} {K0 : K0T} {nt : Nat} {c : Operand} {x y : Code} {st : St} {Q : Exit → St → Prop} {b : Bool} (hb : st.ev c = .c (.v (.bool b))) (h1 : b = true → VW P w0 K0 nt x st Q) (h2 : b = false → VW P w0 K0 nt y st Q) : VW P w0 K0 nt (.cond c x y) st Q := fun a w g hT => by
  have hc := hT.ev c
  rw [hb] at hc
  exact wp_cond_split (SR_bool hc) (fun hb => h1 hb a w g hT) (fun hb => h2 hb a w g hT)
theorem vw_block {P : Program} {w0 : World} {K0 : K0T} {nt : Nat} {id : Nat} {c : Code} {st : St} {Q : Exit → St → Prop} (h : VW P w0 K0 nt c st (blkQ id Q)) : VW P w0 K0 nt (.block id c) st Q := fun a w g hT => by
  refine wp_block (wp_mono (h a w g hT) fun e a' w' ⟨st', g', h1, h2⟩ => ?_)
  cases e with
  | exit id' =>
    simp only [Exit.inBlock]
    simp only [blkQ] at h1
    split
    · rename_i e; rw [if_pos e] at h1; exact ⟨st', g', h1, h2⟩
    · rename_i e; rw [if_neg e] at h1; exact ⟨st', g', h1, h2⟩
  | _ => exact ⟨st', g', h1, h2⟩
end Go.VL
