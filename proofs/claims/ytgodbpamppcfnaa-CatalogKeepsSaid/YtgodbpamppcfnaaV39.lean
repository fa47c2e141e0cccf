/-
  A logic on data over the model's walk, part 39: statements some of whose regions are left to the hand (where a function may panic).
-/
import Derived.Test.YtgodbpamppcfnaaV38
set_option linter.unusedSimpArgs false
set_option linter.unusedVariables false
namespace Go.VL
open Go.RowKit

/-- as vc, but that the regions of H are left as they stand -/
def vx (P : Program) (w0 : World) (K0 : K0T) (nt : Nat) (H : Nat → Bool) : Code → St → (Exit → St → Prop) → Prop
  | .skip, st, Q => Q .normal st
  | .label _, st, Q => Q .normal st
  | .region id ops d, st, Q => bif d || H id then VW P w0 K0 nt (.region id ops d) st Q else vr P ops ops.toList st (Q .normal)
  | .seq x y, st, Q => vx P w0 K0 nt H x st (seqQ (fun st' => vx P w0 K0 nt H y st' Q) Q)
  | .cond c x y, st, Q =>
    match st.ev c with
    | .c (.v (.bool b)) => (b = true → vx P w0 K0 nt H x st Q) ∧ (b = false → vx P w0 K0 nt H y st Q)
    | _ => False
  | .block id c, st, Q => vx P w0 K0 nt H c st (blkQ id Q)
  | .exit id, st, Q => Q (.exit id) st
  | .ret, st, Q => Q .ret st
  | .loop c, st, Q => VW P w0 K0 nt (.loop c) st Q
  | .rangeFunc f p as b, st, Q => VW P w0 K0 nt (.rangeFunc f p as b) st Q
  | .scope b, st, Q => VW P w0 K0 nt (.scope b) st Q
  | .goto l, st, Q => VW P w0 K0 nt (.goto l) st Q
  | .refuse why, st, Q => VW P w0 K0 nt (.refuse why) st Q

theorem vx_ok {P : Program} {w0 : World} {K0 : K0T} {nt : Nat} {H : Nat → Bool} : ∀ (c : Code) (st : St) (Q : Exit → St → Prop), codeOk nt c = true → vx P w0 K0 nt H c st Q → VW P w0 K0 nt c st Q
  | .skip, st, Q, _, h => fun a w g hT => wp_skip ⟨st, g, h, hT⟩
  | .label l, st, Q, _, h => fun a w g hT => wp_label ⟨st, g, h, hT⟩
  | .region id ops d, st, Q, hok, h => fun a w g hT => by
    rw [vx] at h
    cases hd : (d || H id) with
    | true => rw [hd] at h; exact h a w g hT
    | false =>
      rw [hd] at h
      have : d = false := by cases d <;> simp_all
      subst this
      exact wp_region_list (vr_ok ops.toList st a w g _ hT (by simpa [codeOk] using hok) h (fun st' a' w' g' h1 h2 => ⟨st', g', h1, h2⟩))
  | .seq x y, st, Q, hok, h => by
    simp only [codeOk, Bool.and_eq_true] at hok
    rw [vx] at h
    refine vw_seq (vw_mono (vx_ok x st _ hok.1 h) fun e st' h1 => ?_)
    cases e with
    | normal => exact vx_ok y st' Q hok.2 h1
    | _ => exact h1
  | .cond c x y, st, Q, hok, h => by
    simp only [codeOk, Bool.and_eq_true] at hok
    rw [vx] at h
    split at h
    · rename_i b hb
      exact vw_cond hb (fun hb => vx_ok x st Q hok.1 (h.1 hb)) (fun hb => vx_ok y st Q hok.2 (h.2 hb))
    · exact h.elim
  | .block id c, st, Q, hok, h => by
    rw [vx] at h
    exact vw_block (vx_ok c st _ (by simpa [codeOk] using hok) h)
  | .exit id, st, Q, _, h => fun a w g hT => wp_exit ⟨st, g, h, hT⟩
  | .ret, st, Q, _, h => fun a w g hT => wp_ret ⟨st, g, h, hT⟩
  | .loop c, st, Q, _, h => by rw [vx] at h; exact h
  | .rangeFunc f p as b, st, Q, _, h => by rw [vx] at h; exact h
  | .scope b, st, Q, _, h => by rw [vx] at h; exact h
  | .goto l, st, Q, _, h => by rw [vx] at h; exact h
  | .refuse why, st, Q, _, h => by rw [vx] at h; exact h

section
variable {P : Program} {w0 : World} {K0 : K0T} {nt : Nat} {H : Nat → Bool}
@[simp ↓] theorem vx_skip (st : St) (Q : Exit → St → Prop) : vx P w0 K0 nt H .skip st Q = Q .normal st := by rw [vx]
@[simp ↓] theorem vx_label (l : Nat) (st : St) (Q : Exit → St → Prop) : vx P w0 K0 nt H (.label l) st Q = Q .normal st := by rw [vx]
/-- a region: by hand, or by its operations -/
def vxR (P : Program) (w0 : World) (K0 : K0T) (nt : Nat) (b : Bool) (id : Nat) (ops : List Oper) (st : St) (Q : Exit → St → Prop) : Prop :=
  bif b then VW P w0 K0 nt (.region id ops.toArray false) st Q else vr P ops.toArray ops st (Q .normal)
@[simp ↓] theorem vx_region (id : Nat) (ops : List Oper) (st : St) (Q : Exit → St → Prop) : vx P w0 K0 nt H (.region id ops.toArray false) st Q = force (tick (H id)) fun b => vxR P w0 K0 nt b id ops st Q := by rw [vx]; rfl
@[simp ↓] theorem vxR_true (id : Nat) (ops : List Oper) (st : St) (Q : Exit → St → Prop) : vxR P w0 K0 nt true id ops st Q = VL P w0 K0 nt (.region id ops.toArray false) (tick st) Q .mk .mk := rfl
@[simp ↓] theorem vxR_false (id : Nat) (ops : List Oper) (st : St) (Q : Exit → St → Prop) : vxR P w0 K0 nt false id ops st Q = vr P ops.toArray ops st (Q .normal) := rfl
@[simp ↓] theorem vx_draw (id : Nat) (ops : Array Oper) (st : St) (Q : Exit → St → Prop) : vx P w0 K0 nt H (.region id ops true) st Q = VL P w0 K0 nt (.region id ops true) (tick st) Q .mk .mk := by rw [vx]; rfl
@[simp ↓] theorem vx_loop (c : Code) (st : St) (Q : Exit → St → Prop) : vx P w0 K0 nt H (.loop c) st Q = VL P w0 K0 nt (.loop c) (tick st) Q .mk .mk := by rw [vx]; rfl
@[simp ↓] theorem vx_seq (x y : Code) (st : St) (Q : Exit → St → Prop) : vx P w0 K0 nt H (.seq x y) st Q = vx P w0 K0 nt H x st (seqQ (fun st' => vx P w0 K0 nt H y st' Q) Q) := by rw [vx]
@[simp ↓] theorem vx_cond (c : Operand) (x y : Code) (st : St) (Q : Exit → St → Prop) : vx P w0 K0 nt H (.cond c x y) st Q = force (tick (st.ev c)) fun s => vcond s (vx P w0 K0 nt H x st Q) (vx P w0 K0 nt H y st Q) := by
  rw [vx]; unfold force tick vcond; split <;> simp_all
@[simp ↓] theorem vx_block (id : Nat) (c : Code) (st : St) (Q : Exit → St → Prop) : vx P w0 K0 nt H (.block id c) st Q = vx P w0 K0 nt H c st (blkQ id Q) := by rw [vx]
@[simp ↓] theorem vx_exit (id : Nat) (st : St) (Q : Exit → St → Prop) : vx P w0 K0 nt H (.exit id) st Q = Q (.exit id) st := by rw [vx]
@[simp ↓] theorem vx_ret (st : St) (Q : Exit → St → Prop) : vx P w0 K0 nt H .ret st Q = Q .ret st := by rw [vx]
@[simp ↓] theorem seqQ_panic (k : St → Prop) (Q : Exit → St → Prop) (st : St) (ch : List PanicEntry) : seqQ k Q (.panic ch) st = Q (.panic ch) st := rfl
@[simp ↓] theorem blkQ_panic (id : Nat) (Q : Exit → St → Prop) (st : St) (ch : List PanicEntry) : blkQ id Q (.panic ch) st = Q (.panic ch) st := rfl

/-- a region that is left to the hand panics -/
theorem VL.panic {id : Nat} {ops : List Oper} {st : St} {Q : Exit → St → Prop} {m1 : Keep (Code.region id ops.toArray false)} {m2 : Keep Q} (hok : (ops.all (opOk nt)) = true)
    (h : vrp P ops.toArray ops st fun pv st' => Q (.panic (chainOf pv)) st') : VL P w0 K0 nt (.region id ops.toArray false) st Q m1 m2 :=
  vw_panic (by simpa using hok) (by simpa using h)
/-- a region that is left to the hand comes to its end -/
theorem VL.run {id : Nat} {ops : List Oper} {st : St} {Q : Exit → St → Prop} {m1 : Keep (Code.region id ops.toArray false)} {m2 : Keep Q} (hok : (ops.all (opOk nt)) = true)
    (h : vr P ops.toArray ops st (Q .normal)) : VL P w0 K0 nt (.region id ops.toArray false) st Q m1 m2 := fun a w g hT =>
  wp_region_list (vr_ok ops st a w g _ hT hok h (fun st' a' w' g' h1 h2 => ⟨st', g', h1, h2⟩))
/-- so many operations are done; the rest is left to the hand, which shows that it panics -/
def VPN (P : Program) (ops : Array Oper) (l : List Oper) (st : St) (X : Value → St → Prop) (_ : Keep X) : Prop := vrp P ops l st X
def vrq (P : Program) (ops : Array Oper) : Nat → List Oper → St → (Value → St → Prop) → Prop
  | 0, l, st, X => VPN P ops l st X .mk
  | _ + 1, [], _, _ => False
  | n + 1, o :: r, st, X => vstepL P ops st o fun st' => vrq P ops n r st' X
@[simp ↓] theorem vrq_zero (ops : Array Oper) (l : List Oper) (st : St) (X : Value → St → Prop) : vrq P ops 0 l st X = VPN P ops l (tick st) X .mk := by unfold vrq; rfl
@[simp ↓] theorem vrq_succ (ops : Array Oper) (n : Nat) (o : Oper) (l : List Oper) (st : St) (X : Value → St → Prop) : vrq P ops (n + 1) (o :: l) st X = force (tick st) fun st => vstepL P ops st o fun st' => vrq P ops n l st' X := rfl
theorem vrq_ok {st : St} {a : Act} {w : World} {g : G} {ops : Array Oper} {Q : Exit → Act → World → Prop} {X : Value → St → Prop} : ∀ (n : Nat) (l : List Oper) (st : St) (a : Act) (w : World) (g : G), T w0 K0 nt st a w g → (l.all (opOk nt)) = true → vrq P ops n l st X →
    (∀ pv st' a' w' g', X pv st' → T w0 K0 nt st' a' w' g' → Q (.panic (chainOf pv)) a' w') → wpList P ops Q l a w
  | 0, l, st, a, w, g, h, hok, hv, hn => vrp_ok l st a w g h hok (by unfold vrq at hv; exact hv) hn
  | n + 1, [], st, a, w, g, h, _, hv, hn => by unfold vrq at hv; exact hv.elim
  | n + 1, o :: r, st, a, w, g, h, hok, hv, hn => by
    simp only [List.all_cons, Bool.and_eq_true] at hok
    unfold vrq at hv
    have : stepW P ops o a w (wpList P ops Q r) Q := vstepL_ok h hok.1 hv _ _ (fun st' a' w' g' h1 h2 => vrq_ok (st := st) (a := a) (w := w) (g := g) n r st' a' w' g' h2 hok.2 h1 hn)
    unfold stepW at this
    unfold wpList
    split
    · rename_i hw; rw [if_pos hw] at this; exact .inl this
    · rename_i hw; rw [if_neg hw] at this; exact this
/-- a region that panics behind n operations -/
theorem VL.panicAt {id : Nat} {ops : List Oper} {st : St} {Q : Exit → St → Prop} {m1 : Keep (Code.region id ops.toArray false)} {m2 : Keep Q} (n : Nat) (hok : (ops.all (opOk nt)) = true)
    (h : vrq P ops.toArray n ops st fun pv st' => Q (.panic (chainOf pv)) st') : VL P w0 K0 nt (.region id ops.toArray false) st Q m1 m2 := fun a w g hT =>
  wp_region_list (vrq_ok (st := st) (a := a) (w := w) (g := g) n ops st a w g hT hok h (fun pv st' a' w' g' h1 h2 => ⟨st', g', h1, h2⟩))
/-- the call that panics -/
def vpcF (P : Program) (st : St) (f : S) (args : List S) (X : Value → St → Prop) : Prop :=
  match f with
  | .c (.fn fid caps) => ∃ pv, (frozenDs st args).2 ∧ ConP P fid ((frozenDs st args).1 ++ caps.map .c) pv ∧ X pv st
  | _ => False
theorem VPN.call {ops : Array Oper} {r : List Oper} {st : St} {X : Value → St → Prop} {m : Keep X} {d : Option Nat} {f : Operand} {args : List Operand} {ts : Array TypeId} {ty : TypeId} {p : String} {af : Array Edge}
    (hf : flagOf (st.ev f) = true) (ha : (args.map st.ev).all flagOf = true) (h : vpcF P st (peel (st.ev f)) ((args.map st.ev).map peel) X) : VPN P ops (⟨d, .call ⟨.value f, args.toArray, ts⟩, ty, p, af, none⟩ :: r) st X m := by
  refine .inl ⟨rfl, ?_, ?_⟩
  · rw [List.all_eq_true] at ha ⊢
    intro x hx
    simp [Op.operands, Call.operands] at hx
    rcases hx with rfl | hx
    · exact hf
    · exact ha _ (List.mem_map_of_mem hx)
  · unfold vpcF at h
    simp only
    rw [List.map_map] at h
    exact h
/-- what is given up with is packed, and given up with -/
theorem VPN.raise {ops : Array Oper} {r : List Oper} {st : St} {X : Value → St → Prop} {m : Keep X} {t : TypeId} {x y : Nat} {ty ty' : TypeId} {p p' : String} {af af' : Array Edge} {d : Option Nat} {cs : List C} {us : List Value}
    (h1 : st.get x = .agg cs) (h2 : plainC cs = some us) (h3 : isIface P t = false) (h : X (.iface t (.agg us.toArray)) (st.put y (.c (.v (.iface t (.agg us.toArray)))))) :
    VPN P ops (⟨some y, .makeInterface t (.tmp x), ty, p, af, none⟩ :: ⟨d, .panic (.tmp y), ty', p', af', none⟩ :: r) st X m := by
  refine .inr (.inl ?_)
  unfold vmi
  simp only [ev_tmp, h1]
  refine ⟨us, h2, h3, .inl ⟨rfl, ?_, ?_⟩⟩
  · simp [Op.operands, St.get_put]
  · simp [St.get_put, peel]
    exact h
end
end Go.VL
