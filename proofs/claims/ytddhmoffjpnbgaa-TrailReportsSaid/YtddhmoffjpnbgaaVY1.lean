/- Rounds, part 1: statements walked in a round's frame or not, by the same rules. -/
import Derived.Test.YtddhmoffjpnbgaaVN2
import Derived.RangeFuncIn
import Derived.RangeFuncRecord
import Derived.RangeFuncCalls
import Derived.TacticsIn
set_option linter.unusedSimpArgs false
set_option linter.unusedVariables false
namespace Go.VL
open Go.RowKit

/-- the fence that lets all in; in a round's frame or not -/
def FR (ro : Option Nat) : Fence := { Fence.wide with round := ro }
theorem callsR {ro : Option Nat} {n : Nat} {P : Program} {f : FuncId} {args : Array Value} {w : World} {R : Ending → World → Prop} (h : Calls P f args w R) : CallsIn (FR ro) n P f args w R := by
  have := (callsIn_wide (n := n)).2 h
  cases ro with
  | none => exact this
  | some l => exact this.inRound l

section
variable {ro : Option Nat} {n : Nat} {P : Program} {o : Oper} {a : Act} {w : World} {next : Act → World → Prop} {Q : Exit → Act → World → Prop}
theorem rowsR {row : String} {args : Array Value} {R : Value → World → Prop} (h : Rows P row args w R) : RowsIn (FR ro) n P row args w R := by
  intro c cs _
  obtain ⟨v, w', r, s⟩ := h c cs
  refine ⟨v, w', r, ?_⟩
  exact stepsIn_wide.2 s
def noDefer (o : Oper) : Bool := match o.op with
  | .defer _ => false
  | _ => true
theorem oper_in (hd : noDefer o = true) (h : o.wp P a w next Q) : o.wpIn (FR ro) n P a w next Q := by
  refine ⟨fun _ _ => trivial, ?_⟩
  rw [Oper.semAt_eq _ _ _ (fun c e => by unfold noDefer at hd; rw [e] at hd; cases hd)]
  unfold Oper.wp at h
  have hF : (FR ro).depth.isSome = true → 1 ≤ n := fun e => by cases e
  cases hr : (execOp a.eval o).run P w with
  | ok nx w' =>
    rw [hr] at h
    cases nx with
    | value v => exact h
    | skip => exact h
    | defer d => exact h
    | enter f args => exact ⟨hF, callsR h⟩
    | row r args => exact ⟨hF, rowsR h⟩
    | _ => exact h.elim
  | halt hh w' =>
    rw [hr] at h
    cases hh with
    | panic v => exact h
    | _ => exact h.elim
end
end Go.VL
namespace Go.VL
open Go.RowKit
section
variable {P : Program} {w0 : World} {K0 : K0T} {nt : Nat} {OPS : Array Oper} {ro : Option Nat} {n : Nat}
/-- an operation's turn -/
def stepWI (ro : Option Nat) (n : Nat) (P : Program) (OPS : Array Oper) (o : Oper) (a : Act) (w : World) (next : Act → World → Prop) (Q : Exit → Act → World → Prop) : Prop :=
  if Region.wanted o (yielded OPS a.tmps) then o.wpIn (FR ro) n P a w next Q else next (a.put o.dst undef) w
theorem stepWI_of {o : Oper} {a : Act} {w : World} {next : Act → World → Prop} {Q : Exit → Act → World → Prop} (hd : noDefer o = true) (h : stepW P OPS o a w next Q) : stepWI ro n P OPS o a w next Q := by
  unfold stepW at h
  unfold stepWI
  split
  · rename_i hw; rw [if_pos hw] at h; exact oper_in hd h
  · rename_i hw; rw [if_neg hw] at h; exact h
theorem wpListIn_of {o : Oper} {l : List Oper} {a : Act} {w : World} {Q : Exit → Act → World → Prop} (h : stepWI ro n P OPS o a w (wpListIn (FR ro) n P OPS Q l) Q) : wpListIn (FR ro) n P OPS Q (o :: l) a w := by
  unfold stepWI at h
  unfold wpListIn
  split
  · rename_i hw; rw [if_pos hw] at h; exact h
  · rename_i hw; rw [if_neg hw] at h; exact ⟨fun _ _ => trivial, h⟩
theorem vr_okI {Q : Exit → Act → World → Prop} : ∀ (l : List Oper) (st : St) (a : Act) (w : World) (g : G) (K : St → Prop), T w0 K0 nt st a w g → (l.all (opOk nt)) = true → (l.all noDefer) = true → vr P OPS l st K →
    (∀ st' a' w' g', K st' → T w0 K0 nt st' a' w' g' → Q .normal a' w') → wpListIn (FR ro) n P OPS Q l a w
  | [], st, a, w, g, K, h, _, _, hv, hn => hn _ _ _ _ hv h
  | o :: r, st, a, w, g, K, h, hok, hnd, hv, hn => by
    simp only [List.all_cons, Bool.and_eq_true] at hok hnd
    exact wpListIn_of (stepWI_of hnd.1 (vstepL_ok h hok.1 hv (wpListIn (FR ro) n P OPS Q r) Q (fun st' a' w' g' h1 h2 => vr_okI r st' a' w' g' K h2 hok.2 hnd.2 h1 hn)))
/-- statements without loops, drawn orders, deferred calls -/
def flatCode : Code → Bool
  | .region _ ops d => !d && ops.toList.all noDefer
  | .seq a b => flatCode a && flatCode b
  | .cond _ a b => flatCode a && flatCode b
  | .block _ c => flatCode c
  | .skip => true
  | .label _ => true
  | .exit _ => true
  | .ret => true
  | _ => false
def VWI (ro : Option Nat) (n : Nat) (P : Program) (w0 : World) (K0 : K0T) (nt : Nat) (c : Code) (st : St) (Q : Exit → St → Prop) : Prop :=
  ∀ a w g, T w0 K0 nt st a w g → c.wpIn (FR ro) n P (fun e a' w' => ∃ st' g', Q e st' ∧ T w0 K0 nt st' a' w' g') a w
theorem vcI_ok : ∀ (c : Code) (st : St) (Q : Exit → St → Prop), codeOk nt c = true → flatCode c = true → vc P w0 K0 nt c st Q → VWI ro n P w0 K0 nt c st Q
  | .skip, st, Q, _, _, h => fun a w g hT => wpIn_skip ⟨st, g, h, hT⟩
  | .label l, st, Q, _, _, h => fun a w g hT => wpIn_label ⟨st, g, h, hT⟩
  | .region id ops d, st, Q, hok, hf, h => fun a w g hT => by
    rw [vc] at h
    simp only [flatCode, Bool.and_eq_true] at hf
    cases d with
    | true => cases hf.1
    | false => exact wpIn_region_list (vr_okI ops.toList st a w g _ hT (by simpa [codeOk] using hok) hf.2 h (fun st' a' w' g' h1 h2 => ⟨st', g', h1, h2⟩))
  | .seq x y, st, Q, hok, hf, h => fun a w g hT => by
    simp only [codeOk, flatCode, Bool.and_eq_true] at hok hf
    rw [vc] at h
    refine wpIn_seq (wpIn_mono (vcI_ok x st _ hok.1 hf.1 h a w g hT) fun e a' w' ⟨st', g', h1, h2⟩ => ?_)
    cases e with
    | normal => exact vcI_ok y st' Q hok.2 hf.2 h1 a' w' g' h2
    | _ => exact ⟨st', g', h1, h2⟩
  | .cond c x y, st, Q, hok, hf, h => fun a w g hT => by
    simp only [codeOk, flatCode, Bool.and_eq_true] at hok hf
    rw [vc] at h
    split at h
    · rename_i b hb
      have hc := hT.ev c
      rw [hb] at hc
      have hcv := SR_bool hc
      refine wpIn_cond_split hcv (fun hb => ?_) (fun hb => ?_)
      · exact vcI_ok x st Q hok.1 hf.1 (h.1 hb) a w g hT
      · exact vcI_ok y st Q hok.2 hf.2 (h.2 hb) a w g hT
    · exact h.elim
  | .block id c, st, Q, hok, hf, h => fun a w g hT => by
    rw [vc] at h
    refine wpIn_block (wpIn_mono (vcI_ok c st _ (by simpa [codeOk] using hok) (by simpa [flatCode] using hf) h a w g hT) fun e a' w' ⟨st', g', h1, h2⟩ => ?_)
    cases e with
    | exit id' =>
      simp only [Exit.inBlock]
      simp only [blkQ] at h1
      split
      · rename_i e; rw [if_pos e] at h1; exact ⟨st', g', h1, h2⟩
      · rename_i e; rw [if_neg e] at h1; exact ⟨st', g', h1, h2⟩
    | _ => exact ⟨st', g', h1, h2⟩
  | .exit id, st, Q, _, _, h => fun a w g hT => wpIn_exit ⟨st, g, h, hT⟩
  | .ret, st, Q, _, _, h => fun a w g hT => wpIn_ret ⟨st, g, h, hT⟩
  | .loop c, st, Q, _, hf, h => by cases hf
  | .rangeFunc f p ac b, st, Q, _, hf, h => by cases hf
  | .scope b, st, Q, _, hf, h => by cases hf
  | .goto l, st, Q, _, hf, h => by cases hf
  | .refuse why, st, Q, _, hf, h => by cases hf
end

/-! ### What others own -/
/-- what a step does that leaves others' things alone, but for those of Fo, which become those of Fo'; the cells of Kc stay -/
structure YKeeps (Kc : Nat → Nat → Prop) (w w' : World) (Fo Fo' : Nat → Prop) : Prop where
  os : w'.os = w.os
  tape : w'.tape = w.tape
  output : w'.output = w.output
  size : w.heap.size ≤ w'.heap.size
  drawn : w.drawn ≤ w'.drawn
  block : ∀ k, k < w.heap.size → ¬ Fo k → w'.heap[k]? = w.heap[k]?
  cell : ∀ b o, Kc b o → w'.cell? ⟨b, o, none⟩ = w.cell? ⟨b, o, none⟩
  grow : ∀ k, Fo' k → Fo k ∨ w.heap.size ≤ k
/-- others' things: what has been yielded so far; the world; their blocks -/
abbrev Oth := List (List S) → World → (Nat → Prop) → Prop
structure Oth.Ab (Kc : Nat → Nat → Prop) (J : Oth) : Prop where
  lt : ∀ pre w Fo, J pre w Fo → ∀ b, Fo b → b < w.heap.size
  stay : ∀ pre w w' Fo, J pre w Fo → w'.os = w.os → w'.tape = w.tape → w'.output = w.output → w.heap.size ≤ w'.heap.size → w.drawn ≤ w'.drawn → (∀ b, Fo b → w'.heap[b]? = w.heap[b]?) → (∀ b o, Kc b o → w'.cell? ⟨b, o, none⟩ = w.cell? ⟨b, o, none⟩) → J pre w' Fo
/-- plain slots, whatever the world -/
def flatS : S → Bool
  | .c x => flatC x
  | .agg cs => cs.all flatC
  | _ => false
/-- a round may be asked for, fewer than N having been -/
def YStep (Kc : Nat → Nat → Prop) (P : Program) (l : Nat) (N : Nat) (Ty : List S → Prop) (J : Oth) : Prop :=
  ∀ pre (x : List S) (us : List Value) w Fo, J pre w Fo → pre.length < N → Ty x → (x.all flatS) = true → DRs (fun _ _ => False) w x us →
    YieldAt Fence.wide 0 P l us.toArray w fun e w' => e = .returned (.bool true) ∧ ∃ Fo', J (pre ++ [x]) w' Fo' ∧ YKeeps Kc w w' Fo Fo'
/-- the state, and others' things apart from it -/
structure TJ (w0 : World) (K0 : K0T) (nt : Nat) (Kc : Nat → Nat → Prop) (J : Oth) (st : St) (a : Act) (w : World) (g : G) (pre : List (List S)) (Fo : Nat → Prop) : Prop where
  t : T w0 K0 nt st a w g
  j : J pre w Fo
  old : ∀ b, Fo b → ¬ Old w0 K0 b
  res : ∀ i r b, st.rs i = some r → blk (g.loc i) = some b → ¬ Fo b
  k : ∀ b o, g.K b o → Fo b → Kc b o
  kc : ∀ b o, Kc b o → g.K b o

section
variable {P : Program} {w0 : World} {K0 : K0T} {nt : Nat} {st : St} {a : Act} {w : World} {g : G} {Kc : Nat → Nat → Prop} {J : Oth} {pre : List (List S)} {Fo : Nat → Prop}
/-- the blocks of one's own -/
def ownL (g : G) (R : Nat → Option Res) : Nat → Prop := fun b => ∃ i r, R i = some r ∧ blk (g.loc i) = some b
theorem T.reroot (h : T w0 K0 nt st a w g) : T w ⟨g.K, ownL g st.rs, a.defers⟩ nt st a w g := by
  refine ⟨Bel.refl _ _ _, fun _ _ k => k, fun _ _ k _ => k, h.klt, fun i r hr => ?_, h.dis, h.env, h.nt, rfl, fun _ _ _ => rfl⟩
  have hB : ∀ b, blk (g.loc i) = some b → ¬ Old w ⟨g.K, ownL g st.rs, a.defers⟩ b := fun b hb ho => ho.2 ⟨i, r, hr, hb⟩
  have h0 := h.res i r hr
  cases r with
  | box fz ss =>
    obtain ⟨b, cur, E, h1, h2, h3⟩ := h0
    exact ⟨b, cur, E, h1, hB b (by rw [h1]; rfl), h3⟩
  | arr nil sz xs fx =>
    rcases h0 with h0 | ⟨q0, b, cap, cur, E, h1, h2, h3⟩
    · exact .inl h0
    · exact .inr ⟨q0, b, cap, cur, E, h1, hB b (by rw [h1]; rfl), h3⟩
  | pin v s => exact h0
  | map m =>
    cases m with
    | ents kvs => obtain ⟨b, es, h1, h2, h3⟩ := h0; exact ⟨b, es, h1, hB b (by rw [h1]; rfl), h3⟩
    | iter bm n seen => obtain ⟨b, h1, h2, h3⟩ := h0; exact ⟨b, h1, hB b (by rw [h1]; rfl), h3⟩
    | rows nil sz xs =>
      rcases h0 with h0 | ⟨q0, b, cap, cur, E, h1, h2, h3⟩
      · exact .inl h0
      · exact .inr ⟨q0, b, cap, cur, E, h1, hB b (by rw [h1]; rfl), h3⟩
/-- where an own thing lies, whatever is asked of its block -/
theorem RR.blkB {R : Nat → Option Res} {B B' : Nat → Prop} {i : Nat} {r : Res} (h : RR g w R B i r) (hB : ∀ b, blk (g.loc i) = some b → B b → B' b) : RR g w R B' i r := by
  cases r with
  | box fz ss =>
    obtain ⟨b, cur, E, h1, h2, h3⟩ := h
    exact ⟨b, cur, E, h1, hB b (by rw [h1]; rfl) h2, h3⟩
  | arr nil sz xs fx =>
    rcases h with h | ⟨q0, b, cap, cur, E, h1, h2, h3⟩
    · exact .inl h
    · exact .inr ⟨q0, b, cap, cur, E, h1, hB b (by rw [h1]; rfl) h2, h3⟩
  | pin v s => exact h
  | map m =>
    cases m with
    | ents kvs => obtain ⟨b, es, h1, h2, h3⟩ := h; exact ⟨b, es, h1, hB b (by rw [h1]; rfl) h2, h3⟩
    | iter bm n seen => obtain ⟨b, h1, h2, h3⟩ := h; exact ⟨b, h1, hB b (by rw [h1]; rfl) h2, h3⟩
    | rows nil sz xs =>
      rcases h with h | ⟨q0, b, cap, cur, E, h1, h2, h3⟩
      · exact .inl h
      · exact .inr ⟨q0, b, cap, cur, E, h1, hB b (by rw [h1]; rfl) h2, h3⟩
theorem ownL_old (h : T w0 K0 nt st a w g) {b : Nat} (hb : ownL g st.rs b) : ¬ Old w0 K0 b := by
  obtain ⟨i, r, h1, h2⟩ := hb
  exact ((h.res i r h1).block h2).1
theorem ownL_lt (h : T w0 K0 nt st a w g) {b : Nat} (hb : ownL g st.rs b) : b < w.heap.size := by
  obtain ⟨i, r, h1, h2⟩ := hb
  exact (h.res i r h1).lt h2
/-- back again -/
theorem T.unroot (h : T w0 K0 nt st a w g) {st' : St} {a' : Act} {w' : World} {g' : G} (h' : T w ⟨g.K, ownL g st.rs, a.defers⟩ nt st' a' w' g') : T w0 K0 nt st' a' w' g' := by
  have hold : ∀ b, Old w0 K0 b → Old w ⟨g.K, ownL g st.rs, a.defers⟩ b := fun b hb => ⟨Nat.lt_of_lt_of_le hb.1 h.below.size, fun hl => ownL_old h hl hb⟩
  refine ⟨h.below.trans ⟨h'.below.os, h'.below.tape, h'.below.output, h'.below.size, fun k hk => h'.below.block k (hold k hk), h'.below.drawn⟩, fun b o k => h'.k0 b o (h.k0 b o k), fun b o k hb => h.kold b o (h'.kold b o k (hold b hb)) hb, h'.klt, fun i r hr => ?_, h'.dis, h'.env, h'.nt, by rw [h'.defers]; exact h.defers, fun b o k => (h'.keep b o (h.k0 b o k)).trans (h.keep b o k)⟩
  exact (h'.res i r hr).blkB fun b _ hb ho => hb (hold b ho)
theorem TJ.reroot (h : TJ w0 K0 nt Kc J st a w g pre Fo) (hJ : J.Ab Kc) {st' : St} {a' : Act} {w' : World} {g' : G} (h' : T w ⟨g.K, ownL g st.rs, a.defers⟩ nt st' a' w' g') : TJ w0 K0 nt Kc J st' a' w' g' pre Fo := by
  have hF : ∀ b, Fo b → Old w ⟨g.K, ownL g st.rs, a.defers⟩ b := fun b hb => ⟨hJ.lt pre w Fo h.j b hb, fun ⟨i, r, h1, h2⟩ => h.res i r b h1 h2 hb⟩
  refine ⟨h.t.unroot h', hJ.stay pre w w' Fo h.j h'.below.os h'.below.tape h'.below.output h'.below.size h'.below.drawn (fun b hb => h'.below.block b (hF b hb)) (fun b o hk => h'.keep b o (h.kc b o hk)), h.old, fun i r b hr hb hf => ?_, fun b o hk hf => ?_, fun b o hk => h'.k0 b o (h.kc b o hk)⟩
  · exact ((h'.res i r hr).block hb).1 (hF b hf)
  · exact h.k b o (h'.kold b o hk (hF b hf)) hf
end
end Go.VL
