/- Rounds, part 2: a function that yields. -/
import Derived.Test.YtddhmoffjpnbgaaVY1
set_option linter.unusedSimpArgs false
set_option linter.unusedVariables false
namespace Go.VL
open Go.RowKit

section
variable {P : Program} {w0 : World} {K0 : K0T} {nt : Nat} {Kc : Nat → Nat → Prop} {J : Oth}
def VWJ (P : Program) (w0 : World) (K0 : K0T) (nt : Nat) (Kc : Nat → Nat → Prop) (J : Oth) (c : Code) (st : St) (pre : List (List S)) (Q : Exit → St → List (List S) → Prop) : Prop :=
  ∀ a w g Fo, TJ w0 K0 nt Kc J st a w g pre Fo → c.wp P (fun e a' w' => ∃ st' g' pre' Fo', Q e st' pre' ∧ TJ w0 K0 nt Kc J st' a' w' g' pre' Fo') a w
theorem VWJ.plain (hJ : J.Ab Kc) {c : Code} {st : St} {pre : List (List S)} {Q : Exit → St → List (List S) → Prop} (hok : codeOk nt c = true) (h : ∀ w1 K1, vc P w1 K1 nt c st (fun e st' => Q e st' pre)) : VWJ P w0 K0 nt Kc J c st pre Q := by
  intro a w g Fo hT
  refine wp_mono (vc_ok c st _ hok (h w ⟨g.K, ownL g st.rs, a.defers⟩) a w g hT.t.reroot) fun e a' w' ⟨st', g', h1, h2⟩ => ?_
  exact ⟨st', g', pre, Fo, h1, hT.reroot hJ h2⟩
theorem VWJ.mono {c : Code} {st : St} {pre : List (List S)} {Q Q' : Exit → St → List (List S) → Prop} (h : VWJ P w0 K0 nt Kc J c st pre Q) (hq : ∀ e st' pre', Q e st' pre' → Q' e st' pre') : VWJ P w0 K0 nt Kc J c st pre Q' :=
  fun a w g Fo hT => wp_mono (h a w g Fo hT) fun _ _ _ ⟨st', g', pre', Fo', h1, h2⟩ => ⟨st', g', pre', Fo', hq _ _ _ h1, h2⟩
def seqJ (k : St → List (List S) → Prop) (Q : Exit → St → List (List S) → Prop) : Exit → St → List (List S) → Prop
  | .normal, st, pre => k st pre
  | e, st, pre => Q e st pre
theorem VWJ.seq {x y : Code} {st : St} {pre : List (List S)} {Q : Exit → St → List (List S) → Prop} (h : VWJ P w0 K0 nt Kc J x st pre (seqJ (fun st' pre' => VWJ P w0 K0 nt Kc J y st' pre' Q) Q)) : VWJ P w0 K0 nt Kc J (.seq x y) st pre Q := by
  intro a w g Fo hT
  refine wp_seq (wp_mono (h a w g Fo hT) fun e a' w' ⟨st', g', pre', Fo', h1, h2⟩ => ?_)
  cases e with
  | normal => exact h1 a' w' g' Fo' h2
  | _ => exact ⟨st', g', pre', Fo', h1, h2⟩
def blkJ (id : Nat) (Q : Exit → St → List (List S) → Prop) : Exit → St → List (List S) → Prop
  | .exit id', st, pre => if id' = id then Q .normal st pre else Q (.exit id') st pre
  | e, st, pre => Q e st pre
theorem VWJ.block {id : Nat} {c : Code} {st : St} {pre : List (List S)} {Q : Exit → St → List (List S) → Prop} (h : VWJ P w0 K0 nt Kc J c st pre (blkJ id Q)) : VWJ P w0 K0 nt Kc J (.block id c) st pre Q := by
  intro a w g Fo hT
  refine wp_block (wp_mono (h a w g Fo hT) fun e a' w' ⟨st', g', pre', Fo', h1, h2⟩ => ?_)
  cases e with
  | exit id' =>
    simp only [Exit.inBlock]
    simp only [blkJ] at h1
    split
    · rename_i e; rw [if_pos e] at h1; exact ⟨st', g', pre', Fo', h1, h2⟩
    · rename_i e; rw [if_neg e] at h1; exact ⟨st', g', pre', Fo', h1, h2⟩
  | _ => exact ⟨st', g', pre', Fo', h1, h2⟩
theorem VWJ.cond {c : Operand} {x y : Code} {st : St} {pre : List (List S)} {Q : Exit → St → List (List S) → Prop} {b : Bool} (hc : st.ev c = .c (.v (.bool b))) (h1 : b = true → VWJ P w0 K0 nt Kc J x st pre Q) (h2 : b = false → VWJ P w0 K0 nt Kc J y st pre Q) : VWJ P w0 K0 nt Kc J (.cond c x y) st pre Q := by
  intro a w g Fo hT
  have hc' := hT.t.ev c
  rw [hc] at hc'
  exact wp_cond_split (SR_bool hc') (fun hb => h1 hb a w g Fo hT) (fun hb => h2 hb a w g Fo hT)
theorem VWJ.to {c : Code} {st : St} {pre : List (List S)} {Q : Exit → St → List (List S) → Prop} (st' : St) (hle : st.le st') (h : VWJ P w0 K0 nt Kc J c st' pre Q) : VWJ P w0 K0 nt Kc J c st pre Q := by
  intro a w g Fo hT
  refine h a w g Fo ⟨hT.t.weaken hle, hT.j, hT.old, fun i r b hr hb => ?_, hT.k, hT.kc⟩
  refine hT.res i r b ?_ hb
  by_cases hx : ∃ p ∈ st'.res, p.1 = i
  · obtain ⟨p, hp, rfl⟩ := hx
    rw [hle.2 p hp]; exact hr
  · have : st'.rs i = none := vlook_none none st'.res i (fun p hp e => hx ⟨p, hp, e⟩)
    rw [this] at hr; cases hr
theorem VWJ.loop {c : Code} {st : St} {pre : List (List S)} {Q : Exit → St → List (List S) → Prop} {ι : Type} (I : ι → St) (Pr : ι → List (List S)) (H : ι → Prop) (μ : ι → Nat) (i0 : ι) (h0 : H i0) (hst : st.le (I i0)) (hpre : Pr i0 = pre)
    (round : ∀ i, H i → VWJ P w0 K0 nt Kc J c (I i) (Pr i) (seqJ (fun st' pre' => ∃ j, H j ∧ st'.le (I j) ∧ pre' = Pr j ∧ μ j < μ i) Q)) : VWJ P w0 K0 nt Kc J (.loop c) st pre Q := by
  intro a w g Fo hT
  have weak : ∀ {st st' : St} {a : Act} {w : World} {g : G} {pre : List (List S)} {Fo : Nat → Prop}, TJ w0 K0 nt Kc J st a w g pre Fo → st.le st' → TJ w0 K0 nt Kc J st' a w g pre Fo := by
    intro st st' a w g pre Fo hT hle
    refine ⟨hT.t.weaken hle, hT.j, hT.old, fun i r b hr hb => ?_, hT.k, hT.kc⟩
    refine hT.res i r b ?_ hb
    by_cases hx : ∃ p ∈ st'.res, p.1 = i
    · obtain ⟨p, hp, rfl⟩ := hx
      rw [hle.2 p hp]; exact hr
    · have : st'.rs i = none := vlook_none none st'.res i (fun p hp e => hx ⟨p, hp, e⟩)
      rw [this] at hr; cases hr
  refine wp_loop_ghost (fun n a w => ∃ i g Fo, μ i = n ∧ H i ∧ TJ w0 K0 nt Kc J (I i) a w g (Pr i) Fo) (μ i0) ⟨i0, g, Fo, rfl, h0, by rw [hpre]; exact weak hT hst⟩ (fun n a w hI => ?_)
  obtain ⟨i, g, Fo, rfl, hH, hT⟩ := hI
  refine wp_mono (round i hH a w g Fo hT) fun e _ _ ⟨st', g', pre', Fo', h1, h2⟩ => ?_
  cases e with
  | normal =>
    obtain ⟨j, k1, k2, rfl, k3⟩ := h1
    exact ⟨μ j, k3, j, g', Fo', rfl, k1, weak h2 k2⟩
  | _ => exact ⟨st', g', pre', Fo', h1, h2⟩

/-- what is left of a region of a function that yields -/
def VRSJ (P : Program) (w0 : World) (K0 : K0T) (nt : Nat) (Kc : Nat → Nat → Prop) (J : Oth) (OPS : Array Oper) (l : List Oper) (st : St) (pre : List (List S)) (K : St → List (List S) → Prop) : Prop :=
  (l.all (opOk nt)) = true → (l.all noDefer) = true → ∀ a w g Fo, TJ w0 K0 nt Kc J st a w g pre Fo → ∀ Q : Exit → Act → World → Prop, (∀ st' pre' a' w' g' Fo', K st' pre' → TJ w0 K0 nt Kc J st' a' w' g' pre' Fo' → Q .normal a' w') → wpListIn (FR none) 0 P OPS Q l a w
variable {OPS : Array Oper}
theorem VRSJ.nil {st : St} {pre : List (List S)} {K : St → List (List S) → Prop} (h : K st pre) : VRSJ P w0 K0 nt Kc J OPS [] st pre K := fun _ _ a w g Fo hT Q hn => hn st pre a w g Fo h hT
theorem VRSJ.run (hJ : J.Ab Kc) : ∀ (n : Nat) {l : List Oper} {st : St} {pre : List (List S)} {K : St → List (List S) → Prop}, vrn P OPS n l st (fun l st => VRSJ P w0 K0 nt Kc J OPS l st pre K) → VRSJ P w0 K0 nt Kc J OPS l st pre K
  | 0, l, st, pre, K, h => h
  | n + 1, [], st, pre, K, h => h
  | n + 1, o :: l, st, pre, K, h => by
    intro hok hnd a w g Fo hT Q hn
    simp only [List.all_cons, Bool.and_eq_true] at hok hnd
    refine wpListIn_of (stepWI_of hnd.1 (vstepL_ok hT.t.reroot hok.1 h _ Q fun st' a' w' g' h1 h2 => ?_))
    exact VRSJ.run hJ n h1 hok.2 hnd.2 a' w' g' Fo (hT.reroot hJ h2) Q hn
theorem VWJ.region {id : Nat} {ops : List Oper} {st : St} {pre : List (List S)} {Q : Exit → St → List (List S) → Prop} (hok : (ops.all (opOk nt)) = true) (hnd : (ops.all noDefer) = true) (h : VRSJ P w0 K0 nt Kc J ops.toArray ops st pre (Q .normal)) :
    VWJ P w0 K0 nt Kc J (.region id ops.toArray false) st pre Q := fun a w g Fo hT =>
  (wpIn_wide (n := 0)).1 (wpIn_region_list (F := FR none) (by
    have := h hok hnd a w g Fo hT (fun e a' w' => ∃ st' g' pre' Fo', Q e st' pre' ∧ TJ w0 K0 nt Kc J st' a' w' g' pre' Fo') (fun st' pre' a' w' g' Fo' h1 h2 => ⟨st', g', pre', Fo', h1, h2⟩)
    simpa using this))
theorem flat_SR {g : G} {w : World} {R : Nat → Option Res} {s : S} {u : Value} (hf : flatS s = true) (h : SR g w R s u) : SR ⟨fun _ _ => False, fun _ => undef⟩ w (fun _ => none) s u := by
  cases s with
  | c x => rw [SR] at h ⊢; exact flat_CR hf h
  | agg cs =>
    rw [SR] at h ⊢
    obtain ⟨us, h1, h2⟩ := h
    refine ⟨us, h1, ?_⟩
    rw [VR_iff] at h2 ⊢
    refine ⟨h2.1, fun k c u e1 e2 => flat_CR (List.all_eq_true.1 hf c (List.mem_of_getElem? e1)) (h2.2 k c u e1 e2)⟩
  | _ => cases hf
/-- A ROUND IS ASKED FOR -/
theorem VRSJ.yield (hJ : J.Ab Kc) {N l : Nat} {Ty : List S → Prop} (hY : YStep Kc P l N Ty J) {dst : Option Nat} {f : Operand} {args : Array Operand} {ats : Array TypeId} {ty : TypeId} {p : String} {af : Array Edge} {r : List Oper} {st : St} {pre : List (List S)} {K : St → List (List S) → Prop}
    (hf : st.ev f = .c (.v (.func (.yield l) #[] #[]))) (xs : List S) (hx : args.toList.map st.ev = xs) (har : Ty xs) (hfl : (xs.all flatS) = true) (hN : pre.length < N) (h : VRSJ P w0 K0 nt Kc J OPS r (st.putd dst (.c (.v (.bool true)))) (pre ++ [xs]) K) :
    VRSJ P w0 K0 nt Kc J OPS (⟨dst, .call ⟨.value f, args, ats⟩, ty, p, af, none⟩ :: r) st pre K := by
  subst hx
  intro hok hnd a w g Fo hT Q hn
  simp only [List.all_cons, Bool.and_eq_true] at hok hnd
  have hef := hT.t.ev f
  rw [hf, SR, CR] at hef
  have hfv := hef.1
  have hargs : SRs g w st.rs (args.toList.map st.ev) (args.toList.map a.eval) := SRs_map _ _ _ (fun x _ => hT.t.ev x)
  have hd : DRs (fun _ _ => False) w (args.toList.map st.ev) (args.toList.map a.eval) := by
    unfold DRs
    rw [SRs_iff] at hargs ⊢
    exact ⟨hargs.1, fun k s u e1 e2 => flat_SR (List.all_eq_true.1 hfl s (List.mem_of_getElem? e1)) (hargs.2 k s u e1 e2)⟩
  obtain ⟨fn, tmps, assign, body, hrun, hround⟩ := hY pre _ _ w Fo hT.j hN har hfl hd
  refine wpListIn_of ?_
  unfold stepWI
  rw [show Region.wanted (⟨dst, .call ⟨.value f, args, ats⟩, ty, p, af, none⟩ : Oper) (yielded OPS a.tmps) = true from rfl, if_pos rfl]
  refine ⟨fun _ _ => trivial, ?_⟩
  have harr : args.map a.eval = (args.toList.map a.eval).toArray := by apply Array.ext'; simp
  have hex : (Oper.semAt none a.eval ⟨dst, .call ⟨.value f, args, ats⟩, ty, p, af, none⟩).run P w = .ok (.round l fn tmps assign body) w := by
    rw [Oper.semAt_none]
    simp only [execOp, resolve, Deferred.ofValue, hfv, Sem.run_bind, Sem.run_pure, Result.andThen_ok, invoke, Array.empty_append, Array.append_empty]
    rw [harr]
    exact hrun
  show Oper.uponIn (FR none) 0 P _ a _ Q ((Oper.semAt none a.eval _).run P w)
  rw [hex, Oper.uponIn_round]
  refine ⟨fun e => absurd e (by simp [FR, Fence.wide]), (show RoundIn Fence.wide _ P l fn tmps assign body w _ from ?_)⟩
  refine RoundIn.mono (R := fun e w' => e = .returned (.bool true) ∧ ∃ Fo', J (pre ++ [args.toList.map st.ev]) w' Fo' ∧ YKeeps Kc w w' Fo Fo') ⟨trivial, fun c cs _ => hround.2 c cs (room_wide _)⟩ ?_
  rintro e w' ⟨rfl, Fo', hj, hk⟩
  have hB : w0.heap.size ≤ w.heap.size := hT.t.below.size
  have hcell : ∀ b o, g.K b o → w'.cell? ⟨b, o, none⟩ = w.cell? ⟨b, o, none⟩ := fun b o hg => by
    by_cases hF : Fo b
    · exact hk.cell b o (hT.k b o hg hF)
    · simp only [World.cell?]; rw [hk.block b (hT.t.klt b o hg) hF]
  have hT1 := hT.t.world (w' := w') (K' := g.K) ⟨hk.os, hk.tape, hk.output, hk.size, fun k ho => hk.block k (Nat.lt_of_lt_of_le ho.1 hB) (fun hF => hT.old k hF ho), hk.drawn⟩ ⟨fun _ _ k => k, hcell⟩ hT.t.kold (fun b o hg => Nat.lt_of_lt_of_le (hT.t.klt b o hg) hk.size)
    (fun i r b hi hb => ⟨hk.block b ((hT.t.res i r hi).lt hb) (hT.res i r b hi hb), fun _ k => k⟩)
  have hT2 : T w0 K0 nt (st.putd dst (.c (.v (.bool true)))) (a.put dst (.bool true)) w' g := hT1.putd (opOk_dst hok.1) (by rw [SR, CR]; exact ⟨rfl, rfl⟩)
  refine h hok.2 hnd.2 _ w' g Fo' ⟨hT2, hj, fun b hb => ?_, fun i r b hr hb hF => ?_, fun b o hg hF => ?_, hT.kc⟩ Q hn
  · rcases hk.grow b hb with q | q
    · exact hT.old b q
    · intro ho; have := ho.1; omega
  · have hr' : st.rs i = some r := by cases dst <;> exact hr
    rcases hk.grow b hF with q | q
    · exact hT.res i r b hr' hb q
    · have := (hT.t.res i r hr').lt hb; omega
  · rcases hk.grow b hF with q | q
    · exact hT.k b o hg q
    · have := hT.t.klt b o hg; omega
end
@[simp] theorem seqJ_normal (k : St → List (List S) → Prop) (Q : Exit → St → List (List S) → Prop) (st : St) (pre : List (List S)) : seqJ k Q .normal st pre = k st pre := rfl
@[simp] theorem seqJ_ret (k : St → List (List S) → Prop) (Q : Exit → St → List (List S) → Prop) (st : St) (pre : List (List S)) : seqJ k Q .ret st pre = Q .ret st pre := rfl
@[simp] theorem seqJ_exit (k : St → List (List S) → Prop) (Q : Exit → St → List (List S) → Prop) (st : St) (pre : List (List S)) (id : Nat) : seqJ k Q (.exit id) st pre = Q (.exit id) st pre := rfl
@[simp] theorem blkJ_normal (id : Nat) (Q : Exit → St → List (List S) → Prop) (st : St) (pre : List (List S)) : blkJ id Q .normal st pre = Q .normal st pre := rfl
@[simp] theorem blkJ_ret (id : Nat) (Q : Exit → St → List (List S) → Prop) (st : St) (pre : List (List S)) : blkJ id Q .ret st pre = Q .ret st pre := rfl
@[simp] theorem blkJ_exit (id id' : Nat) (Q : Exit → St → List (List S) → Prop) (st : St) (pre : List (List S)) : blkJ id Q (.exit id') st pre = (if id' = id then Q .normal st pre else Q (.exit id') st pre) := rfl
end Go.VL
