/- Rounds, part 5: contracts whose results hang on an order that the tape gives; a function that holds a range over a function. -/
import Derived.Test.YtddhmoffjpnbgaaVY4
set_option linter.unusedSimpArgs false
set_option linter.unusedVariables false
namespace Go.VL
open Go.RowKit

/-- THE CONTRACT of a function: what it is lent (forgotten then), one of some results -/
def ConX (P : Program) (f : FuncId) (args : List S) (b : List (Nat × Res)) (Q : List S → List (Nat × Res) → Prop) : Prop :=
  callable P f = true ∧ ∀ (w : World) (g : G) (us : List Value), M w ⟨g.K, lent g b, []⟩ (lk b) w g → SRs g w (lk b) args us →
    Calls P f us.toArray w fun e w' => ∃ rs b' vs g', Q rs b' ∧ e = .returned (retV vs) ∧ M w ⟨g.K, lent g b, []⟩ (lk b') w' g' ∧ SRs g' w' (lk b') rs vs

def retX (P : Program) (fn : Func) (Q : List S → List (Nat × Res) → Prop) : Exit → St → Prop
  | .normal, st => rvs P st fn.results.toList fun ss st' => ∃ b', Q ss b' ∧ resEnd st' b'
  | .ret, st => rvs P st fn.results.toList fun ss st' => ∃ b', Q ss b' ∧ resEnd st' b'
  | _, _ => False
section
variable {P : Program}
theorem results_of {fn : Func} {tmps : Array Value} {w : World} {vs : List Value} (e1 : (fn.results.toList.mapM (resOf tmps)).run P w = .ok vs w) : (results fn tmps).run P w = .ok (retV vs) w := by
  have hres : results fn tmps = (do let vs ← fn.results.mapM (resOf tmps); pure (if h : vs.size = 1 then vs[0] else .tuple vs)) := by
    unfold results
    congr 1
  have hm : (fn.results.mapM (resOf tmps)).run P w = .ok vs.toArray w := by
    rw [← Array.toArray_toList (xs := fn.results), List.mapM_toArray]
    simp only [Sem.run_map, e1, Result.andThen_ok]
  rw [hres, Sem.run_bind, hm, Result.andThen_ok, Sem.run_pure]
  congr 1
  cases vs with
  | nil => rfl
  | cons v r => cases r with
    | nil => rfl
    | cons _ _ => simp [retV]
theorem retX_ok {fn : Func} {w0 : World} {K0 : K0T} {nt : Nat} {st : St} {a : Act} {w : World} {g : G} {Q : List S → List (Nat × Res) → Prop} (hT : T w0 K0 nt st a w g) (hr : rvs P st fn.results.toList fun ss st' => ∃ b', Q ss b' ∧ resEnd st' b') :
    ∃ rs b' vs g', Q rs b' ∧ (results fn a.tmps).run P w = .ok (retV vs) w ∧ M w0 K0 (lk b') w g' ∧ SRs g' w (lk b') rs vs := by
  obtain ⟨vs, ss, st'', g'', e1, ⟨b', hq, e2⟩, e3, e4, e5⟩ := rvs_ok _ st g _ hT hr
  have hdown : ∀ j, Cmp g'' st''.rs g'' (lk b') j := fun j => ⟨fun fz ss q => ⟨⟨fz, ss, resEnd_ok e2 j _ q⟩, rfl⟩, fun nil sz xs fx q => ⟨⟨nil, xs, fx, resEnd_ok e2 j _ q, rfl⟩, rfl⟩, fun kvs q => ⟨⟨kvs, resEnd_ok e2 j _ q, rfl⟩, rfl⟩⟩
  refine ⟨ss, b', vs, g'', hq, results_of e1, ⟨e3.below, e3.k0, e3.kold, e3.klt, fun i r hi => ?_, fun i j ri rj hi hj => e3.dis i j ri rj (resEnd_ok e2 i _ hi) (resEnd_ok e2 j _ hj), e3.keep⟩, SRs.mono (Keeps.refl _ _) _ _ (fun j _ => hdown j) e4⟩
  exact RR.mono' (Keeps.refl _ _) rfl (fun _ _ => ⟨rfl, fun _ k => k⟩) (fun j _ => hdown j) (e3.res i r (resEnd_ok e2 i r hi))
/-- a contract of this kind, out of a body -/
theorem spec_ofX {f : FuncId} {fn : Func} {c : Code} {args : List S} {b : List (Nat × Res)} {Q : List S → List (Nat × Res) → Prop} (hf : P.funcs[f]? = some fn) (hb : fn.body = some c) (hc : callable P f = true) (hn : args.length ≤ fn.ntmps)
    (hv : ∀ w0 K0, VW P w0 K0 fn.ntmps c (initY args b) (retX P fn Q)) : ConX P f args b Q := by
  refine ⟨hc, fun w g us hM hargs => ?_⟩
  have hT := hM.init0 (nt := fn.ntmps) rfl hargs hn
  refine calls_of_wp hf hb (wp_mono (hv w _ _ w _ hT) fun e a' w' ⟨st', g', h1, h2⟩ => ?_)
  have fin : (rvs P st' fn.results.toList fun ss st' => ∃ b', Q ss b' ∧ resEnd st' b') → a'.defers = [] ∧ ∃ v, (results fn a'.tmps).run P w' = .ok v w' ∧ ∃ rs b' vs g', Q rs b' ∧ (Ending.returned v) = .returned (retV vs) ∧ M w ⟨g.K, lent g b, []⟩ (lk b') w' g' ∧ SRs g' w' (lk b') rs vs := fun hr => by
    obtain ⟨rs, b', vs, g'', q1, q2, q3, q4⟩ := retX_ok h2 hr
    exact ⟨h2.defers, _, q2, rs, b', vs, g'', q1, rfl, q3, q4⟩
  cases e with
  | normal => exact fin h1
  | ret => exact fin h1
  | _ => exact h1.elim

/-- A FUNCTION THAT HOLDS A RANGE OVER A FUNCTION: c0, then c1 and the range (in a block), then c2 -/
theorem spec_ofRF {f : FuncId} {fn : Func} {c0 c1 c2 : Code} {blkId : Nat} {args : List S} {b : List (Nat × Res)} {Q : List S → List (Nat × Res) → Prop} {fop : Operand} {ps : List Nat} {asg body : Code} {B0 N : Nat} {E : List (Nat × S)} {rsJ : List (List S) → List (Nat × Res)}
    (hf : P.funcs[f]? = some fn) (hb : fn.body = some (c0.seq ((c1.seq (.block blkId (.rangeFunc fop ps.toArray asg body))).seq c2))) (hc : callable P f = true) (hn : args.length ≤ fn.ntmps)
    (stA stR : St) (hcok : codeOk fn.ntmps c0 = true ∧ codeOk fn.ntmps c1 = true ∧ codeOk fn.ntmps c2 = true)
    (hA : ∀ w0 K0, vc P w0 K0 fn.ntmps c0 (initY args b) (fun e st' => e = .normal ∧ vc P w0 K0 fn.ntmps c1 st' (fun e st'' => e = .normal ∧ st''.le stA)))
    (hN : ∀ w0 K0 a w g, T w0 K0 fn.ntmps stA a w g → ∃ g', T w0 K0 fn.ntmps stR a w g')
    {Ty : List S → Prop} (hTy : ∀ x, Ty x → x.length = ps.length) (hround : RoundOk P fn.ntmps ps asg body B0 E rsJ N Ty)
    (hok : codeOk fn.ntmps asg = true ∧ codeOk fn.ntmps body = true) (hfl : flatCode asg = true ∧ flatCode body = true) (hps : ∀ p ∈ ps, p < fn.ntmps) (hB0 : ∀ pre, ∀ p ∈ rsJ pre, p.1 < B0)
    (hcl : ∀ p ∈ E, ∀ j, p.2.men j = true → j < B0) (hrm : ∀ pre, ∀ p ∈ rsJ pre, ∀ j, p.2.ment j = true → j < B0) (hE : (E.map (·.1)).Nodup)
    {gf : FuncId} {caps : List S} {bIt : List (Nat × Res)} {Qy : List (List S) → Prop} (hfop : stR.ev fop = .fnp gf caps) (hcon : ConY P gf caps bIt N Ty Qy) (hbIt : ∀ p ∈ bIt, stR.rs p.1 = some p.2)
    (hcc : ∀ j, S.mens j caps = true → (lk bIt j).isSome = true) (hcb : ∀ p ∈ bIt, ∀ j, p.2.ment j = true → (lk bIt j).isSome = true) (hrs0 : ∀ p ∈ rsJ [], stR.rs p.1 = some p.2) (hap : ∀ i, (lk bIt i).isSome = true → lk (rsJ []) i = none)
    (hrcl : ∀ p ∈ rsJ [], ∀ j, p.2.ment j = true → (lk (rsJ []) j).isSome = true) (hEcl : ∀ p ∈ E, ∀ j, p.2.men j = true → (lk (rsJ []) j).isSome = true) (hE0 : ∀ p ∈ E, stR.get p.1 = p.2)
    (hC : ∀ ys, Qy ys → ∀ w0 K0, vc P w0 K0 fn.ntmps c2 ⟨E, (rsJ ys).map fun p => (p.1, some p.2)⟩ (retX P fn Q)) : ConX P f args b Q := by
  refine ⟨hc, fun w g us hM hargs => ?_⟩
  have hT := hM.init0 (nt := fn.ntmps) rfl hargs hn
  refine (callsIn_wide (n := 0)).1 (callsIn_of_wp_marks (F := Fence.wide) (n := 0) hf hb trivial ((wpIn_wide (n := 0)).2 ?_))
  refine wp_seq (wp_mono (vc_ok c0 _ _ hcok.1 (hA w ⟨g.K, lent g b, []⟩) _ w g hT) fun e a1 w1 ⟨st1, g1, ⟨he, hv1⟩, T1⟩ => ?_)
  subst he
  refine wp_seq (wp_seq (wp_mono (vc_ok c1 _ _ hcok.2.1 hv1 a1 w1 g1 T1) fun e a2 w2 ⟨st2, g2, ⟨he, hle⟩, T2⟩ => ?_))
  subst he
  obtain ⟨g3, T3⟩ := hN _ _ a2 w2 g2 (T2.weaken hle)
  refine wp_block (wp_mono (rangeF_ok hTy hround hok hfl hps hB0 hcl hrm hE hfop hcon hbIt hcc hcb hrs0 hap hrcl hEcl hE0 T3) fun e a4 w4 ⟨he, ys, D, g4, hQy, ha4, hD4, hDsz, hDo, hDk, T4⟩ => ?_)
  subst he
  show c2.wp P _ a4 w4
  have hdf : a2.defers = [] := T3.defers
  rw [hdf] at T4 ha4
  have T4r := T4.reroot
  refine wp_mono (vc_ok c2 _ _ hcok.2.2 (hC ys hQy w4 _) a4 w4 g4 T4r) fun e a5 w5 ⟨st5, g5, h5, T5⟩ => ?_
  have hDOld : Old w4 ⟨g4.K, ownL g4 (lk (rsJ ys)), a4.defers⟩ D := ⟨(Array.getElem?_eq_some_iff.1 hD4).1, hDo⟩
  have hD5 : w5.heap[D]? = some (.deferred (some [])) := (T5.below.block D hDOld).trans hD4
  have hDo5 : ¬ ownL g5 st5.rs D := fun ⟨i, r, q1, q2⟩ => ((T5.res i r q1).block q2).1 hDOld
  have hDk5 : ∀ o, ¬ g5.K D o := fun o hk => hDk o (T5.kold D o hk hDOld)
  have T5' := T4.unroot T5
  have hdf5 : a5.defers = [{ target := .collected D, args := #[] }] := T5'.defers
  obtain ⟨w6, hw6⟩ : ∃ w6, w6 = w5.putObj D (.deferred none) := ⟨_, rfl⟩
  have ho6 : ∀ k, k ≠ D → w6.heap[k]? = w5.heap[k]? := fun k hk => by rw [hw6]; exact World.putObj_heap_other hk
  have hs6 : w6.heap.size = w5.heap.size := by rw [hw6]; simp
  have hkeep6 : Keeps g5.K w5 g5.K w6 := ⟨fun _ _ k => k, fun b o k => by
    have : b ≠ D := fun e => hDk5 o (e ▸ k)
    simp only [World.cell?]; rw [ho6 b this]⟩
  have T6 : T w ⟨g.K, lent g b, [{ target := .collected D, args := #[] }]⟩ fn.ntmps st5 a5 w6 g5 := by
    refine T5'.world (w' := w6) (K' := g5.K) ⟨by rw [hw6]; rfl, by rw [hw6]; rfl, by rw [hw6]; rfl, by rw [hs6]; exact Nat.le_refl _, fun k hk => ho6 k (fun e => by have := hk.1; omega), by rw [hw6]; exact Nat.le_refl _⟩ hkeep6 T5'.kold (fun b o k => by rw [hs6]; exact T5'.klt b o k)
      (fun i r b hi hb => ⟨ho6 b (fun e => hDo5 ⟨i, r, hi, e ▸ hb⟩), fun _ k => k⟩)
  have T6' : T w ⟨g.K, lent g b, []⟩ fn.ntmps st5 { a5 with defers := [] } w6 g5 :=
    ⟨⟨T6.below.os, T6.below.tape, T6.below.output, T6.below.size, fun k hk => T6.below.block k hk, T6.below.drawn⟩, T6.k0, T6.kold, T6.klt, T6.res, T6.dis, T6.env, T6.nt, rfl, T6.keep⟩
  have fin : (rvs P st5 fn.results.toList fun ss st' => ∃ b', Q ss b' ∧ resEnd st' b') → LeavesInM Fence.wide 0 P fn a5.tmps (fun e w' => ∃ rs b' vs g', Q rs b' ∧ e = .returned (retV vs) ∧ M w ⟨g.K, lent g b, []⟩ (lk b') w' g' ∧ SRs g' w' (lk b') rs vs) a5.defers .returning w5 := fun hr => by
    rw [hdf5]
    refine ⟨by simp, .inl ⟨D, w6, rfl, ?_, ?_⟩⟩
    · rw [hw6]; exact run_takeDeferred hD5
    · obtain ⟨rs, b', vs, g'', q1, q2, q3, q4⟩ := retX_ok T6' hr
      exact ⟨_, q2, rs, b', vs, g'', q1, rfl, q3, q4⟩
  cases e with
  | normal => exact fin h5
  | ret => exact fin h5
  | _ => exact h5.elim
end
end Go.VL
