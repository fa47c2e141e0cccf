/- What stands in an argument stays where it is; a struct of three plain fields and two own rows; calls by hand in regions that draw their order. -/
import Derived.Test.YtgodbpamppcfnaaVN10
set_option linter.unusedSimpArgs false
set_option linter.unusedVariables false
namespace Go.VL
open Go.RowKit
/-- an own row stands in an argument -/
def ownIn0 (i n : Nat) : List S → Prop
  | [] => False
  | s :: r => s = .own i n ∨ ownIn0 i n r
def ownIn (i n : Nat) : List S → Prop
  | [] => False
  | .st ss :: r => ownIn0 i n ss ∨ ownIn i n r
  | s :: r => s = .own i n ∨ ownIn i n r
theorem ownIn0_ok {g g' : G} {w w' : World} {R R' : Nat → Option Res} {i n : Nat} {nil : Bool} {sz : Nat} {xs : List (List C)} {fx : Nat} {nil' : Bool} {sz' : Nat} {xs' : List (List C)} {fx' : Nat} (hR : R i = some (.arr nil sz xs fx)) (hn : xs.length = n) (hR' : R' i = some (.arr nil' sz' xs' fx')) (hn' : xs'.length = n) :
    ∀ (ss : List S) (us : List Value), ownIn0 i n ss → SRs g w R ss us → SRs g' w' R' ss us → g'.loc i = g.loc i
  | [], _, h, _, _ => h.elim
  | s :: r, us, h, h1, h2 => by
    rw [SRs] at h1 h2
    obtain ⟨u, us', rfl, k1, k2⟩ := h1
    obtain ⟨u', us'', e, k3, k4⟩ := h2
    cases e
    rcases h with rfl | h
    · rw [SR] at k1 k3
      rw [← k1 nil sz xs fx hR hn, ← k3 nil' sz' xs' fx' hR' hn']
    · exact ownIn0_ok hR hn hR' hn' r us' h k2 k4
theorem ownIn_ok {g g' : G} {w w' : World} {R R' : Nat → Option Res} {i n : Nat} {nil : Bool} {sz : Nat} {xs : List (List C)} {fx : Nat} {nil' : Bool} {sz' : Nat} {xs' : List (List C)} {fx' : Nat} (hR : R i = some (.arr nil sz xs fx)) (hn : xs.length = n) (hR' : R' i = some (.arr nil' sz' xs' fx')) (hn' : xs'.length = n) :
    ∀ (ss : List S) (us : List Value), ownIn i n ss → SRs g w R ss us → SRs g' w' R' ss us → g'.loc i = g.loc i
  | [], _, h, _, _ => h.elim
  | s :: r, us, h, h1, h2 => by
    have h1' := h1
    have h2' := h2
    rw [SRs] at h1 h2
    obtain ⟨u, us', rfl, k1, k2⟩ := h1
    obtain ⟨u', us'', e, k3, k4⟩ := h2
    cases e
    have tail := fun h => ownIn_ok hR hn hR' hn' r us' h k2 k4
    have one : s = .own i n → g'.loc i = g.loc i := fun e => by
      subst e
      rw [SR] at k1 k3
      rw [← k1 nil sz xs fx hR hn, ← k3 nil' sz' xs' fx' hR' hn']
    cases s with
    | st ss =>
      rcases h with h | h
      · rw [SR] at k1 k3
        obtain ⟨vs, rfl, q1, _⟩ := k1
        obtain ⟨vs', e, q2, _⟩ := k3
        have : vs' = vs := by simpa using e.symm
        subst this
        exact ownIn0_ok hR hn hR' hn' ss vs' h q1 q2
      · exact tail h
    | own a m => exact h.elim one tail
    | c x => exact h.elim one tail
    | agg x => exact h.elim one tail
    | tup x => exact h.elim one tail
    | ptr _ _ => exact h.elim one tail
    | ep _ _ _ _ => exact h.elim one tail
    | g _ _ => exact h.elim one tail
    | suf _ _ _ => exact h.elim one tail
    | fnp _ _ => exact h.elim one tail
    | mp _ => exact h.elim one tail
    | me _ _ _ => exact h.elim one tail
    | pre _ _ _ => exact h.elim one tail
    | un => exact h.elim one tail
theorem ConB.toK {P : Program} {f : FuncId} {as0 rs : List S} {b b' : List (Nat × Res)} (h : ConB P f as0 b rs as0 b')
    (hk : ∀ i r, lk b i = some r → ∃ n nil sz xs fx nil' sz' xs' fx', r = .arr nil sz xs fx ∧ xs.length = n ∧ lk b' i = some (.arr nil' sz' xs' fx') ∧ xs'.length = n ∧ ownIn i n as0) : ConK P f as0 b rs as0 b' := by
  refine ⟨h.1, fun w g us hM hargs => (h.2 w g us hM hargs).mono fun e w' ⟨vs, g', h1, h2, h3, h4⟩ => ⟨vs, g', h1, h2, h3, h4, fun i r hi => ?_⟩⟩
  obtain ⟨n, nil, sz, xs, fx, nil', sz', xs', fx', rfl, q2, q3, q4, q5⟩ := hk i r hi
  exact ownIn_ok hi q2 q3 q4 as0 us q5 hargs h4
section
variable {P : Program} {w0 : World} {K0 : K0T} {nt : Nat} {OPS : Array Oper} {st : St}
theorem VRS.bld5 {y : Nat} {t ty : TypeId} {x0 x1 x2 x3 x4 : Operand} {p : String} {af : Array Edge} {l : List Oper} {K : St → Prop} (c0 c1 c4 : C) (i2 n2 i3 n3 : Nat) (nil2 : Bool) (sz2 : Nat) (xs2 : List (List C)) (fx2 : Nat) (nil3 : Bool) (sz3 : Nat) (xs3 : List (List C)) (fx3 : Nat)
    (hp : ∀ v0 v1 v2 v3 v4 : Value, (pbuild P t [(0, .c (.v v0)), (1, .c (.v v1)), (2, .c (.v v2)), (3, .c (.v v3)), (4, .c (.v v4))]).1 = .agg [.v v0, .v v1, .v v2, .v v3, .v v4] ∧ (pbuild P t [(0, .c (.v v0)), (1, .c (.v v1)), (2, .c (.v v2)), (3, .c (.v v3)), (4, .c (.v v4))]).2)
    (hx0 : st.ev x0 = .c c0) (hx1 : st.ev x1 = .c c1) (hx2 : st.ev x2 = .own i2 n2) (hx3 : st.ev x3 = .own i3 n3) (hx4 : st.ev x4 = .c c4) (hr2 : st.rs i2 = some (.arr nil2 sz2 xs2 fx2)) (hn2 : xs2.length = n2) (hr3 : st.rs i3 = some (.arr nil3 sz3 xs3 fx3)) (hn3 : xs3.length = n3)
    (hk : VRS P w0 K0 nt OPS l (st.put y (.st [.c c0, .c c1, .own i2 n2, .own i3 n3, .c c4])) K) : VRS P w0 K0 nt OPS (⟨some y, .build t #[(0, x0), (1, x1), (2, x2), (3, x3), (4, x4)], ty, p, af, none⟩ :: l) st K := by
  refine VRS.step fun hok a w g hT next Q hn' => wanted_step hT rfl ?_
  have hd := opOk_dst hok
  have e0 := hT.ev x0
  have e1 := hT.ev x1
  have e2 := hT.ev x2
  have e3 := hT.ev x3
  have e4 := hT.ev x4
  rw [hx0] at e0; rw [hx1] at e1; rw [hx2] at e2; rw [hx3] at e3; rw [hx4] at e4
  have o0 : (a.eval x0).oneCell' = true := by have q := e0; rw [SR] at q; exact CR.one q
  have o1 : (a.eval x1).oneCell' = true := by have q := e1; rw [SR] at q; exact CR.one q
  have o4 : (a.eval x4).oneCell' = true := by have q := e4; rw [SR] at q; exact CR.one q
  have o2 := own_one hT e2 hr2 hn2
  have o3 := own_one hT e3 hr3 hn3
  obtain ⟨p1, p2⟩ := hp (a.eval x0) (a.eval x1) (a.eval x2) (a.eval x3) (a.eval x4)
  have hc : ∀ v : Value, v.oneCell' = true → SR g w st.rs (.c (.v v)) v := fun v hv => by rw [SR, CR]; exact ⟨rfl, hv⟩
  have hparts : PartsR g w st.rs [(0, .c (.v (a.eval x0))), (1, .c (.v (a.eval x1))), (2, .c (.v (a.eval x2))), (3, .c (.v (a.eval x3))), (4, .c (.v (a.eval x4)))] (Array.map (fun q : Nat × Operand => (q.1, a.eval q.2)) #[(0, x0), (1, x1), (2, x2), (3, x3), (4, x4)]).toList := by
    simp only [List.map_toArray, List.map_cons, List.map_nil, PartsR]
    exact ⟨_, _, rfl, hc _ o0, _, _, rfl, hc _ o1, _, _, rfl, hc _ o2, _, _, rfl, hc _ o3, _, _, rfl, hc _ o4, rfl⟩
  obtain ⟨r, h1, h2⟩ := pbuild_ok (P := P) (t := t) hparts p2
  rw [p1, SR] at h2
  obtain ⟨us, rfl, h2⟩ := h2
  simp only [VR] at h2
  obtain ⟨u0, us0, rfl, q0, u1, us1, rfl, q1, u2, us2, rfl, q2, u3, us3, rfl, q3, u4, us4, rfl, q4, rfl⟩ := h2
  rw [CR] at q0 q1 q2 q3 q4
  obtain ⟨rfl, _⟩ := q0
  obtain ⟨rfl, _⟩ := q1
  obtain ⟨rfl, _⟩ := q2
  obtain ⟨rfl, _⟩ := q3
  obtain ⟨rfl, _⟩ := q4
  have hrun : (execOp a.eval ⟨some y, .build t #[(0, x0), (1, x1), (2, x2), (3, x3), (4, x4)], ty, p, af, none⟩).run P w = .ok (.value (.agg [a.eval x0, a.eval x1, a.eval x2, a.eval x3, a.eval x4].toArray)) w := by
    simp only [execOp, Sem.run_bind, h1, Result.andThen_ok, Sem.run_pure]
  refine ow_value hrun (hn' _ _ w g hk ?_)
  refine hT.put (hd y rfl) ?_
  rw [SR]
  refine ⟨_, rfl, ?_, ?_⟩
  · simp only [SRs]
    exact ⟨_, _, rfl, e0, _, _, rfl, e1, _, _, rfl, e2, _, _, rfl, e3, _, _, rfl, e4, rfl⟩
  · intro v hv
    simp only [List.mem_cons, List.not_mem_nil, or_false] at hv
    rcases hv with rfl | rfl | rfl | rfl | rfl <;> assumption
end
end Go.VL
