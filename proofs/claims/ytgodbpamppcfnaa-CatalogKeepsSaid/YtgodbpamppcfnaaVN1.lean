/- A region that is left to the hand: its operations one by one; an own row cut so that its rest may be used again; own rows put behind an own row; own rows lent to functions whose contracts speak of data, with results in new memory. -/
import Derived.Test.YtgodbpamppcfnaaV39
import Derived.Test.YtgodbpamppcfnaaV36
set_option linter.unusedSimpArgs false
set_option linter.unusedVariables false
namespace Go.VL
open Go.RowKit
@[simp] theorem peel_pre (i n m : Nat) : peel (.pre i n m) = .pre i n m := rfl
@[simp] theorem flagOf_pre (i n m : Nat) : flagOf (.pre i n m) = true := rfl
@[simp] theorem peel_mp (i : Nat) : peel (.mp i) = .mp i := rfl
@[simp] theorem flagOf_mp (i : Nat) : flagOf (.mp i) = true := rfl

section
variable {P : Program} {w0 : World} {K0 : K0T} {nt : Nat} {OPS : Array Oper}
/-- what is left of a region, from a state -/
def VRS (P : Program) (w0 : World) (K0 : K0T) (nt : Nat) (OPS : Array Oper) (l : List Oper) (st : St) (K : St → Prop) : Prop :=
  (l.all (opOk nt)) = true → ∀ a w g, T w0 K0 nt st a w g → ∀ Q : Exit → Act → World → Prop, (∀ st' a' w' g', K st' → T w0 K0 nt st' a' w' g' → Q .normal a' w') → wpList P OPS Q l a w
theorem VRS.fin {l : List Oper} {st : St} {K : St → Prop} (h : vr P OPS l st K) : VRS P w0 K0 nt OPS l st K :=
  fun hok a w g hT Q hn => vr_ok l st a w g K hT hok h hn
theorem VRS.nil {st : St} {K : St → Prop} (h : K st) : VRS P w0 K0 nt OPS [] st K := fun _ a w g hT Q hn => hn st a w g h hT
theorem VRS.step {o : Oper} {l : List Oper} {st : St} {K : St → Prop}
    (h : opOk nt o = true → ∀ a w g, T w0 K0 nt st a w g → ∀ (next : Act → World → Prop) (Q : Exit → Act → World → Prop), (∀ st' a' w' g', VRS P w0 K0 nt OPS l st' K → T w0 K0 nt st' a' w' g' → next a' w') → stepW P OPS o a w next Q) :
    VRS P w0 K0 nt OPS (o :: l) st K := by
  intro hok a w g hT Q hn
  simp only [List.all_cons, Bool.and_eq_true] at hok
  have := h hok.1 a w g hT (wpList P OPS Q l) Q (fun st' a' w' g' h1 h2 => h1 hok.2 a' w' g' h2 Q hn)
  unfold stepW at this
  unfold wpList
  split
  · rename_i hw; rw [if_pos hw] at this; exact .inl this
  · rename_i hw; rw [if_neg hw] at this; exact this
/-- so many operations by the rules -/
def vrn (P : Program) (OPS : Array Oper) : Nat → List Oper → St → (List Oper → St → Prop) → Prop
  | 0, l, st, X => X l st
  | _ + 1, [], st, X => X [] st
  | n + 1, o :: r, st, X => vstepL P OPS st o fun st' => vrn P OPS n r st' X
@[simp ↓] theorem vrn_zero (l : List Oper) (st : St) (X : List Oper → St → Prop) : vrn P OPS 0 l st X = X l st := rfl
@[simp ↓] theorem vrn_succ (n : Nat) (o : Oper) (l : List Oper) (st : St) (X : List Oper → St → Prop) : vrn P OPS (n + 1) (o :: l) st X = force (tick st) fun st => vstepL P OPS st o fun st' => vrn P OPS n l st' X := rfl
theorem VRS.run : ∀ (n : Nat) {l : List Oper} {st : St} {K : St → Prop}, vrn P OPS n l st (fun l st => VRS P w0 K0 nt OPS l st K) → VRS P w0 K0 nt OPS l st K
  | 0, l, st, K, h => h
  | n + 1, [], st, K, h => h
  | n + 1, o :: l, st, K, h => by
    refine VRS.step fun hok a w g hT next Q hn => ?_
    refine vstepL_ok hT hok h next Q fun st' a' w' g' h1 h2 => hn st' a' w' g' ?_ h2
    exact VRS.run n h1
/-- a region that is left to the hand -/
theorem VL.hand {id : Nat} {ops : List Oper} {st : St} {Q : Exit → St → Prop} {m1 : Keep (Code.region id ops.toArray false)} {m2 : Keep Q} (hok : (ops.all (opOk nt)) = true)
    (h : VRS P w0 K0 nt ops.toArray ops st (Q .normal)) : VL P w0 K0 nt (.region id ops.toArray false) st Q m1 m2 := fun a w g hT =>
  wp_region_list (h hok a w g hT _ fun st' a' w' g' h1 h2 => ⟨st', g', h1, h2⟩)
theorem VRS.to {l : List Oper} {st st' : St} {K : St → Prop} (hle : st.le st') (h : VRS P w0 K0 nt OPS l st' K) : VRS P w0 K0 nt OPS l st K :=
  fun hok a w g hT Q hn => h hok a w g (hT.weaken hle) Q hn

theorem wanted_step {st : St} {a : Act} {w : World} {g : G} (hT : T w0 K0 nt st a w g) {o : Oper} (hg : gflag OPS st o.guard = some true) {next : Act → World → Prop} {Q : Exit → Act → World → Prop} (h : o.wp P a w next Q) : stepW P OPS o a w next Q := by
  unfold stepW
  rw [gflag_ok hT hg o rfl, if_pos rfl]
  exact h
/-- AN OWN ROW IS CUT, its rest may be used again -/
theorem VRS.pre {y : Nat} {t ty : TypeId} {x hi : Operand} {p : String} {af : Array Edge} {gd : Option (Nat × Bool)} {l : List Oper} {st : St} {K : St → Prop} (i n m : Nat) (nil : Bool) (sz : Nat) (xs : List (List C)) (fx : Nat) (hg : gflag OPS st gd = some true)
    (hx : (peel (st.ev x) = .own i n ∧ nil = false) ∨ ∃ q, peel (st.ev x) = .pre i n q) (hfx : flagOf (st.ev x) = true) (hm : sint (peel (st.ev hi)) = some (m : Int)) (hfm : flagOf (st.ev hi) = true) (hr : st.rs i = some (.arr nil sz xs fx)) (hn : xs.length = n) (hmn : m ≤ n) (he : (esz P t).isSome = true)
    (h : VRS P w0 K0 nt OPS l (st.put y (.pre i n m)) K) : VRS P w0 K0 nt OPS (⟨some y, .slice t x none (some hi) none, ty, p, af, gd⟩ :: l) st K := by
  refine VRS.step fun hok a w g hT next Q hn' => wanted_step hT hg ?_
  have hd := opOk_dst hok
  have hex := peel_ok (hT.ev x) hfx
  have heh := peel_ok (hT.ev hi) hfm
  obtain ⟨k, hk⟩ := sint_eq hm heh
  obtain ⟨sz', hes'⟩ := Option.isSome_iff_exists.1 he
  obtain ⟨el, inf, h4, h5, _⟩ := esz_some hes'
  have key : ∀ b cap q, n ≤ cap → g.loc i = .slice (some ⟨b, 0, none⟩) n cap → a.eval x = .slice (some ⟨b, 0, none⟩) q cap → Oper.wp P ⟨some y, .slice t x none (some hi) none, ty, p, af, gd⟩ a w next Q := by
    intro b cap q hc hl hu
    have eb := run_bounds (P := P) (w := w) (len := q) (cap := cap) (lo := none) (hi := some (.int k m)) (l := 0) (h := m) (.inl ⟨rfl, rfl⟩) (.inr ⟨k, rfl⟩) (by omega) (by omega) (by omega) true
    simp only [Int.toNat_zero] at eb
    refine ow_value (u := .slice (some ⟨b, 0, none⟩) m cap) (w' := w) ?_ (hn' _ _ w g h ?_)
    · simp [execOp, hu, hk, Instr.sliceAt, run_underlying h4, Instr.slice, eb, sizeOf, typeInfo, h5, add_lit']
    · refine hT.put (hd y rfl) ?_
      rw [SR]
      intro nil' sz' xs' fx' _ _
      exact ⟨_, _, hl, rfl⟩
  rcases hx with ⟨hx, rfl⟩ | ⟨q, hx⟩
  · rw [hx, SR] at hex
    have hu := hex _ sz xs fx hr hn
    rcases hT.res i _ hr with ⟨q, _⟩ | ⟨_, b, cap, cur, E, hl, q2, q3, q4, q5, q6, q7, q8, q9⟩
    · cases q
    · rw [hn] at hl
      exact key b cap n (by omega) hl (by rw [hu, hl])
  · rw [hx, SR] at hex
    obtain ⟨aa, cc, hl, hu⟩ := hex nil sz xs fx hr hn
    rcases hT.res i _ hr with ⟨_, _, e, _⟩ | ⟨_, b, cap, cur, E, hl2, q2, q3, q4, q5, q6, q7, q8, q9⟩
    · rw [hl] at e; cases e
    · rw [hl, hn] at hl2
      cases hl2
      exact key b cc q (by omega) hl hu
/-- the cells of an own row, as the source of an append -/
theorem src_of_RR {w : World} {g : G} {R : Nat → Option Res} {B : Nat → Prop} {j : Nat} {nil : Bool} {sz : Nat} {ys : List (List C)} {fx s : Nat} (h : RR g w R B j (.arr nil sz ys fx)) (hsz : nil = false → sz = s) :
    ∃ news : List Value, Src P w s (g.loc j) ys.length news ∧ Holds g.K w s ys news.toArray := by
  rcases h with ⟨_, rfl, hl, _⟩ | ⟨h0, b, cap, cur, E, hl, q2, q3, q4, q5, q6, q7, q8, q9⟩
  · rw [hl]
    exact ⟨[], ⟨fun _ => rfl, by simp [Builtin.firstCells], by simp [Builtin.firstCells], by simp, by simp⟩, fun j e h => by simp at h⟩
  · obtain rfl := hsz h0
    rw [hl]
    have hle : ys.length * sz ≤ cap * sz := Nat.mul_le_mul_right _ q4
    have hlen : (cur.toList.take (ys.length * sz)).length = ys.length * sz := by simp; omega
    have hh : Holds g.K w sz ys (cur.toList.take (ys.length * sz)).toArray := by
      intro j e hj
      obtain ⟨h1, h2⟩ := q8 j e hj
      refine ⟨h1, fun k c hk => ?_⟩
      obtain ⟨u, e1, e2⟩ := h2 k c hk
      refine ⟨u, ?_, e2⟩
      have hk' : k < sz := by rw [← h1]; exact (List.getElem?_eq_some_iff.1 hk).1
      have hj' : j < ys.length := (List.getElem?_eq_some_iff.1 hj).1
      have : j * sz + k < ys.length * sz := by
        have : (j + 1) * sz ≤ ys.length * sz := Nat.mul_le_mul_right _ (by omega)
        rw [Nat.add_mul] at this; omega
      simp only [List.getElem?_toArray, List.getElem?_take, if_pos this]
      simpa using e1
    have hcell : ∀ (j : Nat) (v : Value), (cur.toList.take (ys.length * sz))[j]? = some v → w.cell? ((⟨b, 0, none⟩ : Addr).add j) = some v := by
      intro j v hj
      rw [List.getElem?_take] at hj
      split at hj
      · rw [add_lit, Nat.zero_add, cell_of_heap q3]; simpa using hj
      · cases hj
    exact ⟨_, ⟨fun _ => rfl, run_firstCells_some (P := P) w sz ys.length ⟨b, 0, none⟩ _ _ _ hlen hcell, run_firstCells_some (P := P) w.drew sz ys.length ⟨b, 0, none⟩ _ _ _ hlen hcell, hlen, hh.one hlen⟩, hh⟩
/-- AN OWN ROW IS PUT BEHIND ANOTHER, and stays as it is -/
theorem VRS.app {y : Nat} {t xt ty : TypeId} {d x : Operand} {p : String} {af : Array Edge} {l : List Oper} {st : St} {K : St → Prop} (i n j m : Nat) (nil : Bool) (sz : Nat) (xs : List (List C)) (fx : Nat) (nilx : Bool) (szx : Nat) (ys : List (List C)) (fxx : Nat) (s B : Nat)
    (hd : st.ev d = .own i n) (hx : st.ev x = .own j m) (hr : st.rs i = some (.arr nil sz xs fx)) (hrx : st.rs j = some (.arr nilx szx ys fxx)) (hn : xs.length = n) (hm : ys.length = m) (hs : slT P t = some (s, B)) (hxt : ∃ e, P.underlying xt = some (.slice e))
    (hsz : nil = false → sz = s) (hszx : nilx = false → szx = s) (hB0 : 0 < B) (hB : (xs.length + ys.length) * B ≤ 140737488355328)
    (h : VRS P w0 K0 nt OPS l (((st.clr i).setR i (some (.arr (nil && ys.isEmpty) s (xs ++ ys) fx))).put y (.own i (n + m))) K) :
    VRS P w0 K0 nt OPS (⟨some y, .call ⟨.builtin .append, #[d, x], #[t, xt]⟩, ty, p, af, none⟩ :: l) st K := by
  obtain ⟨e, hxt⟩ := hxt
  refine VRS.step fun hok a w g hT next Q hn' => wanted_step hT rfl ?_
  have hdd := opOk_dst hok
  have hed := hT.ev d
  have hex := hT.ev x
  rw [hd, SR] at hed
  rw [hx, SR] at hex
  have hu := hed nil sz xs fx hr hn
  have hux := hex nilx szx ys fxx hrx hm
  obtain ⟨news, src, hh⟩ := src_of_RR (P := P) (s := s) (hT.res j _ hrx) hszx
  rw [← hux] at src
  obtain ⟨v, w', g1, r1, r2, r3, r4, r5⟩ := hT.append (ty := ty) hs hxt (fun k => by simp) hr hsz src hh hB0 hB
  refine ow_value (append_run rfl (by rw [hu]; exact r1)) (hn' _ _ _ g1 h ?_)
  refine T.puto r2 (hdd y rfl) ?_
  rw [← hn, ← hm] at *
  exact r3
end
end Go.VL
