/-
  A logic on data over the model's walk, part 10: one operation.
-/
import Derived.Test.YtgodbpamppcfnaaV9c
set_option linter.unusedSimpArgs false
set_option linter.unusedVariables false
namespace Go.VL
open Go.RowKit

/-- one's own row, as a datum from now on -/
def vsnap (st : St) (s : S) (k : S → St → Prop) : Prop :=
  match s with
  | .own i n =>
    match st.rs i with
    | some (.arr nil sz xs _) => xs.length = n ∧ k (.c (.sl nil xs)) (st.setR i (some (.arr nil sz xs xs.length)))
    | _ => False
  | s => k s st
def vsnaps (st : St) : List S → (List S → St → Prop) → Prop
  | [], k => k [] st
  | s :: r, k => vsnap st s fun s' st' => vsnaps st' r fun r' st'' => k (s' :: r') st''

section
variable {P : Program} {w0 : World} {K0 : K0T} {nt : Nat} {st : St} {a : Act} {w : World} {g : G}

theorem vsnap_ok (h : T w0 K0 nt st a w g) {s : S} {u : Value} {k : S → St → Prop} (hs : SR g w st.rs s u) (hv : vsnap st s k) :
    ∃ s' st' g', k s' st' ∧ T w0 K0 nt st' a w g' ∧ SR g' w st'.rs s' u ∧ (∀ s u, SR g w st.rs s u → SR g' w st'.rs s u) ∧ g'.loc = g.loc ∧ Keeps g.K w g'.K w := by
  have trivial_case : k s st → ∃ s' st' g', k s' st' ∧ T w0 K0 nt st' a w g' ∧ SR g' w st'.rs s' u ∧ (∀ s u, SR g w st.rs s u → SR g' w st'.rs s u) ∧ g'.loc = g.loc ∧ Keeps g.K w g'.K w :=
    fun hk => ⟨s, st, g, hk, h, hs, fun _ _ h => h, rfl, Keeps.refl _ _⟩
  unfold vsnap at hv
  split at hv
  · rename_i i n
    split at hv
    · rename_i nil sz xs fx hr
      obtain ⟨hn, hk⟩ := hv
      obtain ⟨g', h1, h2, h3, h4⟩ := h.snap hr
      rw [SR] at hs
      have hu := hs nil sz xs fx hr hn
      refine ⟨_, _, g', hk, h1, by rw [SR, hu]; exact h2, fun s u hsu => ?_, h3, h4⟩
      refine SR.mono h4 s u (fun j _ => ?_) hsu
      by_cases e : j = i
      · subst e
        refine ⟨fun fz ss e => ?_, fun nil' sz' xs' fx' e => ?_⟩
        · rw [St.rs_setR, if_pos rfl] at e; simp at e
        · rw [St.rs_setR, if_pos rfl] at e; simp at e
          obtain ⟨rfl, rfl, rfl, rfl⟩ := e
          exact ⟨⟨nil, xs, fx, hr, rfl⟩, by rw [h3]⟩
      · exact Cmp.same (by rw [St.rs_setR, if_neg (Ne.symm e)]) (by rw [h3])
    · exact hv.elim
  · exact trivial_case hv

theorem vsnaps_ok : ∀ (ss : List S) (us : List Value) (st : St) (g : G) (k : List S → St → Prop), T w0 K0 nt st a w g → SRs g w st.rs ss us → vsnaps st ss k →
    ∃ ss' st' g', k ss' st' ∧ T w0 K0 nt st' a w g' ∧ SRs g' w st'.rs ss' us ∧ (∀ s u, SR g w st.rs s u → SR g' w st'.rs s u) ∧ g'.loc = g.loc ∧ Keeps g.K w g'.K w
  | [], us, st, g, k, h, hs, hv => ⟨[], st, g, hv, h, hs, fun _ _ h => h, rfl, Keeps.refl _ _⟩
  | s :: r, us, st, g, k, h, hs, hv => by
    rw [SRs] at hs
    obtain ⟨u, us', rfl, h1, h2⟩ := hs
    rw [vsnaps] at hv
    obtain ⟨s', st', g', k1, k2, k3, k4, k5, k6⟩ := vsnap_ok h h1 hv
    have h2' : SRs g' w st'.rs r us' := by
      rw [SRs_iff] at h2 ⊢
      exact ⟨h2.1, fun k s u e1 e2 => k4 s u (h2.2 k s u e1 e2)⟩
    obtain ⟨r', st'', g'', m1, m2, m3, m4, m5, m6⟩ := vsnaps_ok r us' st' g' _ k2 h2' k1
    refine ⟨s' :: r', st'', g'', m1, m2, ?_, fun s u hh => m4 s u (k4 s u hh), m5.trans k5, k6.trans m6⟩
    rw [SRs]
    exact ⟨u, us', rfl, m4 _ _ k3, m3⟩

/-- some of them, as data from now on -/
def vsnapm (st : St) : List Bool → List S → (List S → St → Prop) → Prop
  | true :: m, s :: r, k => vsnap st s fun s' st' => vsnapm st' m r fun r' st'' => k (s' :: r') st''
  | false :: m, s :: r, k => vsnapm st m r fun r' st'' => k (s :: r') st''
  | _, ss, k => k ss st
theorem vsnapm_ok : ∀ (m : List Bool) (ss : List S) (us : List Value) (st : St) (g : G) (k : List S → St → Prop), T w0 K0 nt st a w g → SRs g w st.rs ss us → vsnapm st m ss k →
    ∃ ss' st' g', k ss' st' ∧ T w0 K0 nt st' a w g' ∧ SRs g' w st'.rs ss' us ∧ (∀ s u, SR g w st.rs s u → SR g' w st'.rs s u)
  | [], ss, us, st, g, k, h, hs, hv => ⟨ss, st, g, hv, h, hs, fun _ _ h => h⟩
  | true :: m, [], us, st, g, k, h, hs, hv => ⟨[], st, g, hv, h, hs, fun _ _ h => h⟩
  | false :: m, [], us, st, g, k, h, hs, hv => ⟨[], st, g, hv, h, hs, fun _ _ h => h⟩
  | true :: m, s :: r, us, st, g, k, h, hs, hv => by
    rw [SRs] at hs
    obtain ⟨u, us', rfl, h1, h2⟩ := hs
    rw [vsnapm] at hv
    obtain ⟨s', st', g', k1, k2, k3, k4, k5, k6⟩ := vsnap_ok h h1 hv
    have h2' : SRs g' w st'.rs r us' := by
      rw [SRs_iff] at h2 ⊢
      exact ⟨h2.1, fun k s u e1 e2 => k4 s u (h2.2 k s u e1 e2)⟩
    obtain ⟨r', st'', g'', m1, m2, m3, m4⟩ := vsnapm_ok m r us' st' g' _ k2 h2' k1
    refine ⟨s' :: r', st'', g'', m1, m2, ?_, fun s u hh => m4 s u (k4 s u hh)⟩
    rw [SRs]
    exact ⟨u, us', rfl, m4 _ _ k3, m3⟩
  | false :: m, s :: r, us, st, g, k, h, hs, hv => by
    rw [SRs] at hs
    obtain ⟨u, us', rfl, h1, h2⟩ := hs
    rw [vsnapm] at hv
    obtain ⟨r', st'', g'', m1, m2, m3, m4⟩ := vsnapm_ok m r us' st g _ h h2 hv
    refine ⟨s :: r', st'', g'', m1, m2, ?_, m4⟩
    rw [SRs]
    exact ⟨u, us', rfl, m4 _ _ h1, m3⟩

theorem ow_value {o : Oper} {u : Value} {w' : World} {next : Act → World → Prop} {Q : Exit → Act → World → Prop} (hr : (execOp a.eval o).run P w = .ok (.value u) w') (h : next (a.put o.dst u) w') : o.wp P a w next Q := by
  unfold Oper.wp; rw [hr]; exact h
theorem ow_skip {o : Oper} {w' : World} {next : Act → World → Prop} {Q : Exit → Act → World → Prop} (hr : (execOp a.eval o).run P w = .ok .skip w') (h : next (a.put o.dst undef) w') : o.wp P a w next Q := by
  unfold Oper.wp; rw [hr]; exact h
end

/-- an operation, from a state: whatever state it comes to meets K -/
def OW (P : Program) (w0 : World) (K0 : K0T) (nt : Nat) (o : Oper) (st : St) (K : St → Prop) : Prop :=
  ∀ a w g, T w0 K0 nt st a w g → ∀ (next : Act → World → Prop) (Q : Exit → Act → World → Prop), (∀ st' a' w' g', K st' → T w0 K0 nt st' a' w' g' → next a' w') → o.wp P a w next Q

/-! ### New memory -/
/-- the cells of a variable's first value: a nil slice is a row of one's own -/
def zcells (N : Nat) : Nat → List Value → List S
  | _, [] => []
  | k, .slice none 0 0 :: r => .own (N + k + 1) 0 :: zcells N (k + 1) r
  | k, v :: r => .c (ofVal v) :: zcells N (k + 1) r
def znils (N : Nat) : Nat → List Value → St → St
  | _, [], st => st
  | k, .slice none 0 0 :: r, st => znils N (k + 1) r ((st.clr (N + k + 1)).setR (N + k + 1) (some (.arr true 0 [] 0)))
  | k, _ :: r, st => znils N (k + 1) r st

def valloc (P : Program) (dst : Option Nat) (st : St) (t : TypeId) (K : St → Prop) : Prop :=
  match dst, zeroOf P t with
  | some x, some z =>
    z.cells.all (·.oneCell') = true ∧
      K ((((znils (64 * x) 0 z.cells.toList st).clr (64 * x)).setR (64 * x) (some (.box false (zcells (64 * x) 0 z.cells.toList)))).put x (.ptr (64 * x) 0))
  | _, _ => False

def vbox (dst : Option Nat) (st : St) (s : S) (K : St → Prop) : Prop :=
  match dst with
  | some x => vsnap st s fun s' st' =>
    match cellsH st' s' with
    | some cs => S.mens (64 * x) cs = false ∧ K (((st'.clr (64 * x)).setR (64 * x) (some (.box false cs))).put x (.ptr (64 * x) 0))
    | none => False
  | none => False

def vstore (P : Program) (st : St) (t : TypeId) (ad s : S) (K : St → Prop) : Prop :=
  match ad with
  | .ptr i off =>
    match st.rs i, tySz P t, cellsH st s with
    | some (.box false ss), some (_, n), some cs => cs.length = n ∧ off + n ≤ ss.length ∧ K (st.setR i (some (.box false (spl ss off cs))))
    | _, _, _ => False
  | .ep i m j o => vsnap st s fun s' st' =>
    match st'.rs i, tySz P t, cellsS s' with
    | some (.arr nil sz xs fx), some (_, n), some cs => cs.length = n ∧ xs.length = m ∧ j < m ∧ o + n ≤ sz ∧ fx ≤ j ∧ K (st'.setR i (some (.arr nil sz (xs.set j (spl (xs.getD j []) o cs)) fx)))
    | _, _, _ => False
  | _ => False

def chunks (s : Nat) : Nat → List C → List (List C)
  | 0, _ => []
  | n + 1, l => l.take s :: chunks s n (l.drop s)

def vbuildSlice (P : Program) (dst : Option Nat) (st : St) (t : TypeId) (len : Nat) (parts : List (Nat × S)) (K : St → Prop) : Prop :=
  match dst, P.underlying t with
  | some x, some (.slice e) =>
    match tySz P e, zeroOf P e with
    | some (_, s), some z =>
      match cellsS (ofConst z) with
      | some zc => vsnaps st (parts.map (·.2)) fun ss st' =>
        match pfill (.inr s) (List.replicate len zc).flatten ((parts.map (·.1)).zip ss) with
        | some out => zc.length = s ∧ len * s ≤ 16777216 ∧ 0 < s ∧ len ≤ maxLen ∧ K (((st'.clr (64 * x)).setR (64 * x) (some (.arr false s (chunks s len out) 0))).put x (.own (64 * x) len))
        | none => False
      | none => False
    | _, _ => False
  | _, _ => False

def vappend (P : Program) (dst : Option Nat) (st : St) (t xt : TypeId) (d x : S) (K : St → Prop) : Prop :=
  match dst, slT P t, P.underlying xt with
  | some y, some (s, B), some (.slice _) => vsnap st x fun x' st' =>
    match x' with
    | .c (.sl _ ys) =>
      match d with
      | .c (.sl true []) => (∀ e ∈ ys, e.length = s) ∧ 0 < B ∧ ys.length * B ≤ 140737488355328 ∧ K (((st'.clr (64 * y)).setR (64 * y) (some (.arr ys.isEmpty s ys 0))).put y (.own (64 * y) ys.length))
      | .own i n =>
        match st'.rs i with
        | some (.arr nil sz xs fx) => xs.length = n ∧ (nil = false → sz = s) ∧ (∀ e ∈ ys, e.length = s) ∧ 0 < B ∧ (xs.length + ys.length) * B ≤ 140737488355328 ∧
            K (((st'.clr i).setR i (some (.arr (nil && ys.isEmpty) s (xs ++ ys) fx))).put y (.own i (n + ys.length)))
        | _ => False
      | _ => False
    | _ => False
  | _, _, _ => False

def vmake (P : Program) (dst : Option Nat) (st : St) (t : TypeId) (l c : S) (K : St → Prop) : Prop :=
  match dst, slT P t, sint l, sint c with
  | some y, some (s, B), some n, some m =>
    match P.underlying t with
    | some (.slice e) => match zeroOf P e with
      | some z => match cellsS (ofConst z) with
        | some zc => 0 ≤ n ∧ n ≤ m ∧ 0 < B ∧ m.toNat * B ≤ 140737488355328 ∧ 0 < s ∧ K (((st.clr (64 * y)).setR (64 * y) (some (.arr false s (List.replicate n.toNat zc) 0))).put y (.own (64 * y) n.toNat))
        | none => False
      | none => False
    | _ => False
  | _, _, _, _ => False

/-- what can be lent -/
def lendS : S → Bool
  | .own .. => true
  | .ptr .. => true
  | .ep .. => true
  | _ => false
def lendPut (st : St) (dst : Option Nat) (s : S) : St := st.putd dst s
/-- a call that changes what it is lent -/
def vlend (P : Program) (dst : Option Nat) (st : St) (fid : FuncId) (args : List S) (K : St → Prop) : Prop :=
  ∃ m, vsnapm st m args fun args st => ∃ (b b' : List (Nat × Res)) (as0 rs as1 : List S) (τ : Nat → Nat) (C : List Nat), LendOk P st fid args b b' as0 rs as1 τ C ∧ K ((lendSt st τ C b').putd dst (retS τ rs))
def vcallA (P : Program) (dst : Option Nat) (st : St) (fid : FuncId) (caps : List C) (args : List S) (K : St → Prop) : Prop :=
  vsnaps st args fun ss st' => (∃ rs, Con P fid (ss ++ caps.map .c) rs ∧ K (vret st' dst rs)) ∨ vlend P dst st' fid (ss ++ caps.map .c) K
def vcallQ (P : Program) (dst : Option Nat) (st : St) (fid : FuncId) (caps : List C) (args : List S) (K : St → Prop) (q : Bool) : Prop :=
  match q with
  | true => vcallA P dst st fid caps args K ∨ (caps = [] ∧ vlend P dst st fid args K)
  | false => vcallA P dst st fid caps args K
def vcall (P : Program) (dst : Option Nat) (st : St) (f : S) (args : List S) (K : St → Prop) : Prop :=
  match f with
  | .c (.fn fid caps) => vcallQ P dst st fid caps args K (args.any lendS)
  | _ => False

def vpure (P : Program) (dst : Option Nat) (st : St) (e : Operand → S) (op : Op) (K : St → Prop) : Prop :=
  (pev P st e op).2 ∧ K (st.putd dst (pev P st e op).1)

/-- a variable is read whole: its own rows are data from now on -/
def vloadb (P : Program) (st : St) (t : TypeId) (s : S) (k : S → St → Prop) : Prop :=
  match tySz P t, s with
  | some (true, m), .ptr i o =>
    match st.rs i with
    | some (.box _ ss) => vsnaps st ((ss.drop o).take m) fun ss' st' =>
      match allC ss' with
      | some cs => cs.length = m ∧ k (.agg cs) st'
      | none => False
    | _ => False
  | _, _ => (pload P st t s).2 ∧ k (pload P st t s).1 st

/-- what a function captures: data; one's own variable of data, which stays as it is from now on -/
def vcap (st : St) (s : S) (k : C → St → Prop) : Prop :=
  match s with
  | .c x => k x st
  | .ptr i 0 =>
    match st.rs i with
    | some (.box _ ss) => vsnaps st ss fun ss' st' =>
      match allC ss', st'.rs i with
      | some cs, some (.box _ _) => k (.dp cs) (st'.setR i (some (.box true (cs.map .c))))
      | _, _ => False
    | _ => False
  | _ => False
def vcaps (st : St) : List S → (List C → St → Prop) → Prop
  | [], k => k [] st
  | s :: r, k => vcap st s fun c st' => vcaps st' r fun cs st'' => k (c :: cs) st''

/-- a struct of one cell, of one's own row -/
def isOne : Option (Bool × Nat) → Bool
  | some (b, n) => b && n == 1
  | none => false
def oneOwn (q : Bool) (is : List Nat) (ss : List S) : Option (Nat × Nat) :=
  bif q then
    match is, ss with
    | [0], [.own i n] => some (i, n)
    | _, _ => none
  else none
/-- a struct of one cell is written out as its cell -/
def B1 (P : Program) (t : TypeId) : Prop := ∀ d : C, pbuild P t [(0, .c d)] = (.agg [d], True)

def vop (P : Program) (dst : Option Nat) (st : St) (e : Operand → S) (op : Op) (K : St → Prop) : Prop :=
  match op with
  | .assign (.const (.slice none 0 0)) =>
    match dst with
    | some x => K (((st.clr (64 * x)).setR (64 * x) (some (.arr true 0 [] 0))).put x (.own (64 * x) 0))
    | none => False
  | .alloc t => valloc P dst st t K
  | .box _ x => vbox dst st (e x) K
  | .store t ad x => vstore P st t (e ad) (e x) K
  | .load t x => vloadb P st t (e x) fun s st' => K (st'.putd dst s)
  | .buildSlice t len parts => vbuildSlice P dst st t len (parts.toList.map fun p => (p.1, e p.2)) K
  | .makeSlice t l c => vmake P dst st t (e l) (e c) K
  | .slice t x lo hi mx => vsnap st (e x) fun s st' => (pslice P t s (lo.map e) (hi.map e) (mx.map e)).2 ∧ K (st'.putd dst (pslice P t s (lo.map e) (hi.map e) (mx.map e)).1)
  | .makeFunc (.func f) first cap => first.toList = [] ∧ vcaps st (cap.toList.map e) fun cs st' => K (st'.putd dst (.c (.fn f cs)))
  | .build t parts =>
    match oneOwn (isOne (tySz P t)) (parts.toList.map (·.1)) (parts.toList.map fun p => e p.2) with
    | some (i, n) =>
      match st.rs i with
      | some (.arr _ _ xs _) => B1 P t ∧ xs.length = n ∧ K (st.putd dst (.st [.own i n]))
      | _ => False
    | none => vsnaps st (parts.toList.map fun p => e p.2) fun ss st' => (pbuild P t ((parts.toList.map (·.1)).zip ss)).2 ∧ K (st'.putd dst (pbuild P t ((parts.toList.map (·.1)).zip ss)).1)
  | .call c =>
    match c.callee with
    | .builtin .append => match c.argTypes.toList, c.args.toList with
      | [t, xt], [d, x] => vappend P dst st t xt (e d) (e x) K
      | _, _ => False
    | .value f => vcall P dst st (e f) (c.args.toList.map e) K
    | _ => vpure P dst st e op K
  | _ => vpure P dst st e op K

end Go.VL
