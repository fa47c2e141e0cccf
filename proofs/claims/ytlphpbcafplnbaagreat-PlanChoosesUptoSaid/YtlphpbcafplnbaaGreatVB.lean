/- Contracts of functions of the seat, proved in a logic on data over the model (part VB). -/
import Derived.Test.YtlphpbcafplnbaaGreatVA
import Derived.Test.YtlphpbcafplnbaaGreatVM
import Derived.Maps.RangeRun
import Derived.Deep.LoopGhost
set_option linter.unusedSimpArgs false
set_option linter.unusedVariables false
namespace Go.VL
open Go.RowKit
def vsnap (st : St) (s : S) (k : S → St → Prop) : Prop :=
  match s with
  | .own i n =>
    match st.rs i with
    | some (.arr nil sz xs _) => xs.length = n ∧ k (.c (.sl nil xs)) (st.setR i (some (.arr nil sz xs xs.length)))
    | _ => False
  | s => k s st
def vsnaps (st : St) : List S → (List S → St → Prop) → Prop
  | [], k => k [] st
  | s :: r, k => vsnap st s fun s' st' => vsnaps st' r fun r' st'' => k (s' :: r') st''
section
variable {P : Program} {w0 : World} {K0 : K0T} {nt : Nat} {st : St} {a : Act} {w : World} {g : G}
theorem vsnap_ok (h : T w0 K0 nt st a w g) {s : S} {u : Value} {k : S → St → Prop} (hs : SR g w st.rs s u) (hv : vsnap st s k) :
    ∃ s' st' g', k s' st' ∧ T w0 K0 nt st' a w g' ∧ SR g' w st'.rs s' u ∧ (∀ s u, SR g w st.rs s u → SR g' w st'.rs s u) ∧ g'.loc = g.loc ∧ Keeps g.K w g'.K w := by
  have trivial_case : k s st → ∃ s' st' g', k s' st' ∧ T w0 K0 nt st' a w g' ∧ SR g' w st'.rs s' u ∧ (∀ s u, SR g w st.rs s u → SR g' w st'.rs s u) ∧ g'.loc = g.loc ∧ Keeps g.K w g'.K w :=
    fun hk => ⟨s, st, g, hk, h, hs, fun _ _ h => h, rfl, Keeps.refl _ _⟩
  unfold vsnap at hv
  split at hv
  · rename_i i n
    split at hv
    · rename_i nil sz xs fx hr
      obtain ⟨hn, hk⟩ := hv
      obtain ⟨g', h1, h2, h3, h4⟩ := h.snap hr
      rw [SR] at hs
      have hu := hs nil sz xs fx hr hn
      refine ⟨_, _, g', hk, h1, by rw [SR, hu]; exact h2, fun s u hsu => ?_, h3, h4⟩
      refine SR.mono h4 s u (fun j _ => ?_) hsu
      by_cases e : j = i
      · subst e
        refine ⟨fun fz ss e => ?_, fun nil' sz' xs' fx' e => ?_, fun kvs e => ?_⟩
        · rw [St.rs_setR, if_pos rfl] at e; simp at e
        · rw [St.rs_setR, if_pos rfl] at e; simp at e
          obtain ⟨rfl, rfl, rfl, rfl⟩ := e
          exact ⟨⟨nil, xs, fx, hr, rfl⟩, by rw [h3]⟩
        · rw [St.rs_setR, if_pos rfl] at e; simp at e
      · exact Cmp.same (by rw [St.rs_setR, if_neg (Ne.symm e)]) (by rw [h3])
    · exact hv.elim
  · exact trivial_case hv
theorem vsnaps_ok : ∀ (ss : List S) (us : List Value) (st : St) (g : G) (k : List S → St → Prop), T w0 K0 nt st a w g → SRs g w st.rs ss us → vsnaps st ss k →
    ∃ ss' st' g', k ss' st' ∧ T w0 K0 nt st' a w g' ∧ SRs g' w st'.rs ss' us ∧ (∀ s u, SR g w st.rs s u → SR g' w st'.rs s u) ∧ g'.loc = g.loc ∧ Keeps g.K w g'.K w
  | [], us, st, g, k, h, hs, hv => ⟨[], st, g, hv, h, hs, fun _ _ h => h, rfl, Keeps.refl _ _⟩
  | s :: r, us, st, g, k, h, hs, hv => by
    rw [SRs] at hs
    obtain ⟨u, us', rfl, h1, h2⟩ := hs
    rw [vsnaps] at hv
    obtain ⟨s', st', g', k1, k2, k3, k4, k5, k6⟩ := vsnap_ok h h1 hv
    have h2' : SRs g' w st'.rs r us' := by
      rw [SRs_iff] at h2 ⊢
      exact ⟨h2.1, fun k s u e1 e2 => k4 s u (h2.2 k s u e1 e2)⟩
    obtain ⟨r', st'', g'', m1, m2, m3, m4, m5, m6⟩ := vsnaps_ok r us' st' g' _ k2 h2' k1
    refine ⟨s' :: r', st'', g'', m1, m2, ?_, fun s u hh => m4 s u (k4 s u hh), m5.trans k5, k6.trans m6⟩
    rw [SRs]
    exact ⟨u, us', rfl, m4 _ _ k3, m3⟩
def vsnapm (st : St) : List Bool → List S → (List S → St → Prop) → Prop
  | true :: m, s :: r, k => vsnap st s fun s' st' => vsnapm st' m r fun r' st'' => k (s' :: r') st''
  | false :: m, s :: r, k => vsnapm st m r fun r' st'' => k (s :: r') st''
  | _, ss, k => k ss st
theorem vsnapm_ok : ∀ (m : List Bool) (ss : List S) (us : List Value) (st : St) (g : G) (k : List S → St → Prop), T w0 K0 nt st a w g → SRs g w st.rs ss us → vsnapm st m ss k →
    ∃ ss' st' g', k ss' st' ∧ T w0 K0 nt st' a w g' ∧ SRs g' w st'.rs ss' us ∧ (∀ s u, SR g w st.rs s u → SR g' w st'.rs s u)
  | [], ss, us, st, g, k, h, hs, hv => ⟨ss, st, g, hv, h, hs, fun _ _ h => h⟩
  | true :: m, [], us, st, g, k, h, hs, hv => ⟨[], st, g, hv, h, hs, fun _ _ h => h⟩
  | false :: m, [], us, st, g, k, h, hs, hv => ⟨[], st, g, hv, h, hs, fun _ _ h => h⟩
  | true :: m, s :: r, us, st, g, k, h, hs, hv => by
    rw [SRs] at hs
    obtain ⟨u, us', rfl, h1, h2⟩ := hs
    rw [vsnapm] at hv
    obtain ⟨s', st', g', k1, k2, k3, k4, k5, k6⟩ := vsnap_ok h h1 hv
    have h2' : SRs g' w st'.rs r us' := by
      rw [SRs_iff] at h2 ⊢
      exact ⟨h2.1, fun k s u e1 e2 => k4 s u (h2.2 k s u e1 e2)⟩
    obtain ⟨r', st'', g'', m1, m2, m3, m4⟩ := vsnapm_ok m r us' st' g' _ k2 h2' k1
    refine ⟨s' :: r', st'', g'', m1, m2, ?_, fun s u hh => m4 s u (k4 s u hh)⟩
    rw [SRs]
    exact ⟨u, us', rfl, m4 _ _ k3, m3⟩
  | false :: m, s :: r, us, st, g, k, h, hs, hv => by
    rw [SRs] at hs
    obtain ⟨u, us', rfl, h1, h2⟩ := hs
    rw [vsnapm] at hv
    obtain ⟨r', st'', g'', m1, m2, m3, m4⟩ := vsnapm_ok m r us' st g _ h h2 hv
    refine ⟨s :: r', st'', g'', m1, m2, ?_, m4⟩
    rw [SRs]
    exact ⟨u, us', rfl, m4 _ _ h1, m3⟩
theorem ow_value {o : Oper} {u : Value} {w' : World} {next : Act → World → Prop} {Q : Exit → Act → World → Prop} (hr : (execOp a.eval o).run P w = .ok (.value u) w') (h : next (a.put o.dst u) w') : o.wp P a w next Q := by
  unfold Oper.wp; rw [hr]; exact h
theorem ow_skip {o : Oper} {w' : World} {next : Act → World → Prop} {Q : Exit → Act → World → Prop} (hr : (execOp a.eval o).run P w = .ok .skip w') (h : next (a.put o.dst undef) w') : o.wp P a w next Q := by
  unfold Oper.wp; rw [hr]; exact h
end
def zcells (N : Nat) : Nat → List Value → List S
  | _, [] => []
  | k, .slice none 0 0 :: r => .own (N + k + 1) 0 :: zcells N (k + 1) r
  | k, v :: r => .c (ofVal v) :: zcells N (k + 1) r
def znils (N : Nat) : Nat → List Value → St → St
  | _, [], st => st
  | k, .slice none 0 0 :: r, st => znils N (k + 1) r ((st.clr (N + k + 1)).setR (N + k + 1) (some (.arr true 0 [] 0)))
  | k, _ :: r, st => znils N (k + 1) r st
def valloc (P : Program) (dst : Option Nat) (st : St) (t : TypeId) (K : St → Prop) : Prop :=
  match dst, zeroOf P t with
  | some x, some z =>
    z.cells.all (·.oneCell') = true ∧
      K ((((znils (64 * x) 0 z.cells.toList st).clr (64 * x)).setR (64 * x) (some (.box false (zcells (64 * x) 0 z.cells.toList)))).put x (.ptr (64 * x) 0))
  | _, _ => False
def vbox (dst : Option Nat) (st : St) (s : S) (K : St → Prop) : Prop :=
  match dst with
  | some x => vsnap st s fun s' st' =>
    match cellsH st' s' with
    | some cs => S.mens (64 * x) cs = false ∧ K (((st'.clr (64 * x)).setR (64 * x) (some (.box false cs))).put x (.ptr (64 * x) 0))
    | none => False
  | none => False
def vstore (P : Program) (st : St) (t : TypeId) (ad s : S) (K : St → Prop) : Prop :=
  match ad with
  | .ptr i off =>
    match st.rs i, tySz P t, cellsH st s with
    | some (.box false ss), some (_, n), some cs => cs.length = n ∧ off + n ≤ ss.length ∧ K (st.setR i (some (.box false (spl ss off cs))))
    | _, _, _ => False
  | .ep i m j o => vsnap st s fun s' st' =>
    match st'.rs i, tySz P t, cellsS s' with
    | some (.arr nil sz xs fx), some (_, n), some cs => cs.length = n ∧ xs.length = m ∧ j < m ∧ o + n ≤ sz ∧ fx ≤ j ∧ K (st'.setR i (some (.arr nil sz (xs.set j (spl (xs.getD j []) o cs)) fx)))
    | _, _, _ => False
  | _ => False
def chunks (s : Nat) : Nat → List C → List (List C)
  | 0, _ => []
  | n + 1, l => l.take s :: chunks s n (l.drop s)
def vbuildSlice (P : Program) (dst : Option Nat) (st : St) (t : TypeId) (len : Nat) (parts : List (Nat × S)) (K : St → Prop) : Prop :=
  match dst, P.underlying t with
  | some x, some (.slice e) =>
    match tySz P e, zeroOf P e with
    | some (_, s), some z =>
      match cellsS (ofConst z) with
      | some zc => vsnaps st (parts.map (·.2)) fun ss st' =>
        match pfill (.inr s) (List.replicate len zc).flatten ((parts.map (·.1)).zip ss) with
        | some out => zc.length = s ∧ len * s ≤ 16777216 ∧ 0 < s ∧ len ≤ maxLen ∧ K (((st'.clr (64 * x)).setR (64 * x) (some (.arr false s (chunks s len out) 0))).put x (.own (64 * x) len))
        | none => False
      | none => False
    | _, _ => False
  | _, _ => False
def vappend (P : Program) (dst : Option Nat) (st : St) (t xt : TypeId) (d x : S) (K : St → Prop) : Prop :=
  match dst, slT P t, P.underlying xt with
  | some y, some (s, B), some (.slice _) => vsnap st x fun x' st' =>
    match x' with
    | .c (.sl _ ys) =>
      match d with
      | .c (.sl true []) => (∀ e ∈ ys, e.length = s) ∧ 0 < B ∧ ys.length * B ≤ 140737488355328 ∧ K (((st'.clr (64 * y)).setR (64 * y) (some (.arr ys.isEmpty s ys 0))).put y (.own (64 * y) ys.length))
      | .own i n =>
        match st'.rs i with
        | some (.arr nil sz xs fx) => xs.length = n ∧ (nil = false → sz = s) ∧ (∀ e ∈ ys, e.length = s) ∧ 0 < B ∧ (xs.length + ys.length) * B ≤ 140737488355328 ∧
            K (((st'.clr i).setR i (some (.arr (nil && ys.isEmpty) s (xs ++ ys) fx))).put y (.own i (n + ys.length)))
        | _ => False
      | _ => False
    | _ => False
  | _, _, _ => False
def vmake (P : Program) (dst : Option Nat) (st : St) (t : TypeId) (l c : S) (K : St → Prop) : Prop :=
  match dst, slT P t, sint l, sint c with
  | some y, some (s, B), some n, some m =>
    match P.underlying t with
    | some (.slice e) => match zeroOf P e with
      | some z => match cellsS (ofConst z) with
        | some zc => 0 ≤ n ∧ n ≤ m ∧ 0 < B ∧ m.toNat * B ≤ 140737488355328 ∧ 0 < s ∧ K (((st.clr (64 * y)).setR (64 * y) (some (.arr false s (List.replicate n.toNat zc) 0))).put y (.own (64 * y) n.toNat))
        | none => False
      | none => False
    | _ => False
  | _, _, _, _ => False
def lendS : S → Bool
  | .own .. => true
  | .ptr .. => true
  | .ep .. => true
  | .pre .. => true
  | .mp _ => true
  | _ => false
def vlend (P : Program) (dst : Option Nat) (st : St) (fid : FuncId) (args : List S) (K : St → Prop) : Prop :=
  ∃ m, vsnapm st m args fun args st => ∃ (b b' : List (Nat × Res)) (as0 rs as1 : List S) (τ : Nat → Nat) (C : List Nat), LendOk P st fid args b b' as0 rs as1 τ C ∧ K ((lendSt st τ C b').putd dst (retS τ rs))
def vcallA (P : Program) (dst : Option Nat) (st : St) (fid : FuncId) (caps : List C) (args : List S) (K : St → Prop) : Prop :=
  vsnaps st args fun ss st' => (∃ rs, Con P fid (ss ++ caps.map .c) rs ∧ K (vret st' dst rs)) ∨ vlend P dst st' fid (ss ++ caps.map .c) K
def vcallQ (P : Program) (dst : Option Nat) (st : St) (fid : FuncId) (caps : List C) (args : List S) (K : St → Prop) (q : Bool) : Prop :=
  match q with
  | true => vcallA P dst st fid caps args K ∨ (caps = [] ∧ vlend P dst st fid args K)
  | false => vcallA P dst st fid caps args K
def vcall (P : Program) (dst : Option Nat) (st : St) (f : S) (args : List S) (K : St → Prop) : Prop :=
  match f with
  | .c (.fn fid caps) => vcallQ P dst st fid caps args K (args.any lendS)
  | .fnp fid ss => vlend P dst st fid (args ++ ss) K
  | _ => False
def vpure (P : Program) (dst : Option Nat) (st : St) (e : Operand → S) (op : Op) (K : St → Prop) : Prop :=
  (pev P st e op).2 ∧ K (st.putd dst (pev P st e op).1)
def vloadb (P : Program) (st : St) (t : TypeId) (s : S) (k : S → St → Prop) : Prop :=
  match tySz P t, s with
  | some (true, m), .ptr i o =>
    match st.rs i with
    | some (.box _ ss) => vsnaps st ((ss.drop o).take m) fun ss' st' =>
      match allC ss' with
      | some cs => cs.length = m ∧ k (.agg cs) st'
      | none => False
    | _ => False
  | _, _ => (pload P st t s).2 ∧ k (pload P st t s).1 st
def vcap (st : St) (s : S) (k : C → St → Prop) : Prop :=
  match s with
  | .c x => k x st
  | .ptr i 0 =>
    match st.rs i with
    | some (.box _ ss) => vsnaps st ss fun ss' st' =>
      match allC ss', st'.rs i with
      | some cs, some (.box _ _) => k (.dp cs) (st'.setR i (some (.box true (cs.map .c))))
      | _, _ => False
    | _ => False
  | _ => False
def vcaps (st : St) : List S → (List C → St → Prop) → Prop
  | [], k => k [] st
  | s :: r, k => vcap st s fun c st' => vcaps st' r fun cs st'' => k (c :: cs) st''
def S.isOwn : S → Bool
  | .own _ _ => true
  | _ => false
def capR : Option Res → Bool
  | some (.box _ ss) => ss.any S.isOwn
  | _ => false
def capS (st : St) : S → Bool
  | .ptr i _ => capR (st.rs i)
  | _ => false
def capOwn (st : St) : List S → Bool
  | [] => false
  | s :: r => capS st s || capOwn st r
def vmf (dst : Option Nat) (st : St) (f : FuncId) (ss : List S) (K : St → Prop) (q : Bool) : Prop :=
  match q with
  | true => K (st.putd dst (.fnp f ss))
  | false => vcaps st ss fun cs st' => K (st'.putd dst (.c (.fn f cs)))
def vsliceO (P : Program) (dst : Option Nat) (st : St) (t : TypeId) (x : S) (lo hi : Option S) (K : St → Prop) : Prop :=
  match dst, x, lo, hi with
  | some y, .own i n, none, some h =>
    match sint h, st.rs i with
    | some m, some (.arr nil sz xs fx) => 0 ≤ m ∧ m ≤ n ∧ xs.length = n ∧ fx ≤ m.toNat ∧ (esz P t).isSome = true ∧ K (((st.clr i).setR i (some (.arr nil sz (xs.take m.toNat) fx))).put y (.own i m.toNat))
    | _, _ => False
  | some y, .own i n, some l, none =>
    match sint l, st.rs i with
    | some m, some (.arr nil sz xs _) => 0 ≤ m ∧ m ≤ n ∧ xs.length = n ∧ (nil = false → esz P t = some sz) ∧ (esz P t).isSome = true ∧ K (st.put y (.suf i n m.toNat))
    | _, _ => False
  | _, _, _, _ => False
def vclear (P : Program) (dst : Option Nat) (st : St) (t : TypeId) (x : S) (K : St → Prop) : Prop :=
  match dst, x, P.underlying t with
  | none, .suf i n j, some (.slice e) =>
    match st.rs i, tySz P e, zeroOf P e with
    | some (.arr nil sz xs fx), some (_, s), some z =>
      match cellsS (ofConst z) with
      | some zc => xs.length = n ∧ fx ≤ j ∧ j ≤ n ∧ s = sz ∧ zc.length = s ∧ 0 < s ∧ K (st.setR i (some (.arr nil sz (xs.take j ++ List.replicate (n - j) zc) fx)))
      | none => False
    | _, _, _ => False
  | _, _, _ => False
def isOne : Option (Bool × Nat) → Bool
  | some (b, n) => b && n == 1
  | none => false
def oneOwn (q : Bool) (is : List Nat) (ss : List S) : Option (Nat × Nat) :=
  bif q then
    match is, ss with
    | [0], [.own i n] => some (i, n)
    | _, _ => none
  else none
def B1 (P : Program) (t : TypeId) : Prop := ∀ d : C, pbuild P t [(0, .c d)] = (.agg [d], True)
def vmkI (P : Program) (dst : Option Nat) (st : St) (t : TypeId) (s : S) (K : St → Prop) : Prop :=
  match s with
  | .st ss => vsnaps st ss fun ss' st' =>
    match allC ss' with
    | some cs => isIface P t = false ∧ K (st'.putd dst (.c (.ifc t cs)))
    | none => False
  | s => vsnap st s fun s' st' => (pmkI P t s').2 ∧ K (st'.putd dst (pmkI P t s').1)
def methOf (P : Program) (d : TypeId) (name : String) : Option FuncId :=
  match P.info? d with
  | some i =>
    match i.methods.find? (·.name == name) with
    | some m =>
      match m.path.toList, m.func, P.underlying d with
      | [], some (_, false), some (.pointer _) => none
      | [], some (f, false), some _ => some f
      | _, _, _ => none
    | none => none
  | none => none
def recvS : S → Option (TypeId × S)
  | .c (.ifc d cs) => some (d, .agg cs)
  | .c (.ifo d c) => some (d, .c c)
  | _ => none
def vinv (P : Program) (dst : Option Nat) (st : St) (r : S) (name : String) (args : List S) (K : St → Prop) : Prop :=
  ∃ d s f, recvS r = some (d, s) ∧ methOf P d name = some f ∧ vsnaps st args fun ss st' => ∃ rs, Con P f (s :: ss) rs ∧ K (vret st' dst rs)
def vop (P : Program) (dst : Option Nat) (st : St) (e : Operand → S) (op : Op) (K : St → Prop) : Prop :=
  match op with
  | .assign (.const (.slice none 0 0)) =>
    match dst with
    | some x => K (((st.clr (64 * x)).setR (64 * x) (some (.arr true 0 [] 0))).put x (.own (64 * x) 0))
    | none => False
  | .alloc t => valloc P dst st t K
  | .box _ x => vbox dst st (e x) K
  | .store t ad x => vstore P st t (e ad) (e x) K
  | .load t x => vloadb P st t (e x) fun s st' => K (st'.putd dst s)
  | .buildSlice t len parts => vbuildSlice P dst st t len (parts.toList.map fun p => (p.1, e p.2)) K
  | .makeSlice t l c => vmake P dst st t (e l) (e c) K
  | .slice t x lo hi mx => (vsnap st (e x) fun s st' => (pslice P t s (lo.map e) (hi.map e) (mx.map e)).2 ∧ K (st'.putd dst (pslice P t s (lo.map e) (hi.map e) (mx.map e)).1)) ∨ (mx = none ∧ vsliceO P dst st t (e x) (lo.map e) (hi.map e) K)
  | .makeFunc (.func f) first cap => first.toList = [] ∧ vmf dst st f (cap.toList.map e) K (capOwn st (cap.toList.map e))
  | .build t parts =>
    match oneOwn (isOne (tySz P t)) (parts.toList.map (·.1)) (parts.toList.map fun p => e p.2) with
    | some (i, n) =>
      match st.rs i with
      | some (.arr _ _ xs _) => B1 P t ∧ xs.length = n ∧ K (st.putd dst (.st [.own i n]))
      | _ => False
    | none => vsnaps st (parts.toList.map fun p => e p.2) fun ss st' => (pbuild P t ((parts.toList.map (·.1)).zip ss)).2 ∧ K (st'.putd dst (pbuild P t ((parts.toList.map (·.1)).zip ss)).1)
  | .makeInterface t x => vmkI P dst st t (e x) K
  | .makeMap _ none => vmkMap dst st K
  | .lookup t m k ok => vlkup P dst st t (e m) (e k) ok K
  | .mapUpdate t m k x => vmapUp P dst st t (e m) (e k) (e x) K
  | .range t m => vrange P dst st t (e m) K
  | .next it false => vnext dst st (e it) K
  | .entry it => ventry dst st (e it) K
  | .call c =>
    match c.callee with
    | .builtin .append => match c.argTypes.toList, c.args.toList with
      | [t, xt], [d, x] => vappend P dst st t xt (e d) (e x) K
      | _, _ => False
    | .value f => vcall P dst st (e f) (c.args.toList.map e) K
    | .invoke r name => vinv P dst st (e r) name (c.args.toList.map e) K
    | .builtin .clear => match c.argTypes.toList, c.args.toList with
      | [t], [x] => vclear P dst st t (e x) K
      | _, _ => False
    | _ => vpure P dst st e op K
  | _ => vpure P dst st e op K
end Go.VL
set_option linter.unusedSimpArgs false
set_option linter.unusedVariables false
namespace Go.VL
open Go.RowKit
section
variable {P : Program} {w0 : World} {K0 : K0T} {nt : Nat} {st : St} {a : Act} {w : World} {g : G}
theorem cellsH_ok (h : T w0 K0 nt st a w g) {s : S} {cs : List S} {u : Value} (hc : cellsH st s = some cs) (hs : SR g w st.rs s u) : SRs g w st.rs cs u.cells.toList ∧ ∀ v ∈ u.cells.toList, v.oneCell' = true := by
  have one : u.oneCell' = true → u.cells = #[u] := fun h => by cases u <;> first | rfl | cases h
  have fin : ∀ s, SR g w st.rs s u → u.oneCell' = true → SRs g w st.rs [s] u.cells.toList ∧ ∀ v ∈ u.cells.toList, v.oneCell' = true := fun s hs h1 => by
    rw [one h1]
    refine ⟨by simp only [SRs]; exact ⟨u, [], rfl, hs, rfl⟩, fun v hv => ?_⟩
    simp at hv; subst hv; exact h1
  unfold cellsH at hc
  split at hc
  · cases hc
    have hs' := hs
    rw [SR] at hs'
    exact fin _ hs (CR.one hs')
  · rename_i cs'
    cases hc
    rw [SR] at hs
    obtain ⟨us, rfl, hv⟩ := hs
    have hv' := (VR_iff _ _).1 hv
    show SRs g w st.rs (cs'.map .c) us ∧ ∀ v ∈ us, v.oneCell' = true
    refine ⟨?_, fun v hm => ?_⟩
    · rw [SRs_iff]
      refine ⟨by simp [hv'.1], fun k s u e1 e2 => ?_⟩
      simp only [List.getElem?_map, Option.map_eq_some_iff] at e1
      obtain ⟨c, e1, rfl⟩ := e1
      rw [SR]
      exact hv'.2 k c u e1 e2
    · obtain ⟨k, hk, rfl⟩ := List.mem_iff_getElem.1 hm
      have hk' : k < cs'.length := by have := hv'.1; omega
      exact CR.one (hv'.2 k cs'[k] _ (by simp [hk']) (by simp))
  · rename_i ss
    cases hc
    rw [SR] at hs
    obtain ⟨us, rfl, h1, h2⟩ := hs
    exact ⟨by simpa [Value.cells] using h1, by simpa [Value.cells] using h2⟩
  · rename_i i o
    split at hc
    · rename_i fz ss hr
      cases hc
      have hs' := hs
      rw [SR] at hs'
      obtain ⟨b, _, rfl⟩ := hs' fz ss hr
      exact fin _ hs rfl
    · cases hc
  · rename_i i n
    split at hc
    · rename_i nil sz xs fx hr
      split at hc
      · rename_i hn
        cases hc
        have hs' := hs
        rw [SR] at hs'
        have hu := hs' nil sz xs fx hr hn
        refine fin _ hs ?_
        rcases h.res i _ hr with ⟨_, _, e, _⟩ | ⟨_, b, cap, cur, E, e, _⟩ <;> rw [hu, e] <;> rfl
      · cases hc
    · cases hc
  · cases hc
theorem SR.nilown (g : G) (w : World) {R : Nat → Option Res} {N : Nat} (hl : g.loc N = .slice none 0 0) : SR g w R (.own N 0) (.slice none 0 0) := by
  rw [SR]; intro _ _ _ _ _ _; exact hl.symm
theorem SR.keep {g g' : G} {R R' : Nat → Option Res} {N : Nat} (hk : g'.K = g.K) (hl : ∀ j, j ≠ N → g'.loc j = g.loc j) (hR : ∀ j, j ≠ N → R' j = (R j).map (Res.clr N)) {w' : World} (hw : Keeps g.K w g.K w') {s : S} {u : Value} (hm : s.men N = false) (h : SR g w R s u) : SR g' w' R' s u := by
  refine SR.mono (by rw [hk]; exact hw) s u (fun j hj => ?_) h
  have hji : j ≠ N := fun e => by subst e; rw [hj] at hm; cases hm
  refine ⟨fun fz ss' e => ?_, fun nil sz xs fx e => ?_, fun kvs e => ?_⟩
  · rw [hR j hji] at e
    cases hs : R j with
    | none => simp [hs] at e
    | some r => cases r with
      | box fz0 ss0 => exact ⟨⟨fz0, ss0, rfl⟩, hl j hji⟩
      | arr _ _ _ _ => simp [hs, Res.clr] at e
      | pin _ _ => simp [hs, Res.clr] at e
      | map _ => simp [hs, Res.clr] at e
  · rw [hR j hji] at e
    cases hs : R j with
    | none => simp [hs] at e
    | some r => cases r with
      | box fz0 ss0 => simp [hs, Res.clr] at e
      | arr nil0 sz0 xs0 fx0 =>
        simp [hs, Res.clr] at e
        obtain ⟨rfl, rfl, rfl, rfl⟩ := e
        exact ⟨⟨_, _, _, rfl, rfl⟩, hl j hji⟩
      | pin _ _ => simp [hs, Res.clr] at e
      | map _ => simp [hs, Res.clr] at e
  · rw [hR j hji] at e
    cases hs : R j with
    | none => simp [hs] at e
    | some r => cases r with
      | box fz0 ss0 => simp [hs, Res.clr] at e
      | arr _ _ _ _ => simp [hs, Res.clr] at e
      | pin _ _ => simp [hs, Res.clr] at e
      | map k0 =>
        simp [hs, Res.clr] at e
        exact ⟨⟨k0, rfl, by rw [← e, MB.sh_clr]⟩, hl j hji⟩
theorem rs_make (st : St) (N j : Nat) (r : Option Res) (h : j ≠ N) : ((st.clr N).setR N r).rs j = (st.rs j).map (Res.clr N) := by
  rw [St.rs_setR, if_neg (Ne.symm h), St.rs_clr]
theorem znils_ok (N : Nat) : ∀ (vs : List Value) (k : Nat) (st : St) (g : G), T w0 K0 nt st a w g → (∀ v ∈ vs, v.oneCell' = true) →
    ∃ g', T w0 K0 nt (znils N k vs st) a w g' ∧ SRs g' w (znils N k vs st).rs (zcells N k vs) vs ∧ g'.K = g.K ∧ (∀ s u, (∀ j, k ≤ j → s.men (N + j + 1) = false) → SR g w st.rs s u → SR g' w (znils N k vs st).rs s u)
  | [], k, st, g, h, _ => ⟨g, h, by simp [zcells, SRs], rfl, fun _ _ _ h => h⟩
  | v :: r, k, st, g, h, h1 => by
    by_cases hv : v = .slice none 0 0
    · subst hv
      obtain ⟨g1, k1, k2, k3, k4⟩ := h.nilR (N + k + 1)
      obtain ⟨g', m1, m2, m3, m4⟩ := znils_ok N r (k + 1) _ g1 k1 (fun v hv => h1 v (by simp [hv]))
      have e1 : znils N k (.slice none 0 0 :: r) st = znils N (k + 1) r ((st.clr (N + k + 1)).setR (N + k + 1) (some (.arr true 0 [] 0))) := by rw [znils]
      have e2 : zcells N k (.slice none 0 0 :: r) = .own (N + k + 1) 0 :: zcells N (k + 1) r := by rw [zcells]
      rw [e1, e2]
      refine ⟨g', m1, ?_, m3.trans k4, fun s u hm hs => m4 s u (fun j hj => hm j (by omega)) ?_⟩
      · rw [SRs]
        refine ⟨_, _, rfl, m4 _ _ (fun j hj => by simp [S.men]; omega) (SR.nilown g1 w k2), m2⟩
      · exact SR.keep k4 k3 (fun j hj => rs_make st _ j _ hj) (Keeps.refl _ _) (hm k (Nat.le_refl _)) hs
    · obtain ⟨g', m1, m2, m3, m4⟩ := znils_ok N r (k + 1) st g h (fun v hv => h1 v (by simp [hv]))
      have e1 : znils N k (v :: r) st = znils N (k + 1) r st := by
        rw [znils]; exact hv
      have e2 : zcells N k (v :: r) = .c (ofVal v) :: zcells N (k + 1) r := by
        rw [zcells]; exact hv
      rw [e1, e2]
      refine ⟨g', m1, ?_, m3, fun s u hm hs => m4 s u (fun j hj => hm j (by omega)) hs⟩
      rw [SRs]
      refine ⟨_, _, rfl, ?_, m2⟩
      rw [SR]
      exact CR_ofVal _ _ _ (h1 v (by simp))
theorem zcells_men (N : Nat) : ∀ (vs : List Value) (k : Nat), S.mens N (zcells N k vs) = false
  | [], k => by simp [zcells, S.mens]
  | v :: r, k => by
    by_cases hv : v = .slice none 0 0
    · subst hv
      have e2 : zcells N k (.slice none 0 0 :: r) = .own (N + k + 1) 0 :: zcells N (k + 1) r := by rw [zcells]
      rw [e2, S.mens, zcells_men N r (k + 1)]
      simp [S.men]
      omega
    · have e2 : zcells N k (v :: r) = .c (ofVal v) :: zcells N (k + 1) r := by
        rw [zcells]; exact hv
      rw [e2, S.mens, zcells_men N r (k + 1)]
      simp [S.men]
theorem T.putp (h : T w0 K0 nt st a w g) {N t b : Nat} (ht : t < nt) (hl : g.loc N = .pointer (some ⟨b, 0, none⟩)) : T w0 K0 nt (st.put t (.ptr N 0)) (a.put (some t) (.pointer (some ⟨b, 0, none⟩))) w g :=
  h.put ht (by rw [SR]; intro _ _ _; exact ⟨b, hl, rfl⟩)
theorem T.puto (h : T w0 K0 nt st a w g) {N t n : Nat} {v : Value} (ht : t < nt) (hl : g.loc N = v) : T w0 K0 nt (st.put t (.own N n)) (a.put (some t) v) w g :=
  h.put ht (by rw [SR]; intro _ _ _ _ _ _; exact hl.symm)
variable {o : Oper} {K : St → Prop} {e : Operand → S} {next : Act → World → Prop} {Q : Exit → Act → World → Prop}
theorem valloc_ok (h : T w0 K0 nt st a w g) (hd : ∀ t, o.dst = some t → t < nt) {t : TypeId} (ho : o.op = .alloc t) (hv : valloc P o.dst st t K) (hn : ∀ st' a' w' g', K st' → T w0 K0 nt st' a' w' g' → next a' w') : o.wp P a w next Q := by
  unfold valloc at hv
  split at hv
  · rename_i x z hx hz
    obtain ⟨h1, hK⟩ := hv
    have h1' : ∀ v ∈ z.cells.toList, v.oneCell' = true := fun v hv => Array.all_eq_true_iff_forall_mem.1 h1 v (by simpa using hv)
    obtain ⟨g1, k1, k2, k3, k4⟩ := znils_ok (64 * x) z.cells.toList 0 st g h h1'
    obtain ⟨g2, m1, m2, m3, m4⟩ := k1.newbox (64 * x) _ _ t k2 h1' (zcells_men _ _ _)
    have hr : (execOp a.eval o).run P w = .ok (.value (.pointer (some ⟨w.heap.size, 0, none⟩))) (w.alloc (.cells z.cells.toList.toArray t)) := by
      simp [execOp, ho, Instr.alloc, run_zero hz, newVar, newRow]
    refine ow_value hr (hn _ _ _ g2 hK ?_)
    rw [hx]
    exact m1.putp (hd x hx) m2
  · exact hv.elim
theorem vbox_ok (h : T w0 K0 nt st a w g) (hd : ∀ t, o.dst = some t → t < nt) {t : TypeId} {x : Operand} (ho : o.op = .box t x) (he : SR g w st.rs (e x) (a.eval x)) (hv : vbox o.dst st (e x) K) (hn : ∀ st' a' w' g', K st' → T w0 K0 nt st' a' w' g' → next a' w') : o.wp P a w next Q := by
  unfold vbox at hv
  split at hv
  · rename_i y hy
    obtain ⟨s', st', g', k1, k2, k3, k4, k5, k6⟩ := vsnap_ok h he hv
    split at k1
    · rename_i cs hcs
      obtain ⟨hm, hK⟩ := k1
      obtain ⟨c1, c2⟩ := cellsH_ok k2 hcs k3
      obtain ⟨g2, m1, m2, m3, m4⟩ := k2.newbox (64 * y) _ _ t c1 c2 hm
      have hr : (execOp a.eval o).run P w = .ok (.value (.pointer (some ⟨w.heap.size, 0, none⟩))) (w.alloc (.cells (a.eval x).cells.toList.toArray t)) := by
        simp [execOp, ho, Instr.box, newVar, newRow]
      refine ow_value hr (hn _ _ _ g2 hK ?_)
      rw [hy]
      exact m1.putp (hd y hy) m2
    · exact k1.elim
  · exact hv.elim
theorem vstore_ok (h : T w0 K0 nt st a w g) (hdst : o.dst = none) {t : TypeId} {ad x : Operand} (ho : o.op = .store t ad x) (ha : SR g w st.rs (e ad) (a.eval ad)) (he : SR g w st.rs (e x) (a.eval x)) (hv : vstore P st t (e ad) (e x) K) (hn : ∀ st' a' w' g', K st' → T w0 K0 nt st' a' w' g' → next a' w') : o.wp P a w next Q := by
  have hrun : ∀ w', (Instr.storeAt t (a.eval ad) (a.eval x)).run P w = .ok () w' → (execOp a.eval o).run P w = .ok .skip w' := fun w' hr => by simp [execOp, ho, hr]
  unfold vstore at hv
  split at hv
  · rename_i i off hea
    split at hv
    · rename_i ss agg n cs hr ht hcs
      obtain ⟨h1, h2, hK⟩ := hv
      obtain ⟨c1, c2⟩ := cellsH_ok h hcs he
      rw [hea] at ha
      obtain ⟨w', r1, r2⟩ := h.store_box (P := P) hr ht ha c1 c2 h1 h2
      refine ow_skip (hrun w' r1) ?_
      rw [hdst]
      exact hn _ _ _ _ hK r2
    · exact hv.elim
  · rename_i i m j off hea
    obtain ⟨s', st', g', k1, k2, k3, k4, k5, k6⟩ := vsnap_ok h he hv
    split at k1
    · rename_i nil sz xs fx agg n cs hr ht hcs
      obtain ⟨h1, h2, h3, h4, h5, hK⟩ := k1
      rw [hea] at ha
      obtain ⟨w', r1, r2⟩ := k2.store_arr (P := P) hr ht (k4 _ _ ha) h2 h3 (cellsS_VR hcs k3) (cellsS_one hcs k3) h1 h4 h5
      refine ow_skip (hrun w' r1) ?_
      rw [hdst]
      exact hn _ _ _ _ hK r2
    · exact k1.elim
  · exact hv.elim
theorem vpure_ok (h : T w0 K0 nt st a w g) (hd : ∀ t, o.dst = some t → t < nt) (he : ∀ x ∈ o.op.operands.toList, SR g w st.rs (e x) (a.eval x)) (hv : vpure P o.dst st e o.op K) (hn : ∀ st' a' w' g', K st' → T w0 K0 nt st' a' w' g' → next a' w') : o.wp P a w next Q := by
  obtain ⟨h1, h2⟩ := hv
  obtain ⟨u, r1, r2⟩ := pev_ok h o e he h1
  exact ow_value r1 (hn _ _ _ _ h2 (h.putd hd r2))
end
end Go.VL
set_option linter.unusedSimpArgs false
set_option linter.unusedVariables false
namespace Go.VL
open Go.RowKit Go.ChangeMaps
theorem allCs_eq : ∀ (ss : List S) (cs : List C), allCs ss = some cs → ss = cs.map .c
  | [], cs, h => by simp [allCs] at h; subst h; rfl
  | s :: r, cs, h => by
    unfold allCs at h
    split at h
    · rename_i e; cases e
    · rename_i x r' e
      cases e
      simp only [Option.map_eq_some_iff] at h
      obtain ⟨l, h1, rfl⟩ := h
      rw [List.map_cons, allCs_eq r l h1]
    · cases h
theorem SRs_c {g : G} {w : World} {R : Nat → Option Res} : ∀ (cs : List C) (us : List Value), SRs g w R (cs.map .c) us → VR g.K w cs us
  | [], us, h => by rw [List.map_nil, SRs] at h; rw [VR]; exact h
  | c :: r, us, h => by
    rw [List.map_cons, SRs] at h
    obtain ⟨u, us', rfl, h1, h2⟩ := h
    rw [SR] at h1
    rw [VR]
    exact ⟨u, us', rfl, h1, SRs_c r us' h2⟩
theorem SR_entS {g : G} {w : World} {R : Nat → Option Res} {cs : List S} {u : Value} (h : EntR g w R cs u) : SR g w R (entS cs) u := by
  unfold EntR at h
  unfold entS
  split at h
  · exact h.1
  · rename_i hne
    split
    · rename_i c; exact absurd rfl (hne c)
    · obtain ⟨us, h1, h2, h3⟩ := h
      split
      · rename_i l hl
        rw [SR]
        exact ⟨us, h1, SRs_c l us (by rw [← allCs_eq _ _ hl]; exact h2)⟩
      · rw [SR]; exact ⟨us, h1, h2, h3⟩
theorem MapR.set {g : G} {w : World} {R : Nat → Option Res} {k : Value} {cs : List S} {v : Value} (hv : EntR g w R cs v) : ∀ (kvs : List (Value × List S)) (es : List MapEntry) (j : Nat), MapR g w R kvs es → MapR g w R (kvs.set j (k, cs)) (es.modify j fun e => { e with key := k, val := v })
  | [], es, j, h => by have : es = [] := h; subst this; cases j <;> simp [MapR]
  | x :: r, es, 0, h => by
    obtain ⟨e, es', rfl, h2, h3, h4⟩ := h
    exact ⟨{ e with key := k, val := v }, es', by simp, rfl, hv, h4⟩
  | x :: r, es, j + 1, h => by
    obtain ⟨e, es', rfl, h2, h3, h4⟩ := h
    exact ⟨e, _, by simp, h2, h3, MapR.set hv r es' j h4⟩
theorem MapR.push {g : G} {w : World} {R : Nat → Option Res} {k : Value} {cs : List S} {v : Value} {ck : Nat} (hv : EntR g w R cs v) : ∀ (kvs : List (Value × List S)) (es : List MapEntry), MapR g w R kvs es → MapR g w R (kvs ++ [(k, cs)]) (es ++ [{ key := k, val := v, born := ck }])
  | [], es, h => by have : es = [] := h; subst this; exact ⟨_, [], rfl, rfl, hv, rfl⟩
  | x :: r, es, h => by
    obtain ⟨e, es', rfl, h2, h3, h4⟩ := h
    exact ⟨e, _, rfl, h2, h3, MapR.push hv r es' h4⟩
section
variable {P : Program} {w0 : World} {K0 : K0T} {nt : Nat} {st : St} {a : Act} {w : World} {g : G} {o : Oper} {e : Operand → S} {K : St → Prop} {next : Act → World → Prop} {Q : Exit → Act → World → Prop}
theorem EntR_entC (h : T w0 K0 nt st a w g) {s : S} {cs : List S} {u : Value} (hc : entC st s = some cs) (hs : SR g w st.rs s u) : EntR g w st.rs cs u := by
  have agg : ∀ ss : List S, ss.length ≠ 1 → (∃ us : List Value, u = .agg us.toArray ∧ SRs g w st.rs ss us ∧ ∀ v ∈ us, v.oneCell' = true) → EntR g w st.rs ss u := fun ss hl hh => by
    unfold EntR
    split
    · simp at hl
    · exact hh
  unfold entC at hc
  split at hc
  · rename_i cs'
    split at hc
    · cases hc
    · rename_i hl
      cases hc
      have h2 := cellsH_ok h (s := .agg cs') (cs := cs'.map .c) rfl hs
      rw [SR] at hs
      obtain ⟨us, rfl, hv⟩ := hs
      exact agg _ (by simpa using hl) ⟨us, rfl, by simpa [Value.cells] using h2.1, by simpa [Value.cells] using h2.2⟩
  · rename_i ss
    split at hc
    · cases hc
    · rename_i hl
      cases hc
      rw [SR] at hs
      obtain ⟨us, rfl, h1, h2⟩ := hs
      exact agg _ hl ⟨us, rfl, h1, h2⟩
  · rename_i n1 n2
    have h2 := (cellsH_ok h hc hs).2
    have one : u.oneCell' = true → EntR g w st.rs [s] u := fun hu => ⟨hs, hu⟩
    unfold cellsH at hc
    split at hc
    · cases hc
      rw [SR] at hs
      exact one (CR.one hs)
    · rename_i cs'; exact absurd rfl (n1 cs')
    · rename_i ss; exact absurd rfl (n2 ss)
    · split at hc
      · rename_i fz ss hr
        cases hc
        have hs' := hs
        rw [SR] at hs'
        obtain ⟨b, _, rfl⟩ := hs' fz ss hr
        exact one rfl
      · cases hc
    · split at hc
      · rename_i nil sz xs fx hr
        split at hc
        · rename_i hl
          cases hc
          have hs' := hs
          rw [SR] at hs'
          have hu := hs' nil sz xs fx hr hl
          refine one ?_
          rw [hu]
          rcases h.res _ _ hr with ⟨_, _, q, _⟩ | ⟨_, b, cap, cur, E, q, _⟩
          · rw [q]; rfl
          · rw [q]; rfl
        · cases hc
      · cases hc
    · cases hc
theorem vlkup_ok (h : T w0 K0 nt st a w g) (hd : ∀ t, o.dst = some t → t < nt) {t : TypeId} {m k : Operand} {ok : Bool} (hm : SR g w st.rs (e m) (a.eval m)) (hk : SR g w st.rs (e k) (a.eval k))
    (hv : vlkup P o.dst st t (e m) (e k) ok K) (hn : ∀ st' a' w' g', K st' → T w0 K0 nt st' a' w' g' → next a' w') : ∃ u, (Instr.lookup t (a.eval m) (a.eval k) ok).run P w = .ok u w ∧ next (a.put o.dst u) w := by
  unfold vlkup at hv
  split at hv
  · rename_i i kv e1 e2
    split at hv
    · rename_i kvs kt d et h1 h2
      split at hv
      · rename_i z hz
        obtain ⟨q1, q2, q3⟩ := hv
        rw [e1, SR] at hm
        rw [e2, SR, CR] at hk
        have hm' := hm _ h1
        rw [hk.1]
        obtain ⟨b, es, b1, b2, b3, b4, b5⟩ := h.res i _ h1
        rw [hm', b1]
        rcases findNow_ok q1 kvs es.toList 0 b4 q2 with ⟨f1, f2⟩ | ⟨j, cs, en, f1, f2, f3, f4, f5, f6⟩
        · refine ⟨_, run_lookup ok h2 b3 f1 hz, hn _ _ _ g q3 (h.putd hd ?_)⟩
          rw [f2]
          unfold lkS
          cases ok
          · exact SR_ofConst g w st.rs z
          · simp only [if_true]
            rw [SR]
            refine ⟨[z, .bool false], rfl, ?_⟩
            simp only [SRs]
            exact ⟨z, _, rfl, SR_ofConst g w st.rs z, _, _, rfl, by rw [SR, CR]; exact ⟨rfl, rfl⟩, rfl⟩
        · refine ⟨_, run_lookup ok h2 b3 f1 hz, hn _ _ _ g q3 (h.putd hd ?_)⟩
          rw [f2]
          unfold lkS
          cases ok
          · exact SR_entS f6
          · simp only [if_true]
            rw [SR]
            refine ⟨[en.val, .bool true], rfl, ?_⟩
            simp only [SRs]
            exact ⟨_, _, rfl, SR_entS f6, _, _, rfl, by rw [SR, CR]; exact ⟨rfl, rfl⟩, rfl⟩
      · exact hv.elim
    · exact hv.elim
  · exact hv.elim
theorem vmapUp_ok (h : T w0 K0 nt st a w g) (hd : ∀ t, o.dst = some t → t < nt) {t : TypeId} {m k x : Operand} (hm : SR g w st.rs (e m) (a.eval m)) (hk : SR g w st.rs (e k) (a.eval k)) (hx : SR g w st.rs (e x) (a.eval x))
    (hv : vmapUp P o.dst st t (e m) (e k) (e x) K) (hn : ∀ st' a' w' g', K st' → T w0 K0 nt st' a' w' g' → next a' w') : ∃ w', (Instr.mapUpdate t (a.eval m) (a.eval k) (a.eval x)).run P w = .ok () w' ∧ next (a.put o.dst undef) w' := by
  unfold vmapUp at hv
  split at hv
  · rename_i i kv cs e1 e2 e3
    split at hv
    · rename_i kvs kt d et h1 h2
      obtain ⟨q1, q2, q3⟩ := hv
      rw [e1, SR] at hm
      rw [e2, SR, CR] at hk
      have hm' := hm _ h1
      have hx' := EntR_entC h e3 hx
      rw [hk.1]
      obtain ⟨b, es, b1, b2, b3, b4, b5⟩ := h.res i _ h1
      rw [hm', b1]
      rcases findNow_ok q1 kvs es.toList 0 b4 q2 with ⟨f1, f2⟩ | ⟨j, cs', en, f1, f2, f3, f4, f5, f6⟩
      · have hT := h.setmap (kvs' := putK kv cs kvs) (es' := es.push { key := kv, val := a.eval x, born := es.size }) h1 b1 b3 (by
          unfold putK
          rw [f2]
          simpa using MapR.push hx' kvs es.toList b4) (fun j en hj => by
          rw [Array.getElem?_push] at hj
          split at hj
          · rename_i e; cases hj; exact e.symm
          · exact b5 j en hj)
        rw [Array.size_push] at hT
        exact ⟨_, run_mapNew h2 b3 f1, hn _ _ _ g q3 (T.putd (s := .un) (u := undef) hT hd (by rw [SR]; trivial))⟩
      · simp only [Nat.zero_add] at f1
        have hT := h.setmap (kvs' := putK kv cs kvs) (es' := es.modify j fun e => { e with key := kv, val := a.eval x }) h1 b1 b3 (by
          unfold putK
          rw [f2]
          simpa using MapR.set (k := kv) hx' kvs es.toList j b4) (fun i en hi => by
          rw [Array.getElem?_modify] at hi
          split at hi
          · rename_i e
            subst e
            simp only [Option.map_eq_some_iff] at hi
            obtain ⟨e0, h0, rfl⟩ := hi
            exact b5 _ e0 h0
          · exact b5 i en hi)
        rw [Array.size_modify] at hT
        exact ⟨_, run_mapPut h2 b3 f1 (by simpa using f3) f5, hn _ _ _ g q3 (T.putd (s := .un) (u := undef) hT hd (by rw [SR]; trivial))⟩
    · exact hv.elim
  · exact hv.elim
theorem vmkMap_ok (h : T w0 K0 nt st a w g) (hd : ∀ t, o.dst = some t → t < nt) {t : TypeId} (hv : vmkMap o.dst st K) (hn : ∀ st' a' w' g', K st' → T w0 K0 nt st' a' w' g' → next a' w') :
    ∃ u w', (Instr.makeMap t none).run P w = .ok u w' ∧ next (a.put o.dst u) w' := by
  unfold vmkMap at hv
  split at hv
  · rename_i x hx
    obtain ⟨g', k1, k2, k3, k4⟩ := h.newmap (64 * x)
    refine ⟨_, _, run_makeMap, hn _ _ _ g' hv ?_⟩
    rw [hx]
    refine k1.put (hd x hx) ?_
    rw [SR]
    intro m _
    exact k2.symm
  · exact hv.elim
theorem T.pinS (h : T w0 K0 nt st a w g) (N : Nat) {s : S} {u : Value} (hs : SR g w st.rs s u) :
    ∃ g', T w0 K0 nt ((st.clr N).setR N (some (.pin u (s.clr N)))) a w g' ∧ g'.loc N = undef ∧ (∀ j, j ≠ N → g'.loc j = g.loc j) ∧ g'.K = g.K := by
  let g' : G := ⟨g.K, fun j => if j = N then undef else g.loc j⟩
  have hl : ∀ j, j ≠ N → g'.loc j = g.loc j := fun j hj => by show (if j = N then undef else g.loc j) = _; rw [if_neg hj]
  refine ⟨g', ?_, by show (if N = N then undef else _) = _; rw [if_pos rfl], hl, rfl⟩
  refine T.make h (g' := g') (Bel.refl _ _ _) (Keeps.refl _ _) h.kold h.klt hl (fun j r b hj hr hb => ⟨rfl, fun _ k => k⟩) (fun j r hj hr b hb => ?_) ?_
  · rw [show g'.loc N = undef from by show (if N = N then undef else _) = _; rw [if_pos rfl]] at hb
    cases hb
  · refine ⟨by show (if N = N then undef else _) = _; rw [if_pos rfl], ?_⟩
    refine SR.mono (g := g) (g' := g') (R := st.rs) (R' := ((st.clr N).setR N (some (.pin u (s.clr N)))).rs) (w := w) (w' := w) (Keeps.refl _ _) _ _ (fun j hj => ?_) (SR.clr N s u hs)
    obtain ⟨hjN, _⟩ := S.men_clr N j s hj
    have hR : ((st.clr N).setR N (some (.pin u (s.clr N)))).rs j = (st.rs j).map (Res.clr N) := by rw [St.rs_setR, if_neg (Ne.symm hjN), St.rs_clr]
    refine ⟨fun fz ss e => ?_, fun nil sz xs fx e => ?_, fun m e => ?_⟩
    all_goals
      rw [hR] at e
      cases hs' : st.rs j with
      | none => rw [hs'] at e; simp at e
      | some r0 =>
        rw [hs'] at e
        cases r0 <;> simp [Res.clr] at e
        first
          | exact ⟨⟨_, _, rfl⟩, hl j hjN⟩
          | exact ⟨⟨_, _, _, by rw [e.1, e.2.1], by rw [e.2.2.1]⟩, hl j hjN⟩
          | exact ⟨⟨_, rfl, by rw [← e, MB.sh_clr]⟩, hl j hjN⟩
theorem run_range {t k et : TypeId} {d : TypeDesc} {b : Nat} {es : Array MapEntry} {ck : Nat} (h : mpT P t = some (k, d, et)) (hb : w.heap[b]? = some (.map es ck)) :
    (Instr.range t (.map (some b))).run P w = .ok (.pointer (some ⟨w.heap.size, 0, none⟩)) (w.alloc (.mapIter (some b) ck #[] ck)) := by
  obtain ⟨h1, _, _⟩ := mpT_ok h
  have hg : (getObj b).run P w = .ok (.map es ck) w := by simp [getObj, Sem.run, hb]
  simp [Instr.range, run_underlying h1, hg, run_newObj]
theorem T.newiter (h : T w0 K0 nt st a w g) (i bm n : Nat) :
    ∃ g', T w0 K0 nt ((st.clr i).setR i (some (.map (.iter bm n [])))) a (w.alloc (.mapIter (some bm) n #[] n)) g' ∧ g'.loc i = .pointer (some ⟨w.heap.size, 0, none⟩) ∧ (∀ j, j ≠ i → g'.loc j = g.loc j) ∧ g'.K = g.K := by
  refine ⟨{ g with loc := fun j => if j = i then .pointer (some ⟨w.heap.size, 0, none⟩) else g.loc j }, ?_, by simp, fun j hj => by simp [hj], rfl⟩
  have hB : w0.heap.size ≤ w.heap.size := h.below.size
  refine T.make h (g' := { g with loc := fun j => if j = i then .pointer (some ⟨w.heap.size, 0, none⟩) else g.loc j }) (Bel.of ((BelowD.refl _ _).alloc hB _)) ⟨fun _ _ k => k, fun b o k => World.cell?_alloc_lt _ _ _ (h.klt b o k)⟩ h.kold (fun b o k => by
      have := h.klt b o k; simp; omega) (fun j hj => by simp [hj]) (fun j r b hj hr hb => ⟨Below.heap_alloc _ _ _ ((h.res j r hr).lt hb), fun _ k => k⟩) (fun j r hj hr b hb hb2 => ?_) ?_
  · simp [blk] at hb
    have := (h.res j r hr).lt hb2
    omega
  · exact ⟨w.heap.size, by simp, (fun e => absurd e.1 (by omega)), heap_alloc_new w _⟩
theorem vrange_ok (h : T w0 K0 nt st a w g) (hd : ∀ t, o.dst = some t → t < nt) {t : TypeId} {m : Operand} (hm : SR g w st.rs (e m) (a.eval m))
    (hv : vrange P o.dst st t (e m) K) (hn : ∀ st' a' w' g', K st' → T w0 K0 nt st' a' w' g' → next a' w') : ∃ u w', (Instr.range t (a.eval m)).run P w = .ok u w' ∧ next (a.put o.dst u) w' := by
  unfold vrange at hv
  split at hv
  · rename_i x i hx e1
    split at hv
    · rename_i kvs m3 h1 h2
      rw [e1] at hm
      have hm' := hm
      rw [SR] at hm'
      have hm1 := hm' _ h1
      obtain ⟨b, es, b1, b2, b3, b4, b5⟩ := h.res i _ h1
      have hlen : es.size = kvs.length := by have := MapR.len _ _ b4; simpa using this
      obtain ⟨kt, d, et⟩ := m3
      have hrun := run_range h2 b3
      refine ⟨_, _, by rw [hm1, b1]; exact hrun, ?_⟩
      obtain ⟨g1, p1, p2, p3, p4⟩ := h.pinS (64 * x + 1) hm
      obtain ⟨g2, r1, r2, r3, r4⟩ := p1.newiter (64 * x) b es.size
      rw [hm1, b1] at r1
      rw [hx]
      refine hn _ _ _ g2 (hv b) ?_
      rw [hlen] at r1 ⊢
      refine r1.put (hd x hx) ?_
      rw [SR]
      intro mm _
      exact r2.symm
    · exact hv.elim
  · exact hv.elim
theorem T.setiter (h : T w0 K0 nt st a w g) {i b bm n : Nat} {seen seen' : List Nat} {w1 : World} (hi : st.rs i = some (.map (.iter bm n seen))) (hl : g.loc i = .pointer (some ⟨b, 0, none⟩)) (hb : w.heap[b]? = some (.mapIter (some bm) n seen.toArray n)) (hw : w1 = w ∨ w1 = w.drew) :
    T w0 K0 nt (st.setR i (some (.map (.iter bm n seen')))) a (setBlock w1 b (.mapIter (some bm) n seen'.toArray n)) g := by
  have hB := ((h.res i _ hi).block (b := b) (by rw [hl]; rfl)).1
  have hblt : b < w.heap.size := (Array.getElem?_eq_some_iff.1 hb).1
  have hh : (setBlock w1 b (.mapIter (some bm) n seen'.toArray n)).heap = w.heap.setIfInBounds b (.mapIter (some bm) n seen'.toArray n) := by rcases hw with rfl | rfl <;> rfl
  have hoth : ∀ k, k ≠ b → (setBlock w1 b (.mapIter (some bm) n seen'.toArray n)).heap[k]? = w.heap[k]? := fun k hk => by
    rw [hh, Array.getElem?_setIfInBounds_ne (Ne.symm hk)]
  have hsame : (setBlock w1 b (.mapIter (some bm) n seen'.toArray n)).heap[b]? = some (.mapIter (some bm) n seen'.toArray n) := by rw [hh]; simp [hblt]
  have hk : Keeps g.K w g.K (setBlock w1 b (.mapIter (some bm) n seen'.toArray n)) := ⟨fun _ _ k => k, fun b' o k => by
    by_cases e : b' = b
    · subst e
      simp only [World.cell?]
      rw [hsame, hb]
    · simp only [World.cell?]; rw [hoth b' e]⟩
  have hbel : Bel w0 K0 w (setBlock w1 b (.mapIter (some bm) n seen'.toArray n)) := by
    refine ⟨?_, ?_, ?_, by rw [hh]; simp, fun k hk' => hoth k (fun e => hB (e ▸ hk')), ?_⟩
    · rcases hw with rfl | rfl <;> rfl
    · rcases hw with rfl | rfl <;> rfl
    · rcases hw with rfl | rfl <;> rfl
    · rcases hw with rfl | rfl
      · exact Nat.le_refl _
      · exact Nat.le_succ _
  refine T.mod h hi hbel hk h.kold (fun b' o k => by rw [hh]; simpa using h.klt b' o k) rfl (fun j r' b' hj hrj hbj => ⟨hoth b' (fun e => ?_), fun _ k => k⟩) (.inr (.inr ⟨_, _, rfl, rfl, rfl⟩)) (fun _ => ?_)
  · subst e
    exact h.dis i j _ r' hi hrj (Ne.symm hj) b' (by rw [hl]; rfl) hbj
  · exact ⟨b, hl, hB, hsame⟩
theorem todoK_mem {n : Nat} {seen : List Nat} {j : Nat} : j ∈ todoK n seen ↔ j < n ∧ j ∉ seen := by
  simp [todoK]
theorem leftOf_mem {es : Array MapEntry} {seen : List Nat} {en : MapEntry} : en ∈ (leftOf es seen.toArray).toList ↔ en ∈ es.toList ∧ en.born ∉ seen := by
  unfold leftOf
  simp
theorem vnext_ok (h : T w0 K0 nt st a w g) (hd : ∀ t, o.dst = some t → t < nt) {ty : TypeId} {m : Operand} (hm : SR g w st.rs (e m) (a.eval m))
    (hv : vnext o.dst st (e m) K) (hn : ∀ st' a' w' g', K st' → T w0 K0 nt st' a' w' g' → next a' w') : ∃ u w', (Instr.next (a.eval m) false ty).run P w = .ok u w' ∧ next (a.put o.dst u) w' := by
  unfold vnext at hv
  split at hv
  · rename_i y e1
    split at hv
    · rename_i bm n seen bm' i h1 h2
      split at hv
      · rename_i kvs h3
        obtain ⟨rfl, hnl, hkeys, hover, hgo⟩ := hv
        rw [e1, SR] at hm
        have hm' := hm _ h1
        obtain ⟨bi, i1, i2, i3⟩ := h.res y _ h1
        obtain ⟨b, es, b1, b2, b3, b4, b5⟩ := h.res i _ h3
        have hp := (h.res (y + 1) _ h2).2
        rw [SR] at hp
        have hp' := hp _ h3
        rw [b1] at hp'
        simp at hp'
        subst hp'
        have hlen : es.size = kvs.length := by have := MapR.len _ _ b4; simpa using this
        rw [← hlen] at hnl
        subst hnl
        have hbo : ∀ x ∈ es.toList, x.born < es.size ∧ es[x.born]? = some x := fun x hx => by
          obtain ⟨j, hj, rfl⟩ := List.mem_iff_getElem.1 hx
          have hj' : j < es.size := by simpa using hj
          have := b5 j es[j] (by simp [hj'])
          simp only [Array.getElem_toList]
          rw [this]
          exact ⟨hj', by simp [hj']⟩
        rw [hm', i1]
        rcases run_next_at (P := P) w ty bi bm es.size es.size seen.toArray es es.size i3 b3 (fun x hx => (hbo x hx).1) (Nat.le_refl _) with ⟨q1, q2⟩ | ⟨en, q1, w1, q2, q3⟩
        · refine ⟨_, _, q2, hn _ _ _ g (hover ?_) (h.putd hd ?_)⟩
          · rw [List.eq_nil_iff_forall_not_mem]
            intro j hj
            obtain ⟨j1, j2⟩ := todoK_mem.1 hj
            have hmem : es[j] ∈ (leftOf es seen.toArray).toList := leftOf_mem.2 ⟨by simp, by rw [b5 j es[j] (by simp [j1])]; exact j2⟩
            rw [Array.eq_empty_of_size_eq_zero q1] at hmem
            simp at hmem
          · rw [SR]
            refine ⟨[.bool false], rfl, ?_⟩
            simp only [SRs]
            exact ⟨_, _, rfl, by rw [SR, CR]; exact ⟨rfl, rfl⟩, rfl⟩
        · obtain ⟨m1, m2⟩ := leftOf_mem.1 q1
          obtain ⟨n1, n2⟩ := hbo en m1
          obtain ⟨cs, c1, c2⟩ := MapR.at kvs es.toList en.born en b4 (by simpa using n2)
          have hT := h.setiter (seen' := seen ++ [en.born]) h1 i1 i3 q2
          refine ⟨_, _, q3, hn _ _ _ g (hgo en.born en.key cs (todoK_mem.2 ⟨n1, m2⟩) c1) ?_⟩
          have e2 : seen.toArray.push en.born = (seen ++ [en.born]).toArray := by simp
          rw [e2]
          refine hT.putd hd ?_
          have hk1 : en.key.oneCell' = true := by
            have := List.all_eq_true.1 hkeys (en.key, cs) (List.mem_of_getElem? c1)
            exact this
          have c2' : EntR g (setBlock w1 bi (.mapIter (some bm) es.size (seen ++ [en.born]).toArray es.size)) (st.setR y (some (.map (.iter bm es.size (seen ++ [en.born]))))).rs cs en.val := by
            obtain ⟨b', es', r1, r2, r3, r4, r5⟩ := hT.res i (.map (.ents kvs)) (by
              rw [St.rs_setR]
              by_cases e3 : y = i
              · subst e3; rw [h1] at h3; cases h3
              · rw [if_neg e3]; exact h3)
            rw [b1] at r1
            simp at r1
            subst r1
            have hne : bm ≠ bi := fun e3 => by subst e3; rw [b3] at i3; cases i3
            have hhb : (setBlock w1 bi (.mapIter (some bm) es.size (seen ++ [en.born]).toArray es.size)).heap[bm]? = w.heap[bm]? := by
              rcases q2 with rfl | rfl
              · exact Array.getElem?_setIfInBounds_ne (Ne.symm hne)
              · exact Array.getElem?_setIfInBounds_ne (Ne.symm hne)
            rw [hhb, b3] at r3
            cases r3
            obtain ⟨cs', d1, d2⟩ := MapR.at kvs es.toList en.born en r4 (by simpa using n2)
            rw [c1] at d1
            simp at d1
            subst d1
            exact d2
          rw [SR]
          refine ⟨[.bool true, en.key, en.val], rfl, ?_⟩
          simp only [SRs]
          exact ⟨_, _, rfl, by rw [SR, CR]; exact ⟨rfl, rfl⟩, _, _, rfl, by rw [SR, CR]; exact ⟨rfl, hk1⟩, _, _, rfl, SR_entS c2', rfl⟩
      · exact hv.elim
    · exact hv.elim
  · exact hv.elim
theorem ventry_ok (h : T w0 K0 nt st a w g) (hd : ∀ t, o.dst = some t → t < nt) {m : Operand} (hm : SR g w st.rs (e m) (a.eval m))
    (hv : ventry o.dst st (e m) K) (hn : ∀ st' a' w' g', K st' → T w0 K0 nt st' a' w' g' → next a' w') : ∃ u, (Instr.entry (a.eval m)).run P w = .ok u w ∧ next (a.put o.dst u) w := by
  unfold ventry at hv
  split at hv
  · rename_i y e1
    split at hv
    · rename_i bm n seen bm' i h1 h2
      split at hv
      · rename_i kvs j h3 h4
        split at hv
        · rename_i k cs h5
          obtain ⟨rfl, hnl, hk1, hK⟩ := hv
          rw [e1, SR] at hm
          have hm' := hm _ h1
          obtain ⟨bi, i1, i2, i3⟩ := h.res y _ h1
          obtain ⟨b, es, b1, b2, b3, b4, b5⟩ := h.res i _ h3
          have hp := (h.res (y + 1) _ h2).2
          rw [SR] at hp
          have hp' := hp _ h3
          rw [b1] at hp'
          simp at hp'
          subst hp'
          have hlen : es.size = kvs.length := by have := MapR.len _ _ b4; simpa using this
          rw [← hlen] at hnl
          subst hnl
          have hj : j < es.size := by rw [hlen]; exact (List.getElem?_eq_some_iff.1 h5).1
          have hbj := b5 j es[j] (by simp [hj])
          obtain ⟨cs', d1, d2⟩ := MapR.at kvs es.toList j es[j] b4 (by simp [hj])
          rw [h5] at d1
          simp at d1
          obtain ⟨rfl, rfl⟩ := d1
          obtain ⟨sn, hsn⟩ : ∃ sn, seen = sn ++ [j] := by
            rw [List.getLast?_eq_some_iff] at h4
            exact h4
          have i3' : w.heap[bi]? = some (.mapIter (some bm) es.size (sn.toArray.push es[j].born) es.size) := by rw [i3, hsn, hbj]; simp
          rw [hm', i1]
          refine ⟨_, run_entry_at w bi bm es.size sn.toArray es es.size es[j] i3' b3 (by simp) ?_, hn _ _ _ g hK (h.putd hd ?_)⟩
          · rw [List.nodup_iff_pairwise_ne, List.pairwise_iff_getElem]
            intro x y hx hy hxy
            simp at hx hy
            have ex := b5 x es[x] (by simp [hx])
            have ey := b5 y es[y] (by simp [hy])
            simp only [List.getElem_map, Array.getElem_toList, ex, ey]
            omega
          · rw [SR]
            refine ⟨[es[j].key, es[j].val], rfl, ?_⟩
            simp only [SRs]
            exact ⟨_, _, rfl, by rw [SR, CR]; exact ⟨rfl, hk1⟩, _, _, rfl, SR_entS d2, rfl⟩
        · exact hv.elim
      · exact hv.elim
    · exact hv.elim
  · exact hv.elim
end
end Go.VL
set_option linter.unusedSimpArgs false
set_option linter.unusedVariables false
namespace Go.VL
open Go.RowKit
section
variable {P : Program} {w0 : World} {K0 : K0T} {nt : Nat} {st : St} {a : Act} {w : World} {g : G}
variable {o : Oper} {K : St → Prop} {e : Operand → S} {next : Act → World → Prop} {Q : Exit → Act → World → Prop}
theorem append_run {t xt : TypeId} {d x : Operand} (ho : o.op = .call { callee := .builtin .append, args := #[d, x], argTypes := #[t, xt] }) {v : Value} {w' : World} (h : (Builtin.append_ #[t, xt] o.type #[a.eval d, a.eval x]).run P w = .ok v w') :
    (execOp a.eval o).run P w = .ok (.value v) w' := by
  simp [execOp, ho, resolve, invoke, builtin, h]
theorem vappend_ok (h : T w0 K0 nt st a w g) (hd : ∀ t, o.dst = some t → t < nt) {t xt : TypeId} {d x : Operand} (ho : o.op = .call { callee := .builtin .append, args := #[d, x], argTypes := #[t, xt] })
    (hed : SR g w st.rs (e d) (a.eval d)) (hex : SR g w st.rs (e x) (a.eval x)) (hv : vappend P o.dst st t xt (e d) (e x) K) (hn : ∀ st' a' w' g', K st' → T w0 K0 nt st' a' w' g' → next a' w') : o.wp P a w next Q := by
  unfold vappend at hv
  split at hv
  · rename_i y s B el hy ht hxt
    obtain ⟨x', st', g', k1, k2, k3, k4, k5, k6⟩ := vsnap_ok h hex hv
    split at k1
    · rename_i nilx ys
      rw [SR] at k3
      have hed' := k4 _ _ hed
      split at k1
      · rename_i hed2
        obtain ⟨hs, hB0, hB, hK⟩ := k1
        obtain ⟨news, src, hh⟩ := src_of_CR (P := P) k3 hs
        have hed3 : a.eval d = .slice none 0 0 := by
          rw [hed2] at hed'
          simp only [SR, CR] at hed'
          rcases hed' with ⟨_, _, q⟩ | ⟨q, _⟩
          · exact q
          · cases q
        obtain ⟨el', ti, z, t1, t2, t3, t4, t5, rfl, rfl⟩ := slT_some ht
        by_cases hyn : ys = []
        · subst hyn
          have hr := run_app_none (ty := o.type) (P := P) t1 hxt (fun k => by simp) t2 src
          obtain ⟨g1, m1, m2, m3, m4⟩ := k2.nilR (64 * y)
          refine ow_value (append_run ho (by rw [hed3]; exact hr)) (hn _ _ _ g1 hK ?_)
          rw [hy]
          refine T.puto ?_ (hd y hy) m2
          exact T.make k2 (Bel.refl _ _ _) (by rw [m4]; exact Keeps.refl _ _) (by rw [m4]; exact k2.kold) (by rw [m4]; exact k2.klt) m3 (fun _ _ _ _ _ _ => ⟨rfl, fun _ k => by rw [m4] at k; exact k⟩) (fun j r hj hrj b hb => by rw [m2] at hb; simp [blk] at hb) (.inl ⟨rfl, rfl, m2, rfl⟩)
        · have h63 : ys.length ≤ maxLen := by
            have : ys.length * 1 ≤ ys.length * ti.bytes := Nat.mul_le_mul_left _ hB0
            simp only [maxLen]; omega
          have hpos : 0 < ys.length := List.length_pos_iff.2 hyn
          have hr := run_app_grow (base := none) (n := 0) (cap := 0) (olds := []) (ty := o.type) t1 hxt (fun k => by simp) t2 t3 src (by simp [Builtin.firstCells]) (by omega) (by simpa using h63) (by simpa using hB)
          have hge := grownCap_ge w (0 + ys.length) 0 el'
          have hle := grownCap_le_maxLen w (0 + ys.length) 0 el' (by simpa using h63)
          have hcur : Holds g'.K w ti.size ys (([] : List Value).toArray ++ news.toArray ++ Builtin.zeroCells z.cells (grownCap w (0 + ys.length) 0 el' - (0 + ys.length))) := by
            have := Holds.append (K := g'.K) (w := w) (sz := ti.size) (xs := []) (cur := #[]) (ys := ys) (news := news) (rest := (Builtin.zeroCells z.cells (grownCap w (0 + ys.length) 0 el' - (0 + ys.length))).toList) (fun j e h => by simp at h) (by simp) hh
            have e2 : (news ++ (Builtin.zeroCells z.cells (grownCap w (0 + ys.length) 0 el' - (0 + ys.length))).toList).toArray = news.toArray ++ Builtin.zeroCells z.cells (grownCap w (0 + ys.length) 0 el' - (0 + ys.length)) := by
              apply Array.ext'; simp
            simp only [List.length_nil, Nat.zero_mul, List.take_nil, List.nil_append, Array.empty_append, e2] at this ⊢
            exact this
          obtain ⟨g1, m1, m2, m3, m4⟩ := k2.newarr (64 * y) ti.size ys _ el' (grownCap w (0 + ys.length) 0 el') _ (.inr rfl) hcur (by omega) hle (by
            have q1 := Nat.sub_mul (grownCap w (0 + ys.length) 0 el') (0 + ys.length) ti.size
            have q2 : (0 + ys.length) * ti.size ≤ grownCap w (0 + ys.length) 0 el' * ti.size := Nat.mul_le_mul_right _ hge
            simp only [Array.size_append, List.size_toArray, size_zeroCells, t4, src.size, List.length_nil, q1]
            simp only [Nat.zero_add] at q2 ⊢
            omega)
          refine ow_value (append_run ho (by rw [hed3]; exact hr)) (hn _ _ _ g1 hK ?_)
          rw [hy]
          have he : ys.isEmpty = false := by simpa using hyn
          rw [he]
          refine T.puto m1 (hd y hy) ?_
          rw [m2, Nat.zero_add]
      · rename_i i n hed2
        split at k1
        · rename_i nil sz xs fx hr
          obtain ⟨hn1, hsz, hs, hB0, hB, hK⟩ := k1
          obtain ⟨news, src, hh⟩ := src_of_CR (P := P) k3 hs
          rw [hed2, SR] at hed'
          have hu := hed' nil sz xs fx hr hn1
          obtain ⟨v, w', g1, r1, r2, r3, r4, r5⟩ := k2.append (ty := o.type) ht hxt (fun k => by simp) hr hsz src hh hB0 hB
          refine ow_value (append_run ho (by rw [hu]; exact r1)) (hn _ _ _ g1 hK ?_)
          rw [hy]
          exact T.puto r2 (hd y hy) r3
        · exact k1.elim
      · exact k1.elim
    · exact k1.elim
  · exact hv.elim
theorem PartsR_zip : ∀ (l : List Nat) (ss : List S) (us : List Value) {R : Nat → Option Res}, l.length = ss.length → SRs g w R ss us → PartsR g w R (l.zip ss) (l.zip us)
  | [], ss, us, R, hl, h => by simp [PartsR]
  | i :: l, ss, us, R, hl, h => by
    cases ss with
    | nil => simp at hl
    | cons s r =>
      rw [SRs] at h
      obtain ⟨u, us', rfl, h1, h2⟩ := h
      simp only [List.zip_cons_cons, PartsR]
      exact ⟨u, _, rfl, h1, PartsR_zip l r us' (by simpa using hl) h2⟩
theorem vsnaps_length : ∀ (ss : List S) (st : St) (k : List S → St → Prop), vsnaps st ss k → vsnaps st ss fun ss' st' => ss'.length = ss.length ∧ k ss' st'
  | [], st, k, h => ⟨rfl, h⟩
  | s :: r, st, k, h => by
    rw [vsnaps] at h ⊢
    have mono : ∀ (k1 k2 : S → St → Prop), (∀ s st, k1 s st → k2 s st) → vsnap st s k1 → vsnap st s k2 := by
      intro k1 k2 hk hv
      unfold vsnap at hv ⊢
      split at hv
      · split at hv
        · exact ⟨hv.1, hk _ _ hv.2⟩
        · exact hv.elim
      · exact hk _ _ hv
    have monos : ∀ (ss : List S) (st : St) (k1 k2 : List S → St → Prop), (∀ s st, k1 s st → k2 s st) → vsnaps st ss k1 → vsnaps st ss k2 := by
      intro ss
      induction ss with
      | nil => intro st k1 k2 hk hv; exact hk _ _ hv
      | cons s r ih =>
        intro st k1 k2 hk hv
        rw [vsnaps] at hv ⊢
        unfold vsnap at hv ⊢
        split at hv
        · split at hv
          · exact ⟨hv.1, ih _ _ _ (fun _ _ h => hk _ _ h) hv.2⟩
          · exact hv.elim
        · exact ih _ _ _ (fun _ _ h => hk _ _ h) hv
    refine mono _ _ (fun s' st' hs => ?_) h
    exact monos _ _ _ _ (fun ss' st'' hh => ⟨by simp [hh.1], hh.2⟩) (vsnaps_length r st' _ hs)
theorem flat_rep (zc : List C) (us : List Value) {K1 : Nat → Nat → Prop} (h : VR K1 w zc us) : ∀ n, VR K1 w (List.replicate n zc).flatten (List.replicate n us).flatten
  | 0 => by simp [VR]
  | n + 1 => by
    simp only [List.replicate_succ, List.flatten_cons]
    exact VR_append h (flat_rep zc us h n)
theorem range_map_flat (us : List Value) (hs : 0 < us.length) : ∀ n, ((List.range (n * us.length)).map fun i => us.toArray[i % us.length]!) = (List.replicate n us).flatten := by
  intro n
  apply List.ext_getElem?
  intro i
  by_cases hi : i < n * us.length
  · have e1 : (List.range (n * us.length))[i]? = some i := by simp [hi]
    rw [List.getElem?_map, e1]
    have hm : i % us.length < us.length := Nat.mod_lt _ hs
    simp only [Option.map_some]
    have key : ∀ (n i : Nat), i < n * us.length → (List.replicate n us).flatten[i]? = us[i % us.length]? := by
      intro n
      induction n with
      | zero => intro i h; simp at h
      | succ n ih =>
        intro i h
        simp only [List.replicate_succ, List.flatten_cons]
        by_cases hlt : i < us.length
        · rw [List.getElem?_append_left hlt, Nat.mod_eq_of_lt hlt]
        · rw [List.getElem?_append_right (by omega), ih (i - us.length) (by rw [Nat.add_mul] at h; omega)]
          congr 1
          exact (Nat.mod_eq_sub_mod (by omega)).symm
    rw [key n i hi]
    rw [List.getElem?_eq_getElem hm]
    simp [hm]
  · have : n * us.length ≤ i := by omega
    rw [List.getElem?_eq_none (by simp; omega), List.getElem?_eq_none (by simp; omega)]
theorem chunks_len (s : Nat) : ∀ (n : Nat) (l : List C), (chunks s n l).length = n
  | 0, _ => rfl
  | n + 1, l => by simp [chunks, chunks_len s n]
theorem chunks_get (s : Nat) : ∀ (n : Nat) (l : List C) (j : Nat), j < n → (chunks s n l)[j]? = some ((l.drop (j * s)).take s)
  | 0, _, j, h => by omega
  | n + 1, l, j, h => by
    rw [chunks]
    cases j with
    | zero => simp
    | succ j =>
      rw [List.getElem?_cons_succ, chunks_get s n _ j (by omega), List.drop_drop]
      congr 3
      rw [Nat.add_mul]; omega
theorem chunks_holds {K1 : Nat → Nat → Prop} {s n : Nat} {out : List C} {us : List Value} (h : VR K1 w out us) (hl : out.length = n * s) : Holds K1 w s (chunks s n out) us.toArray := by
  obtain ⟨h1, h2⟩ := (VR_iff _ _).1 h
  intro j e hj
  have hjn : j < n := by have := (List.getElem?_eq_some_iff.1 hj).1; rwa [chunks_len] at this
  rw [chunks_get s n out j hjn] at hj
  cases hj
  have hb : (j + 1) * s ≤ n * s := Nat.mul_le_mul_right _ (by omega)
  rw [Nat.add_mul] at hb
  refine ⟨by simp; omega, fun k c hk => ?_⟩
  rw [List.getElem?_take] at hk
  split at hk
  · rw [List.getElem?_drop] at hk
    have hlt : j * s + k < us.length := by omega
    exact ⟨us[j * s + k], by simp [hlt], h2 _ c _ hk (by simp [hlt])⟩
  · cases hk
theorem pfill_len (pl : List (Nat × Nat) ⊕ Nat) : ∀ (parts : List (Nat × S)) (cells out : List C), pfill pl cells parts = some out → out.length = cells.length
  | [], cells, out, h => by simp [pfill] at h; rw [h]
  | (i, s) :: r, cells, out, h => by
    rw [pfill] at h
    split at h
    · split at h
      · rename_i h3
        rw [pfill_len pl r _ out h]
        simp [splice]
        omega
      · cases h
    · cases h
theorem vbuildSlice_ok (h : T w0 K0 nt st a w g) (hd : ∀ t, o.dst = some t → t < nt) {t : TypeId} {len : Nat} {parts : Array (Nat × Operand)} (ho : o.op = .buildSlice t len parts)
    (he : ∀ x ∈ o.op.operands.toList, SR g w st.rs (e x) (a.eval x)) (hv : vbuildSlice P o.dst st t len (parts.toList.map fun p => (p.1, e p.2)) K) (hn : ∀ st' a' w' g', K st' → T w0 K0 nt st' a' w' g' → next a' w') : o.wp P a w next Q := by
  unfold vbuildSlice at hv
  split at hv
  · rename_i y el hy ht
    split at hv
    · rename_i ag s z hs hz
      split at hv
      · rename_i zc hzc
        have hss : SRs g w st.rs ((parts.toList.map fun p => (p.1, e p.2)).map (·.2)) (parts.toList.map fun p => a.eval p.2) := by
          rw [List.map_map]
          exact SRs_map _ _ _ (fun p hp => he p.2 (by rw [ho]; simp [Op.operands]; exact ⟨p.1, by simpa using hp⟩))
        obtain ⟨ss', st', g', ⟨hlen, k1⟩, k2, k3, k4, k5, k6⟩ := vsnaps_ok _ _ st g _ h hss (vsnaps_length _ _ _ hv)
        split at k1
        · rename_i out hout
          obtain ⟨h1, h2, h3, h4, hK⟩ := k1
          have hzv := cellsS_VR (st := st') hzc (SR_ofConst g' w st'.rs z)
          have hzl : z.cells.toList.length = s := by rw [((VR_iff _ _).1 hzv).1, h1]
          have hfl := flat_rep zc z.cells.toList hzv len
          have hparts : PartsR g' w st'.rs (((parts.toList.map fun p => (p.1, e p.2)).map (·.1)).zip ss') (parts.map fun p => (p.1, a.eval p.2)).toList := by
            have := PartsR_zip (g := g') (w := w) ((parts.toList.map fun p => (p.1, e p.2)).map (·.1)) ss' _ (R := st'.rs) (by simpa using hlen.symm) k3
            have e1 : ((parts.toList.map fun p => (p.1, e p.2)).map (·.1)).zip (parts.toList.map fun p => a.eval p.2) = (parts.map fun p => (p.1, a.eval p.2)).toList := by
              simp only [List.map_map, Array.toList_map]
              generalize parts.toList = l
              induction l with
              | nil => rfl
              | cons p r ih => simp only [List.map_cons, List.zip_cons_cons, ih]; rfl
            rw [e1] at this
            exact this
          obtain ⟨vs, f1, f2⟩ := pfill_ok (st := st') (.inr s) (fun i => some (i * s, s)) (fun i => rfl) _ _ _ _ out hparts hfl hout
          have hol : out.length = len * s := by rw [pfill_len _ _ _ _ hout]; simp [h1]
          have hvl : vs.length = len * s := by rw [((VR_iff _ _).1 f2).1, hol]
          have hcells : (Array.map (fun x => z.cells[x % z.cells.size]!) (Array.range (len * s))) = (List.replicate len z.cells.toList).flatten.toArray := by
            apply Array.ext'
            have := range_map_flat z.cells.toList (by omega) len
            simp only [Array.toList_map, Array.toList_range]
            rw [← hzl]
            simpa using this
          have hrun : (execOp a.eval o).run P w = .ok (.value (.slice (some ⟨w.heap.size, 0, none⟩) len len)) (w.alloc (.cells vs.toArray el)) := by
            have hle : ¬ (len * s > 2 ^ 24) := by omega
            by_cases hz0 : len * s = 0
            · have : len = 0 := by
                rcases Nat.mul_eq_zero.1 hz0 with q | q
                · exact q
                · omega
              subst this
              simp only [List.replicate_zero, List.flatten_nil, Array.toList_map] at f1
              simp [execOp, ho, Instr.buildSlice, run_underlying ht, run_sizeOf hs, f1, newRow, Array.range_zero']
            · simp only [execOp, ho, Instr.buildSlice, Sem.run_bind, run_underlying ht, Result.andThen_ok, run_sizeOf hs]
              rw [if_neg hle, if_neg hz0]
              simp only [Sem.run_bind, run_zero hz, Result.andThen_ok, Sem.run_pure, hcells, f1, newRow, run_newObj, World.alloc_eq]
          obtain ⟨g1, m1, m2, m3, m4⟩ := k2.newarr (64 * y) s (chunks s len out) vs.toArray el len _ (.inl rfl) (chunks_holds f2 hol) (by rw [chunks_len]; exact Nat.le_refl _) h4 (by simpa using hvl)
          refine ow_value hrun (hn _ _ _ g1 hK ?_)
          rw [hy]
          refine T.puto m1 (hd y hy) ?_
          rw [m2, chunks_len]
        · exact k1.elim
      · exact hv.elim
    · exact hv.elim
  · exact hv.elim
end
end Go.VL
set_option linter.unusedSimpArgs false
set_option linter.unusedVariables false
namespace Go.VL
open Go.RowKit
section
variable {P : Program} {w0 : World} {K0 : K0T} {nt : Nat} {st : St} {a : Act} {w : World} {g : G}
variable {o : Oper} {K : St → Prop} {e : Operand → S} {next : Act → World → Prop} {Q : Exit → Act → World → Prop}
theorem wrap_small {n : Int} (h0 : 0 ≤ n) (h1 : n ≤ 9223372036854775807) : IntKind.i64.wrap n = n := IntWalk.i64_in n (by omega)
theorem run_make {t el : TypeId} {i : TypeInfo} {z : Value} {k k' : IntKind} {n m : Int} (ht : P.underlying t = some (.slice el)) (hi : P.info? el = some i) (hz : i.zero = some z) (h0 : 0 ≤ n) (h1 : n ≤ m) (hB0 : 0 < i.bytes) (hB : m.toNat * i.bytes ≤ 140737488355328) (hs : 0 < i.size) (hzs : z.cells.size = i.size) :
    (Instr.makeSlice t (.int k n) (.int k' m)).run P w = .ok (.slice (some ⟨w.heap.size, 0, none⟩) n.toNat m.toNat) (w.alloc (.cells (List.replicate m.toNat z.cells.toList).flatten.toArray el)) := by
  have hm : (m.toNat : Int) = m := Int.toNat_of_nonneg (by omega)
  have hmB : m.toNat * 1 ≤ m.toNat * i.bytes := Nat.mul_le_mul_left _ hB0
  have hw1 : IntKind.i64.wrap n = n := wrap_small h0 (by omega)
  have hw2 : IntKind.i64.wrap m = m := wrap_small (by omega) (by omega)
  have hb : (i.bytes : Int) * m = ((m.toNat * i.bytes : Nat) : Int) := by
    rw [Int.natCast_mul, hm, Int.mul_comm]
  have c1 : ¬ (m < 0) := by omega
  have c2 : ¬ ((i.bytes : Int) * m > 2 ^ 48) := by rw [hb]; omega
  have c3 : ¬ (n < 0) := by omega
  have c4 : ¬ (n > m) := by omega
  have hcells : (Array.map (fun x => z.cells[x % z.cells.size]!) (Array.range (m.toNat * i.size))) = (List.replicate m.toNat z.cells.toList).flatten.toArray := by
    apply Array.ext'
    have hl : z.cells.toList.length = i.size := by simpa using hzs
    have := range_map_flat z.cells.toList (by omega) m.toNat
    simp only [Array.toList_map, Array.toList_range]
    rw [← hl]
    simpa using this
  simp only [Instr.makeSlice, Sem.run_bind, run_underlying ht, Result.andThen_ok, asInt, asIntOf, pure_bind, Sem.run_pure, typeInfo, run_program, hi, hw1, hw2, sizeOf]
  have hcond : ((decide (m < 0) || decide ((i.bytes : Int) * m > 2 ^ 48)) || decide (n < 0) || decide (n > m)) = false := by
    simp only [c1, c2, c3, c4, decide_false, Bool.or_false]
  rw [hcond]
  have hsz : (sizeOf el).run P w = .ok i.size w := by simp [sizeOf, typeInfo, hi]
  have hsz' : ∀ f : Nat → Sem Value, ((sizeOf el) >>= f).run P w = (f i.size).run P w := fun f => by rw [Sem.run_bind, hsz, Result.andThen_ok]
  simp only [sizeOf, typeInfo] at hsz'
  simp only [Bool.false_eq_true, if_false, Sem.run_bind, run_askRoom, Result.andThen_ok, run_program, hi, Sem.run_pure]
  by_cases hz0 : m.toNat * i.size = 0
  · have hm0 : m.toNat = 0 := by
      rcases Nat.mul_eq_zero.1 hz0 with q | q
      · exact q
      · omega
    simp [hm0, newRow, Array.range_zero']
  · simp only [hz0, if_false, zeroValue, Sem.run_bind, typeInfo, run_program, hi, hz, Result.andThen_ok, Sem.run_pure, hcells, newRow, run_newObj, World.alloc_eq]
theorem vmake_ok (h : T w0 K0 nt st a w g) (hd : ∀ t, o.dst = some t → t < nt) {t : TypeId} {l c : Operand} (ho : o.op = .makeSlice t l c) (hl : SR g w st.rs (e l) (a.eval l)) (hc : SR g w st.rs (e c) (a.eval c))
    (hv : vmake P o.dst st t (e l) (e c) K) (hn : ∀ st' a' w' g', K st' → T w0 K0 nt st' a' w' g' → next a' w') : o.wp P a w next Q := by
  unfold vmake at hv
  split at hv
  · rename_i y s B n m hy ht hln hcm
    split at hv
    · rename_i el hel
      split at hv
      · rename_i z hz
        split at hv
        · rename_i zc hzc
          obtain ⟨h0, h1, hB0, hB, hs0, hK⟩ := hv
          obtain ⟨el', i, z', t1, t2, t3, t4, t5, rfl, rfl⟩ := slT_some ht
          rw [hel] at t1
          simp at t1
          subst t1
          have hzz : z = z' := by
            unfold zeroOf at hz
            rw [t2] at hz
            simp only [Option.bind_some, t3] at hz
            cases hz; rfl
          subst hzz
          obtain ⟨k, hk⟩ := sint_eq hln hl
          obtain ⟨k', hk'⟩ := sint_eq hcm hc
          have hrun := run_make (P := P) (w := w) (k := k) (k' := k') hel t2 t3 h0 h1 hB0 hB hs0 t4
          have hzv := cellsS_VR (st := st) hzc (SR_ofConst g w st.rs z)
          have hzl : zc.length = i.size := by have := ((VR_iff _ _).1 hzv).1; simp at this; omega
          have hcap : m.toNat ≤ maxLen := by
            have : m.toNat * 1 ≤ m.toNat * i.bytes := Nat.mul_le_mul_left _ hB0
            simp only [maxLen]; omega
          have hhold : Holds g.K w i.size (List.replicate n.toNat zc) (List.replicate m.toNat z.cells.toList).flatten.toArray := by
            have hfl := flat_rep zc z.cells.toList hzv m.toNat
            have hch := chunks_holds (s := i.size) (n := m.toNat) hfl (by simp [hzl])
            intro j d hj
            have hjn : j < n.toNat := by have := (List.getElem?_eq_some_iff.1 hj).1; simpa using this
            have e1 : d = zc := by simp [hjn] at hj; exact hj.symm
            subst e1
            refine hch j d ?_
            rw [chunks_get _ _ _ _ (by omega)]
            congr 1
            have : ∀ (p : Nat) (q : Nat), q < p → (((List.replicate p d).flatten.drop (q * i.size)).take i.size) = d := by
              intro p
              induction p with
              | zero => intro q h; omega
              | succ p ih =>
                intro q hq
                simp only [List.replicate_succ, List.flatten_cons]
                cases q with
                | zero => simp [← hzl]
                | succ q =>
                  have : (q + 1) * i.size = d.length + q * i.size := by rw [Nat.add_mul, hzl]; omega
                  rw [this, List.drop_append]
                  have hz1 : d.length + q * i.size - d.length = q * i.size := by omega
                  rw [hz1, List.drop_of_length_le (by omega), List.nil_append]
                  exact ih q (by omega)
            exact this _ _ (by omega)
          obtain ⟨g1, m1, m2, m3, m4⟩ := h.newarr (64 * y) i.size (List.replicate n.toNat zc) _ el m.toNat _ (.inl rfl) hhold (by simp; omega) hcap (by simp [t4])
          refine ow_value (o := o) (u := .slice (some ⟨w.heap.size, 0, none⟩) n.toNat m.toNat) (w' := w.alloc (.cells (List.replicate m.toNat z.cells.toList).flatten.toArray el)) (by simp [execOp, ho, hk, hk', hrun]) (hn _ _ _ g1 hK ?_)
          rw [hy]
          refine T.puto m1 (hd y hy) ?_
          rw [m2]; simp
        · exact hv.elim
      · exact hv.elim
    · exact hv.elim
  · exact hv.elim
theorem rep_holds {K : Nat → Nat → Prop} {zc : List C} {zv : List Value} (hzv : VR K w zc zv) (h0 : 0 < zc.length) {n m : Nat} (hnm : n ≤ m) : Holds K w zc.length (List.replicate n zc) (List.replicate m zv).flatten.toArray := by
  have hfl := flat_rep zc zv hzv m
  have hch := chunks_holds (s := zc.length) (n := m) hfl (by simp)
  intro j d hj
  have hjn : j < n := by have := (List.getElem?_eq_some_iff.1 hj).1; simpa using this
  have e1 : d = zc := by simp [hjn] at hj; exact hj.symm
  subst e1
  refine hch j d ?_
  rw [chunks_get _ _ _ _ (by omega)]
  congr 1
  have : ∀ (p : Nat) (q : Nat), q < p → (((List.replicate p d).flatten.drop (q * d.length)).take d.length) = d := by
    intro p
    induction p with
    | zero => intro q h; omega
    | succ p ih =>
      intro q hq
      simp only [List.replicate_succ, List.flatten_cons]
      cases q with
      | zero => simp
      | succ q =>
        have : (q + 1) * d.length = d.length + q * d.length := by rw [Nat.add_mul]; omega
        rw [this, List.drop_append]
        have hz1 : d.length + q * d.length - d.length = q * d.length := by omega
        rw [hz1, List.drop_of_length_le (by omega), List.nil_append]
        exact ih q (by omega)
  exact this _ _ (by omega)
theorem vsliceO_ok (h : T w0 K0 nt st a w g) (hd : ∀ t, o.dst = some t → t < nt) {t : TypeId} {x : Operand} {lo hi mx : Option Operand} (ho : o.op = .slice t x lo hi mx) (he : ∀ x ∈ o.op.operands.toList, SR g w st.rs (e x) (a.eval x)) (hmx : mx = none)
    (hv : vsliceO P o.dst st t (e x) (lo.map e) (hi.map e) K) (hn : ∀ st' a' w' g', K st' → T w0 K0 nt st' a' w' g' → next a' w') : o.wp P a w next Q := by
  subst hmx
  have hex := he x (by rw [ho]; simp [Op.operands])
  unfold vsliceO at hv
  split at hv
  · rename_i y i n s hy hx hlo hhi
    have hlo' : lo = none := by cases lo <;> simp at hlo; rfl
    subst hlo'
    obtain ⟨hi', rfl⟩ : ∃ x, hi = some x := by cases hi <;> simp at hhi; exact ⟨_, rfl⟩
    simp only [Option.map_some, Option.some.injEq] at hhi
    split at hv
    · rename_i m nil sz xs fx hm hr
      obtain ⟨h0, h1, hxn, hfx, hes, hK⟩ := hv
      have hehi := he hi' (by rw [ho]; simp [Op.operands])
      rw [hhi] at hehi
      obtain ⟨k, hk⟩ := sint_eq hm hehi
      rw [hx, SR] at hex
      have hu := hex nil sz xs fx hr hxn
      obtain ⟨sz', hes'⟩ := Option.isSome_iff_exists.1 hes
      obtain ⟨el, inf, h4, h5, _⟩ := esz_some hes'
      have hmn : m.toNat ≤ n := by omega
      rcases h.res i _ hr with ⟨rfl, rfl, hl, rfl⟩ | ⟨rfl, b, cap, cur, E, hl, q2, q3, q4, q5, q6, q7, q8, q9⟩
      · have hn0 : n = 0 := by simpa using hxn.symm
        obtain rfl : m = 0 := by omega
        have eb := run_bounds (P := P) (w := w) (len := 0) (cap := 0) (lo := none) (hi := some (.int k 0)) (l := 0) (h := 0) (.inl ⟨rfl, rfl⟩) (.inr ⟨k, rfl⟩) (by omega) (by omega) (by omega) true
        refine ow_value (o := o) (u := .slice none 0 0) (w' := w) ?_ (hn _ _ w g hK ?_)
        · simp [execOp, ho, hu, hl, hk, Instr.sliceAt, run_underlying h4, Instr.slice, eb, sizeOf, typeInfo, h5]
        · have hT : T w0 K0 nt ((st.clr i).setR i (some (.arr true sz [] 0))) a w g := T.make h (Bel.refl _ _ _) (Keeps.refl _ _) h.kold h.klt (fun _ _ => rfl) (fun _ _ _ _ _ _ => ⟨rfl, fun _ k => k⟩) (fun j r hj hrj b hb => by rw [hl] at hb; simp [blk] at hb) (.inl ⟨rfl, rfl, hl, rfl⟩)
          rw [hy]
          simp only [List.take_nil]
          exact T.puto hT (hd y hy) hl
      · have hcap : m.toNat ≤ cap := by omega
        have eb := run_bounds (P := P) (w := w) (len := xs.length) (cap := cap) (lo := none) (hi := some (.int k m)) (l := 0) (h := m) (.inl ⟨rfl, rfl⟩) (.inr ⟨k, rfl⟩) (by omega) h0 (by omega) true
        let g1 : G := ⟨g.K, fun j => if j = i then .slice (some ⟨b, 0, none⟩) m.toNat cap else g.loc j⟩
        have hg1 : g1.loc i = .slice (some ⟨b, 0, none⟩) m.toNat cap := if_pos rfl
        have hlen : (xs.take m.toNat).length = m.toNat := by simp; omega
        refine ow_value (o := o) (u := .slice (some ⟨b, 0, none⟩) m.toNat cap) (w' := w) ?_ (hn _ _ w g1 hK ?_)
        · simp only [Int.toNat_zero] at eb
          simp [execOp, ho, hu, hl, hk, Instr.sliceAt, run_underlying h4, Instr.slice, eb, sizeOf, typeInfo, h5, add_lit']
        · have hT : T w0 K0 nt ((st.clr i).setR i (some (.arr false sz (xs.take m.toNat) fx))) a w g1 := by
            refine T.make h (Bel.refl _ _ _) (Keeps.refl _ _) h.kold h.klt (fun j hj => if_neg hj) (fun _ _ _ _ _ _ => ⟨rfl, fun _ k => k⟩) (fun j r hj hrj b' hb => ?_) (.inr ⟨rfl, b, cap, cur, E, by rw [hg1, hlen], q2, q3, by rw [hlen]; omega, q5, q6, by rw [hlen]; omega, ?_, q9⟩)
            · rw [hg1] at hb
              exact h.dis i j _ _ hr hrj (Ne.symm hj) b' (by rw [hl]; exact hb)
            · intro j e hj
              rw [List.getElem?_take] at hj
              split at hj
              · exact q8 j e hj
              · cases hj
          rw [hy]
          exact T.puto hT (hd y hy) hg1
    · exact hv.elim
  · rename_i y i n s hy hx hlo hhi
    have hhi' : hi = none := by cases hi <;> simp at hhi; rfl
    subst hhi'
    obtain ⟨lo', rfl⟩ : ∃ x, lo = some x := by cases lo <;> simp at hlo; exact ⟨_, rfl⟩
    simp only [Option.map_some, Option.some.injEq] at hlo
    split at hv
    · rename_i m nil sz xs fx hm hr
      obtain ⟨h0, h1, hxn, hesz, hes, hK⟩ := hv
      have helo := he lo' (by rw [ho]; simp [Op.operands])
      rw [hlo] at helo
      obtain ⟨k, hk⟩ := sint_eq hm helo
      rw [hx, SR] at hex
      have hu := hex nil sz xs fx hr hxn
      obtain ⟨sz', hes'⟩ := Option.isSome_iff_exists.1 hes
      obtain ⟨el, inf, h4, h5, h6⟩ := esz_some hes'
      rcases h.res i _ hr with ⟨rfl, rfl, hl, _⟩ | ⟨rfl, b, cap, cur, E, hl, q2, q3, q4, q5, q6, q7, q8, q9⟩
      · have hn0 : n = 0 := by simpa using hxn.symm
        obtain rfl : m = 0 := by omega
        have eb := run_bounds (P := P) (w := w) (len := 0) (cap := 0) (lo := some (.int k 0)) (hi := none) (l := 0) (h := 0) (.inr ⟨k, rfl⟩) (.inl ⟨rfl, rfl⟩) (by omega) (by omega) (by omega) true
        refine ow_value (o := o) (u := .slice none 0 0) (w' := w) ?_ (hn _ _ w g hK ?_)
        · simp [execOp, ho, hu, hl, hk, Instr.sliceAt, run_underlying h4, Instr.slice, eb, sizeOf, typeInfo, h5]
        · rw [hy]
          refine h.put (hd y hy) ?_
          rw [SR]
          intro _ _ _ _ _ _
          exact ⟨none, 0, by simp [hn0], .inl (by omega)⟩
      · have eb := run_bounds (P := P) (w := w) (len := xs.length) (cap := cap) (lo := some (.int k m)) (hi := none) (l := m) (h := xs.length) (.inr ⟨k, rfl⟩) (.inl ⟨rfl, rfl⟩) h0 (by omega) (by omega) true
        have hsz : inf.size = sz := by
          have := hesz rfl
          rw [hes'] at this
          simp at this
          omega
        refine ow_value (o := o) (u := .slice (if cap = m.toNat then some ⟨b, 0, none⟩ else some ⟨b, m.toNat * inf.size, none⟩) (xs.length - m.toNat) (cap - m.toNat)) (w' := w) ?_ (hn _ _ w g hK ?_)
        · simp only [Int.toNat_natCast] at eb
          simp [execOp, ho, hu, hl, hk, Instr.sliceAt, run_underlying h4, Instr.slice, eb, sizeOf, typeInfo, h5, add_lit']
        · rw [hy]
          refine h.put (hd y hy) ?_
          rw [SR]
          intro nil' sz2 xs' fx' e1 e2
          rw [hr] at e1
          cases e1
          by_cases hc : cap = m.toNat
          · refine ⟨_, _, by rw [hxn], .inl (by omega)⟩
          · refine ⟨_, _, by rw [hxn], .inr ⟨b, cap, by rw [hl, hxn], by rw [if_neg hc, hsz]⟩⟩
    · exact hv.elim
  · exact hv.elim
theorem vclear_ok (h : T w0 K0 nt st a w g) {t : TypeId} {x : Operand} (ho : o.op = .call { callee := .builtin .clear, args := #[x], argTypes := #[t] }) (hex : SR g w st.rs (e x) (a.eval x))
    (hv : vclear P o.dst st t (e x) K) (hn : ∀ st' a' w' g', K st' → T w0 K0 nt st' a' w' g' → next a' w') : o.wp P a w next Q := by
  unfold vclear at hv
  split at hv
  · rename_i i n j el hy hx ht
    split at hv
    · rename_i nil sz xs fx b' s z hr hty hz
      split at hv
      · rename_i zc hzc
        obtain ⟨hxn, hfx, hjn, rfl, hzl, hs0, hK⟩ := hv
        rw [hx, SR] at hex
        obtain ⟨ad, c, hu, hcase⟩ := hex nil s xs fx hr hxn
        have fin : ∀ w' g', T w0 K0 nt (st.setR i (some (.arr nil s (xs.take j ++ List.replicate (n - j) zc) fx))) a w' g' → (Builtin.clear_ #[t] o.type #[a.eval x]).run P w = .ok (.tuple #[]) w' → o.wp P a w next Q := by
          intro w' g' hT hrun
          refine ow_value (o := o) (u := .tuple #[]) (w' := w') (by simp [execOp, ho, resolve, invoke, builtin, hrun]) ?_
          rw [hy]
          exact hn _ _ w' g' hK hT
        by_cases h0 : n - j = 0
        · have hjn' : j = n := by omega
          refine fin w g ?_ ?_
          · have e1 : xs.take j ++ List.replicate (n - j) zc = xs := by rw [h0, hjn', ← hxn]; simp
            rw [e1]
            exact h.congr rfl (by funext q; rw [St.rs_setR]; split <;> simp_all)
          · rw [hu, h0]
            cases ad <;> simp [Builtin.clear_, run_underlying ht]
        · rcases hcase with hcase | ⟨b, cap, hl, rfl⟩
          · exact absurd hcase h0
          rcases h.res i _ hr with ⟨rfl, rfl, hl', _⟩ | ⟨rfl, b1, cap1, cur, E, hl', q2, q3, q4, q5, q6, q7, q8, q9⟩
          · rw [hl] at hl'; cases hl'
          rw [hl] at hl'
          simp only [Value.slice.injEq, Option.some.injEq, Addr.mk.injEq] at hl'
          obtain ⟨⟨rfl, _⟩, _, rfl⟩ := hl'
          have hzv := cellsS_VR (st := st) hzc (SR_ofConst g w st.rs z)
          have hzs : z.cells.size = s := by have := ((VR_iff _ _).1 hzv).1; simp at this; omega
          have hnews : (Builtin.zeroCells z.cells (n - j)).toList = (List.replicate (n - j) z.cells.toList).flatten := by
            have := range_map_flat z.cells.toList (by simp; omega) (n - j)
            simp only [Builtin.zeroCells, Array.toList_map, Array.toList_range]
            have hl2 : z.cells.toList.length = z.cells.size := by simp
            rw [← hl2]
            simpa using this
          have hflat : (List.replicate (n - j) z.cells.toList).flatten.length = (n - j) * s := by simp [hzs]
          have hone : ∀ v ∈ (List.replicate (n - j) z.cells.toList).flatten, v.oneCell' = true := by
            intro v hv'
            rw [List.mem_flatten] at hv'
            obtain ⟨l, hl1, hl2⟩ := hv'
            rw [List.eq_of_mem_replicate hl1] at hl2
            obtain ⟨p, hp, rfl⟩ := List.mem_iff_getElem.1 hl2
            have hp' : p < zc.length := by have : z.cells.toList.length = z.cells.size := by simp
                                           omega
            exact CR.one (((VR_iff _ _).1 hzv).2 p zc[p] _ (by simp [hp']) (by simp))
          have hjs : j * s + (n - j) * s = n * s := by rw [← Nat.add_mul]; congr 1; omega
          have hns : n * s ≤ cap * s := Nat.mul_le_mul_right _ (by omega)
          have hfit : j * s + (List.replicate (n - j) z.cells.toList).flatten.length ≤ cur.size := by omega
          have hst := run_storeCells_at P b (j * s) E (List.replicate (n - j) z.cells.toList).flatten 0 cur w q3 (by simpa using hfit) hone
          simp only [Nat.add_zero] at hst
          have hsp : j * s + (List.replicate (n - j) z.cells.toList).flatten.length ≤ cur.toList.length := by simpa using hfit
          have hT := T.rewrite h (i := i) (r := .arr false s (xs.take j ++ List.replicate (n - j) zc) fx) (cs := spl cur.toList (j * s) (List.replicate (n - j) z.cells.toList).flatten) hr (by rw [hl]; rfl) q3 (fun o' k => by
              have := (q9 o').1 k
              have hfs : fx * s ≤ j * s := Nat.mul_le_mul_right _ hfx
              rw [spl_getElem hsp, if_pos (by omega)]
              simp) (.inr ⟨false, s, xs, fx, false, _, fx, rfl, rfl, by simp; omega⟩) (fun hcmp hk hh => by
              have hlen : (xs.take j ++ List.replicate (n - j) zc).length = n := by simp; omega
              refine .inr ⟨rfl, b, cap, _, E, by rw [hlen]; exact hl, q2, hh, by rw [hlen]; omega, q5, ?_, by rw [hlen]; omega, ?_, q9⟩
              · simp only [List.size_toArray]
                rw [spl_length hsp]
                simpa using q6
              · have hr1 : Holds g.K (w.setRow b (spl cur.toList (j * s) (List.replicate (n - j) z.cells.toList).flatten).toArray) s (List.replicate (n - j) zc) (List.replicate (n - j) z.cells.toList).flatten.toArray := by
                  have := (rep_holds (K := g.K) (w := w) hzv (by omega) (Nat.le_refl (n - j))).mono hk
                  rw [hzl] at this
                  exact this
                have hr2 : Holds g.K (w.setRow b (spl cur.toList (j * s) (List.replicate (n - j) z.cells.toList).flatten).toArray) s (xs.take j) cur := by
                  intro p d hp
                  rw [List.getElem?_take] at hp
                  split at hp
                  · obtain ⟨k1, k2⟩ := q8 p d hp
                    exact ⟨k1, fun k c hc => let ⟨u, m1, m2⟩ := k2 k c hc; ⟨u, m1, CR.mono hk c u m2⟩⟩
                  · cases hp
                have hjl : (xs.take j).length = j := by simp; omega
                have := Holds.append (rest := cur.toList.drop (j * s + (List.replicate (n - j) z.cells.toList).flatten.length)) hr2 (by rw [hjl]; omega) hr1
                rw [hjl] at this
                exact this)
          refine fin _ g hT ?_
          rw [hu]
          obtain ⟨p, hp⟩ : ∃ p, n - j = p + 1 := ⟨n - j - 1, by omega⟩
          have hrz := run_zero (P := P) (w := w) hz
          rw [hp] at hst hnews ⊢
          simp only [Builtin.clear_]
          simp [run_underlying ht, hrz, hnews, spl]
          rw [hst]
          simp [List.append_assoc]
      · exact hv.elim
    · exact hv.elim
  · exact hv.elim
theorem run_call {c : Call} {f : Operand} {fid : FuncId} {us : List Value} (hcall : callable P fid = true) (ho : o.op = .call c) (hc : c.callee = .value f) (hfv : a.eval f = .func (.func fid) #[] us.toArray) :
    (execOp a.eval o).run P w = .ok (.enter fid ((c.args.toList.map a.eval ++ us).toArray)) w := by
  unfold callable at hcall
  split at hcall
  · rename_i fn hfn
    simp only [Bool.and_eq_true, bne_iff_ne, ne_eq] at hcall
    obtain ⟨c1, c2⟩ := hcall
    have c3 : (fn.name == "runtime.NumGoroutine") = false := by simpa using c1
    have c4 : fn.body.isNone = false := by
      cases hb : fn.body with
      | none => rw [hb] at c2; simp at c2
      | some b => rfl
    obtain ⟨cal, args, ats⟩ := c
    simp only at hc
    subst hc
    have harr : (args.map a.eval) ++ us.toArray = (args.toList.map a.eval ++ us).toArray := by
      apply Array.ext'; simp
    simp only [execOp, ho, resolve, Deferred.ofValue, hfv, Sem.run_bind, Sem.run_pure, Result.andThen_ok, invoke, callFunc, run_program, hfn, c3, c4, Bool.false_eq_true, if_false, Array.empty_append]
    rw [harr]
  · cases hcall
theorem vlend_ok (h : T w0 K0 nt st a w g) (hd : ∀ t, o.dst = some t → t < nt) {c : Call} {f : Operand} {fid : FuncId} {us : List Value} (ho : o.op = .call c) (hc : c.callee = .value f) (hfv : a.eval f = .func (.func fid) #[] us.toArray)
    {args : List S} (hargs : SRs g w st.rs args (c.args.toList.map a.eval ++ us)) (hv : vlend P o.dst st fid args K) (hn : ∀ st' a' w' g', K st' → T w0 K0 nt st' a' w' g' → next a' w') : o.wp P a w next Q := by
  obtain ⟨m, hm⟩ := hv
  obtain ⟨args', st1, g1, ⟨b, b', as0, rs, as1, τ, C, L, hK⟩, h, hargs, _⟩ := vsnapm_ok m _ _ st g _ h hargs hm
  have hexec := run_call (o := o) (a := a) (w := w) L.con.1 ho hc hfv
  unfold Oper.wp
  rw [hexec, Oper.upon_enter]
  refine (L.calls h hargs).mono fun en w' ⟨vs, g', he, k1, k2⟩ => ?_
  subst he
  have hres : SR g' w' (lendSt st1 τ C b').rs (retS τ rs) (retV vs) := by
    cases rs with
    | nil =>
      rw [renSs, SRs] at k2
      subst k2
      show SR g' w' (lendSt st1 τ C b').rs (.tup (renSs τ [])) (.tuple [].toArray)
      rw [SR, renSs]
      exact ⟨[], rfl, by rw [SRs]⟩
    | cons r rest =>
      cases rest with
      | nil =>
        rw [renSs, renSs, SRs] at k2
        obtain ⟨v, us', rfl, q1, q2⟩ := k2
        rw [SRs] at q2
        subst q2
        exact q1
      | cons r2 rest =>
        have k2' := k2
        rw [renSs, renSs, SRs] at k2
        obtain ⟨v, us', rfl, q1, q2⟩ := k2
        rw [SRs] at q2
        obtain ⟨v2, us2, rfl, q3, q4⟩ := q2
        show SR g' w' (lendSt st1 τ C b').rs (.tup (renSs τ (r :: r2 :: rest))) (.tuple (v :: v2 :: us2).toArray)
        rw [SR]
        exact ⟨_, rfl, k2'⟩
  exact hn _ _ _ g' hK (k1.putd hd hres)
theorem vcon_ok {st' : St} {g' : G} (h : T w0 K0 nt st a w g) (k2 : T w0 K0 nt st' a w g') (hd : ∀ t, o.dst = some t → t < nt) {fid : FuncId} {us : List Value} {args : List S} {rs : List Rt}
    (hwp : ∀ {R : Ending → World → Prop}, Runs P fid us.toArray w R → (∀ e w', R e w' → ∃ v, e = .returned v ∧ next (a.put o.dst v) w') → o.wp P a w next Q)
    (hall : SRs g' w st'.rs args us) (hsp : Con P fid args rs) (hK : K (vret st' o.dst rs)) (hn : ∀ st' a' w' g', K st' → T w0 K0 nt st' a' w' g' → next a' w') : o.wp P a w next Q := by
    refine hwp (hsp w g'.K _ k2.klt (DRs_of hall)) fun en w' hpost => ?_
    obtain ⟨vs, rfl, hbel, K', p1, p2, p3, p4⟩ := hpost
    refine ⟨_, rfl, ?_⟩
    have hB : w0.heap.size ≤ w.heap.size := h.below.size
    have hkeep : Keeps g'.K w K' w' := ⟨p1, fun b o k => by
      have := k2.klt b o k
      simp only [World.cell?]; rw [hbel.block b this]⟩
    have hT1 := k2.world (Bel.of (hbel.mono hB)) hkeep (fun b o k hlt => k2.kold b o (p2 b o k (by have := hlt.1; omega)) hlt) p3 (fun i r b hi hb => by
      have hlt := (k2.res i r hi).lt hb
      exact ⟨hbel.block b hlt, fun o k => p2 b o k hlt⟩)
    have hlow : ∀ i r b, st'.rs i = some r → blk (g'.loc i) = some b → b < w.heap.size ∨ ∃ v ∈ ([] : List Value), blk v = some b := fun i r b hi hb => .inl ((k2.res i r hi).lt hb)
    have hB' : w0.heap.size ≤ w'.heap.size := Nat.le_trans hB hbel.size
    cases hdst : o.dst with
    | none =>
      rw [hdst] at hK
      exact hn _ _ _ _ hK hT1
    | some y =>
      rw [hdst] at hK
      have hlen := p4.1
      have hy := hd y hdst
      cases rs with
      | nil =>
        cases vs with
        | cons v vs => simp at hlen
        | nil =>
          obtain ⟨g2, m1, m2, m3, m4, m5⟩ := T.rets hB' [] [] st' _ (64 * y + 1) w.heap.size [] hT1 hlow p4 hB (by simp)
          exact hn _ _ _ g2 hK (m1.put hy (by rw [SR]; exact ⟨[], rfl, m2⟩))
      | cons r rest =>
        cases vs with
        | nil => simp at hlen
        | cons v vs =>
          cases rest with
          | nil =>
            cases vs with
            | cons v' vs => simp at hlen
            | nil =>
              obtain ⟨g2, m1, m2, m3, m4, m5⟩ := T.rets hB' [r] [v] st' _ (64 * y) w.heap.size [] hT1 hlow p4 hB (by simp)
              refine hn _ _ _ g2 hK (m1.put hy ?_)
              have e1 : (vrets st' (64 * y) [r]).1 = [(vret1 st' (64 * y) r).1] := rfl
              rw [e1, SRs] at m2
              obtain ⟨u, us', q1, q2, _⟩ := m2
              simp at q1
              rw [q1.1]
              exact q2
          | cons r2 rest =>
            cases vs with
            | nil => simp at hlen
            | cons v2 vs =>
              obtain ⟨g2, m1, m2, m3, m4, m5⟩ := T.rets hB' (r :: r2 :: rest) (v :: v2 :: vs) st' _ (64 * y + 1) w.heap.size [] hT1 hlow p4 hB (by simp)
              exact hn _ _ _ g2 hK (m1.put hy (by rw [SR]; exact ⟨_, rfl, m2⟩))
theorem vcall_ok (h : T w0 K0 nt st a w g) (hd : ∀ t, o.dst = some t → t < nt) {c : Call} {f : Operand} (ho : o.op = .call c) (hc : c.callee = .value f) (he : ∀ x ∈ o.op.operands.toList, SR g w st.rs (e x) (a.eval x))
    (hv : vcall P o.dst st (e f) (c.args.toList.map e) K) (hn : ∀ st' a' w' g', K st' → T w0 K0 nt st' a' w' g' → next a' w') : o.wp P a w next Q := by
  have hef : SR g w st.rs (e f) (a.eval f) := he f (by rw [ho]; simp [Op.operands, Call.operands, hc])
  have hargs : SRs g w st.rs (c.args.toList.map e) (c.args.toList.map a.eval) := SRs_map _ _ _ (fun x hx => he x (by rw [ho]; simp [Op.operands, Call.operands, hc]; exact .inr (by simpa using hx)))
  unfold vcall at hv
  split at hv
  · rename_i fid caps hf
    rw [hf] at hef
    have hv' : vcallA P o.dst st fid caps (c.args.toList.map e) K ∨ (caps = [] ∧ vlend P o.dst st fid (c.args.toList.map e) K) := by
      unfold vcallQ at hv
      split at hv
      · exact hv
      · exact .inl hv
    clear hv
    rcases hv' with hv | ⟨rfl, hv⟩
    case inr =>
      simp only [SR, CR, VR] at hef
      obtain ⟨us, hfv, rfl⟩ := hef
      exact vlend_ok h hd ho hc hfv (by rw [List.append_nil]; exact hargs) hv hn
    unfold vcallA at hv
    obtain ⟨ss', st', g', k1, k2, k3, k4, k5, k6⟩ := vsnaps_ok _ _ st g _ h hargs hv
    have hef' := k4 _ _ hef
    simp only [SR, CR] at hef'
    obtain ⟨us, hfv, hcv⟩ := hef'
    have hcaps : SRs g' w st'.rs (caps.map .c) us := by
      rw [SRs_iff]
      obtain ⟨q1, q2⟩ := (VR_iff _ _).1 hcv
      refine ⟨by simp [q1], fun k s u e1 e2 => ?_⟩
      simp only [List.getElem?_map, Option.map_eq_some_iff] at e1
      obtain ⟨d, e1, rfl⟩ := e1
      rw [SR]; exact q2 k d u e1 e2
    have hall : SRs g' w st'.rs (ss' ++ caps.map .c) (c.args.toList.map a.eval ++ us) := by
      rw [SRs_iff] at k3 hcaps ⊢
      refine ⟨by simp [k3.1, hcaps.1], fun k s u e1 e2 => ?_⟩
      by_cases hlt : k < ss'.length
      · rw [List.getElem?_append_left hlt] at e1
        rw [List.getElem?_append_left (by rw [k3.1]; exact hlt)] at e2
        exact k3.2 k s u e1 e2
      · rw [List.getElem?_append_right (by omega)] at e1
        rw [List.getElem?_append_right (by rw [k3.1]; omega), k3.1] at e2
        exact hcaps.2 _ s u e1 e2
    rcases k1 with ⟨rs, hsp, hK⟩ | hvl
    case inr => exact vlend_ok k2 hd ho hc hfv hall hvl hn
    exact vcon_ok h k2 hd (fun hr hR => wp_runs ho hc hfv hr hR) hall hsp hK hn
  · rename_i fid ss hf
    rw [hf, SR] at hef
    obtain ⟨us, hfv, hcs⟩ := hef
    refine vlend_ok h hd ho hc hfv ?_ hv hn
    rw [SRs_iff] at hargs hcs ⊢
    refine ⟨by simp [hargs.1, hcs.1], fun k s u e1 e2 => ?_⟩
    by_cases hlt : k < (c.args.toList.map e).length
    · rw [List.getElem?_append_left hlt] at e1
      rw [List.getElem?_append_left (by rw [hargs.1]; exact hlt)] at e2
      exact hargs.2 k s u e1 e2
    · rw [List.getElem?_append_right (by omega)] at e1
      rw [List.getElem?_append_right (by rw [hargs.1]; omega), hargs.1] at e2
      exact hcs.2 _ s u e1 e2
  · exact hv.elim
theorem methOf_run {d : TypeId} {name : String} {f : FuncId} (h : methOf P d name = some f) (v : Value) (n : Nat) : (Go.method (n + 1) d v name).run P w = .ok (f, v) w := by
  unfold methOf at h
  split at h
  · rename_i i hi
    split at h
    · rename_i m hm
      split at h
      · cases h
      · rename_i f' u hnp hp hf hu
        cases h
        have hfo : (follow m.path.toList d (.val v)).run P w = .ok (d, .val v) w := by rw [hp]; rfl
        have hr : ∀ o, (receiverAt d (.val v) false o).run P w = .ok v w := by
          intro o
          unfold receiverAt
          simp only [Sem.run_bind, run_underlying hu, Result.andThen_ok]
          cases u <;> first
            | exact absurd rfl (fun e => hnp _ e)
            | rfl
        simp only [Go.method, typeInfo, run_program, Sem.run_bind, Result.andThen_ok, hi, Sem.run_pure, hm, hfo, hf, hr]
      · cases h
    · cases h
  · cases h
theorem vinv_ok (h : T w0 K0 nt st a w g) (hd : ∀ t, o.dst = some t → t < nt) {c : Call} {r : Operand} {name : String} (ho : o.op = .call c) (hc : c.callee = .invoke r name) (he : ∀ x ∈ o.op.operands.toList, SR g w st.rs (e x) (a.eval x))
    (hv : vinv P o.dst st (e r) name (c.args.toList.map e) K) (hn : ∀ st' a' w' g', K st' → T w0 K0 nt st' a' w' g' → next a' w') : o.wp P a w next Q := by
  have her : SR g w st.rs (e r) (a.eval r) := he r (by rw [ho]; simp [Op.operands, Call.operands, hc])
  have hargs : SRs g w st.rs (c.args.toList.map e) (c.args.toList.map a.eval) := SRs_map _ _ _ (fun x hx => he x (by rw [ho]; simp [Op.operands, Call.operands, hc]; exact .inr (by simpa using hx)))
  obtain ⟨d, s, f, hr, hm, hv⟩ := hv
  obtain ⟨ss', st', g', ⟨rs, hcon, hK⟩, k2, k3, k4, k5, k6⟩ := vsnaps_ok _ _ st g _ h hargs hv
  obtain ⟨v, hev, hs⟩ : ∃ v, a.eval r = .iface d v ∧ SR g w st.rs s v := by
    unfold recvS at hr
    split at hr
    · rename_i d' cs hrs
      cases hr
      rw [hrs, SR, CR] at her
      obtain ⟨us, e1, e2⟩ := her
      exact ⟨_, e1, by rw [SR]; exact ⟨us, rfl, e2⟩⟩
    · rename_i d' c' hrs
      cases hr
      rw [hrs, SR, CR] at her
      obtain ⟨x, e1, e2⟩ := her
      exact ⟨x, e1, by rw [SR]; exact e2⟩
    · cases hr
  obtain ⟨cal, args, ats⟩ := c
  simp only at hc
  subst hc
  have harr : #[v] ++ (args.map a.eval) = (v :: args.toList.map a.eval).toArray := by
    apply Array.ext'; simp
  have hex : (execOp a.eval o).run P w = (callFunc f ((v :: args.toList.map a.eval).toArray)).run P w := by
    have e1 : (#[Value.iface d v] ++ args.map a.eval)[0]? = some (Value.iface d v) := by rw [← Array.getElem?_toList]; simp
    have e2 : (#[Value.iface d v] ++ args.map a.eval).extract 1 (#[Value.iface d v] ++ args.map a.eval).size = args.map a.eval := by
      apply Array.ext'
      have e3 : (#[Value.iface d v] ++ args.map a.eval).toList = Value.iface d v :: args.toList.map a.eval := by
        rw [Array.toList_append, Array.toList_map]; rfl
      rw [Array.toList_extract, e3, ← Array.length_toList, e3, List.extract_eq_take_drop, Array.toList_map, List.drop_succ_cons, List.drop_zero]
      exact List.take_of_length_le (by simp)
    have hmm : (Go.method (P.types.size + Made.depth) d v name).run P w = .ok (f, v) w := by
      have : P.types.size + Made.depth = (P.types.size + (Made.depth - 1)) + 1 := by unfold Made.depth; omega
      rw [this]; exact methOf_run hm v _
    simp only [execOp, ho, resolve, hev, Sem.run_bind, Sem.run_pure, Result.andThen_ok, invoke, e1, e2, callMethod, run_program, hmm, harr]
  refine vcon_ok (us := v :: args.toList.map a.eval) h k2 hd (fun {R} hr hR => ?_) (by rw [SRs]; exact ⟨_, _, rfl, k4 _ _ hs, k3⟩) hcon hK hn
  unfold Oper.wp
  rw [hex]
  rcases hr with ⟨h1, h2⟩ | ⟨v, w', h1, h2⟩
  · rw [run_callable h1, Oper.upon_enter]
    refine h2.mono fun e w' hr => ?_
    obtain ⟨v, rfl, hn⟩ := hR _ _ hr
    exact hn
  · rw [h1, Oper.upon_value]
    obtain ⟨v', e1, hn⟩ := hR _ _ h2
    cases e1
    exact hn
theorem vmkI_ok (h : T w0 K0 nt st a w g) (hd : ∀ t, o.dst = some t → t < nt) {t : TypeId} {x : Operand} (ho : o.op = .makeInterface t x) (hx : SR g w st.rs (e x) (a.eval x))
    (hv : vmkI P o.dst st t (e x) K) (hn : ∀ st' a' w' g', K st' → T w0 K0 nt st' a' w' g' → next a' w') : o.wp P a w next Q := by
  unfold vmkI at hv
  split at hv
  · rename_i ss hs
    rw [hs, SR] at hx
    obtain ⟨us, hu, h1, h2⟩ := hx
    obtain ⟨ss', st', g', hk, k2, k3, k4, k5, k6⟩ := vsnaps_ok _ _ st g _ h h1 hv
    split at hk
    · rename_i cs hcs
      refine ow_value (run_mkIface hk.1 ho hu) (hn _ _ _ g' hk.2 (k2.putd hd ?_))
      rw [SR, CR]
      exact ⟨us, rfl, allC_VR (st := st') ss' cs _ hcs ((SRs_iff _ _).1 k3).1 ((SRs_iff _ _).1 k3).2⟩
    · exact hk.elim
  · obtain ⟨s', st', g', ⟨hk1, hk2⟩, k2, k3, k4, k5, k6⟩ := vsnap_ok h hx hv
    refine ow_value (u := .iface t (a.eval x)) (w' := w) ?_ (hn _ _ _ g' hk2 (k2.putd hd ?_))
    · unfold pmkI at hk1
      split at hk1
      · exact run_mkIface hk1 ho rfl
      · exact run_mkIface hk1 ho rfl
      · exact hk1.elim
    · unfold pmkI at hk1 ⊢
      split at hk1
      · rw [SR] at k3
        simp only [SR, CR]; exact ⟨_, rfl, k3⟩
      · rw [SR] at k3
        obtain ⟨us, hu, hv⟩ := k3
        simp only [SR, CR]; exact ⟨us, by rw [hu], hv⟩
      · exact hk1.elim
theorem vloadb_ok (h : T w0 K0 nt st a w g) {t : TypeId} {s : S} {u : Value} {k : S → St → Prop} (hs : SR g w st.rs s u) (hv : vloadb P st t s k) :
    ∃ r s' st' g', (Instr.loadAt t u).run P w = .ok r w ∧ k s' st' ∧ T w0 K0 nt st' a w g' ∧ SR g' w st'.rs s' r ∧ (∀ s u, SR g w st.rs s u → SR g' w st'.rs s u) ∧ g'.loc = g.loc := by
  unfold vloadb at hv
  split at hv
  · rename_i m i off ht
    split at hv
    · rename_i fz ss hr
      rw [SR] at hs
      obtain ⟨b, hb, rfl⟩ := hs fz ss hr
      obtain ⟨b', cur, E, h1, h2, h3, h4, h5, h6⟩ := h.res i _ hr
      rw [hb] at h1
      simp at h1; subst h1
      have hcells : SRs g w st.rs ((ss.drop off).take m) ((cur.toList.drop off).take m) := by
        rw [SRs_iff]
        refine ⟨by simp; omega, fun k s' v e1 e2 => ?_⟩
        rw [List.getElem?_take] at e1 e2
        split at e1
        · rename_i hlt
          rw [if_pos hlt] at e2
          rw [List.getElem?_drop] at e1 e2
          obtain ⟨v', k1, k2, k3⟩ := h5 _ _ e1
          have : v' = v := by simp at e2; rw [k1] at e2; exact Option.some.inj e2
          subst this; exact k2
        · cases e1
      obtain ⟨ss', st', g', ⟨hlen, hk⟩, k2, k3, k4, k5, k6⟩ := vsnaps_ok _ _ st g _ h hcells (vsnaps_length _ _ _ hv)
      split at hk
      · rename_i cs hcs
        obtain ⟨hm, hk⟩ := hk
        have hl3 := ((SRs_iff _ _).1 k3).1
        have hv := allC_VR (st := st') ss' cs _ hcs hl3 ((SRs_iff _ _).1 k3).2
        have hvl := ((VR_iff _ _).1 hv).1
        refine ⟨.agg ((cur.toList.drop off).take m).toArray, .agg cs, st', g', ?_, hk, k2, by rw [SR]; exact ⟨_, rfl, hv⟩, k4, k5⟩
        have hl : (Instr.loadAt t (.pointer (some ⟨b, off, none⟩))).run P w = (loadVar t ⟨b, off, none⟩).run P w := by simp [Instr.loadAt, Instr.sureAddr]
        rw [hl]
        refine run_loadVar_agg ht (by rw [hvl, hm]) (fun j v hj => ?_)
        rw [add_lit, cell_of_heap h3]
        rw [List.getElem?_take] at hj
        split at hj
        · rw [List.getElem?_drop] at hj; simpa using hj
        · cases hj
      · exact hk.elim
    · exact hv.elim
  · obtain ⟨h1, h2⟩ := hv
    obtain ⟨r, e1, e2⟩ := pload_ok h hs h1
    exact ⟨r, _, st, g, e1, h2, h, e2, fun _ _ h => h, rfl⟩
theorem vcap_ok (h : T w0 K0 nt st a w g) {s : S} {u : Value} {k : C → St → Prop} (hs : SR g w st.rs s u) (hv : vcap st s k) :
    ∃ c st' g', k c st' ∧ T w0 K0 nt st' a w g' ∧ CR g'.K w c u ∧ (∀ s u, SR g w st.rs s u → SR g' w st'.rs s u) ∧ Keeps g.K w g'.K w := by
  unfold vcap at hv
  split at hv
  · rw [SR] at hs
    exact ⟨_, st, g, hv, h, hs, fun _ _ q => q, Keeps.refl _ _⟩
  · rename_i i
    split at hv
    · rename_i fz ss hi
      obtain ⟨b, cur, E, h1, h2, h3, h4, h5, h6⟩ := h.res i _ hi
      have hss : SRs g w st.rs ss cur.toList := by
        rw [SRs_iff]
        refine ⟨by simpa using h4, fun k s u e1 e2 => ?_⟩
        obtain ⟨u', q1, q2, _⟩ := h5 k s e1
        rw [← Array.getElem?_toList, e2] at q1
        cases q1
        exact q2
      obtain ⟨ss', st1, g1, k1, k2, k3, k4, k5, k6⟩ := vsnaps_ok _ _ st g _ h hss hv
      split at k1
      · rename_i cs fz2 ss2 hcs hi2
        have hvr : ∀ b' cur' E', g1.loc i = .pointer (some ⟨b', 0, none⟩) → w.heap[b']? = some (.cells cur' E' (0, 0)) → VR g1.K w cs cur'.toList := by
          intro b' cur' E' e1 e2
          rw [k5, h1] at e1
          simp at e1
          subst e1
          rw [h3] at e2
          simp at e2
          obtain ⟨rfl, _⟩ := e2
          exact allC_VR (st := st1) ss' cs _ hcs ((SRs_iff _ _).1 k3).1 ((SRs_iff _ _).1 k3).2
        obtain ⟨g2, m1, m2, m3, m4, m5⟩ := k2.fixbox hi2 hvr
        refine ⟨_, _, g2, k1, m1, ?_, fun s u q => m2 s u (k4 s u q), k6.trans m5⟩
        rw [SR] at hs
        obtain ⟨b', q1, rfl⟩ := hs fz ss hi
        rw [CR]
        exact ⟨b', 0, rfl, m3 b' (by rw [k5]; exact q1)⟩
      · exact k1.elim
    · exact hv.elim
  · exact hv.elim
theorem vcaps_ok : ∀ (ss : List S) (us : List Value) (st : St) (g : G) (k : List C → St → Prop), T w0 K0 nt st a w g → SRs g w st.rs ss us → vcaps st ss k →
    ∃ cs st' g', k cs st' ∧ T w0 K0 nt st' a w g' ∧ VR g'.K w cs us ∧ (∀ s u, SR g w st.rs s u → SR g' w st'.rs s u) ∧ Keeps g.K w g'.K w
  | [], us, st, g, k, h, hs, hv => by
    rw [SRs] at hs
    subst hs
    exact ⟨[], st, g, hv, h, by rw [VR], fun _ _ q => q, Keeps.refl _ _⟩
  | s :: r, us, st, g, k, h, hs, hv => by
    rw [SRs] at hs
    obtain ⟨u, us', rfl, h1, h2⟩ := hs
    rw [vcaps] at hv
    obtain ⟨c, st1, g1, k1, k2, k3, k4, k5⟩ := vcap_ok h h1 hv
    have h2' : SRs g1 w st1.rs r us' := by
      rw [SRs_iff] at h2 ⊢
      exact ⟨h2.1, fun n s u e1 e2 => k4 s u (h2.2 n s u e1 e2)⟩
    obtain ⟨cs, st2, g2, m1, m2, m3, m4, m5⟩ := vcaps_ok r us' st1 g1 _ k2 h2' k1
    refine ⟨c :: cs, st2, g2, m1, m2, ?_, fun s u q => m4 s u (k4 s u q), k5.trans m5⟩
    rw [VR]
    exact ⟨u, us', rfl, CR.mono m5 c u k3, m3⟩
theorem vop_ok (h : T w0 K0 nt st a w g) (hd : ∀ t, o.dst = some t → t < nt) (hst : ∀ t x y, o.op = .store t x y → o.dst = none) (he : ∀ x ∈ o.op.operands.toList, SR g w st.rs (e x) (a.eval x))
    (hv : vop P o.dst st e o.op K) (hn : ∀ st' a' w' g', K st' → T w0 K0 nt st' a' w' g' → next a' w') : o.wp P a w next Q := by
  have pure_case : vpure P o.dst st e o.op K → o.wp P a w next Q := fun hv => vpure_ok h hd he hv hn
  unfold vop at hv
  split at hv
  · rename_i ho
    split at hv
    · rename_i x hx
      obtain ⟨g1, m1, m2, m3, m4⟩ := h.nilR (64 * x)
      refine ow_value (o := o) (u := .slice none 0 0) (w' := w) (by simp [execOp, ho, Act.eval]) (hn _ _ _ g1 hv ?_)
      rw [hx]
      exact T.puto m1 (hd x hx) m2
    · exact hv.elim
  · rename_i t ho
    exact valloc_ok h hd ho hv hn
  · rename_i t x ho
    exact vbox_ok h hd ho (he x (by rw [ho]; simp [Op.operands])) hv hn
  · rename_i t ad x ho
    exact vstore_ok h (hst t ad x ho) ho (he ad (by rw [ho]; simp [Op.operands])) (he x (by rw [ho]; simp [Op.operands])) hv hn
  · rename_i t x ho
    obtain ⟨r, s', st', g', e1, k1, k2, k3, k4, k5⟩ := vloadb_ok h (he x (by rw [ho]; simp [Op.operands])) hv
    exact ow_value (o := o) (u := r) (w' := w) (by simp [execOp, ho, e1]) (hn _ _ _ g' k1 (k2.putd hd k3))
  · rename_i t len parts ho
    exact vbuildSlice_ok h hd ho he hv hn
  · rename_i t l c ho
    exact vmake_ok h hd ho (he l (by rw [ho]; simp [Op.operands])) (he c (by rw [ho]; simp [Op.operands])) hv hn
  · rename_i t x lo hi mx ho
    rcases hv with hv | ⟨hmx, hv⟩
    case inr => exact vsliceO_ok h hd ho he hmx hv hn
    have key : ∀ (g' : G) (st' : St), (∀ s u, SR g w st.rs s u → SR g' w st'.rs s u) → ∀ (z : Option Operand), (∀ y, z = some y → y ∈ (Op.slice t x lo hi mx).operands.toList) → (∀ s, z.map e = some s → ∃ v, z.map a.eval = some v ∧ SR g' w st'.rs s v) := by
      intro g' st' hk z hz s hs
      cases z with
      | none => simp at hs
      | some y => simp at hs; subst hs; exact ⟨_, rfl, hk _ _ (he y (by rw [ho]; exact hz y rfl))⟩
    obtain ⟨s', st', g', ⟨k1, hK⟩, k2, k3, k4, k5, k6⟩ := vsnap_ok h (he x (by rw [ho]; simp [Op.operands])) hv
    obtain ⟨r, h1, h2⟩ := pslice_ok (P := P) (vlo := lo.map a.eval) (vhi := hi.map a.eval) (vmx := mx.map a.eval) k3 (key g' st' k4 lo (fun y hy => by simp [Op.operands, hy])) (by cases lo <;> simp)
      (key g' st' k4 hi (fun y hy => by simp [Op.operands, hy])) (by cases hi <;> simp) (by cases mx <;> simp) k1
    exact ow_value (o := o) (u := r) (w' := w) (by simp [execOp, ho, h1]) (hn _ _ _ g' hK (k2.putd hd h2))
  · rename_i f first cap ho
    obtain ⟨h1, hv⟩ := hv
    have hss : SRs g w st.rs (cap.toList.map e) (cap.toList.map a.eval) := SRs_map _ _ _ (fun x hx => he x (by rw [ho]; simp [Op.operands]; right; simpa using hx))
    have e1 : first = #[] := by simpa using h1
    subst e1
    unfold vmf at hv
    split at hv
    · refine ow_value (o := o) (u := .func (.func f) #[] (cap.map a.eval)) (w' := w) (by simp [execOp, ho, Instr.makeFunc]) (hn _ _ _ g hv (h.putd hd ?_))
      rw [SR]
      refine ⟨cap.toList.map a.eval, ?_, hss⟩
      congr 1
      apply Array.ext'; simp
    obtain ⟨cs, st', g', hK, k2, k3, k4, k5⟩ := vcaps_ok _ _ st g _ h hss hv
    refine ow_value (o := o) (u := .func (.func f) #[] (cap.map a.eval)) (w' := w) (by simp [execOp, ho, Instr.makeFunc]) (hn _ _ _ g' hK (k2.putd hd ?_))
    rw [SR, CR]
    refine ⟨cap.toList.map a.eval, ?_, k3⟩
    congr 1
    apply Array.ext'; simp
  · rename_i t parts ho
    split at hv
    · rename_i i n ho1
      split at hv
      · rename_i nil sz xs fx hr
        obtain ⟨hB, hxn, hK⟩ := hv
        have hparts : ∃ x, parts.toList = [(0, x)] ∧ e x = .own i n := by
          unfold oneOwn at ho1
          cases hq : isOne (tySz P t) with
          | false => rw [hq] at ho1; cases ho1
          | true =>
            rw [hq, cond_true] at ho1
            split at ho1
            · rename_i h1 h2
              simp at ho1
              obtain ⟨rfl, rfl⟩ := ho1
              match hp : parts.toList, h1, h2 with
              | [(k, x)], h1, h2 =>
                simp at h1 h2
                exact ⟨x, by rw [h1], h2⟩
            · cases ho1
        obtain ⟨x, hpx, hex⟩ := hparts
        have hsx := he x (by rw [ho]; simp [Op.operands]; exact ⟨0, by rw [← Array.mem_toList_iff, hpx]; simp⟩)
        have hsx0 := hsx
        rw [hex, SR] at hsx0
        have hu := hsx0 nil sz xs fx hr hxn
        have h1c : (a.eval x).oneCell' = true := by
          rcases h.res i _ hr with ⟨_, _, q, _⟩ | ⟨_, b, cap, cur, E, q, _⟩ <;> rw [hu, q] <;> rfl
        have hd1 : PartsR g w st.rs [(0, .c (.v (a.eval x)))] (parts.map fun p => (p.1, a.eval p.2)).toList := by
          rw [Array.toList_map, hpx]
          simp only [List.map_cons, List.map_nil, PartsR, SR, CR]
          exact ⟨_, _, rfl, ⟨rfl, h1c⟩, rfl⟩
        obtain ⟨r, h1, h2⟩ := pbuild_ok (P := P) (t := t) hd1 (by rw [hB]; trivial)
        rw [hB, SR] at h2
        obtain ⟨us, rfl, h2⟩ := h2
        rw [VR] at h2
        obtain ⟨u, us', rfl, h3, h4⟩ := h2
        rw [VR] at h4
        subst h4
        rw [CR] at h3
        obtain ⟨rfl, _⟩ := h3
        refine ow_value (o := o) (u := .agg [a.eval x].toArray) (w' := w) (by simp [execOp, ho, h1]) (hn _ _ _ g hK (h.putd hd ?_))
        rw [SR]
        refine ⟨[a.eval x], rfl, ?_, by simpa using h1c⟩
        rw [SRs]
        exact ⟨_, _, rfl, by rw [← hex]; exact hsx, by rw [SRs]⟩
      · exact hv.elim
    have hss : SRs g w st.rs (parts.toList.map fun p => e p.2) (parts.toList.map fun p => a.eval p.2) := SRs_map _ _ _ (fun p hp => he p.2 (by rw [ho]; simp [Op.operands]; exact ⟨p.1, by simpa using hp⟩))
    obtain ⟨ss', st', g', ⟨hlen, k1, hK⟩, k2, k3, k4, k5, k6⟩ := vsnaps_ok _ _ st g _ h hss (vsnaps_length _ _ _ hv)
    have hparts : PartsR g' w st'.rs ((parts.toList.map (·.1)).zip ss') (parts.map fun p => (p.1, a.eval p.2)).toList := by
      have := PartsR_zip (g := g') (w := w) (parts.toList.map (·.1)) ss' _ (R := st'.rs) (by simpa using hlen.symm) k3
      have e1 : (parts.toList.map (·.1)).zip (parts.toList.map fun p => a.eval p.2) = (parts.map fun p => (p.1, a.eval p.2)).toList := by
        simp only [Array.toList_map]
        generalize parts.toList = l
        induction l with
        | nil => rfl
        | cons p r ih => simp only [List.map_cons, List.zip_cons_cons, ih]
      rw [e1] at this
      exact this
    obtain ⟨r, h1, h2⟩ := pbuild_ok (P := P) (t := t) hparts k1
    exact ow_value (o := o) (u := r) (w' := w) (by simp [execOp, ho, h1]) (hn _ _ _ g' hK (k2.putd hd h2))
  · rename_i t x ho
    exact vmkI_ok h hd ho (he x (by rw [ho]; simp [Op.operands])) hv hn
  · rename_i t ho
    obtain ⟨u, w', r1, r2⟩ := vmkMap_ok (P := P) (t := t) h hd hv hn
    exact ow_value (o := o) (u := u) (w' := w') (by simp [execOp, ho, r1]) r2
  · rename_i t m k ok ho
    obtain ⟨u, r1, r2⟩ := vlkup_ok h hd (he m (by rw [ho]; simp [Op.operands])) (he k (by rw [ho]; simp [Op.operands])) hv hn
    exact ow_value (o := o) (u := u) (w' := w) (by simp [execOp, ho, r1]) r2
  · rename_i t m k x ho
    obtain ⟨w', r1, r2⟩ := vmapUp_ok h hd (he m (by rw [ho]; simp [Op.operands])) (he k (by rw [ho]; simp [Op.operands])) (he x (by rw [ho]; simp [Op.operands])) hv hn
    exact ow_skip (o := o) (w' := w') (by simp [execOp, ho, r1]) r2
  · rename_i t m ho
    obtain ⟨u, w', r1, r2⟩ := vrange_ok (t := t) h hd (he m (by rw [ho]; simp [Op.operands])) hv hn
    exact ow_value (o := o) (u := u) (w' := w') (by simp [execOp, ho, r1]) r2
  · rename_i it ho
    obtain ⟨u, w', r1, r2⟩ := vnext_ok (P := P) (ty := o.type) h hd (he it (by rw [ho]; simp [Op.operands])) hv hn
    exact ow_value (o := o) (u := u) (w' := w') (by simp [execOp, ho, r1]) r2
  · rename_i it ho
    obtain ⟨u, r1, r2⟩ := ventry_ok (P := P) h hd (he it (by rw [ho]; simp [Op.operands])) hv hn
    exact ow_value (o := o) (u := u) (w' := w) (by simp [execOp, ho, r1]) r2
  · rename_i c ho
    split at hv
    · rename_i hcal
      split at hv
      · rename_i t xt d x hts hargs
        obtain ⟨cal, args, ats⟩ := c
        simp only at hcal hts hargs
        subst hcal
        have a1 : ats = #[t, xt] := by rw [← Array.toArray_toList (xs := ats), hts]
        have a2 : args = #[d, x] := by rw [← Array.toArray_toList (xs := args), hargs]
        subst a1; subst a2
        exact vappend_ok h hd ho (he d (by rw [ho]; simp [Op.operands, Call.operands])) (he x (by rw [ho]; simp [Op.operands, Call.operands])) hv hn
      · exact hv.elim
    · rename_i f hcal
      exact vcall_ok h hd ho hcal he hv hn
    · rename_i r name hcal
      exact vinv_ok h hd ho hcal he hv hn
    · rename_i hcal
      split at hv
      · rename_i t x hts hargs
        obtain ⟨cal, args, ats⟩ := c
        simp only at hcal hts hargs
        subst hcal
        have a1 : ats = #[t] := by rw [← Array.toArray_toList (xs := ats), hts]
        have a2 : args = #[x] := by rw [← Array.toArray_toList (xs := args), hargs]
        subst a1; subst a2
        exact vclear_ok h ho (he x (by rw [ho]; simp [Op.operands, Call.operands])) hv hn
      · exact hv.elim
    · exact pure_case hv
  · exact pure_case hv
end
end Go.VL
set_option linter.unusedSimpArgs false
set_option linter.unusedVariables false
namespace Go.VL
open Go.RowKit
def gslot (ops : Array Oper) (j : Nat) : Option Nat := (ops[j]?).bind (·.dst)
def gflag (ops : Array Oper) (st : St) : Option (Nat × Bool) → Option Bool
  | none => some true
  | some (j, want) =>
    match gslot ops j with
    | some t =>
      match st.get t with
      | .c (.v (.bool b)) => some (b == want)
      | .g p (.c (.v (.bool b))) => some (p && (b == want))
      | _ => none
    | none => none
def peel : S → S
  | .g _ s => s
  | s => s
def flagOf : S → Bool
  | .g p _ => p
  | _ => true
def sbool : S → Option (Bool × Bool)
  | .c (.v (.bool b)) => some (true, b)
  | .g p (.c (.v (.bool b))) => some (p, b)
  | _ => none
def vpick (q : Bool) (c a b : S) : S × Prop :=
  match sbool c, sbool a, sbool b with
  | some (pc, bc), some (pa, x), some (pb, y) => (bl (bif bc then x else y), q = true → pc = true ∧ (bc = true → pa = true) ∧ (bc = false → pb = true))
  | _, _, _ => no
def frozenD (st : St) : S → S × Prop
  | .own i n =>
    match st.rs i with
    | some (.arr nil _ xs fx) => (.c (.sl nil xs), xs.length = n ∧ fx = xs.length)
    | _ => no
  | .c x => (.c x, True)
  | .agg cs => (.agg cs, True)
  | _ => no
def frozenDs (st : St) : List S → List S × Prop
  | [] => ([], True)
  | s :: r => ((frozenD st s).1 :: (frozenDs st r).1, (frozenD st s).2 ∧ (frozenDs st r).2)
def dataR : Rt → Option S
  | .c x => some (.c x)
  | .ag cs => some (.agg cs)
  | .fr .. => none
def dataRs : List Rt → Option (List S)
  | [] => some []
  | r :: rest => match dataR r, dataRs rest with
    | some s, some l => some (s :: l)
    | _, _ => none
def retD (rs : List Rt) : Option S :=
  match dataRs rs with
  | some [s] => some s
  | some l => some (.tup l)
  | none => none
def pcall (P : Program) (st : St) (f : S) (args : List S) (rs : List Rt) : Prop :=
  match f with
  | .c (.fn fid caps) => (frozenDs st args).2 ∧ Con P fid ((frozenDs st args).1 ++ caps.map .c) rs
  | _ => False
def wrapg (gd : Option (Nat × Bool)) (q : Bool) (s : S) : S :=
  match gd with
  | none => s
  | some _ => .g q s
def PStep (P : Program) (ops : Array Oper) (st : St) (o : Oper) (k : S → Prop) : Prop :=
  match gflag ops st o.guard with
  | none => False
  | some q =>
    match o.op with
    | .pick c a b => (vpick q (st.ev c) (st.ev a) (st.ev b)).2 ∧ k (wrapg o.guard q (vpick q (st.ev c) (st.ev a) (st.ev b)).1)
    | .call c =>
      match c.callee with
      | .value f => ∃ rs s, (q = true → (o.op.operands.toList.all fun x => flagOf (st.ev x)) = true ∧ pcall P st (peel (st.ev f)) (c.args.toList.map fun x => peel (st.ev x)) rs) ∧ retD rs = some s ∧ k (wrapg o.guard q s)
      | _ => (q = true → (o.op.operands.toList.all fun x => flagOf (st.ev x)) = true ∧ (pev P st (fun x => peel (st.ev x)) o.op).2) ∧ k (wrapg o.guard q (pev P st (fun x => peel (st.ev x)) o.op).1)
    | _ => (q = true → (o.op.operands.toList.all fun x => flagOf (st.ev x)) = true ∧ (pev P st (fun x => peel (st.ev x)) o.op).2) ∧ k (wrapg o.guard q (pev P st (fun x => peel (st.ev x)) o.op).1)
def isPick : Op → Bool
  | .pick .. => true
  | _ => false
def vstep (P : Program) (ops : Array Oper) (st : St) (o : Oper) (K : St → Prop) : Prop :=
  match o.guard with
  | none => bif isPick o.op then PStep P ops st o fun s => K (st.putd o.dst s) else vop P o.dst st st.ev o.op K
  | some _ => PStep P ops st o fun s => K (st.putd o.dst s)
def effL (st : St) (op : Op) : Bool :=
  match op with
  | .buildSlice .. => true
  | .alloc _ => true
  | .call c =>
    match c.callee with
    | .value _ => (c.args.toList.map fun x => peel (st.ev x)).any lendS
    | .builtin .append => true
    | _ => false
  | _ => false
def glend (P : Program) (ops : Array Oper) (st : St) (o : Oper) (K : St → Prop) : Prop :=
  match o.guard with
  | some gd => effL st o.op = true ∧ gflag ops st (some gd) = some true ∧ (o.op.operands.toList.all fun x => flagOf (st.ev x)) = true ∧ vop P o.dst st (fun x => peel (st.ev x)) o.op K
  | none => False
def vstepL (P : Program) (ops : Array Oper) (st : St) (o : Oper) (K : St → Prop) : Prop := vstep P ops st o K ∨ glend P ops st o K
def vr (P : Program) (ops : Array Oper) : List Oper → St → (St → Prop) → Prop
  | [], st, K => K st
  | o :: r, st, K => vstepL P ops st o fun st' => vr P ops r st' K
def opOk (nt : Nat) (o : Oper) : Bool :=
  (match o.dst with | some t => decide (t < nt) | none => true) && (match o.op with | .store .. => o.dst.isNone | _ => true)
theorem opOk_dst {nt : Nat} {o : Oper} (h : opOk nt o = true) : ∀ t, o.dst = some t → t < nt := by
  intro t ht
  simp only [opOk, Bool.and_eq_true] at h
  rw [ht] at h
  simpa using h.1
theorem opOk_store {nt : Nat} {o : Oper} (h : opOk nt o = true) : ∀ t x y, o.op = .store t x y → o.dst = none := by
  intro t x y ht
  simp only [opOk, Bool.and_eq_true] at h
  rw [ht] at h
  simpa using h.2
section
variable {P : Program} {w0 : World} {K0 : K0T} {nt : Nat} {st : St} {a : Act} {w : World} {g : G} {ops : Array Oper}
theorem SR_bool {R : Nat → Option Res} {b : Bool} {u : Value} (h : SR g w R (.c (.v (.bool b))) u) : u = .bool b := by
  simp only [SR, CR] at h; exact h.1
theorem gflag_ok (h : T w0 K0 nt st a w g) {gd : Option (Nat × Bool)} {q : Bool} (hq : gflag ops st gd = some q) (o : Oper) (ho : o.guard = gd) : Region.wanted o (yielded ops a.tmps) = q := by
  unfold gflag at hq
  split at hq
  · cases hq; simp [Region.wanted, ho]
  · rename_i j want
    split at hq
    · rename_i t ht
      have henv := h.env t
      have hy : ∀ b, a.tmps.getD t undef = .bool b → yielded ops a.tmps j = some b := fun b hb => by
        have : a.tmps[t]? = some (.bool b) := by
          rw [Array.getD_eq_getD_getElem?] at hb
          cases e : a.tmps[t]? with
          | none => rw [e] at hb; simp [undef] at hb
          | some v => rw [e] at hb; simp at hb; rw [hb]
        unfold gslot at ht
        simp [yielded, ht, this]
      have hu : a.tmps.getD t undef = undef → yielded ops a.tmps j = none := fun hb => by
        unfold gslot at ht
        simp only [yielded, ht, Option.bind_some]
        rw [Array.getD_eq_getD_getElem?] at hb
        cases e : a.tmps[t]? with
        | none => rfl
        | some v => rw [e] at hb; simp at hb; subst hb; rfl
      split at hq
      · rename_i b hb
        cases hq
        rw [hb] at henv
        simp [Region.wanted, ho, hy b (SR_bool henv)]
      · rename_i p b hb
        cases hq
        rw [hb, SR] at henv
        cases p with
        | true => simp [Region.wanted, ho, hy b (SR_bool (henv.1 rfl))]
        | false => simp [Region.wanted, ho, hu (henv.2 rfl)]
      · cases hq
    · cases hq
theorem peel_ok {R : Nat → Option Res} {s : S} {u : Value} (h : SR g w R s u) (hf : flagOf s = true) : SR g w R (peel s) u := by
  cases s with
  | g p s => simp only [flagOf] at hf; subst hf; rw [SR] at h; exact h.1 rfl
  | _ => exact h
theorem sbool_ok {R : Nat → Option Res} {s : S} {p b : Bool} {u : Value} (hs : sbool s = some (p, b)) (h : SR g w R s u) (hp : p = true) : u = .bool b := by
  unfold sbool at hs
  split at hs
  · cases hs; exact SR_bool h
  · cases hs; subst hp; rw [SR] at h; exact SR_bool (h.1 rfl)
  · cases hs
theorem wrapg_ok {R : Nat → Option Res} {gd : Option (Nat × Bool)} {q : Bool} {s : S} {u : Value} (hq : q = true) (h : SR g w R s u) : SR g w R (wrapg gd q s) u := by
  subst hq
  cases gd with
  | none => exact h
  | some x => simp only [wrapg, SR]; exact ⟨fun _ => h, fun e => by cases e⟩
theorem frozenDs_ok (h : T w0 K0 nt st a w g) : ∀ (ss : List S) (us : List Value), SRs g w st.rs ss us → (frozenDs st ss).2 → SRs g w st.rs (frozenDs st ss).1 us
  | [], us, hs, _ => hs
  | s :: r, us, hs, hf => by
    rw [SRs] at hs
    obtain ⟨u, us', rfl, h1, h2⟩ := hs
    obtain ⟨f1, f2⟩ := hf
    simp only [frozenDs, SRs]
    refine ⟨u, us', rfl, ?_, frozenDs_ok h r us' h2 f2⟩
    unfold frozenD at f1 ⊢
    split at f1
    · rename_i i n
      split at f1
      · rename_i nil sz xs fx hr
        obtain ⟨e1, e2⟩ := f1
        subst e2
        rw [SR] at h1
        have hu := h1 nil sz xs _ hr e1
        have := (h.res i _ hr).datum
        rw [← hu] at this
        simp only [SR]
        exact this
      · exact f1.elim
    · exact h1
    · exact h1
    · exact f1.elim
def stepW (P : Program) (ops : Array Oper) (o : Oper) (a : Act) (w : World) (next : Act → World → Prop) (Q : Exit → Act → World → Prop) : Prop :=
  if Region.wanted o (yielded ops a.tmps) then o.wp P a w next Q else next (a.put o.dst undef) w
theorem dataR_ok {K : Nat → Nat → Prop} {R : Nat → Option Res} {l : Nat → Value} {B : Nat} {r : Rt} {s : S} {v : Value} (h : dataR r = some s) (hr : RtR K w B r v) : SR ⟨K, l⟩ w R s v := by
  cases r with
  | c x => simp [dataR] at h; subst h; rw [SR]; rw [RtR] at hr; exact hr
  | ag cs => simp [dataR] at h; subst h; rw [SR]; rw [RtR] at hr; exact hr
  | fr => simp [dataR] at h
theorem dataRs_ok {K : Nat → Nat → Prop} {R : Nat → Option Res} {l : Nat → Value} {B : Nat} : ∀ (rs : List Rt) (ss : List S) (vs : List Value), dataRs rs = some ss → RtRs K w B rs vs → SRs ⟨K, l⟩ w R ss vs
  | [], ss, vs, h, hr => by
    simp [dataRs] at h
    subst h
    have : vs = [] := List.eq_nil_of_length_eq_zero (by simpa using hr.1)
    subst this
    rw [SRs]
  | r :: rest, ss, vs, h, hr => by
    rw [dataRs] at h
    split at h
    · rename_i s l h1 h2
      cases h
      obtain ⟨e1, e2, e3⟩ := hr
      cases vs with
      | nil => simp at e1
      | cons v vs =>
        rw [SRs]
        refine ⟨v, vs, rfl, dataR_ok h1 (e2 0 r v rfl rfl), dataRs_ok rest l vs h2 ⟨by simpa using e1, fun k r' v' f1 f2 => e2 (k + 1) r' v' (by simpa using f1) (by simpa using f2), fun j k r1 r2 v1 v2 hjk f1 f2 f3 f4 =>
          e3 (j + 1) (k + 1) r1 r2 v1 v2 (by omega) (by simpa using f1) (by simpa using f2) (by simpa using f3) (by simpa using f4)⟩⟩
    · cases h
theorem retD_ok {K : Nat → Nat → Prop} {R : Nat → Option Res} {l : Nat → Value} {B : Nat} {rs : List Rt} {s : S} {vs : List Value} (h : retD rs = some s) (hr : RtRs K w B rs vs) : SR ⟨K, l⟩ w R s (retV vs) := by
  unfold retD at h
  split at h
  · rename_i s' hd
    cases h
    have := dataRs_ok (R := R) (l := l) rs _ vs hd hr
    rw [SRs] at this
    obtain ⟨u, us', rfl, h1, h2⟩ := this
    rw [SRs] at h2
    subst h2
    exact h1
  · rename_i ss hne hd
    cases h
    have := dataRs_ok (R := R) (l := l) rs _ vs hd hr
    have hl := ((SRs_iff ss vs).1 this).1
    have hv : retV vs = .tuple vs.toArray := by
      unfold retV
      split
      · rename_i v
        exfalso
        match ss, hl with
        | [x], _ => exact hne x rfl
      · rfl
    rw [hv, SR]
    exact ⟨vs, rfl, this⟩
  · cases h
theorem pcall_ok (h : T w0 K0 nt st a w g) {o : Oper} {c : Call} {f : Operand} (ho : o.op = .call c) (hc : c.callee = .value f) (e : Operand → S) (he : ∀ x ∈ o.op.operands.toList, SR g w st.rs (e x) (a.eval x)) {rs : List Rt} {s : S}
    (hp : pcall P st (e f) (c.args.toList.map e) rs) (hs : retD rs = some s) {next : Act → World → Prop} {Q : Exit → Act → World → Prop}
    (hn : ∀ (u : Value) w' g', T w0 K0 nt st a w' g' → SR g' w' st.rs s u → next (a.put o.dst u) w') : o.wp P a w next Q := by
  have hef : SR g w st.rs (e f) (a.eval f) := he f (by rw [ho]; simp [Op.operands, Call.operands, hc])
  have hargs : SRs g w st.rs (c.args.toList.map e) (c.args.toList.map a.eval) := SRs_map _ _ _ (fun x hx => he x (by rw [ho]; simp [Op.operands, Call.operands, hc]; exact .inr (by simpa using hx)))
  unfold pcall at hp
  split at hp
  · rename_i fid caps hf
    obtain ⟨hfd, hsp⟩ := hp
    rw [hf] at hef
    have k3 := frozenDs_ok h _ _ hargs hfd
    simp only [SR, CR] at hef
    obtain ⟨us, hfv, hcv⟩ := hef
    have hcaps : SRs g w st.rs (caps.map .c) us := by
      rw [SRs_iff]
      obtain ⟨q1, q2⟩ := (VR_iff _ _).1 hcv
      refine ⟨by simp [q1], fun k s u e1 e2 => ?_⟩
      simp only [List.getElem?_map, Option.map_eq_some_iff] at e1
      obtain ⟨d, e1, rfl⟩ := e1
      rw [SR]; exact q2 k d u e1 e2
    have hall : SRs g w st.rs ((frozenDs st (c.args.toList.map e)).1 ++ caps.map .c) (c.args.toList.map a.eval ++ us) := by
      rw [SRs_iff] at k3 hcaps ⊢
      refine ⟨by simp [k3.1, hcaps.1], fun k s u e1 e2 => ?_⟩
      by_cases hlt : k < (frozenDs st (c.args.toList.map e)).1.length
      · rw [List.getElem?_append_left hlt] at e1
        rw [List.getElem?_append_left (by rw [k3.1]; exact hlt)] at e2
        exact k3.2 k s u e1 e2
      · rw [List.getElem?_append_right (by omega)] at e1
        rw [List.getElem?_append_right (by rw [k3.1]; omega), k3.1] at e2
        exact hcaps.2 _ s u e1 e2
    refine wp_runs ho hc hfv (hsp w g.K _ h.klt (DRs_of hall)) fun en w' hpost => ?_
    obtain ⟨vs, rfl, hbel, K', p1, p2, p3, p4⟩ := hpost
    refine ⟨_, rfl, ?_⟩
    have hB : w0.heap.size ≤ w.heap.size := h.below.size
    have hkeep : Keeps g.K w K' w' := ⟨p1, fun b o k => by
      have := h.klt b o k
      simp only [World.cell?]; rw [hbel.block b this]⟩
    have hT1 := h.world (Bel.of (hbel.mono hB)) hkeep (fun b o k hlt => h.kold b o (p2 b o k (by have := hlt.1; omega)) hlt) p3 (fun i r b hi hb => by
      have hlt := (h.res i r hi).lt hb
      exact ⟨hbel.block b hlt, fun o k => p2 b o k hlt⟩)
    exact hn _ _ _ hT1 (retD_ok hs p4)
  · exact hp.elim
theorem PStep_ok (h : T w0 K0 nt st a w g) {o : Oper} (hok : opOk nt o = true) {k : S → Prop} (hv : PStep P ops st o k) :
    ∃ s, k s ∧ ∀ (next : Act → World → Prop) (Q : Exit → Act → World → Prop), (∀ a' w' g', T w0 K0 nt (st.putd o.dst s) a' w' g' → next a' w') → stepW P ops o a w next Q := by
  unfold PStep at hv
  split at hv
  · exact hv.elim
  · rename_i q hq
    have hw := gflag_ok h hq o rfl
    have hd := opOk_dst hok
    have skip : q = false → ∀ s, ∀ (next : Act → World → Prop) (Q : Exit → Act → World → Prop), (∀ a' w' g', T w0 K0 nt (st.putd o.dst (wrapg o.guard q s)) a' w' g' → next a' w') → stepW P ops o a w next Q := by
      intro hq0 s next Q hn
      unfold stepW
      rw [hw, hq0]
      simp only [Bool.false_eq_true, if_false]
      refine hn _ w g (h.putd hd ?_)
      cases hg : o.guard with
      | none => rw [hg] at hq; simp [gflag] at hq; rw [hq] at hq0; cases hq0
      | some x => simp only [wrapg, SR]; exact ⟨(fun e => by rw [hq0] at e; cases e), fun _ => by trivial⟩
    have go : ∀ (s : S) (u : Value), q = true → (execOp a.eval o).run P w = .ok (.value u) w → SR g w st.rs s u → ∀ (next : Act → World → Prop) (Q : Exit → Act → World → Prop), (∀ a' w' g', T w0 K0 nt (st.putd o.dst (wrapg o.guard q s)) a' w' g' → next a' w') → stepW P ops o a w next Q := by
      intro s u hq1 hr hs next Q hn
      unfold stepW
      rw [hw, hq1]
      simp only [if_true]
      exact ow_value hr (hn _ w g (h.putd hd (wrapg_ok hq1 hs)))
    have pure_case : (q = true → (o.op.operands.toList.all fun x => flagOf (st.ev x)) = true ∧ (pev P st (fun x => peel (st.ev x)) o.op).2) ∧ k (wrapg o.guard q (pev P st (fun x => peel (st.ev x)) o.op).1) →
        ∃ s, k s ∧ ∀ (next : Act → World → Prop) (Q : Exit → Act → World → Prop), (∀ a' w' g', T w0 K0 nt (st.putd o.dst s) a' w' g' → next a' w') → stepW P ops o a w next Q := by
      rintro ⟨h1, h2⟩
      refine ⟨_, h2, fun next Q hn => ?_⟩
      cases q with
      | false => exact skip rfl _ next Q hn
      | true =>
        obtain ⟨f1, f2⟩ := h1 rfl
        obtain ⟨u, r1, r2⟩ := pev_ok h o (fun x => peel (st.ev x)) (fun x hx => peel_ok (h.ev x) (List.all_eq_true.1 f1 x hx)) f2
        exact go _ u rfl r1 r2 next Q hn
    split at hv
    · rename_i c x y ho
      obtain ⟨h1, h2⟩ := hv
      refine ⟨_, h2, fun next Q hn => ?_⟩
      cases q with
      | false => exact skip rfl _ next Q hn
      | true =>
        unfold vpick at h1
        split at h1
        · rename_i pc bc pa bx pb by' e1 e2 e3
          obtain ⟨f1, f2, f3⟩ := h1 rfl
          have ev : (vpick true (st.ev c) (st.ev x) (st.ev y)).1 = bl (bif bc then bx else by') := by simp [vpick, e1, e2, e3]
          rw [ev] at hn
          have hc := sbool_ok e1 (h.ev c) f1
          refine go (bl (bif bc then bx else by')) (.bool (bif bc then bx else by')) rfl ?_ (bl_SR _) next Q hn
          cases bc with
          | true => have hx := sbool_ok e2 (h.ev x) (f2 rfl); simp [execOp, ho, hc, asBool, hx]
          | false => have hx := sbool_ok e3 (h.ev y) (f3 rfl); simp [execOp, ho, hc, asBool, hx]
        · exact h1.elim
    · rename_i c ho
      split at hv
      · rename_i f hcal
        obtain ⟨rs, s, h1, h2, h3⟩ := hv
        refine ⟨_, h3, fun next Q hn => ?_⟩
        cases q with
        | false => exact skip rfl _ next Q hn
        | true =>
          obtain ⟨f1, f2⟩ := h1 rfl
          unfold stepW
          rw [hw]
          simp only [if_true]
          refine pcall_ok h ho hcal (fun x => peel (st.ev x)) (fun x hx => peel_ok (h.ev x) (List.all_eq_true.1 f1 x hx)) f2 h2 (fun u w' g' hT hs => hn _ w' g' (hT.putd hd (wrapg_ok rfl hs)))
      · exact pure_case hv
    · exact pure_case hv
theorem vstep_ok (h : T w0 K0 nt st a w g) {o : Oper} (hok : opOk nt o = true) {K : St → Prop} (hv : vstep P ops st o K) (next : Act → World → Prop) (Q : Exit → Act → World → Prop)
    (hn : ∀ st' a' w' g', K st' → T w0 K0 nt st' a' w' g' → next a' w') : stepW P ops o a w next Q := by
  have ps : (PStep P ops st o fun s => K (st.putd o.dst s)) → stepW P ops o a w next Q := fun hv => by
    obtain ⟨s, h1, h2⟩ := PStep_ok h hok hv
    exact h2 next Q (fun a' w' g' hT => hn _ _ _ _ h1 hT)
  unfold vstep at hv
  split at hv
  · rename_i hg
    cases hp : isPick o.op with
    | true => rw [hp] at hv; exact ps hv
    | false =>
      rw [hp] at hv
      unfold stepW
      have : Region.wanted o (yielded ops a.tmps) = true := by simp [Region.wanted, hg]
      rw [this, if_pos rfl]
      exact vop_ok h (opOk_dst hok) (opOk_store hok) (fun x _ => h.ev x) hv hn
  · exact ps hv
theorem glend_ok (h : T w0 K0 nt st a w g) {o : Oper} (hok : opOk nt o = true) {K : St → Prop} (hv : glend P ops st o K) (next : Act → World → Prop) (Q : Exit → Act → World → Prop)
    (hn : ∀ st' a' w' g', K st' → T w0 K0 nt st' a' w' g' → next a' w') : stepW P ops o a w next Q := by
  unfold glend at hv
  split at hv
  · rename_i gd hg
    obtain ⟨_, h1, h2, h4⟩ := hv
    have hw := gflag_ok h h1 o hg
    unfold stepW
    rw [hw, if_pos rfl]
    exact vop_ok (e := fun x => peel (st.ev x)) h (opOk_dst hok) (opOk_store hok) (fun x hx => peel_ok (h.ev x) (List.all_eq_true.1 h2 x hx)) h4 hn
  · exact hv.elim
theorem vstepL_ok (h : T w0 K0 nt st a w g) {o : Oper} (hok : opOk nt o = true) {K : St → Prop} (hv : vstepL P ops st o K) (next : Act → World → Prop) (Q : Exit → Act → World → Prop)
    (hn : ∀ st' a' w' g', K st' → T w0 K0 nt st' a' w' g' → next a' w') : stepW P ops o a w next Q := by
  rcases hv with hv | hv
  · exact vstep_ok h hok hv next Q hn
  · exact glend_ok h hok hv next Q hn
theorem vr_ok {Q : Exit → Act → World → Prop} : ∀ (l : List Oper) (st : St) (a : Act) (w : World) (g : G) (K : St → Prop), T w0 K0 nt st a w g → (l.all (opOk nt)) = true → vr P ops l st K →
    (∀ st' a' w' g', K st' → T w0 K0 nt st' a' w' g' → Q .normal a' w') → wpList P ops Q l a w
  | [], st, a, w, g, K, h, _, hv, hn => hn _ _ _ _ hv h
  | o :: r, st, a, w, g, K, h, hok, hv, hn => by
    simp only [List.all_cons, Bool.and_eq_true] at hok
    have := vstepL_ok h hok.1 hv (wpList P ops Q r) Q (fun st' a' w' g' h1 h2 => vr_ok r st' a' w' g' K h2 hok.2 h1 hn)
    unfold stepW at this
    unfold wpList
    split
    · rename_i hw; rw [if_pos hw] at this; exact .inl this
    · rename_i hw; rw [if_neg hw] at this; exact this
end
def VW (P : Program) (w0 : World) (K0 : K0T) (nt : Nat) (c : Code) (st : St) (Q : Exit → St → Prop) : Prop :=
  ∀ a w g, T w0 K0 nt st a w g → c.wp P (fun e a' w' => ∃ st' g', Q e st' ∧ T w0 K0 nt st' a' w' g') a w
def codeOk (nt : Nat) : Code → Bool
  | .region _ ops _ => ops.toList.all (opOk nt)
  | .seq a b => codeOk nt a && codeOk nt b
  | .cond _ a b => codeOk nt a && codeOk nt b
  | .block _ c => codeOk nt c
  | .loop c => codeOk nt c
  | _ => true
def seqQ (k : St → Prop) (Q : Exit → St → Prop) : Exit → St → Prop
  | .normal, st => k st
  | e, st => Q e st
def blkQ (id : Nat) (Q : Exit → St → Prop) : Exit → St → Prop
  | .exit id', st => if id' = id then Q .normal st else Q (.exit id') st
  | e, st => Q e st
def vc (P : Program) (w0 : World) (K0 : K0T) (nt : Nat) : Code → St → (Exit → St → Prop) → Prop
  | .skip, st, Q => Q .normal st
  | .label _, st, Q => Q .normal st
  | .region id ops d, st, Q => bif d then VW P w0 K0 nt (.region id ops true) st Q else vr P ops ops.toList st (Q .normal)
  | .seq x y, st, Q => vc P w0 K0 nt x st (seqQ (fun st' => vc P w0 K0 nt y st' Q) Q)
  | .cond c x y, st, Q =>
    match st.ev c with
    | .c (.v (.bool b)) => (b = true → vc P w0 K0 nt x st Q) ∧ (b = false → vc P w0 K0 nt y st Q)
    | _ => False
  | .block id c, st, Q => vc P w0 K0 nt c st (blkQ id Q)
  | .exit id, st, Q => Q (.exit id) st
  | .ret, st, Q => Q .ret st
  | .loop c, st, Q => VW P w0 K0 nt (.loop c) st Q
  | .rangeFunc f p as b, st, Q => VW P w0 K0 nt (.rangeFunc f p as b) st Q
  | .scope b, st, Q => VW P w0 K0 nt (.scope b) st Q
  | .goto l, st, Q => VW P w0 K0 nt (.goto l) st Q
  | .refuse why, st, Q => VW P w0 K0 nt (.refuse why) st Q
theorem vw_mono {P : Program} {w0 : World} {K0 : K0T} {nt : Nat} {c : Code} {st : St} {Q Q' : Exit → St → Prop} (h : VW P w0 K0 nt c st Q) (hq : ∀ e st', Q e st' → Q' e st') : VW P w0 K0 nt c st Q' :=
  fun a w g hT => wp_mono (h a w g hT) fun _ _ _ ⟨st', g', h1, h2⟩ => ⟨st', g', hq _ _ h1, h2⟩
theorem vc_ok {P : Program} {w0 : World} {K0 : K0T} {nt : Nat} : ∀ (c : Code) (st : St) (Q : Exit → St → Prop), codeOk nt c = true → vc P w0 K0 nt c st Q → VW P w0 K0 nt c st Q
  | .skip, st, Q, _, h => fun a w g hT => wp_skip ⟨st, g, h, hT⟩
  | .label l, st, Q, _, h => fun a w g hT => wp_label ⟨st, g, h, hT⟩
  | .region id ops d, st, Q, hok, h => fun a w g hT => by
    rw [vc] at h
    cases d with
    | true => exact h a w g hT
    | false => exact wp_region_list (vr_ok ops.toList st a w g _ hT (by simpa [codeOk] using hok) h (fun st' a' w' g' h1 h2 => ⟨st', g', h1, h2⟩))
  | .seq x y, st, Q, hok, h => fun a w g hT => by
    simp only [codeOk, Bool.and_eq_true] at hok
    rw [vc] at h
    refine wp_seq (wp_mono (vc_ok x st _ hok.1 h a w g hT) fun e a' w' ⟨st', g', h1, h2⟩ => ?_)
    cases e with
    | normal => exact vc_ok y st' Q hok.2 h1 a' w' g' h2
    | _ => exact ⟨st', g', h1, h2⟩
  | .cond c x y, st, Q, hok, h => fun a w g hT => by
    simp only [codeOk, Bool.and_eq_true] at hok
    rw [vc] at h
    split at h
    · rename_i b hb
      have hc := hT.ev c
      rw [hb] at hc
      have hcv := SR_bool hc
      refine wp_cond_split hcv (fun hb => ?_) (fun hb => ?_)
      · exact vc_ok x st Q hok.1 (h.1 hb) a w g hT
      · exact vc_ok y st Q hok.2 (h.2 hb) a w g hT
    · exact h.elim
  | .block id c, st, Q, hok, h => fun a w g hT => by
    rw [vc] at h
    refine wp_block (wp_mono (vc_ok c st _ (by simpa [codeOk] using hok) h a w g hT) fun e a' w' ⟨st', g', h1, h2⟩ => ?_)
    cases e with
    | exit id' =>
      simp only [Exit.inBlock]
      simp only [blkQ] at h1
      split
      · rename_i e; rw [if_pos e] at h1; exact ⟨st', g', h1, h2⟩
      · rename_i e; rw [if_neg e] at h1; exact ⟨st', g', h1, h2⟩
    | _ => exact ⟨st', g', h1, h2⟩
  | .exit id, st, Q, _, h => fun a w g hT => wp_exit ⟨st, g, h, hT⟩
  | .ret, st, Q, _, h => fun a w g hT => wp_ret ⟨st, g, h, hT⟩
  | .loop c, st, Q, _, h => by rw [vc] at h; exact h
  | .rangeFunc f p as b, st, Q, _, h => by rw [vc] at h; exact h
  | .scope b, st, Q, _, h => by rw [vc] at h; exact h
  | .goto l, st, Q, _, h => by rw [vc] at h; exact h
  | .refuse why, st, Q, _, h => by rw [vc] at h; exact h
def St.le (st st' : St) : Prop := (∀ p ∈ st'.env, st.get p.1 = st'.get p.1) ∧ ∀ p ∈ st'.res, st.rs p.1 = st'.rs p.1
theorem vlook_none {α : Type} (d : α) : ∀ (l : List (Nat × α)) (t : Nat), (∀ p ∈ l, p.1 ≠ t) → vlook d l t = d
  | [], _, _ => rfl
  | (k, x) :: r, t, h => by
    have : (k == t) = false := by simpa using h (k, x) (by simp)
    rw [vlook, this]
    exact vlook_none d r t (fun p hp => h p (by simp [hp]))
theorem T.weaken {w0 : World} {K0 : K0T} {nt : Nat} {st st' : St} {a : Act} {w : World} {g : G} (h : T w0 K0 nt st a w g) (hle : st.le st') : T w0 K0 nt st' a w g := by
  have hrs : ∀ i r, st'.rs i = some r → st.rs i = some r := fun i r hr => by
    by_cases hx : ∃ p ∈ st'.res, p.1 = i
    · obtain ⟨p, hp, rfl⟩ := hx
      rw [hle.2 p hp]; exact hr
    · have := vlook_none none st'.res i (fun p hp e => hx ⟨p, hp, e⟩)
      unfold St.rs at hr
      rw [this] at hr
      cases hr
  have hc : ∀ i, Cmp g st.rs g st'.rs i := fun i => ⟨fun fz ss e => ⟨⟨fz, ss, hrs i _ e⟩, rfl⟩, fun nil sz xs fx e => ⟨⟨nil, xs, fx, hrs i _ e, rfl⟩, rfl⟩, fun kvs e => ⟨⟨kvs, hrs i _ e, rfl⟩, rfl⟩⟩
  refine ⟨h.below, h.k0, h.kold, h.klt, fun i r hr => ?_, fun i j r r' hi hj => h.dis i j r r' (hrs i r hi) (hrs j r' hj), fun t => ?_, h.nt, h.defers, h.keep⟩
  · exact RR.mono (Keeps.refl _ _) rfl (fun _ _ => ⟨rfl, fun _ k => k⟩) (fun _ _ _ _ _ j _ => hc j) (fun _ _ _ j _ => hc j) (fun _ _ j _ => hc j) (h.res i r (hrs i r hr))
  · by_cases hx : ∃ p ∈ st'.env, p.1 = t
    · obtain ⟨p, hp, rfl⟩ := hx
      rw [← hle.1 p hp]
      exact SR.mono (Keeps.refl _ _) _ _ (fun j _ => hc j) (h.env p.1)
    · have : st'.get t = .un := by
        unfold St.get
        exact vlook_none S.un st'.env t (fun p hp e => hx ⟨p, hp, e⟩)
      rw [this, SR]; trivial
theorem vw_loop {P : Program} {w0 : World} {K0 : K0T} {nt : Nat} {c : Code} {st : St} {Q : Exit → St → Prop} {ι : Type} (I : ι → St) (H : ι → Prop) (μ : ι → Nat) (i0 : ι) (hok : codeOk nt c = true) (h0 : H i0) (hst : st.le (I i0))
    (round : ∀ i, H i → vc P w0 K0 nt c (I i) (seqQ (fun st' => ∃ j, H j ∧ st'.le (I j) ∧ μ j < μ i) Q)) : VW P w0 K0 nt (.loop c) st Q := by
  intro a w g hT
  refine wp_loop_ghost (fun n a w => ∃ i g, μ i = n ∧ H i ∧ T w0 K0 nt (I i) a w g) (μ i0) ⟨i0, g, rfl, h0, hT.weaken hst⟩ (fun n a w hI => ?_)
  obtain ⟨i, g, rfl, hH, hT⟩ := hI
  refine wp_mono (vc_ok c (I i) _ hok (round i hH) a w g hT) fun e _ _ ⟨st', g', h1, h2⟩ => ?_
  cases e with
  | normal =>
    obtain ⟨j, k1, k2, k3⟩ := h1
    exact ⟨μ j, k3, j, g', rfl, k1, h2.weaken k2⟩
  | _ => exact ⟨st', g', h1, h2⟩
end Go.VL
set_option linter.unusedSimpArgs false
set_option linter.unusedVariables false
namespace Go.VL
open Go.RowKit
def initEnv : Nat → List S → List (Nat × S)
  | _, [] => []
  | k, s :: r => (k, s) :: initEnv (k + 1) r
def initSt (args : List S) : St := ⟨initEnv 0 args, []⟩
def rvs (P : Program) (st : St) : List ResultVar → (List S → St → Prop) → Prop
  | [], k => k [] st
  | .tmp t :: r, k => rvs P st r fun ss st' => k (st.get t :: ss) st'
  | .cell ad t :: r, k => vloadb P st t (st.get ad) fun s st1 => rvs P st1 r fun ss st' => k (s :: ss) st'
def asRt (st : St) (s : S) (r : Rt) : Prop :=
  match s, r with
  | .c x, .c y => x = y
  | .agg cs, .ag ds => cs = ds
  | .own i n, .fr nil sz xs fx => st.rs i = some (.arr nil sz xs fx) ∧ xs.length = n
  | .c (.sl true []), .fr nil _ xs fx => nil = true ∧ xs = [] ∧ fx = 0
  | _, _ => False
def ownNames : List S → List Rt → List Nat
  | .own i _ :: ss, .fr _ _ _ _ :: rs => i :: ownNames ss rs
  | _ :: ss, _ :: rs => ownNames ss rs
  | _, _ => []
def asRts (st : St) : List S → List Rt → Prop
  | [], [] => True
  | s :: ss, r :: rs => asRt st s r ∧ asRts st ss rs
  | _, _ => False
def retQ (P : Program) (fn : Func) (rs : List Rt) : Exit → St → Prop
  | .normal, st => rvs P st fn.results.toList fun ss st' => asRts st' ss rs ∧ (ownNames ss rs).Nodup
  | .ret, st => rvs P st fn.results.toList fun ss st' => asRts st' ss rs ∧ (ownNames ss rs).Nodup
  | _, _ => False
def resOf (tmps : Array Value) : ResultVar → Sem Value
  | .tmp t => pure (tmps.getD t undef)
  | .cell a t => do loadVar t (← asAddr (tmps.getD a undef))
section
variable {P : Program} {w0 : World} {K0 : K0T} {nt : Nat} {st : St} {a : Act} {w : World} {g : G}
theorem vlook_init : ∀ (args : List S) (k t : Nat), vlook S.un (initEnv k args) t = if k ≤ t then (args[t - k]?).getD .un else .un
  | [], k, t => by simp [initEnv, vlook]
  | s :: r, k, t => by
    rw [initEnv, vlook]
    by_cases h : k = t
    · subst h; simp
    · have : (k == t) = false := by simpa using h
      rw [this, cond_false, vlook_init r (k + 1) t]
      by_cases h1 : k ≤ t
      · rw [if_pos h1, if_pos (by omega)]
        have : t - k = (t - (k + 1)) + 1 := by omega
        rw [this]
        simp
      · rw [if_neg h1, if_neg (by omega)]
theorem T.init {K : Nat → Nat → Prop} {args : List S} {us : List Value} {n : Nat} (hK : ∀ b o, K b o → b < w.heap.size) (hargs : DRs K w args us) (hn : args.length ≤ n) :
    T w ⟨K, fun _ => False, []⟩ n (initSt args) { tmps := us.toArray ++ Array.replicate (n - us.toArray.size) undef, defers := [] } w ⟨K, fun _ => undef⟩ := by
  obtain ⟨hl, hs⟩ := (SRs_iff _ _).1 hargs
  have hrs : (initSt args).rs = fun _ => none := by funext i; rfl
  refine ⟨Bel.refl _ _ _, fun _ _ k => k, fun _ _ k _ => k, hK, (fun i r h => by rw [hrs] at h; cases h), (fun i j r r' h => by rw [hrs] at h; cases h), fun t => ?_, (by simp; omega), rfl, fun _ _ _ => rfl⟩
  have hg : (initSt args).get t = (args[t]?).getD .un := by
    unfold St.get initSt
    rw [vlook_init]; simp
  rw [hg, hrs]
  cases e : args[t]? with
  | none => rw [Option.getD_none, SR]; trivial
  | some s =>
    have hlt : t < us.length := by rw [hl]; exact (List.getElem?_eq_some_iff.1 e).1
    have : (us.toArray ++ Array.replicate (n - us.toArray.size) undef).getD t undef = us[t] := by
      rw [Array.getD_eq_getD_getElem?, Array.getElem?_append_left (by simpa using hlt)]
      simp [hlt]
    simp only [Option.getD_some]
    rw [this]
    exact hs t s _ e (by simp [hlt])
theorem rvs_ok : ∀ (l : List ResultVar) (st : St) (g : G) (k : List S → St → Prop), T w0 K0 nt st a w g → rvs P st l k →
    ∃ vs ss st' g', (l.mapM (resOf a.tmps)).run P w = .ok vs w ∧ k ss st' ∧ T w0 K0 nt st' a w g' ∧ SRs g' w st'.rs ss vs ∧ (∀ s u, SR g w st.rs s u → SR g' w st'.rs s u)
  | [], st, g, k, h, hv => ⟨[], [], st, g, rfl, hv, h, by rw [SRs], fun _ _ h => h⟩
  | .tmp t :: r, st, g, k, h, hv => by
    rw [rvs] at hv
    obtain ⟨vs, ss, st', g', e1, e2, e3, e4, e5⟩ := rvs_ok r st g _ h hv
    refine ⟨a.tmps.getD t undef :: vs, st.get t :: ss, st', g', ?_, e2, e3, by rw [SRs]; exact ⟨_, _, rfl, e5 _ _ (h.env t), e4⟩, e5⟩
    simp only [List.mapM_cons, resOf, Sem.run_bind, Sem.run_pure, Result.andThen_ok, e1]
  | .cell ad t :: r, st, g, k, h, hv => by
    rw [rvs] at hv
    obtain ⟨v, s', st1, g1, f1, f2, f3, f4, f5, f6⟩ := vloadb_ok h (h.env ad) hv
    obtain ⟨vs, ss, st', g', e1, e2, e3, e4, e5⟩ := rvs_ok r st1 g1 _ f3 f2
    refine ⟨v :: vs, s' :: ss, st', g', ?_, e2, e3, by rw [SRs]; exact ⟨_, _, rfl, e5 _ _ f4, e4⟩, fun s u hh => e5 s u (f5 s u hh)⟩
    have hload : (resOf a.tmps (.cell ad t)).run P w = .ok v w := by
      show (do loadVar t (← asAddr (a.tmps.getD ad undef)) : Sem Value).run P w = .ok v w
      generalize a.tmps.getD ad undef = x at f1 ⊢
      cases x with
      | pointer p =>
        cases p with
        | none => simp [Instr.loadAt, Instr.sureAddr] at f1
        | some p => simpa [Instr.loadAt, Instr.sureAddr, asAddr] using f1
      | _ => simp [Instr.loadAt, Instr.sureAddr] at f1
    simp only [List.mapM_cons, Sem.run_bind, hload, Result.andThen_ok, e1, Sem.run_pure]
theorem asRts_ok (h : T w0 K0 nt st a w g) (hL : ∀ b, ¬ K0.L b) : ∀ (ss : List S) (rs : List Rt) (vs : List Value), SRs g w st.rs ss vs → asRts st ss rs → (ownNames ss rs).Nodup →
    RtRs g.K w w0.heap.size rs vs ∧ ∀ (k : Nat) r v, rs[k]? = some r → vs[k]? = some v → isFr r = true → ∀ b, blk v = some b → ∃ i r', i ∈ ownNames ss rs ∧ st.rs i = some r' ∧ blk (g.loc i) = some b
  | [], [], vs, hs, _, _ => by
    rw [SRs] at hs
    subst hs
    exact ⟨⟨rfl, by simp, by simp⟩, by simp⟩
  | [], _ :: _, vs, hs, ha, _ => by simp [asRts] at ha
  | _ :: _, [], vs, hs, ha, _ => by simp [asRts] at ha
  | s :: ss, r :: rs, vs, hs, ha, hnd => by
    rw [SRs] at hs
    obtain ⟨v, vs', rfl, h1, h2⟩ := hs
    obtain ⟨a1, a2⟩ := ha
    have hnd' : (ownNames ss rs).Nodup := by
      unfold ownNames at hnd
      split at hnd
      · rename_i heq1 heq2; cases heq1; cases heq2; exact (List.nodup_cons.1 hnd).2
      · rename_i heq1 heq2; cases heq1; cases heq2; exact hnd
      · rename_i hx; exact absurd rfl (hx s ss r rs rfl)
    obtain ⟨⟨l1, l2, l3⟩, l4⟩ := asRts_ok h hL ss rs vs' h2 a2 hnd'
    have hsub : ∀ i, i ∈ ownNames ss rs → i ∈ ownNames (s :: ss) (r :: rs) := fun i hi => by
      unfold ownNames
      split
      · rename_i heq1 heq2; cases heq1; cases heq2; exact List.mem_cons_of_mem _ hi
      · rename_i heq1 heq2; cases heq1; cases heq2; exact hi
      · rename_i hx; exact absurd rfl (hx s ss r rs rfl)
    have head : RtR g.K w w0.heap.size r v ∧ (isFr r = true → ∀ b, blk v = some b → ∃ i r', i ∈ ownNames (s :: ss) (r :: rs) ∧ i ∉ ownNames ss rs ∧ st.rs i = some r' ∧ blk (g.loc i) = some b) := by
      unfold asRt at a1
      split at a1
      · subst a1; rw [SR] at h1; exact ⟨by rw [RtR]; exact h1, fun e => by cases e⟩
      · subst a1; rw [SR] at h1; exact ⟨by rw [RtR]; exact h1, fun e => by cases e⟩
      · rename_i i n nil sz xs fx
        obtain ⟨e1, e2⟩ := a1
        rw [SR] at h1
        have hu := h1 nil sz xs fx e1 e2
        subst hu
        refine ⟨?_, fun _ b hb => ⟨i, _, by simp [ownNames], ?_, e1, hb⟩⟩
        · rw [RtR]
          have := h.res i _ e1
          rcases this with q | ⟨q0, b, cap, cur, E, q1, q2, q3⟩
          · exact .inl q
          · exact .inr ⟨q0, b, cap, cur, E, q1, Nat.le_of_not_lt (fun hh => q2 ⟨hh, hL b⟩), q3⟩
        · simp only [ownNames] at hnd
          exact (List.nodup_cons.1 hnd).1
      · rename_i nil sz xs fx
        obtain ⟨rfl, rfl, rfl⟩ := a1
        simp only [SR, CR] at h1
        have hv : v = .slice none 0 0 := by
          rcases h1 with ⟨_, _, q⟩ | ⟨q, _⟩
          · exact q
          · cases q
        subst hv
        exact ⟨by rw [RtR]; exact .inl ⟨rfl, rfl, rfl, rfl⟩, fun _ b hb => by simp [blk] at hb⟩
      · exact a1.elim
    refine ⟨⟨by simp [l1], fun k r' v' e1 e2 => ?_, fun j k r1 r2 v1 v2 hjk e1 e2 e3 e4 f1 f2 b hb hb2 => ?_⟩, fun k r' v' e1 e2 f b hb => ?_⟩
    · cases k with
      | zero => simp at e1 e2; subst e1; subst e2; exact head.1
      | succ k => exact l2 k r' v' (by simpa using e1) (by simpa using e2)
    · cases j with
      | zero =>
        cases k with
        | zero => exact hjk rfl
        | succ k =>
          simp at e1 e3
          subst e1; subst e3
          obtain ⟨i, r', m1, m2, m3, m4⟩ := head.2 f1 b hb
          obtain ⟨i', r'', n1, n2, n3⟩ := l4 k r2 v2 (by simpa using e2) (by simpa using e4) f2 b hb2
          exact h.dis i i' _ _ m3 n2 (fun e => m2 (e ▸ n1)) b m4 n3
      | succ j =>
        cases k with
        | zero =>
          simp at e2 e4
          subst e2; subst e4
          obtain ⟨i, r', m1, m2, m3, m4⟩ := head.2 f2 b hb2
          obtain ⟨i', r'', n1, n2, n3⟩ := l4 j r1 v1 (by simpa using e1) (by simpa using e3) f1 b hb
          exact h.dis i i' _ _ m3 n2 (fun e => m2 (e ▸ n1)) b m4 n3
        | succ k => exact l3 j k r1 r2 v1 v2 (by omega) (by simpa using e1) (by simpa using e2) (by simpa using e3) (by simpa using e4) f1 f2 b hb hb2
    · cases k with
      | zero =>
        simp at e1 e2; subst e1; subst e2
        obtain ⟨i, r', m1, m2, m3, m4⟩ := head.2 f b hb
        exact ⟨i, r', m1, m3, m4⟩
      | succ k =>
        obtain ⟨i, r'', n1, n2, n3⟩ := l4 k r' v' (by simpa using e1) (by simpa using e2) f b hb
        exact ⟨i, r'', hsub i n1, n2, n3⟩
theorem spec_of {f : FuncId} {fn : Func} {c : Code} {args : List S} {rs : List Rt} (hf : P.funcs[f]? = some fn) (hb : fn.body = some c) (hc : callable P f = true) (hn : args.length ≤ fn.ntmps)
    (hv : ∀ w0 K0, VW P w0 K0 fn.ntmps c (initSt args) (retQ P fn rs)) : Con P f args rs := by
  refine Con.of hc fun w K us hK hargs => ?_
  have hT := T.init (n := fn.ntmps) hK hargs hn
  refine calls_of_wp hf hb (wp_mono (hv w ⟨K, fun _ => False, []⟩ _ w _ hT) fun e a' w' ⟨st', g', h1, h2⟩ => ?_)
  have fin : (rvs P st' fn.results.toList fun ss st'' => asRts st'' ss rs ∧ (ownNames ss rs).Nodup) → a'.defers = [] ∧ ∃ v, (results fn a'.tmps).run P w' = .ok v w' ∧ ∃ vs : List Value, (Ending.returned v) = .returned (retV vs) ∧ BelowD w.heap.size w w' ∧
      ∃ K' : Nat → Nat → Prop, (∀ b o, K b o → K' b o) ∧ (∀ b o, K' b o → b < w.heap.size → K b o) ∧ (∀ b o, K' b o → b < w'.heap.size) ∧ RtRs K' w' w.heap.size rs vs := by
    intro hr
    obtain ⟨vs, ss, st'', g'', e1, ⟨e2, e2'⟩, e3, e4, e5⟩ := rvs_ok _ st' g' _ h2 hr
    refine ⟨h2.defers, retV vs, ?_, vs, rfl, ⟨⟨h2.below.os, h2.below.tape, h2.below.output, h2.below.size, fun k hk => h2.below.block k ⟨hk, id⟩⟩, h2.below.drawn⟩, g''.K, e3.k0, fun b o k hb => e3.kold b o k ⟨hb, id⟩, e3.klt, (asRts_ok e3 (fun _ => id) ss rs vs e4 e2 e2').1⟩
    have hres : results fn a'.tmps = (do let vs ← fn.results.mapM (resOf a'.tmps); pure (if h : vs.size = 1 then vs[0] else .tuple vs)) := by
      unfold results
      congr 1
    have hm : (fn.results.mapM (resOf a'.tmps)).run P w' = .ok vs.toArray w' := by
      rw [← Array.toArray_toList (xs := fn.results), List.mapM_toArray]
      simp only [Sem.run_map, e1, Result.andThen_ok]
    rw [hres, Sem.run_bind, hm, Result.andThen_ok, Sem.run_pure]
    congr 1
    match vs with
    | [] => rfl
    | [x] => rfl
    | x :: y :: r => simp [retV]
  cases e with
  | normal => exact fin h1
  | ret => exact fin h1
  | _ => exact h1.elim
end
end Go.VL
set_option linter.unusedSimpArgs false
set_option linter.unusedVariables false
namespace Go.VL
open Go.RowKit
def tick {α : Sort _} (x : α) : α := x
inductive Keep {α : Sort _} (x : α) : Type where
  | mk
def force {α : Sort _} (x : α) (k : α → Prop) (_ : Keep k := .mk) : Prop := k x
@[simp] theorem tick_eq {α : Sort _} (x : α) : tick x = x := rfl
@[simp] theorem force_eq {α : Sort _} (x : α) (k : α → Prop) (h : Keep k) : force x k h = k x := rfl
@[simp] theorem vlook_nil {α : Type} (d : α) (t : Nat) : vlook d [] t = d := rfl
@[simp] theorem vlook_cons {α : Type} (d : α) (k : Nat) (x : α) (r : List (Nat × α)) (t : Nat) : vlook d ((k, x) :: r) t = bif k == t then x else vlook d r t := rfl
@[simp] theorem get_mk (env : List (Nat × S)) (res : List (Nat × Option Res)) (t : Nat) : St.get ⟨env, res⟩ t = vlook .un env t := rfl
@[simp] theorem rs_mk (env : List (Nat × S)) (res : List (Nat × Option Res)) (t : Nat) : St.rs ⟨env, res⟩ t = vlook none res t := rfl
@[simp] theorem put_mk (env : List (Nat × S)) (res : List (Nat × Option Res)) (t : Nat) (s : S) : St.put ⟨env, res⟩ t s = ⟨(t, s) :: env, res⟩ := rfl
@[simp] theorem putd_some (st : St) (t : Nat) (s : S) : st.putd (some t) s = st.put t s := rfl
@[simp] theorem putd_none (st : St) (s : S) : st.putd none s = st := rfl
@[simp] theorem setR_mk (env : List (Nat × S)) (res : List (Nat × Option Res)) (i : Nat) (r : Option Res) : St.setR ⟨env, res⟩ i r = ⟨env, (i, r) :: res⟩ := rfl
@[simp] theorem clr_mk (env : List (Nat × S)) (res : List (Nat × Option Res)) (i : Nat) : St.clr ⟨env, res⟩ i = ⟨env.map fun p => (p.1, p.2.clr i), res.map fun p => (p.1, p.2.map (Res.clr i))⟩ := rfl
@[simp] theorem ev_tmp (st : St) (t : Nat) : st.ev (.tmp t) = st.get t := rfl
@[simp] theorem ev_const (st : St) (v : Value) : st.ev (.const v) = ofConst v := rfl
@[simp] theorem ev_func (st : St) (f : FuncId) : st.ev (.func f) = .c (.fn f []) := rfl
@[simp] theorem ofConst_int (k : IntKind) (n : Int) : ofConst (.int k n) = .c (.v (.int k n)) := rfl
@[simp] theorem ofConst_bool (b : Bool) : ofConst (.bool b) = .c (.v (.bool b)) := rfl
@[simp] theorem ofConst_string (s : ByteArray) : ofConst (.string s) = .c (.v (.string s)) := rfl
@[simp] theorem ofConst_slice : ofConst (.slice none 0 0) = .c (.sl true []) := rfl
@[simp] theorem ofConst_ptr : ofConst (.pointer none) = .c (.v (.pointer none)) := rfl
@[simp] theorem ofVal_int (k : IntKind) (n : Int) : ofVal (.int k n) = .v (.int k n) := rfl
@[simp] theorem ofVal_bool (b : Bool) : ofVal (.bool b) = .v (.bool b) := rfl
@[simp] theorem ofVal_string (s : ByteArray) : ofVal (.string s) = .v (.string s) := rfl
@[simp] theorem ofVal_slice : ofVal (.slice none 0 0) = .sl true [] := rfl
@[simp] theorem ofVal_ptr : ofVal (.pointer none) = .v (.pointer none) := rfl
@[simp] theorem ofConst_agg (l : List Value) : ofConst (.agg l.toArray) = if l.all (·.oneCell') then .agg (l.map ofVal) else .un := by simp [ofConst]
attribute [simp] S.clr S.clrs Res.clr S.men S.mens Value.oneCell'
section
variable {P : Program} {w0 : World} {K0 : K0T} {nt : Nat}
@[simp ↓] theorem vc_skip (st : St) (Q : Exit → St → Prop) : vc P w0 K0 nt .skip st Q = Q .normal st := by rw [vc]
@[simp ↓] theorem vc_label (l : Nat) (st : St) (Q : Exit → St → Prop) : vc P w0 K0 nt (.label l) st Q = Q .normal st := by rw [vc]
@[simp ↓] theorem vc_region (id : Nat) (ops : List Oper) (st : St) (Q : Exit → St → Prop) : vc P w0 K0 nt (.region id ops.toArray false) st Q = vr P ops.toArray ops st (Q .normal) := by rw [vc]; rfl
def VL (P : Program) (w0 : World) (K0 : K0T) (nt : Nat) (c : Code) (st : St) (Q : Exit → St → Prop) (_ : Keep c) (_ : Keep Q) : Prop := VW P w0 K0 nt c st Q
@[simp ↓] theorem vc_draw (id : Nat) (ops : Array Oper) (st : St) (Q : Exit → St → Prop) : vc P w0 K0 nt (.region id ops true) st Q = VL P w0 K0 nt (.region id ops true) (tick st) Q .mk .mk := by rw [vc]; rfl
@[simp ↓] theorem vc_loop (c : Code) (st : St) (Q : Exit → St → Prop) : vc P w0 K0 nt (.loop c) st Q = VL P w0 K0 nt (.loop c) (tick st) Q .mk .mk := by rw [vc]; rfl
@[simp ↓] theorem vc_seq (x y : Code) (st : St) (Q : Exit → St → Prop) : vc P w0 K0 nt (.seq x y) st Q = vc P w0 K0 nt x st (seqQ (fun st' => vc P w0 K0 nt y st' Q) Q) := by rw [vc]
@[simp ↓] theorem seqQ_normal (k : St → Prop) (Q : Exit → St → Prop) (st : St) : seqQ k Q .normal st = k st := rfl
@[simp ↓] theorem seqQ_exit (k : St → Prop) (Q : Exit → St → Prop) (st : St) (id : Nat) : seqQ k Q (.exit id) st = Q (.exit id) st := rfl
@[simp ↓] theorem seqQ_ret (k : St → Prop) (Q : Exit → St → Prop) (st : St) : seqQ k Q .ret st = Q .ret st := rfl
@[simp ↓] theorem blkQ_normal (id : Nat) (Q : Exit → St → Prop) (st : St) : blkQ id Q .normal st = Q .normal st := rfl
theorem blkQ_exit (id id' : Nat) (Q : Exit → St → Prop) (st : St) : blkQ id Q (.exit id') st = if id' = id then Q .normal st else Q (.exit id') st := rfl
@[simp ↓] theorem blkQ_exit_at (id : Nat) (Q : Exit → St → Prop) (st : St) : blkQ id Q (.exit id) st = Q .normal st := by rw [blkQ_exit, if_pos rfl]
@[simp ↓] theorem blkQ_exit_by (id id' : Nat) (Q : Exit → St → Prop) (st : St) (h : (id' == id) = false) : blkQ id Q (.exit id') st = Q (.exit id') st := by rw [blkQ_exit, if_neg (by simpa using h)]
@[simp ↓] theorem blkQ_ret (id : Nat) (Q : Exit → St → Prop) (st : St) : blkQ id Q .ret st = Q .ret st := rfl
@[simp ↓] theorem retQ_normal (fn : Func) (rs : List Rt) (st : St) : retQ P fn rs .normal st = rvs P st fn.results.toList fun ss st' => asRts st' ss rs ∧ (ownNames ss rs).Nodup := rfl
@[simp ↓] theorem retQ_ret (fn : Func) (rs : List Rt) (st : St) : retQ P fn rs .ret st = rvs P st fn.results.toList fun ss st' => asRts st' ss rs ∧ (ownNames ss rs).Nodup := rfl
@[simp ↓] theorem rvs_nil (st : St) (k : List S → St → Prop) : rvs P st [] k = k [] st := rfl
@[simp ↓] theorem rvs_tmp (st : St) (t : Nat) (r : List ResultVar) (k : List S → St → Prop) : rvs P st (.tmp t :: r) k = rvs P st r fun ss st' => k (st.get t :: ss) st' := rfl
@[simp ↓] theorem rvs_cell (st : St) (a t : Nat) (r : List ResultVar) (k : List S → St → Prop) : rvs P st (.cell a t :: r) k = force (tick (st.get a)) fun s => vloadb P st t s fun s st1 => force (tick st1) fun st1 => rvs P st1 r fun ss st' => k (s :: ss) st' := rfl
def vcond (s : S) (x y : Prop) : Prop :=
  match s with
  | .c (.v (.bool b)) => (b = true → x) ∧ (b = false → y)
  | _ => False
def VIf (b : Bool) (x y : Prop) (_ : Keep x) (_ : Keep y) : Prop := (b = true → x) ∧ (b = false → y)
theorem VIf.mk {b : Bool} {x y : Prop} {m1 : Keep x} {m2 : Keep y} (h1 : b = true → x) (h2 : b = false → y) : VIf b x y m1 m2 := ⟨h1, h2⟩
@[simp] theorem VIf_true (x y : Prop) (m1 : Keep x) (m2 : Keep y) : VIf true x y m1 m2 = x := by simp [VIf]
@[simp] theorem VIf_false (x y : Prop) (m1 : Keep x) (m2 : Keep y) : VIf false x y m1 m2 = y := by simp [VIf]
@[simp ↓] theorem vcond_bool (b : Bool) (x y : Prop) : vcond (.c (.v (.bool b))) x y = VIf (tick b) x y .mk .mk := rfl
@[simp ↓] theorem vc_cond (c : Operand) (x y : Code) (st : St) (Q : Exit → St → Prop) : vc P w0 K0 nt (.cond c x y) st Q = force (tick (st.ev c)) fun s => vcond s (vc P w0 K0 nt x st Q) (vc P w0 K0 nt y st Q) := by
  rw [vc]; unfold force tick vcond; split <;> simp_all
@[simp ↓] theorem vc_block (id : Nat) (c : Code) (st : St) (Q : Exit → St → Prop) : vc P w0 K0 nt (.block id c) st Q = vc P w0 K0 nt c st (blkQ id Q) := by rw [vc]
@[simp ↓] theorem vc_exit (id : Nat) (st : St) (Q : Exit → St → Prop) : vc P w0 K0 nt (.exit id) st Q = Q (.exit id) st := by rw [vc]
@[simp ↓] theorem vc_ret (st : St) (Q : Exit → St → Prop) : vc P w0 K0 nt .ret st Q = Q .ret st := by rw [vc]
@[simp ↓] theorem vr_nil (ops : Array Oper) (st : St) (K : St → Prop) : vr P ops [] st K = force (tick st) K := rfl
@[simp ↓] theorem vr_cons (ops : Array Oper) (o : Oper) (l : List Oper) (st : St) (K : St → Prop) : vr P ops (o :: l) st K = force (tick st) fun st => vstepL P ops st o fun st' => vr P ops l st' K := rfl
def goS (p : S × Prop) (k : S → Prop) : Prop := p.2 ∧ k p.1
@[simp ↓] theorem goS_mk (s : S) (c : Prop) (k : S → Prop) : goS (s, c) k = (c ∧ k s) := rfl
theorem VL.loop {c : Code} {st : St} {Q : Exit → St → Prop} {m1 : Keep (Code.loop c)} {m2 : Keep Q} {ι : Type} (I : ι → St) (H : ι → Prop) (μ : ι → Nat) (i0 : ι) (hok : codeOk nt c = true) (h0 : H i0) (hst : st.le (I i0))
    (round : ∀ i, H i → vc P w0 K0 nt c (I i) (seqQ (fun st' => ∃ j, H j ∧ st'.le (I j) ∧ μ j < μ i) Q)) : VL P w0 K0 nt (.loop c) st Q m1 m2 :=
  vw_loop I H μ i0 hok h0 hst round
variable (ops : Array Oper) (st : St) (d : Option Nat) (ty : TypeId) (p : String) (af : Array Edge) (K : St → Prop)
@[simp ↓] theorem vs_move (x : Operand) : vstep P ops st ⟨d, .move x, ty, p, af, none⟩ K = K (st.putd d (st.ev x)) := by
  simp [vstep, isPick, vop, vpure, pev]
@[simp ↓] theorem vs_assign_nil (x : Nat) : vstep P ops st ⟨some x, .assign (.const (.slice none 0 0)), ty, p, af, none⟩ K = K (((st.clr (64 * x)).setR (64 * x) (some (.arr true 0 [] 0))).put x (.own (64 * x) 0)) := rfl
@[simp ↓] theorem vs_assign_tmp (t : Nat) : vstep P ops st ⟨d, .assign (.tmp t), ty, p, af, none⟩ K = K (st.putd d (st.get t)) := by
  simp [vstep, isPick, vop, vpure, pev]
@[simp ↓] theorem vs_assign_int (k : IntKind) (n : Int) : vstep P ops st ⟨d, .assign (.const (.int k n)), ty, p, af, none⟩ K = K (st.putd d (.c (.v (.int k n)))) := by
  simp [vstep, isPick, vop, vpure, pev]
@[simp ↓] theorem vs_assign_bool (b : Bool) : vstep P ops st ⟨d, .assign (.const (.bool b)), ty, p, af, none⟩ K = K (st.putd d (.c (.v (.bool b)))) := by
  simp [vstep, isPick, vop, vpure, pev]
@[simp ↓] theorem vs_assign_string (s : ByteArray) : vstep P ops st ⟨d, .assign (.const (.string s)), ty, p, af, none⟩ K = K (st.putd d (.c (.v (.string s)))) := by
  simp [vstep, isPick, vop, vpure, pev]
@[simp ↓] theorem vs_assign_agg (l : Array Value) : vstep P ops st ⟨d, .assign (.const (.agg l)), ty, p, af, none⟩ K = K (st.putd d (ofConst (.agg l))) := by
  simp [vstep, isPick, vop, vpure, pev]
@[simp ↓] theorem vs_assign_func (f : FuncId) : vstep P ops st ⟨d, .assign (.func f), ty, p, af, none⟩ K = K (st.putd d (.c (.fn f []))) := by
  simp [vstep, isPick, vop, vpure, pev]
@[simp ↓] theorem vs_pick (c x y : Operand) : vstep P ops st ⟨d, .pick c x y, ty, p, af, none⟩ K = force (tick (vpick true (st.ev c) (st.ev x) (st.ev y))) fun r => goS r fun s => K (st.putd d s) := by
  rw [force_eq, tick_eq]; simp [vstep, isPick, PStep, gflag, wrapg, goS]
@[simp ↓] theorem vs_binOp (o : BinOp) (t yt : TypeId) (x y : Operand) : vstep P ops st ⟨d, .binOp o t x y yt, ty, p, af, none⟩ K = force (tick (pbinQ P st o t y (st.ev x) (st.ev y))) fun r => goS r fun s => K (st.putd d s) := rfl
@[simp ↓] theorem vs_unOp (o : UnOp) (t : TypeId) (x : Operand) : vstep P ops st ⟨d, .unOp o t x, ty, p, af, none⟩ K = force (tick (pun o (st.ev x))) fun r => goS r fun s => K (st.putd d s) := rfl
@[simp ↓] theorem vs_convert (a b : TypeId) (x : Operand) : vstep P ops st ⟨d, .convert a b x, ty, p, af, none⟩ K = force (tick (pconv P st a b (st.ev x))) fun r => goS r fun s => K (st.putd d s) := rfl
@[simp ↓] theorem vs_fieldAddr (t : TypeId) (x : Operand) (f : Nat) : vstep P ops st ⟨d, .fieldAddr t x f, ty, p, af, none⟩ K = force (tick (pfieldAddr P st t f (st.ev x))) fun r => goS r fun s => K (st.putd d s) := rfl
@[simp ↓] theorem vs_field (t : TypeId) (x : Operand) (f : Nat) : vstep P ops st ⟨d, .field t x f, ty, p, af, none⟩ K = force (tick (pfield P t f (st.ev x))) fun r => goS r fun s => K (st.putd d s) := rfl
@[simp ↓] theorem vs_indexAddr (t : TypeId) (x i : Operand) : vstep P ops st ⟨d, .indexAddr t x i, ty, p, af, none⟩ K = force (tick (pindexAddr P st t (st.ev x) (st.ev i))) fun r => goS r fun s => K (st.putd d s) := rfl
@[simp ↓] theorem vs_index (t : TypeId) (x i : Operand) : vstep P ops st ⟨d, .index t x i, ty, p, af, none⟩ K = force (tick (pindex P t (st.ev x) (st.ev i))) fun r => goS r fun s => K (st.putd d s) := rfl
@[simp ↓] theorem vs_nilCheck (x : Operand) : vstep P ops st ⟨d, .nilCheck x, ty, p, af, none⟩ K = force (tick (pnil st (st.ev x))) fun r => goS r fun s => K (st.putd d s) := rfl
def pext (k : Nat) (s : S) : S × Prop :=
  match s with
  | .tup ss => match ss[k]? with
    | some s => (s, True)
    | none => no
  | _ => no
@[simp ↓] theorem vs_extract (x : Operand) (k : Nat) : vstep P ops st ⟨d, .extract x k, ty, p, af, none⟩ K = force (tick (pext k (st.ev x))) fun r => goS r fun s => K (st.putd d s) := rfl
@[simp ↓] theorem vs_makeFunc (f : FuncId) : vstep P ops st ⟨d, .makeFunc (.func f) #[] #[], ty, p, af, none⟩ K = K (st.putd d (.c (.fn f []))) := by
  simp [vstep, isPick, vop, vcaps, vmf, capOwn]
def vcapE (c : Option (List C)) (r : Option Res) (st : St) (i : Nat) (k : C → St → Prop) : Prop :=
  match c, r with
  | some cs, some (.box _ _) => k (.dp cs) (st.setR i (some (.box true (cs.map .c))))
  | _, _ => False
@[simp ↓] theorem vcapE_some (cs : List C) (fz : Bool) (ss : List S) (st : St) (i : Nat) (k : C → St → Prop) : vcapE (some cs) (some (.box fz ss)) st i k = k (.dp cs) (st.setR i (some (.box true (cs.map .c)))) := rfl
def vcapB (r : Option Res) (st : St) (i : Nat) (k : C → St → Prop) : Prop :=
  match r with
  | some (.box _ ss) => vsnaps st ss fun ss' st' => vcapE (allC ss') (st'.rs i) st' i k
  | _ => False
@[simp ↓] theorem vcapB_some (fz : Bool) (ss : List S) (st : St) (i : Nat) (k : C → St → Prop) : vcapB (some (.box fz ss)) st i k = vsnaps st ss fun ss' st' => force (tick (allC ss')) fun c => force (tick (st'.rs i)) fun r => vcapE c r st' i k := rfl
@[simp ↓] theorem vcap_c (x : C) (st : St) (k : C → St → Prop) : vcap st (.c x) k = k x st := rfl
@[simp ↓] theorem vcap_ptr (i : Nat) (st : St) (k : C → St → Prop) : vcap st (.ptr i 0) k = force (tick (st.rs i)) fun r => vcapB r st i k := by
  rw [force_eq, tick_eq]
  unfold vcap vcapB vcapE
  rfl
@[simp ↓] theorem vcaps_nil (st : St) (k : List C → St → Prop) : vcaps st [] k = k [] st := rfl
@[simp ↓] theorem vcaps_cons (s : S) (r : List S) (st : St) (k : List C → St → Prop) : vcaps st (s :: r) k = force (tick s) fun s => vcap st s fun c st' => force (tick st') fun st' => vcaps st' r fun cs st'' => k (c :: cs) st'' := rfl
@[simp ↓] theorem vs_makeFuncC (f : FuncId) (x : Operand) (cap : List Operand) : vstep P ops st ⟨d, .makeFunc (.func f) #[] (x :: cap).toArray, ty, p, af, none⟩ K = force (tick ((x :: cap).map st.ev)) fun ss => force (tick (capOwn st ss)) fun q => vmf d st f ss K q := by
  simp only [force_eq, tick_eq]
  simp only [vstep, isPick, vop]
  simp
@[simp ↓] theorem vmf_true (f : FuncId) (ss : List S) : vmf d st f ss K true = K (st.putd d (.fnp f ss)) := rfl
@[simp ↓] theorem vmf_false (f : FuncId) (ss : List S) : vmf d st f ss K false = vcaps st ss fun cs st' => K (st'.putd d (.c (.fn f cs))) := rfl
attribute [simp] S.isOwn capR capS capOwn
@[simp ↓] theorem vs_len (t : TypeId) (x : Operand) : vstep P ops st ⟨d, .call ⟨.builtin .len, #[x], #[t]⟩, ty, p, af, none⟩ K = force (tick (plen P st t (st.ev x))) fun r => goS r fun s => K (st.putd d s) := rfl
@[simp ↓] theorem vs_max (ts : Array TypeId) (x : Operand) (r : List Operand) : vstep P ops st ⟨d, .call ⟨.builtin .max, ⟨x :: r⟩, ts⟩, ty, p, af, none⟩ K = force (tick (pmm true (st.ev x) (r.map st.ev))) fun r => goS r fun s => K (st.putd d s) := rfl
@[simp ↓] theorem vs_min (ts : Array TypeId) (x : Operand) (r : List Operand) : vstep P ops st ⟨d, .call ⟨.builtin .min, ⟨x :: r⟩, ts⟩, ty, p, af, none⟩ K = force (tick (pmm false (st.ev x) (r.map st.ev))) fun r => goS r fun s => K (st.putd d s) := rfl
@[simp ↓] theorem vsnap_c (x : C) (k : S → St → Prop) : vsnap st (.c x) k = k (.c x) st := rfl
@[simp ↓] theorem vsnap_agg (x : List C) (k : S → St → Prop) : vsnap st (.agg x) k = k (.agg x) st := rfl
@[simp ↓] theorem vsnap_tup (x : List S) (k : S → St → Prop) : vsnap st (.tup x) k = k (.tup x) st := rfl
@[simp ↓] theorem vsnap_ptr (i o : Nat) (k : S → St → Prop) : vsnap st (.ptr i o) k = k (.ptr i o) st := rfl
@[simp ↓] theorem vsnap_ep (i n j o : Nat) (k : S → St → Prop) : vsnap st (.ep i n j o) k = k (.ep i n j o) st := rfl
def vsnapO (r : Option Res) (st : St) (i n : Nat) (k : S → St → Prop) : Prop :=
  match r with
  | some (.arr nil sz xs _) => xs.length = n ∧ k (.c (.sl nil xs)) (st.setR i (some (.arr nil sz xs xs.length)))
  | _ => False
@[simp ↓] theorem vsnapO_arr (nil : Bool) (sz : Nat) (xs : List (List C)) (fx i n : Nat) (k : S → St → Prop) : vsnapO (some (.arr nil sz xs fx)) st i n k = (xs.length = n ∧ k (.c (.sl nil xs)) (st.setR i (some (.arr nil sz xs xs.length)))) := rfl
@[simp ↓] theorem vsnap_own (i n : Nat) (k : S → St → Prop) : vsnap st (.own i n) k = force (tick (st.rs i)) fun r => vsnapO r st i n k := rfl
@[simp ↓] theorem vsnaps_nil (k : List S → St → Prop) : vsnaps st [] k = k [] st := rfl
@[simp ↓] theorem vsnaps_cons (s : S) (r : List S) (k : List S → St → Prop) : vsnaps st (s :: r) k = force (tick st) fun st => vsnap st s fun s' st' => vsnaps st' r fun r' st'' => k (s' :: r') st'' := rfl
def vslD (P : Program) (t : TypeId) (s : S) (lo hi mx : Option S) (d : Option Nat) (st : St) (K : St → Prop) : Prop :=
  vsnap st s fun s st' => force (tick (pslice P t s lo hi mx)) fun r => goS r fun s => K (st'.putd d s)
def VSL (P : Program) (t : TypeId) (s : S) (lo hi mx : Option S) (q : Bool) (d : Option Nat) (st : St) (K : St → Prop) (_ : Keep K) : Prop :=
  vslD P t s lo hi mx d st K ∨ (q = true ∧ vsliceO P d st t s lo hi K)
theorem VSL.data {t : TypeId} {s : S} {lo hi mx : Option S} {q : Bool} {d : Option Nat} {st : St} {K : St → Prop} (h : vslD P t s lo hi mx d st K) : VSL P t s lo hi mx q d st K .mk := .inl h
theorem VSL.own {t : TypeId} {s : S} {lo hi mx : Option S} {d : Option Nat} {st : St} {K : St → Prop} (h : vsliceO P d st t s lo hi K) : VSL P t s lo hi mx true d st K .mk := .inr ⟨rfl, h⟩
@[simp ↓] theorem vslD_eq (t : TypeId) (s : S) (lo hi mx : Option S) : vslD P t s lo hi mx d st K = vsnap st s fun s st' => force (tick (pslice P t s lo hi mx)) fun r => goS r fun s => K (st'.putd d s) := rfl
def vslX (P : Program) (t : TypeId) (s : S) (lo hi mx : Option S) (q : Bool) (d : Option Nat) (st : St) (K : St → Prop) : Prop :=
  match s with
  | .own i n => VSL P t (.own i n) lo hi mx q d st K .mk
  | s => vslD P t s lo hi mx d st K
@[simp ↓] theorem vslX_own (t : TypeId) (i n : Nat) (lo hi mx : Option S) (q : Bool) : vslX P t (.own i n) lo hi mx q d st K = VSL P t (.own i n) (tick lo) (tick hi) (tick mx) (tick q) d (tick st) K .mk := rfl
@[simp ↓] theorem vslX_c (t : TypeId) (x : C) (lo hi mx : Option S) (q : Bool) : vslX P t (.c x) lo hi mx q d st K = vslD P t (.c x) lo hi mx d st K := rfl
@[simp ↓] theorem vs_slice (t : TypeId) (x : Operand) (lo hi mx : Option Operand) : vstep P ops st ⟨d, .slice t x lo hi mx, ty, p, af, none⟩ K =
    force (tick (st.ev x)) fun s => vslX P t s (lo.map st.ev) (hi.map st.ev) (mx.map st.ev) mx.isNone d st K := by
  show ((vsnap st (st.ev x) fun s st' => (pslice P t s (lo.map st.ev) (hi.map st.ev) (mx.map st.ev)).2 ∧ K (st'.putd d (pslice P t s (lo.map st.ev) (hi.map st.ev) (mx.map st.ev)).1)) ∨ (mx = none ∧ vsliceO P d st t (st.ev x) (lo.map st.ev) (hi.map st.ev) K)) = _
  unfold force tick vslX
  cases hx : st.ev x with
  | own i n =>
    simp only [VSL]
    have : (mx.isNone = true) = (mx = none) := by cases mx <;> simp
    rw [this]
    rfl
  | _ =>
    have : ∀ lo hi, ¬ vsliceO P d st t (st.ev x) lo hi K := by
      intro lo hi h
      rw [hx] at h
      unfold vsliceO at h
      split at h <;> first | exact h | simp_all
    rw [hx] at this
    simp only [this, and_false, or_false]
    rfl
def vslH (m : Option Int) (r : Option Res) (e : Bool) (i n y : Nat) (st : St) (K : St → Prop) : Prop :=
  match m, r with
  | some m, some (.arr nil sz xs fx) => 0 ≤ m ∧ m ≤ n ∧ xs.length = n ∧ fx ≤ m.toNat ∧ e = true ∧ K (((st.clr i).setR i (some (.arr nil sz (xs.take m.toNat) fx))).put y (.own i m.toNat))
  | _, _ => False
@[simp ↓] theorem vslH_some (m : Int) (nil : Bool) (sz : Nat) (xs : List (List C)) (fx : Nat) (e : Bool) (i n y : Nat) : vslH (some m) (some (.arr nil sz xs fx)) e i n y st K =
  (0 ≤ m ∧ m ≤ n ∧ xs.length = n ∧ fx ≤ m.toNat ∧ e = true ∧ K (((st.clr i).setR i (some (.arr nil sz (xs.take m.toNat) fx))).put y (.own i m.toNat))) := rfl
def vslS (m : Option Int) (r : Option Res) (e : Option Nat) (i n y : Nat) (st : St) (K : St → Prop) : Prop :=
  match m, r with
  | some m, some (.arr nil sz xs _) => 0 ≤ m ∧ m ≤ n ∧ xs.length = n ∧ (nil = false → e = some sz) ∧ e.isSome = true ∧ K (st.put y (.suf i n m.toNat))
  | _, _ => False
@[simp ↓] theorem vslS_some (m : Int) (nil : Bool) (sz : Nat) (xs : List (List C)) (fx : Nat) (e : Option Nat) (i n y : Nat) : vslS (some m) (some (.arr nil sz xs fx)) e i n y st K =
  (0 ≤ m ∧ m ≤ n ∧ xs.length = n ∧ (nil = false → e = some sz) ∧ e.isSome = true ∧ K (st.put y (.suf i n m.toNat))) := rfl
@[simp ↓] theorem vsliceO_head (t : TypeId) (i n y : Nat) (h : S) : vsliceO P (some y) st t (.own i n) none (some h) K = force (tick (sint h)) fun m => force (tick (st.rs i)) fun r => force (tick (esz P t).isSome) fun e => vslH m r e i n y st K := by
  unfold vsliceO vslH force tick
  simp only
  all_goals (cases sint h <;> cases st.rs i <;> try rfl)
@[simp ↓] theorem vsliceO_rest (t : TypeId) (i n y : Nat) (l : S) : vsliceO P (some y) st t (.own i n) (some l) none K = force (tick (sint l)) fun m => force (tick (st.rs i)) fun r => force (tick (esz P t)) fun e => vslS m r e i n y st K := by
  unfold vsliceO vslS force tick
  simp only
  all_goals (cases sint l <;> cases st.rs i <;> try rfl)
@[simp ↓] theorem vsnap_fnp (f : FuncId) (ss : List S) (k : S → St → Prop) : vsnap st (.fnp f ss) k = k (.fnp f ss) st := rfl
@[simp ↓] theorem vsnap_suf (i n j : Nat) (k : S → St → Prop) : vsnap st (.suf i n j) k = k (.suf i n j) st := rfl
def vbdR (P : Program) (t : TypeId) (r : Option Res) (i n : Nat) (st : St) (d : Option Nat) (K : St → Prop) : Prop :=
  match r with
  | some (.arr _ _ xs _) => B1 P t ∧ xs.length = n ∧ K (st.putd d (.st [.own i n]))
  | _ => False
@[simp ↓] theorem vbdR_arr (t : TypeId) (nil : Bool) (sz : Nat) (xs : List (List C)) (fx i n : Nat) (d : Option Nat) : vbdR P t (some (.arr nil sz xs fx)) i n st d K = (B1 P t ∧ xs.length = n ∧ K (st.putd d (.st [.own i n]))) := rfl
def vbdQ (P : Program) (t : TypeId) (q : Option (Nat × Nat)) (is : List Nat) (ss : List S) (st : St) (d : Option Nat) (K : St → Prop) : Prop :=
  match q with
  | some (i, n) => force (tick (st.rs i)) fun r => vbdR P t r i n st d K
  | none => vsnaps st ss fun ss st' => force (tick (pbuild P t (is.zip ss))) fun r => goS r fun s => K (st'.putd d s)
@[simp ↓] theorem vbdQ_some (t : TypeId) (i n : Nat) (is : List Nat) (ss : List S) (d : Option Nat) : vbdQ P t (some (i, n)) is ss st d K = force (tick (st.rs i)) fun r => vbdR P t r i n st d K := rfl
@[simp ↓] theorem vbdQ_none (t : TypeId) (is : List Nat) (ss : List S) (d : Option Nat) : vbdQ P t none is ss st d K = vsnaps st ss fun ss st' => force (tick (pbuild P t (is.zip ss))) fun r => goS r fun s => K (st'.putd d s) := rfl
@[simp] theorem isOne_some (b : Bool) (n : Nat) : isOne (some (b, n)) = (b && n == 1) := rfl
@[simp] theorem isOne_none : isOne none = false := rfl
@[simp] theorem oneOwn_false (is : List Nat) (ss : List S) : oneOwn false is ss = none := rfl
@[simp] theorem oneOwn_own (i n : Nat) : oneOwn true [0] [.own i n] = some (i, n) := rfl
@[simp] theorem oneOwn_c (x : C) (is : List Nat) (ss : List S) : oneOwn true is (.c x :: ss) = none := by
  unfold oneOwn
  rw [cond_true]
  split
  · rename_i h; cases h
  · rfl
@[simp] theorem oneOwn_agg (x : List C) (is : List Nat) (ss : List S) : oneOwn true is (.agg x :: ss) = none := by
  unfold oneOwn
  rw [cond_true]
  split
  · rename_i h; cases h
  · rfl
@[simp] theorem oneOwn_nil (is : List Nat) : oneOwn true is [] = none := by
  unfold oneOwn
  rw [cond_true]
  split
  · rename_i h; cases h
  · rfl
@[simp ↓] theorem vs_build (t : TypeId) (parts : List (Nat × Operand)) : vstep P ops st ⟨d, .build t parts.toArray, ty, p, af, none⟩ K =
    force (tick (parts.map fun q => st.ev q.2)) fun ss => force (tick (oneOwn (isOne (tySz P t)) (parts.map (·.1)) ss)) fun q => vbdQ P t q (parts.map (·.1)) ss st d K := by
  show vop P d st st.ev (.build t parts.toArray) K = _
  unfold vop vbdQ force tick
  simp only
  cases oneOwn (isOne (tySz P t)) (parts.map (·.1)) (parts.map fun q => st.ev q.2) with
  | none => rfl
  | some q =>
    obtain ⟨i, n⟩ := q
    first | (simp only [vbdR]; done) | (simp only [vbdR]; rfl)
@[simp ↓] theorem vsnap_st (x : List S) (k : S → St → Prop) : vsnap st (.st x) k = k (.st x) st := rfl
def vloadC (c : Option (List C)) (m : Nat) (st : St) (k : S → St → Prop) : Prop :=
  match c with
  | some cs => cs.length = m ∧ k (.agg cs) st
  | none => False
@[simp ↓] theorem vloadC_some (cs : List C) (m : Nat) (k : S → St → Prop) : vloadC (some cs) m st k = (cs.length = m ∧ k (.agg cs) st) := rfl
def vloadB (r : Option Res) (st : St) (m o : Nat) (k : S → St → Prop) : Prop :=
  match r with
  | some (.box _ ss) => force (tick ((ss.drop o).take m)) fun l => vsnaps st l fun ss' st' => force (tick (allC ss')) fun c => vloadC c m st' k
  | _ => False
def vloadX (P : Program) (y : Option (Bool × Nat)) (st : St) (t : TypeId) (s : S) (k : S → St → Prop) : Prop :=
  match y, s with
  | some (true, m), .ptr i o => force (tick (st.rs i)) fun r => vloadB r st m o k
  | _, _ => force (tick (pload P st t s)) fun r => goS r fun s => k s st
theorem vloadb_eq (t : TypeId) (s : S) (k : S → St → Prop) : vloadb P st t s k = vloadX P (tySz P t) st t s k := by
  unfold vloadb vloadX
  cases tySz P t with
  | none => rfl
  | some y =>
    obtain ⟨b, m⟩ := y
    cases b with
    | false => cases s <;> rfl
    | true =>
      cases s with
      | ptr i o =>
        simp only [force, tick, vloadB]
        cases st.rs i with
        | none => rfl
        | some r => cases r <;> rfl
      | _ => rfl
@[simp ↓] theorem vloadb_go (t : TypeId) (s : S) (k : S → St → Prop) : vloadb P st t s k = force (tick (tySz P t)) fun y => vloadX P y st t s k := vloadb_eq st t s k
@[simp ↓] theorem vloadX_ptr (t : TypeId) (m i o : Nat) (k : S → St → Prop) : vloadX P (some (true, m)) st t (.ptr i o) k = force (tick (st.rs i)) fun r => vloadB r st m o k := rfl
@[simp ↓] theorem vloadX_one (t : TypeId) (m : Nat) (s : S) (k : S → St → Prop) : vloadX P (some (false, m)) st t s k = force (tick (pload P st t s)) fun r => goS r fun s => k s st := rfl
@[simp ↓] theorem vloadX_c (y : Option (Bool × Nat)) (t : TypeId) (x : C) (k : S → St → Prop) : vloadX P y st t (.c x) k = force (tick (pload P st t (.c x))) fun r => goS r fun s => k s st := by
  unfold vloadX; split
  · rename_i h; cases h
  · rfl
@[simp ↓] theorem vloadX_ep (y : Option (Bool × Nat)) (t : TypeId) (i n j o : Nat) (k : S → St → Prop) : vloadX P y st t (.ep i n j o) k = force (tick (pload P st t (.ep i n j o))) fun r => goS r fun s => k s st := by
  unfold vloadX; split
  · rename_i h; cases h
  · rfl
@[simp ↓] theorem vloadB_box (fz : Bool) (ss : List S) (m o : Nat) (k : S → St → Prop) : vloadB (some (.box fz ss)) st m o k = force (tick ((ss.drop o).take m)) fun l => vsnaps st l fun ss' st' => force (tick (allC ss')) fun c => vloadC c m st' k := by
  unfold vloadB; rfl
@[simp ↓] theorem vs_load (t : TypeId) (x : Operand) : vstep P ops st ⟨d, .load t x, ty, p, af, none⟩ K = force (tick (st.ev x)) fun s => vloadb P st t s fun s st' => K (st'.putd d s) := rfl
def vallocZ (z : Option Value) (x : Nat) (st : St) (K : St → Prop) : Prop :=
  match z with
  | some z => z.cells.all (·.oneCell') = true ∧ K ((((znils (64 * x) 0 z.cells.toList st).clr (64 * x)).setR (64 * x) (some (.box false (zcells (64 * x) 0 z.cells.toList)))).put x (.ptr (64 * x) 0))
  | none => False
@[simp] theorem cellsV_agg (l : Array Value) : (Value.agg l).cells = l := rfl
@[simp] theorem cellsV_int (k : IntKind) (n : Int) : (Value.int k n).cells = #[.int k n] := rfl
@[simp] theorem cellsV_bool (b : Bool) : (Value.bool b).cells = #[.bool b] := rfl
@[simp] theorem cellsV_string (s : ByteArray) : (Value.string s).cells = #[.string s] := rfl
@[simp] theorem cellsV_ptr (a : Option Addr) : (Value.pointer a).cells = #[.pointer a] := rfl
@[simp] theorem cellsV_slice (a : Option Addr) (n c : Nat) : (Value.slice a n c).cells = #[.slice a n c] := rfl
@[simp] theorem cellsV_map (r : Option Nat) : (Value.map r).cells = #[.map r] := rfl
@[simp] theorem cellsV_nilFunc : Value.nilFunc.cells = #[.nilFunc] := rfl
@[simp] theorem cellsV_nilIface : Value.nilIface.cells = #[.nilIface] := rfl
@[simp ↓] theorem vallocZ_some (z : Value) (x : Nat) : vallocZ (some z) x st K = (z.cells.toList.all (·.oneCell') = true ∧ K ((((znils (64 * x) 0 z.cells.toList st).clr (64 * x)).setR (64 * x) (some (.box false (zcells (64 * x) 0 z.cells.toList)))).put x (.ptr (64 * x) 0))) := by
  rw [Array.all_toList]; rfl
@[simp ↓] theorem vs_alloc (t : TypeId) (x : Nat) : vstep P ops st ⟨some x, .alloc t, ty, p, af, none⟩ K = force (tick (zeroOf P t)) fun z => vallocZ z x st K := by
  show valloc P (some x) st t K = vallocZ (zeroOf P t) x st K
  unfold valloc vallocZ
  cases zeroOf P t <;> rfl
def vboxC (c : Option (List S)) (x : Nat) (st : St) (K : St → Prop) : Prop :=
  match c with
  | some cs => S.mens (64 * x) cs = false ∧ K (((st.clr (64 * x)).setR (64 * x) (some (.box false cs))).put x (.ptr (64 * x) 0))
  | none => False
@[simp ↓] theorem vboxC_some (cs : List S) (x : Nat) : vboxC (some cs) x st K = (S.mens (64 * x) cs = false ∧ K (((st.clr (64 * x)).setR (64 * x) (some (.box false cs))).put x (.ptr (64 * x) 0))) := rfl
@[simp ↓] theorem vs_box (t : TypeId) (y : Operand) (x : Nat) : vstep P ops st ⟨some x, .box t y, ty, p, af, none⟩ K = force (tick (st.ev y)) fun s => vsnap st s fun s' st' => force (tick (cellsH st' s')) fun c => force (tick st') fun st' => vboxC c x st' K := by
  show vbox (some x) st (st.ev y) K = _
  unfold vbox force tick vboxC
  rfl
def vstoreB (r : Option Res) (y : Option (Bool × Nat)) (c : Option (List S)) (st : St) (i off : Nat) (K : St → Prop) : Prop :=
  match r, y, c with
  | some (.box false ss), some (_, n), some cs => cs.length = n ∧ off + n ≤ ss.length ∧ K (st.setR i (some (.box false (spl ss off cs))))
  | _, _, _ => False
@[simp ↓] theorem vstoreB_some (ss : List S) (b : Bool) (n : Nat) (cs : List S) (i off : Nat) : vstoreB (some (.box false ss)) (some (b, n)) (some cs) st i off K = (cs.length = n ∧ off + n ≤ ss.length ∧ K (st.setR i (some (.box false (spl ss off cs))))) := rfl
def vstoreA (r : Option Res) (y : Option (Bool × Nat)) (c : Option (List C)) (st : St) (i m j o : Nat) (K : St → Prop) : Prop :=
  match r, y, c with
  | some (.arr nil sz xs fx), some (_, n), some cs => cs.length = n ∧ xs.length = m ∧ j < m ∧ o + n ≤ sz ∧ fx ≤ j ∧ K (st.setR i (some (.arr nil sz (xs.set j (spl (xs.getD j []) o cs)) fx)))
  | _, _, _ => False
@[simp ↓] theorem vstoreA_some (nil : Bool) (sz : Nat) (xs : List (List C)) (fx : Nat) (b : Bool) (n : Nat) (cs : List C) (i m j o : Nat) : vstoreA (some (.arr nil sz xs fx)) (some (b, n)) (some cs) st i m j o K =
    (cs.length = n ∧ xs.length = m ∧ j < m ∧ o + n ≤ sz ∧ fx ≤ j ∧ K (st.setR i (some (.arr nil sz (xs.set j (spl (xs.getD j []) o cs)) fx)))) := rfl
def vstoreX (P : Program) (st : St) (t : TypeId) (x y : S) (K : St → Prop) : Prop := vstore P st t x y K
@[simp ↓] theorem vstoreX_ptr (t : TypeId) (i off : Nat) (s : S) : vstoreX P st t (.ptr i off) s K = force (tick (st.rs i)) fun r => force (tick (tySz P t)) fun y => force (tick (cellsH st s)) fun c => vstoreB r y c st i off K := rfl
@[simp ↓] theorem vstoreX_ep (t : TypeId) (i m j o : Nat) (s : S) : vstoreX P st t (.ep i m j o) s K = vsnap st s fun s' st' => force (tick (st'.rs i)) fun r => force (tick (tySz P t)) fun y => force (tick (cellsS s')) fun c => vstoreA r y c st' i m j o K := rfl
@[simp ↓] theorem vs_store (t : TypeId) (x y : Operand) : vstep P ops st ⟨d, .store t x y, ty, p, af, none⟩ K = force (tick (st.ev x)) fun x => force (tick (st.ev y)) fun y => vstoreX P st t x y K := rfl
def vbsO (out : Option (List C)) (s : Nat) (zc : List C) (len x : Nat) (st : St) (K : St → Prop) : Prop :=
  match out with
  | some out => zc.length = s ∧ len * s ≤ 16777216 ∧ 0 < s ∧ len ≤ maxLen ∧ K (((st.clr (64 * x)).setR (64 * x) (some (.arr false s (chunks s len out) 0))).put x (.own (64 * x) len))
  | none => False
@[simp ↓] theorem vbsO_some (out : List C) (s : Nat) (zc : List C) (len x : Nat) : vbsO (some out) s zc len x st K =
    (zc.length = s ∧ len * s ≤ 16777216 ∧ 0 < s ∧ len ≤ maxLen ∧ K (((st.clr (64 * x)).setR (64 * x) (some (.arr false s (chunks s len out) 0))).put x (.own (64 * x) len))) := rfl
def elZ (P : Program) (t : TypeId) : Option (Nat × List C) :=
  match P.underlying t with
  | some (.slice e) => match tySz P e, zeroOf P e with
    | some (_, s), some z => match cellsS (ofConst z) with
      | some zc => some (s, zc)
      | none => none
    | _, _ => none
  | _ => none
def vclR (r : Option Res) (i n j s : Nat) (zc : List C) (st : St) (K : St → Prop) : Prop :=
  match r with
  | some (.arr nil sz xs fx) => xs.length = n ∧ fx ≤ j ∧ j ≤ n ∧ s = sz ∧ zc.length = s ∧ 0 < s ∧ K (st.setR i (some (.arr nil sz (xs.take j ++ List.replicate (n - j) zc) fx)))
  | _ => False
@[simp ↓] theorem vclR_arr (nil : Bool) (sz : Nat) (xs : List (List C)) (fx i n j s : Nat) (zc : List C) : vclR (some (.arr nil sz xs fx)) i n j s zc st K =
  (xs.length = n ∧ fx ≤ j ∧ j ≤ n ∧ s = sz ∧ zc.length = s ∧ 0 < s ∧ K (st.setR i (some (.arr nil sz (xs.take j ++ List.replicate (n - j) zc) fx)))) := rfl
def vclX (z : Option (Nat × List C)) (x : S) (st : St) (K : St → Prop) : Prop :=
  match x, z with
  | .suf i n j, some (s, zc) => force (tick (st.rs i)) fun r => vclR r i n j s zc st K
  | _, _ => False
@[simp ↓] theorem vclX_suf (i n j s : Nat) (zc : List C) : vclX (some (s, zc)) (.suf i n j) st K = force (tick (st.rs i)) fun r => vclR r i n j s zc st K := rfl
@[simp ↓] theorem vs_clear (t : TypeId) (x : Operand) : vstep P ops st ⟨none, .call ⟨.builtin .clear, #[x], #[t]⟩, ty, p, af, none⟩ K = force (tick (st.ev x)) fun x => force (tick (elZ P t)) fun z => vclX z x st K := by
  show vclear P none st t (st.ev x) K = vclX (elZ P t) (st.ev x) st K
  unfold vclear vclX elZ vclR force tick
  cases st.ev x with
  | suf i n j =>
    simp only
    cases P.underlying t with
    | none => rfl
    | some de =>
      cases de with
      | slice el =>
        simp only
        cases hrr : st.rs i with
        | none =>
          cases tySz P el with
          | none => rfl
          | some y => obtain ⟨b, s⟩ := y; cases zeroOf P el with
            | none => rfl
            | some z => cases hz : cellsS (ofConst z) <;> simp only [hrr, hz]
        | some r =>
          cases tySz P el with
          | none => cases r <;> rfl
          | some y =>
            obtain ⟨b, s⟩ := y
            cases zeroOf P el with
            | none => cases r <;> rfl
            | some z => cases hz : cellsS (ofConst z) <;> cases r <;> simp only [hrr, hz]
      | _ => rfl
  | _ => rfl
def vbsZ (z : Option (Nat × List C)) (len x : Nat) (is : List Nat) (ss : List S) (st : St) (K : St → Prop) : Prop :=
  match z with
  | some (s, zc) => vsnaps st ss fun ss st' => force (tick (pfill (.inr s) (List.replicate len zc).flatten (is.zip ss))) fun out => force (tick st') fun st' => vbsO out s zc len x st' K
  | none => False
@[simp ↓] theorem vbsZ_some (s : Nat) (zc : List C) (len x : Nat) (is : List Nat) (ss : List S) : vbsZ (some (s, zc)) len x is ss st K =
    vsnaps st ss fun ss st' => force (tick (pfill (.inr s) (List.replicate len zc).flatten (is.zip ss))) fun out => force (tick st') fun st' => vbsO out s zc len x st' K := rfl
theorem vbuild_eq (f : Operand → S) (t : TypeId) (n : Nat) (parts : List (Nat × Operand)) (x : Nat) (st : St) (K : St → Prop) :
    vbuildSlice P (some x) st t n (parts.map fun q => (q.1, f q.2)) K = vbsZ (elZ P t) n x (parts.map (·.1)) (parts.map fun q => f q.2) st K := by
  unfold vbuildSlice elZ vbsZ
  have e1 : (parts.map fun q => (q.1, f q.2)).map (·.2) = parts.map fun q => f q.2 := by simp [Function.comp_def]
  have e2 : (parts.map fun q => (q.1, f q.2)).map (·.1) = parts.map (·.1) := by simp [Function.comp_def]
  rw [e1, e2]
  cases P.underlying t with
  | none => rfl
  | some de =>
    cases de with
    | slice e =>
      simp only
      cases tySz P e with
      | none => rfl
      | some y =>
        obtain ⟨b, s⟩ := y
        cases zeroOf P e with
        | none => rfl
        | some z =>
          simp only
          cases cellsS (ofConst z) <;> rfl
    | _ => rfl
@[simp ↓] theorem vs_buildSlice (t : TypeId) (n : Nat) (parts : List (Nat × Operand)) (x : Nat) : vstep P ops st ⟨some x, .buildSlice t n parts.toArray, ty, p, af, none⟩ K =
    force (tick (parts.map fun q => st.ev q.2)) fun ss => force (tick (elZ P t)) fun z => vbsZ z n x (parts.map (·.1)) ss st K := by
  exact vbuild_eq st.ev t n parts x st K
def apT (P : Program) (t xt : TypeId) : Option (Nat × Nat) :=
  match slT P t, P.underlying xt with
  | some y, some (.slice _) => some y
  | _, _ => none
def vapO (r : Option Res) (s B i n y : Nat) (ys : List (List C)) (st : St) (K : St → Prop) : Prop :=
  match r with
  | some (.arr nil sz xs fx) => xs.length = n ∧ (nil = false → sz = s) ∧ (∀ e ∈ ys, e.length = s) ∧ 0 < B ∧ (xs.length + ys.length) * B ≤ 140737488355328 ∧
      K (((st.clr i).setR i (some (.arr (nil && ys.isEmpty) s (xs ++ ys) fx))).put y (.own i (n + ys.length)))
  | _ => False
@[simp ↓] theorem vapO_arr (nil : Bool) (sz : Nat) (xs : List (List C)) (fx s B i n y : Nat) (ys : List (List C)) : vapO (some (.arr nil sz xs fx)) s B i n y ys st K =
    (xs.length = n ∧ (nil = false → sz = s) ∧ (∀ e ∈ ys, e.length = s) ∧ 0 < B ∧ (xs.length + ys.length) * B ≤ 140737488355328 ∧
      K (((st.clr i).setR i (some (.arr (nil && ys.isEmpty) s (xs ++ ys) fx))).put y (.own i (n + ys.length)))) := rfl
def vapX (d x : S) (s B y : Nat) (st : St) (K : St → Prop) : Prop :=
  match x with
  | .c (.sl _ ys) =>
    match d with
    | .c (.sl true []) => (∀ e ∈ ys, e.length = s) ∧ 0 < B ∧ ys.length * B ≤ 140737488355328 ∧ K (((st.clr (64 * y)).setR (64 * y) (some (.arr ys.isEmpty s ys 0))).put y (.own (64 * y) ys.length))
    | .own i n => vapO (st.rs i) s B i n y ys st K
    | _ => False
  | _ => False
@[simp ↓] theorem vapX_nil (nil : Bool) (ys : List (List C)) (s B y : Nat) : vapX (.c (.sl true [])) (.c (.sl nil ys)) s B y st K =
    ((∀ e ∈ ys, e.length = s) ∧ 0 < B ∧ ys.length * B ≤ 140737488355328 ∧ K (((st.clr (64 * y)).setR (64 * y) (some (.arr ys.isEmpty s ys 0))).put y (.own (64 * y) ys.length))) := rfl
@[simp ↓] theorem vapX_own (nil : Bool) (ys : List (List C)) (i n s B y : Nat) : vapX (.own i n) (.c (.sl nil ys)) s B y st K = force (tick (st.rs i)) fun r => vapO r s B i n y ys st K := rfl
def vapT (z : Option (Nat × Nat)) (d x : S) (y : Nat) (st : St) (K : St → Prop) : Prop :=
  match z with
  | some (s, B) => vsnap st x fun x' st' => force (tick st') fun st' => vapX d x' s B y st' K
  | none => False
@[simp ↓] theorem vapT_some (s B : Nat) (d' x : S) (y : Nat) : vapT (some (s, B)) d' x y st K = vsnap st x fun x' st' => force (tick st') fun st' => vapX d' x' s B y st' K := rfl
@[simp ↓] theorem vs_append (t xt : TypeId) (x z : Operand) (y : Nat) : vstep P ops st ⟨some y, .call ⟨.builtin .append, #[x, z], #[t, xt]⟩, ty, p, af, none⟩ K =
    force (tick (st.ev x)) fun x => force (tick (st.ev z)) fun z => force (tick (apT P t xt)) fun q => vapT q x z y st K := by
  show vappend P (some y) st t xt (st.ev x) (st.ev z) K = vapT (apT P t xt) (st.ev x) (st.ev z) y st K
  unfold vappend apT vapT
  cases slT P t with
  | none => rfl
  | some q =>
    obtain ⟨s, B⟩ := q
    cases P.underlying xt with
    | none => rfl
    | some de =>
      cases de with
      | slice e =>
        simp only [force, tick]
        rfl
      | _ => rfl
def vmkZ (z : Option (Nat × List C)) (sB : Option (Nat × Nat)) (l c : Option Int) (y : Nat) (st : St) (K : St → Prop) : Prop :=
  match z, sB, l, c with
  | some (_, zc), some (s, B), some n, some m => 0 ≤ n ∧ n ≤ m ∧ 0 < B ∧ m.toNat * B ≤ 140737488355328 ∧ 0 < s ∧ K (((st.clr (64 * y)).setR (64 * y) (some (.arr false s (List.replicate n.toNat zc) 0))).put y (.own (64 * y) n.toNat))
  | _, _, _, _ => False
@[simp ↓] theorem vmkZ_some (s' : Nat) (zc : List C) (s B : Nat) (n m : Int) (y : Nat) : vmkZ (some (s', zc)) (some (s, B)) (some n) (some m) y st K =
    (0 ≤ n ∧ n ≤ m ∧ 0 < B ∧ m.toNat * B ≤ 140737488355328 ∧ 0 < s ∧ K (((st.clr (64 * y)).setR (64 * y) (some (.arr false s (List.replicate n.toNat zc) 0))).put y (.own (64 * y) n.toNat))) := rfl
def vmk (P : Program) (t : TypeId) (l c : S) (y : Nat) (st : St) (K : St → Prop) : Prop := vmake P (some y) st t l c K
@[simp ↓] theorem vs_makeSlice (t : TypeId) (l c : Operand) (y : Nat) : vstep P ops st ⟨some y, .makeSlice t l c, ty, p, af, none⟩ K = vmk P t (st.ev l) (st.ev c) y st K := rfl
theorem vmk_iff (t : TypeId) (l c : S) (y : Nat) {s B : Nat} {zc : List C} (h1 : elZ P t = some (s, zc)) (h2 : slT P t = some (s, B)) : vmk P t l c y st K = force (tick (sint l)) fun l => force (tick (sint c)) fun c => vmkZ (some (s, zc)) (some (s, B)) l c y st K := by
  unfold vmk vmake force tick vmkZ
  rw [h2]
  cases sint l with
  | none => rfl
  | some n =>
    cases sint c with
    | none => rfl
    | some m =>
      simp only
      unfold elZ at h1
      cases hu : P.underlying t with
      | none => rw [hu] at h1; simp at h1
      | some de =>
        cases de with
        | slice e =>
          rw [hu] at h1
          simp only at h1 ⊢
          cases hz : zeroOf P e with
          | none => rw [hz] at h1; cases tySz P e <;> simp at h1
          | some z =>
            rw [hz] at h1
            cases hy : tySz P e with
            | none => rw [hy] at h1; simp at h1
            | some q =>
              obtain ⟨b, s2⟩ := q
              rw [hy] at h1
              simp only at h1 ⊢
              cases hc : cellsS (ofConst z) with
              | none => rw [hc] at h1; simp at h1
              | some zc' => rw [hc] at h1; simp at h1; obtain ⟨_, rfl⟩ := h1; rfl
        | _ => rw [hu] at h1; simp at h1
def VC (P : Program) (d : Option Nat) (st : St) (f : FuncId) (args : List S) (K : St → Prop) (_ : Keep K) : Prop := (∃ rs, Con P f args rs ∧ K (vret st d rs)) ∨ vlend P d st f args K
theorem VC.mk {st : St} {d : Option Nat} {K : St → Prop} {f : FuncId} {args : List S} {m : Keep K} (rs : List Rt) (h : Con P f args rs) (hk : force (tick (vret st d rs)) K) : VC P d st f args K m := .inl ⟨rs, h, hk⟩
theorem VC.lend {st : St} {d : Option Nat} {K : St → Prop} {f : FuncId} {args : List S} {m : Keep K} (b b' : List (Nat × Res)) (as0 rs as1 : List S) (τ : Nat → Nat) (C : List Nat) (h : LendOk P st f args b b' as0 rs as1 τ C)
    (hk : force (tick ((lendSt st τ C b').putd d (retS τ rs))) K) : VC P d st f args K m := .inr ⟨[], b, b', as0, rs, as1, τ, C, h, hk⟩
def vcallF (P : Program) (d : Option Nat) (st : St) (f : S) (args : List S) (K : St → Prop) : Prop := vcall P d st f args K
@[simp] theorem lendS_own (i n : Nat) : lendS (.own i n) = true := rfl
@[simp] theorem lendS_ptr (i n : Nat) : lendS (.ptr i n) = true := rfl
@[simp] theorem lendS_ep (i n k o : Nat) : lendS (.ep i n k o) = true := rfl
@[simp] theorem lendS_pre (i n m : Nat) : lendS (.pre i n m) = true := rfl
@[simp] theorem lendS_mp (i : Nat) : lendS (.mp i) = true := rfl
@[simp] theorem lendS_c (x : C) : lendS (.c x) = false := rfl
@[simp] theorem lendS_agg (x : List C) : lendS (.agg x) = false := rfl
@[simp] theorem lendS_st (x : List S) : lendS (.st x) = false := rfl
@[simp] theorem lendS_suf (i n j : Nat) : lendS (.suf i n j) = false := rfl
@[simp] theorem lendS_fnp (f : FuncId) (x : List S) : lendS (.fnp f x) = false := rfl
@[simp] theorem lendS_tup (x : List S) : lendS (.tup x) = false := rfl
@[simp] theorem lendS_g (q : Bool) (x : S) : lendS (.g q x) = false := rfl
@[simp] theorem lendS_un : lendS .un = false := rfl
def VCL (P : Program) (d : Option Nat) (st : St) (f : FuncId) (caps : List C) (args : List S) (K : St → Prop) (_ : Keep K) : Prop := vcallA P d st f caps args K ∨ (caps = [] ∧ vlend P d st f args K)
def vcallR (P : Program) (d : Option Nat) (st : St) (f : FuncId) (caps : List C) (args : List S) (K : St → Prop) (q : Bool) : Prop := vcallQ P d st f caps args K q
@[simp ↓] theorem vcallR_true (fid : FuncId) (caps : List C) (args : List S) : vcallR P d st fid caps args K true = VCL P d (tick st) fid caps (tick args) K .mk := rfl
@[simp ↓] theorem vcallR_false (fid : FuncId) (caps : List C) (args : List S) : vcallR P d st fid caps args K false = vsnaps st args fun ss st' => VC P d (tick st') fid (tick (ss ++ caps.map .c)) K .mk := rfl
@[simp ↓] theorem vcallF_fn (fid : FuncId) (caps : List C) (args : List S) : vcallF P d st (.c (.fn fid caps)) args K = force (tick (args.any lendS)) fun q => vcallR P d st fid caps args K q := rfl
def VCP (P : Program) (d : Option Nat) (st : St) (f : FuncId) (args : List S) (K : St → Prop) (_ : Keep K) : Prop := vlend P d st f args K
@[simp ↓] theorem vcallF_fnp (fid : FuncId) (ss : List S) (args : List S) : vcallF P d st (.fnp fid ss) args K = VCP P d (tick st) fid (tick (args ++ ss)) K .mk := rfl
theorem VCL.snap {st : St} {d : Option Nat} {K : St → Prop} {f : FuncId} {caps : List C} {args : List S} (h : vsnaps st args fun ss st' => VC P d (tick st') f (tick (ss ++ caps.map .c)) K .mk) : VCL P d st f caps args K .mk := .inl h
theorem VCL.lend {st : St} {d : Option Nat} {K : St → Prop} {f : FuncId} {args : List S} (b b' : List (Nat × Res)) (as0 rs as1 : List S) (τ : Nat → Nat) (C : List Nat) (h : LendOk P st f args b b' as0 rs as1 τ C)
    (hk : force (tick ((lendSt st τ C b').putd d (retS τ rs))) K) : VCL P d st f [] args K .mk := .inr ⟨rfl, [], b, b', as0, rs, as1, τ, C, h, hk⟩
def VLD (P : Program) (d : Option Nat) (st : St) (f : FuncId) (args : List S) (K : St → Prop) (_ : Keep K) : Prop := ∃ (b b' : List (Nat × Res)) (as0 rs as1 : List S) (τ : Nat → Nat) (C : List Nat), LendOk P st f args b b' as0 rs as1 τ C ∧ K ((lendSt st τ C b').putd d (retS τ rs))
theorem VCL.some {st : St} {d : Option Nat} {K : St → Prop} {f : FuncId} {args : List S} (m : List Bool) (h : vsnapm st m args fun args st => VLD P d (tick st) f (tick args) K .mk) : VCL P d st f [] args K .mk := .inr ⟨rfl, m, h⟩
theorem VLD.lend {st : St} {d : Option Nat} {K : St → Prop} {f : FuncId} {args : List S} (b b' : List (Nat × Res)) (as0 rs as1 : List S) (τ : Nat → Nat) (C : List Nat) (h : LendOk P st f args b b' as0 rs as1 τ C)
    (hk : force (tick ((lendSt st τ C b').putd d (retS τ rs))) K) : VLD P d st f args K .mk := ⟨b, b', as0, rs, as1, τ, C, h, hk⟩
theorem VCP.some {st : St} {d : Option Nat} {K : St → Prop} {f : FuncId} {args : List S} (m : List Bool) (h : vsnapm st m args fun args st => VLD P d (tick st) f (tick args) K .mk) : VCP P d st f args K .mk := ⟨m, h⟩
theorem VCP.lend {st : St} {d : Option Nat} {K : St → Prop} {f : FuncId} {args : List S} (b b' : List (Nat × Res)) (as0 rs as1 : List S) (τ : Nat → Nat) (C : List Nat) (h : LendOk P st f args b b' as0 rs as1 τ C)
    (hk : force (tick ((lendSt st τ C b').putd d (retS τ rs))) K) : VCP P d st f args K .mk := ⟨[], b, b', as0, rs, as1, τ, C, h, hk⟩
@[simp ↓] theorem vsnapm_nil (st : St) (ss : List S) (k : List S → St → Prop) : vsnapm st [] ss k = k ss st := rfl
@[simp ↓] theorem vsnapm_true (st : St) (m : List Bool) (s : S) (r : List S) (k : List S → St → Prop) : vsnapm st (true :: m) (s :: r) k = force (tick st) fun st => vsnap st s fun s' st' => vsnapm st' m r fun r' st'' => k (s' :: r') st'' := rfl
@[simp ↓] theorem vsnapm_false (st : St) (m : List Bool) (s : S) (r : List S) (k : List S → St → Prop) : vsnapm st (false :: m) (s :: r) k = vsnapm st m r fun r' st'' => k (s :: r') st'' := rfl
@[simp] theorem lendSt_mk (env : List (Nat × S)) (res : List (Nat × Option Res)) (τ : Nat → Nat) (C : List Nat) (b' : List (Nat × Res)) :
    lendSt ⟨env, res⟩ τ C b' = ⟨(St.clrL C ⟨env, res⟩).env, (b'.map fun p => (τ p.1, some (renR τ p.2))) ++ (St.clrL C ⟨env, res⟩).res⟩ := rfl
@[simp] theorem clrL_nil (st : St) : St.clrL [] st = st := rfl
@[simp] theorem clrL_cons (i : Nat) (C : List Nat) (st : St) : St.clrL (i :: C) st = St.clrL C (st.clr i) := rfl
attribute [simp] renS renSs renR retS
@[simp ↓] theorem vs_call (f : Operand) (args : List Operand) (ts : Array TypeId) : vstep P ops st ⟨d, .call ⟨.value f, args.toArray, ts⟩, ty, p, af, none⟩ K = force (tick (st.ev f)) fun f => force (tick (args.map st.ev)) fun args => vcallF P d st f args K := rfl
@[simp] theorem pbinQ_tmp (o : BinOp) (t : TypeId) (n : Nat) (a b : S) : pbinQ P st o t (.tmp n) a b = pbinS P st o t a b := rfl
@[simp] theorem pbinQ_int (o : BinOp) (t : TypeId) (k : IntKind) (n : Int) (a b : S) : pbinQ P st o t (.const (.int k n)) a b = pbinS P st o t a b := rfl
@[simp] theorem pbinQ_str (o : BinOp) (t : TypeId) (s : ByteArray) (a b : S) : pbinQ P st o t (.const (.string s)) a b = pbinS P st o t a b := rfl
@[simp] theorem pbinQ_bool (o : BinOp) (t : TypeId) (s : Bool) (a b : S) : pbinQ P st o t (.const (.bool s)) a b = pbinS P st o t a b := rfl
@[simp] theorem pbinQ_ptr (o : BinOp) (t : TypeId) (s : Option Addr) (a b : S) : pbinQ P st o t (.const (.pointer s)) a b = pbinS P st o t a b := rfl
@[simp] theorem pbinQ_sl (o : BinOp) (t : TypeId) (s : Option Addr) (n m : Nat) (a b : S) : pbinQ P st o t (.const (.slice s n m)) a b = pbinS P st o t a b := rfl
@[simp] theorem pbinQ_agg (o : BinOp) (t : TypeId) (s : Array Value) (a b : S) : pbinQ P st o t (.const (.agg s)) a b = pbinS P st o t a b := rfl
@[simp] theorem pbinQ_map (o : BinOp) (t : TypeId) (s : Option Nat) (a b : S) : pbinQ P st o t (.const (.map s)) a b = pbinS P st o t a b := rfl
@[simp] theorem pbinQ_fn (o : BinOp) (t : TypeId) (a b : S) : pbinQ P st o t (.const .nilFunc) a b = pbinS P st o t a b := rfl
@[simp] theorem pbinQ_nil (o : BinOp) (t : TypeId) (a b : S) : pbinQ P st o t (.const .nilIface) a b = pnilI P o t a := rfl
@[simp] theorem pnilI_nil (o : BinOp) (t : TypeId) : pnilI P o t (.c (.v .nilIface)) = pnilB P o t true := rfl
@[simp] theorem pnilI_ifc (o : BinOp) (t d : TypeId) (cs : List C) : pnilI P o t (.c (.ifc d cs)) = pnilB P o t false := rfl
@[simp] theorem pnilI_ifo (o : BinOp) (t d : TypeId) (c : C) : pnilI P o t (.c (.ifo d c)) = pnilB P o t false := rfl
@[simp] theorem pnilB_eql (t : TypeId) (b : Bool) : pnilB P .eql t b = (bl b, isIf P t = true) := rfl
@[simp] theorem pnilB_neq (t : TypeId) (b : Bool) : pnilB P .neq t b = (bl !b, isIf P t = true) := rfl
@[simp] theorem pmkI_c (t : TypeId) (x : C) : pmkI P t (.c x) = (.c (.ifo t x), isIface P t = false) := rfl
@[simp] theorem pmkI_agg (t : TypeId) (x : List C) : pmkI P t (.agg x) = (.c (.ifc t x), isIface P t = false) := rfl
def vmkI2 (P : Program) (d : Option Nat) (st : St) (t : TypeId) (o : Option (List C)) (K : St → Prop) : Prop :=
  match o with
  | some cs => isIface P t = false ∧ K (st.putd d (.c (.ifc t cs)))
  | none => False
@[simp] theorem vmkI2_some (t : TypeId) (cs : List C) : vmkI2 P d st t (some cs) K = (isIface P t = false ∧ K (st.putd d (.c (.ifc t cs)))) := rfl
@[simp ↓] theorem vmkI_c (t : TypeId) (x : C) : vmkI P d st t (.c x) K = (isIface P t = false ∧ K (st.putd d (.c (.ifo t x)))) := rfl
@[simp ↓] theorem vmkI_agg (t : TypeId) (x : List C) : vmkI P d st t (.agg x) K = (isIface P t = false ∧ K (st.putd d (.c (.ifc t x)))) := rfl
@[simp ↓] theorem vmkI_own (t : TypeId) (i n : Nat) : vmkI P d st t (.own i n) K = vsnap st (.own i n) fun s' st' => force (tick (pmkI P t s')) fun r => goS r fun s => K (st'.putd d s) := rfl
@[simp ↓] theorem vmkI_st (t : TypeId) (ss : List S) : vmkI P d st t (.st ss) K = vsnaps st ss fun ss' st' => force (tick (allC ss')) fun o => vmkI2 P d st' t o K := by
  simp only [vmkI]
  rfl
@[simp ↓] theorem vs_makeInterface (t : TypeId) (x : Operand) : vstep P ops st ⟨d, .makeInterface t x, ty, p, af, none⟩ K = force (tick (st.ev x)) fun s => vmkI P d st t s K := rfl
def VI (P : Program) (d : Option Nat) (st : St) (r : S) (name : String) (args : List S) (K : St → Prop) (_ : Keep K) : Prop := vinv P d st r name args K
@[simp ↓] theorem vs_invoke (r : Operand) (name : String) (args : List Operand) (ts : Array TypeId) : vstep P ops st ⟨d, .call ⟨.invoke r name, args.toArray, ts⟩, ty, p, af, none⟩ K = VI P d (tick st) (tick (st.ev r)) name (tick (args.map st.ev)) K .mk := rfl
@[simp ↓] theorem vs_invoke0 (r : Operand) (name : String) (ts : Array TypeId) : vstep P ops st ⟨d, .call ⟨.invoke r name, #[], ts⟩, ty, p, af, none⟩ K = VI P d (tick st) (tick (st.ev r)) name [] K .mk := rfl
theorem VI.mk0 {st : St} {d : Option Nat} {K : St → Prop} {r : S} {name : String} {m : Keep K} (s : S) (t : TypeId) (f : FuncId) (rs : List Rt) (hr : recvS r = some (t, s)) (hm : methOf P t name = some f) (h : Con P f [s] rs) (hk : force (tick (vret st d rs)) K) : VI P d st r name [] K m :=
  ⟨t, s, f, hr, hm, rs, h, hk⟩
def impB (q p : Bool) : Bool := !q || p
@[simp] theorem impB_self (q : Bool) : impB q q = true := by cases q <;> rfl
@[simp] theorem impB_true (q : Bool) : impB q true = true := by cases q <;> rfl
@[simp] theorem impB_one (p : Bool) : impB true p = p := rfl
@[simp] theorem impB_zero (p : Bool) : impB false p = true := rfl
@[simp] theorem impB_and (p x : Bool) : impB (p && x) p = true := by cases p <;> cases x <;> rfl
@[simp] theorem impB_and2 (p x y : Bool) : impB (p && x && y) p = true := by cases p <;> cases x <;> cases y <;> rfl
@[simp] theorem impB_andr (p x : Bool) : impB (p && x) x = true := by cases p <;> cases x <;> rfl
def sfl (s : S) (want : Bool) : Option Bool :=
  match s with
  | .c (.v (.bool b)) => some (b == want)
  | .g p (.c (.v (.bool b))) => some (p && (b == want))
  | _ => none
@[simp] theorem sfl_c (b want : Bool) : sfl (.c (.v (.bool b))) want = some (b == want) := rfl
@[simp] theorem sfl_g (p b want : Bool) : sfl (.g p (.c (.v (.bool b)))) want = some (p && (b == want)) := rfl
@[simp] theorem gslot_zero (o : Oper) (l : List Oper) : gslot (o :: l).toArray 0 = o.dst := by simp [gslot]
@[simp] theorem gslot_succ (o : Oper) (l : List Oper) (n : Nat) : gslot (o :: l).toArray (n + 1) = gslot l.toArray n := by simp [gslot]
def goG (q : Option Bool) (fs : List Bool) (r : S × Prop) (k : S → Prop) : Prop :=
  match q with
  | none => False
  | some q => (fs.all (impB q)) = true ∧ (q = true → r.2) ∧ k (.g q r.1)
@[simp ↓] theorem goG_some (q : Bool) (fs : List Bool) (r : S) (c : Prop) (k : S → Prop) : goG (some q) fs (r, c) k = ((fs.all (impB q)) = true ∧ (q = true → c) ∧ k (.g q r)) := rfl
def gsl (ops : Array Oper) (st : St) (j : Nat) (want : Bool) : Option Bool :=
  match gslot ops j with
  | some t => sfl (st.get t) want
  | none => none
theorem gsl_eq (j : Nat) (want : Bool) : gflag ops st (some (j, want)) = gsl ops st j want := by
  unfold gflag gsl
  simp only
  cases gslot ops j <;> rfl
@[simp ↓] theorem gsl_zero (o : Oper) (l : List Oper) (want : Bool) (t : Nat) (h : o.dst = some t) : gsl (o :: l).toArray st 0 want = sfl (st.get t) want := by simp [gsl, h]
@[simp ↓] theorem gsl_succ (o : Oper) (l : List Oper) (n : Nat) (want : Bool) : gsl (o :: l).toArray st (n + 1) want = gsl l.toArray st n want := by simp [gsl]
@[simp] theorem peel_c (x : C) : peel (.c x) = .c x := rfl
@[simp] theorem peel_g (b : Bool) (s : S) : peel (.g b s) = s := rfl
@[simp] theorem peel_agg (x : List C) : peel (.agg x) = .agg x := rfl
@[simp] theorem peel_own (i n : Nat) : peel (.own i n) = .own i n := rfl
@[simp] theorem peel_ptr (i n : Nat) : peel (.ptr i n) = .ptr i n := rfl
@[simp] theorem peel_ep (i n j o : Nat) : peel (.ep i n j o) = .ep i n j o := rfl
@[simp] theorem peel_st (x : List S) : peel (.st x) = .st x := rfl
@[simp] theorem peel_fnp (f : FuncId) (ss : List S) : peel (.fnp f ss) = .fnp f ss := rfl
@[simp] theorem peel_suf (i n j : Nat) : peel (.suf i n j) = .suf i n j := rfl
@[simp] theorem peel_tup (x : List S) : peel (.tup x) = .tup x := rfl
@[simp] theorem flagOf_c (x : C) : flagOf (.c x) = true := rfl
@[simp] theorem flagOf_g (b : Bool) (s : S) : flagOf (.g b s) = b := rfl
@[simp] theorem flagOf_agg (x : List C) : flagOf (.agg x) = true := rfl
@[simp] theorem flagOf_own (i n : Nat) : flagOf (.own i n) = true := rfl
@[simp] theorem flagOf_ptr (i n : Nat) : flagOf (.ptr i n) = true := rfl
@[simp] theorem flagOf_ep (i n j o : Nat) : flagOf (.ep i n j o) = true := rfl
@[simp] theorem flagOf_st (x : List S) : flagOf (.st x) = true := rfl
@[simp] theorem flagOf_fnp (f : FuncId) (ss : List S) : flagOf (.fnp f ss) = true := rfl
@[simp] theorem flagOf_suf (i n j : Nat) : flagOf (.suf i n j) = true := rfl
@[simp] theorem flagOf_tup (x : List S) : flagOf (.tup x) = true := rfl
theorem imp_all (q : Bool) (l : List Bool) (c : Prop) : (q = true → l.all id = true ∧ c) ↔ ((l.all (impB q)) = true ∧ (q = true → c)) := by
  cases q with
  | true =>
    have : impB true = id := by funext p; rfl
    simp [this]
  | false =>
    have : impB false = fun _ => true := by funext p; rfl
    simp [this]
variable (j : Nat) (want : Bool)
theorem ps_eq {o : Op} (hp : ∀ a b c, o ≠ .pick a b c) (hc : ∀ c f, o = .call c → c.callee ≠ .value f) : vstep P ops st ⟨d, o, ty, p, af, some (j, want)⟩ K =
    goG (gsl ops st j want) (o.operands.toList.map fun x => flagOf (st.ev x)) (pev P st (fun x => peel (st.ev x)) o) fun s => K (st.putd d s) := by
  unfold vstep PStep
  simp only [gsl_eq]
  cases hq : gsl ops st j want with
  | none => simp [goG]
  | some q =>
    have fin : ((q = true → (o.operands.toList.all fun x => flagOf (st.ev x)) = true ∧ (pev P st (fun x => peel (st.ev x)) o).2) ∧ K (st.putd d (wrapg (some (j, want)) q (pev P st (fun x => peel (st.ev x)) o).1))) =
        goG (some q) (o.operands.toList.map fun x => flagOf (st.ev x)) (pev P st (fun x => peel (st.ev x)) o) fun s => K (st.putd d s) := by
      have := imp_all q (o.operands.toList.map fun x => flagOf (st.ev x)) (pev P st (fun x => peel (st.ev x)) o).2
      simp only [List.all_map] at this
      have e : (id ∘ fun x => flagOf (st.ev x)) = fun x => flagOf (st.ev x) := rfl
      rw [e] at this
      simp only [goG, List.all_map]
      rw [this]
      simp only [wrapg, and_assoc]
    rw [← fin]
    cases o with
    | pick a b c => exact absurd rfl (hp a b c)
    | call c =>
      cases hcc : c.callee with
      | value f => exact absurd hcc (hc c f rfl)
      | _ => simp only [hcc]
    | _ => rfl
theorem gs_move0 (x : Operand) : vstep P ops st ⟨d, .move x, ty, p, af, some (j, want)⟩ K = goG (gsl ops st j want) [flagOf (st.ev x)] (peel (st.ev x), True) fun s => K (st.putd d s) := by
  rw [ps_eq]; rfl; simp; simp
@[simp ↓] theorem gs_move (x : Operand) : vstep P ops st ⟨d, .move x, ty, p, af, some (j, want)⟩ K = force (tick (gsl ops st j want)) fun q => force (tick [flagOf (st.ev x)]) fun fs => force (tick (peel (st.ev x), True)) fun r => goG q fs r fun s => K (st.putd d s) := gs_move0 ops st d ty p af K j want x
theorem gs_binOp0 (o : BinOp) (t yt : TypeId) (x y : Operand) : vstep P ops st ⟨d, .binOp o t x y yt, ty, p, af, some (j, want)⟩ K = goG (gsl ops st j want) [flagOf (st.ev x), flagOf (st.ev y)] (pbinQ P st o t y (peel (st.ev x)) (peel (st.ev y))) fun s => K (st.putd d s) := by
  rw [ps_eq]; rfl; simp; simp
@[simp ↓] theorem gs_binOp (o : BinOp) (t yt : TypeId) (x y : Operand) : vstep P ops st ⟨d, .binOp o t x y yt, ty, p, af, some (j, want)⟩ K = force (tick (gsl ops st j want)) fun q => force (tick [flagOf (st.ev x), flagOf (st.ev y)]) fun fs => force (tick (pbinQ P st o t y (peel (st.ev x)) (peel (st.ev y)))) fun r => goG q fs r fun s => K (st.putd d s) := gs_binOp0 ops st d ty p af K j want o t yt x y
theorem gs_makeInterface0 (t : TypeId) (x : Operand) : vstep P ops st ⟨d, .makeInterface t x, ty, p, af, some (j, want)⟩ K = goG (gsl ops st j want) [flagOf (st.ev x)] (pmkI P t (peel (st.ev x))) fun s => K (st.putd d s) := by
  rw [ps_eq]; rfl; simp; simp
@[simp ↓] theorem gs_makeInterface (t : TypeId) (x : Operand) : vstep P ops st ⟨d, .makeInterface t x, ty, p, af, some (j, want)⟩ K = force (tick (gsl ops st j want)) fun q => force (tick [flagOf (st.ev x)]) fun fs => force (tick (pmkI P t (peel (st.ev x)))) fun r => goG q fs r fun s => K (st.putd d s) := gs_makeInterface0 ops st d ty p af K j want t x
theorem gs_unOp0 (o : UnOp) (t : TypeId) (x : Operand) : vstep P ops st ⟨d, .unOp o t x, ty, p, af, some (j, want)⟩ K = goG (gsl ops st j want) [flagOf (st.ev x)] (pun o (peel (st.ev x))) fun s => K (st.putd d s) := by
  rw [ps_eq]; rfl; simp; simp
@[simp ↓] theorem gs_unOp (o : UnOp) (t : TypeId) (x : Operand) : vstep P ops st ⟨d, .unOp o t x, ty, p, af, some (j, want)⟩ K = force (tick (gsl ops st j want)) fun q => force (tick [flagOf (st.ev x)]) fun fs => force (tick (pun o (peel (st.ev x)))) fun r => goG q fs r fun s => K (st.putd d s) := gs_unOp0 ops st d ty p af K j want o t x
theorem gs_convert0 (a b : TypeId) (x : Operand) : vstep P ops st ⟨d, .convert a b x, ty, p, af, some (j, want)⟩ K = goG (gsl ops st j want) [flagOf (st.ev x)] (pconv P st a b (peel (st.ev x))) fun s => K (st.putd d s) := by
  rw [ps_eq]; rfl; simp; simp
@[simp ↓] theorem gs_convert (a b : TypeId) (x : Operand) : vstep P ops st ⟨d, .convert a b x, ty, p, af, some (j, want)⟩ K = force (tick (gsl ops st j want)) fun q => force (tick [flagOf (st.ev x)]) fun fs => force (tick (pconv P st a b (peel (st.ev x)))) fun r => goG q fs r fun s => K (st.putd d s) := gs_convert0 ops st d ty p af K j want a b x
theorem gs_fieldAddr0 (t : TypeId) (x : Operand) (f : Nat) : vstep P ops st ⟨d, .fieldAddr t x f, ty, p, af, some (j, want)⟩ K = goG (gsl ops st j want) [flagOf (st.ev x)] (pfieldAddr P st t f (peel (st.ev x))) fun s => K (st.putd d s) := by
  rw [ps_eq]; rfl; simp; simp
@[simp ↓] theorem gs_fieldAddr (t : TypeId) (x : Operand) (f : Nat) : vstep P ops st ⟨d, .fieldAddr t x f, ty, p, af, some (j, want)⟩ K = force (tick (gsl ops st j want)) fun q => force (tick [flagOf (st.ev x)]) fun fs => force (tick (pfieldAddr P st t f (peel (st.ev x)))) fun r => goG q fs r fun s => K (st.putd d s) := gs_fieldAddr0 ops st d ty p af K j want t x f
theorem gs_field0 (t : TypeId) (x : Operand) (f : Nat) : vstep P ops st ⟨d, .field t x f, ty, p, af, some (j, want)⟩ K = goG (gsl ops st j want) [flagOf (st.ev x)] (pfield P t f (peel (st.ev x))) fun s => K (st.putd d s) := by
  rw [ps_eq]; rfl; simp; simp
@[simp ↓] theorem gs_field (t : TypeId) (x : Operand) (f : Nat) : vstep P ops st ⟨d, .field t x f, ty, p, af, some (j, want)⟩ K = force (tick (gsl ops st j want)) fun q => force (tick [flagOf (st.ev x)]) fun fs => force (tick (pfield P t f (peel (st.ev x)))) fun r => goG q fs r fun s => K (st.putd d s) := gs_field0 ops st d ty p af K j want t x f
theorem gs_indexAddr0 (t : TypeId) (x i : Operand) : vstep P ops st ⟨d, .indexAddr t x i, ty, p, af, some (j, want)⟩ K = goG (gsl ops st j want) [flagOf (st.ev x), flagOf (st.ev i)] (pindexAddr P st t (peel (st.ev x)) (peel (st.ev i))) fun s => K (st.putd d s) := by
  rw [ps_eq]; rfl; simp; simp
@[simp ↓] theorem gs_indexAddr (t : TypeId) (x i : Operand) : vstep P ops st ⟨d, .indexAddr t x i, ty, p, af, some (j, want)⟩ K = force (tick (gsl ops st j want)) fun q => force (tick [flagOf (st.ev x), flagOf (st.ev i)]) fun fs => force (tick (pindexAddr P st t (peel (st.ev x)) (peel (st.ev i)))) fun r => goG q fs r fun s => K (st.putd d s) := gs_indexAddr0 ops st d ty p af K j want t x i
theorem gs_index0 (t : TypeId) (x i : Operand) : vstep P ops st ⟨d, .index t x i, ty, p, af, some (j, want)⟩ K = goG (gsl ops st j want) [flagOf (st.ev x), flagOf (st.ev i)] (pindex P t (peel (st.ev x)) (peel (st.ev i))) fun s => K (st.putd d s) := by
  rw [ps_eq]; rfl; simp; simp
@[simp ↓] theorem gs_index (t : TypeId) (x i : Operand) : vstep P ops st ⟨d, .index t x i, ty, p, af, some (j, want)⟩ K = force (tick (gsl ops st j want)) fun q => force (tick [flagOf (st.ev x), flagOf (st.ev i)]) fun fs => force (tick (pindex P t (peel (st.ev x)) (peel (st.ev i)))) fun r => goG q fs r fun s => K (st.putd d s) := gs_index0 ops st d ty p af K j want t x i
theorem gs_load0 (t : TypeId) (x : Operand) : vstep P ops st ⟨d, .load t x, ty, p, af, some (j, want)⟩ K = goG (gsl ops st j want) [flagOf (st.ev x)] (pload P st t (peel (st.ev x))) fun s => K (st.putd d s) := by
  rw [ps_eq]; rfl; simp; simp
@[simp ↓] theorem gs_load (t : TypeId) (x : Operand) : vstep P ops st ⟨d, .load t x, ty, p, af, some (j, want)⟩ K = force (tick (gsl ops st j want)) fun q => force (tick [flagOf (st.ev x)]) fun fs => force (tick (pload P st t (peel (st.ev x)))) fun r => goG q fs r fun s => K (st.putd d s) := gs_load0 ops st d ty p af K j want t x
theorem gs_len0 (t : TypeId) (x : Operand) : vstep P ops st ⟨d, .call ⟨.builtin .len, #[x], #[t]⟩, ty, p, af, some (j, want)⟩ K = goG (gsl ops st j want) [flagOf (st.ev x)] (plen P st t (peel (st.ev x))) fun s => K (st.putd d s) := by
  rw [ps_eq]; rfl; simp; intro c f h; cases h; simp
@[simp ↓] theorem gs_len (t : TypeId) (x : Operand) : vstep P ops st ⟨d, .call ⟨.builtin .len, #[x], #[t]⟩, ty, p, af, some (j, want)⟩ K = force (tick (gsl ops st j want)) fun q => force (tick [flagOf (st.ev x)]) fun fs => force (tick (plen P st t (peel (st.ev x)))) fun r => goG q fs r fun s => K (st.putd d s) := gs_len0 ops st d ty p af K j want t x
theorem gs_extract0 (x : Operand) (k : Nat) : vstep P ops st ⟨d, .extract x k, ty, p, af, some (j, want)⟩ K = goG (gsl ops st j want) [flagOf (st.ev x)] (pext k (peel (st.ev x))) fun s => K (st.putd d s) := by
  rw [ps_eq]; rfl; simp; simp
@[simp ↓] theorem gs_extract (x : Operand) (k : Nat) : vstep P ops st ⟨d, .extract x k, ty, p, af, some (j, want)⟩ K = force (tick (gsl ops st j want)) fun q => force (tick [flagOf (st.ev x)]) fun fs => force (tick (pext k (peel (st.ev x)))) fun r => goG q fs r fun s => K (st.putd d s) := gs_extract0 ops st d ty p af K j want x k
theorem gs_build0 (t : TypeId) (parts : List (Nat × Operand)) : vstep P ops st ⟨d, .build t parts.toArray, ty, p, af, some (j, want)⟩ K = goG (gsl ops st j want) (parts.map fun q => flagOf (st.ev q.2)) (pbuild P t (parts.map fun q => (q.1, peel (st.ev q.2)))) fun s => K (st.putd d s) := by
  rw [ps_eq]
  · simp [Op.operands, pev, Function.comp_def]
  · simp
  · simp
@[simp ↓] theorem gs_build (t : TypeId) (parts : List (Nat × Operand)) : vstep P ops st ⟨d, .build t parts.toArray, ty, p, af, some (j, want)⟩ K = force (tick (gsl ops st j want)) fun q => force (tick (parts.map fun q => flagOf (st.ev q.2))) fun fs => force (tick (pbuild P t (parts.map fun q => (q.1, peel (st.ev q.2))))) fun r => goG q fs r fun s => K (st.putd d s) := gs_build0 ops st d ty p af K j want t parts
theorem gs_slice0 (t : TypeId) (x : Operand) (lo hi : Option Operand) : vstep P ops st ⟨d, .slice t x lo hi none, ty, p, af, some (j, want)⟩ K = goG (gsl ops st j want) (flagOf (st.ev x) :: (lo.toList ++ hi.toList).map fun x => flagOf (st.ev x)) (pslice P t (peel (st.ev x)) (lo.map fun x => peel (st.ev x)) (hi.map fun x => peel (st.ev x)) none) fun s => K (st.putd d s) := by
  rw [ps_eq]
  · cases lo <;> cases hi <;> simp [Op.operands, pev]
  · simp
  · simp
@[simp ↓] theorem gs_slice (t : TypeId) (x : Operand) (lo hi : Option Operand) : vstep P ops st ⟨d, .slice t x lo hi none, ty, p, af, some (j, want)⟩ K = force (tick (gsl ops st j want)) fun q => force (tick (flagOf (st.ev x) :: (lo.toList ++ hi.toList).map fun x => flagOf (st.ev x))) fun fs => force (tick (pslice P t (peel (st.ev x)) (lo.map fun x => peel (st.ev x)) (hi.map fun x => peel (st.ev x)) none)) fun r => goG q fs r fun s => K (st.putd d s) := gs_slice0 ops st d ty p af K j want t x lo hi
def goP (q : Option Bool) (c a b : S) (k : S → Prop) : Prop :=
  match q with
  | none => False
  | some q => (vpick q c a b).2 ∧ k (.g q (vpick q c a b).1)
@[simp ↓] theorem goP_some (q : Bool) (c a b : S) (k : S → Prop) : goP (some q) c a b k = force (tick (vpick q c a b)) fun r => goS r fun s => k (.g q s) := rfl
@[simp ↓] theorem gs_pick (c x y : Operand) : vstep P ops st ⟨d, .pick c x y, ty, p, af, some (j, want)⟩ K = force (tick (gsl ops st j want)) fun q => goP q (st.ev c) (st.ev x) (st.ev y) fun s => K (st.putd d s) := by
  show _ = goP (gsl ops st j want) (st.ev c) (st.ev x) (st.ev y) fun s => K (st.putd d s)
  unfold vstep PStep
  simp only [gsl_eq]
  cases gsl ops st j want <;> rfl
def goC (P : Program) (st : St) (q : Option Bool) (f : S) (args : List S) (k : S → Prop) : Prop :=
  match q with
  | none => False
  | some q => ∃ rs s, (((f :: args).map flagOf).all (impB q)) = true ∧ (q = true → pcall P st (peel f) (args.map peel) rs) ∧ retD rs = some s ∧ k (.g q s)
def VG (P : Program) (q : Bool) (f : FuncId) (args : List S) (K : S → Prop) (_ : Keep K) : Prop := ∃ rs s, (q = true → Con P f args rs) ∧ retD rs = some s ∧ K (.g q s)
theorem VG.mk {q : Bool} {f : FuncId} {args : List S} {K : S → Prop} {m : Keep K} (rs : List Rt) (s : S) (h : q = true → Con P f args rs) (hr : retD rs = some s) (hk : K (.g q s)) : VG P q f args K m := ⟨rs, s, h, hr, hk⟩
@[simp ↓] theorem goC_some (q b : Bool) (fid : FuncId) (caps : List C) (args : List S) (k : S → Prop) : goC P st (some q) (.g b (.c (.fn fid caps))) args k = (((b :: args.map flagOf).all (impB q)) = true ∧ (q = true → (frozenDs st (args.map peel)).2) ∧ VG P (tick q) fid (tick ((frozenDs st (args.map peel)).1 ++ caps.map .c)) k .mk) := by
  simp only [goC, VG, tick, pcall, peel_g, flagOf_g, List.map_cons]
  apply propext
  constructor
  · rintro ⟨rs, s, h1, h2, h3, h4⟩
    exact ⟨h1, fun hq => (h2 hq).1, rs, s, fun hq => (h2 hq).2, h3, h4⟩
  · rintro ⟨h1, h2, rs, s, h3, h4, h5⟩
    exact ⟨rs, s, h1, fun hq => ⟨h2 hq, h3 hq⟩, h4, h5⟩
@[simp ↓] theorem goC_some' (q : Bool) (fid : FuncId) (caps : List C) (args : List S) (k : S → Prop) : goC P st (some q) (.c (.fn fid caps)) args k = (((args.map flagOf).all (impB q)) = true ∧ (q = true → (frozenDs st (args.map peel)).2) ∧ VG P (tick q) fid (tick ((frozenDs st (args.map peel)).1 ++ caps.map .c)) k .mk) := by
  simp only [goC, VG, tick, pcall, peel_c, flagOf_c, List.map_cons, List.all_cons, impB_true, Bool.true_and]
  apply propext
  constructor
  · rintro ⟨rs, s, h1, h2, h3, h4⟩
    exact ⟨h1, fun hq => (h2 hq).1, rs, s, fun hq => (h2 hq).2, h3, h4⟩
  · rintro ⟨h1, h2, rs, s, h3, h4, h5⟩
    exact ⟨rs, s, h1, fun hq => ⟨h2 hq, h3 hq⟩, h4, h5⟩
@[simp ↓] theorem gs_call (f : Operand) (args : List Operand) (ts : Array TypeId) : vstep P ops st ⟨d, .call ⟨.value f, args.toArray, ts⟩, ty, p, af, some (j, want)⟩ K = force (tick (gsl ops st j want)) fun q => force (tick (st.ev f)) fun f => force (tick (args.map st.ev)) fun args => goC P st q f args fun s => K (st.putd d s) := by
  show _ = goC P st (gsl ops st j want) (st.ev f) (args.map st.ev) fun s => K (st.putd d s)
  unfold vstep PStep
  simp only [gsl_eq]
  cases gsl ops st j want with
  | none => simp [goC]
  | some q =>
    simp only [goC, wrapg]
    apply propext
    refine exists_congr fun rs => exists_congr fun s => ?_
    have := imp_all q (((st.ev f) :: args.map st.ev).map flagOf) (pcall P st (peel (st.ev f)) ((args.map st.ev).map peel) rs)
    have e1 : ((Op.call ⟨.value f, args.toArray, ts⟩).operands.toList.all fun x => flagOf (st.ev x)) = (((st.ev f) :: args.map st.ev).map flagOf).all id := by
      simp [Op.operands, Call.operands, List.all_map, Function.comp_def]
    have e2 : (args.toArray.toList.map fun x => peel (st.ev x)) = (args.map st.ev).map peel := by simp [List.map_map, Function.comp_def]
    rw [e1, e2, this, and_assoc]
end
section
variable (P : Program) (st : St) (t s d : TypeId) (q : Bool)
@[simp] theorem pbinS_int_shl (k k' : IntKind) (a b : Int) : pbinS P st .shl t (.c (.v (.int k a))) (.c (.v (.int k' b))) = (.c (.v (.int k (k.wrap (a * 2 ^ (min b.toNat k.bits))))), 0 ≤ b) := rfl
@[simp] theorem pbinS_int_shr (k k' : IntKind) (a b : Int) : pbinS P st .shr t (.c (.v (.int k a))) (.c (.v (.int k' b))) = (.c (.v (.int k (a.fdiv (2 ^ (min b.toNat k.bits))))), 0 ≤ b) := rfl
@[simp] theorem pbinS_int_add (k k' : IntKind) (a b : Int) : pbinS P st .add t (.c (.v (.int k a))) (.c (.v (.int k' b))) = (.c (.v (.int k (k.wrap (a + b)))), k = k') := rfl
@[simp] theorem pbinS_int_sub (k k' : IntKind) (a b : Int) : pbinS P st .sub t (.c (.v (.int k a))) (.c (.v (.int k' b))) = (.c (.v (.int k (k.wrap (a - b)))), k = k') := rfl
@[simp] theorem pbinS_int_mul (k k' : IntKind) (a b : Int) : pbinS P st .mul t (.c (.v (.int k a))) (.c (.v (.int k' b))) = (.c (.v (.int k (k.wrap (a * b)))), k = k') := rfl
@[simp] theorem pbinS_int_quo (k k' : IntKind) (a b : Int) : pbinS P st .quo t (.c (.v (.int k a))) (.c (.v (.int k' b))) = (.c (.v (.int k (k.wrap (a.tdiv b)))), k = k' ∧ b ≠ 0) := rfl
@[simp] theorem pbinS_int_rem (k k' : IntKind) (a b : Int) : pbinS P st .rem t (.c (.v (.int k a))) (.c (.v (.int k' b))) = (.c (.v (.int k (a.tmod b))), k = k' ∧ b ≠ 0) := rfl
@[simp] theorem pbinS_int_and (k k' : IntKind) (a b : Int) : pbinS P st .and t (.c (.v (.int k a))) (.c (.v (.int k' b))) = (.c (.v (.int k (bits .and k a b))), k = k') := rfl
@[simp] theorem pbinS_int_or (k k' : IntKind) (a b : Int) : pbinS P st .or t (.c (.v (.int k a))) (.c (.v (.int k' b))) = (.c (.v (.int k (bits .or k a b))), k = k') := rfl
@[simp] theorem pbinS_int_xor (k k' : IntKind) (a b : Int) : pbinS P st .xor t (.c (.v (.int k a))) (.c (.v (.int k' b))) = (.c (.v (.int k (bits .xor k a b))), k = k') := rfl
@[simp] theorem pbinS_int_andNot (k k' : IntKind) (a b : Int) : pbinS P st .andNot t (.c (.v (.int k a))) (.c (.v (.int k' b))) = (.c (.v (.int k (bits .andNot k a b))), k = k') := rfl
@[simp] theorem pbinS_int_eql (k k' : IntKind) (a b : Int) : pbinS P st .eql t (.c (.v (.int k a))) (.c (.v (.int k' b))) = (.c (.v (.bool (a == b))), k = k') := rfl
@[simp] theorem pbinS_int_neq (k k' : IntKind) (a b : Int) : pbinS P st .neq t (.c (.v (.int k a))) (.c (.v (.int k' b))) = (.c (.v (.bool (a != b))), k = k') := rfl
@[simp] theorem pbinS_int_lss (k k' : IntKind) (a b : Int) : pbinS P st .lss t (.c (.v (.int k a))) (.c (.v (.int k' b))) = (.c (.v (.bool (decide (a < b)))), k = k') := rfl
@[simp] theorem pbinS_int_leq (k k' : IntKind) (a b : Int) : pbinS P st .leq t (.c (.v (.int k a))) (.c (.v (.int k' b))) = (.c (.v (.bool (decide (a ≤ b)))), k = k') := rfl
@[simp] theorem pbinS_int_gtr (k k' : IntKind) (a b : Int) : pbinS P st .gtr t (.c (.v (.int k a))) (.c (.v (.int k' b))) = (.c (.v (.bool (decide (b < a)))), k = k') := rfl
@[simp] theorem pbinS_int_geq (k k' : IntKind) (a b : Int) : pbinS P st .geq t (.c (.v (.int k a))) (.c (.v (.int k' b))) = (.c (.v (.bool (decide (b ≤ a)))), k = k') := rfl
@[simp] theorem pbinS_str_add (a b : ByteArray) : pbinS P st .add t (.c (.v (.string a))) (.c (.v (.string b))) = (.c (.v (.string (a ++ b))), a.size + b.size ≤ maxLen) := rfl
@[simp] theorem pbinS_str_eql (a b : ByteArray) : pbinS P st .eql t (.c (.v (.string a))) (.c (.v (.string b))) = (.c (.v (.bool (decide (a = b)))), True) := rfl
@[simp] theorem pbinS_str_neq (a b : ByteArray) : pbinS P st .neq t (.c (.v (.string a))) (.c (.v (.string b))) = (.c (.v (.bool (!decide (a = b)))), True) := rfl
@[simp] theorem pbinS_str_lss (a b : ByteArray) : pbinS P st .lss t (.c (.v (.string a))) (.c (.v (.string b))) = (.c (.v (.bool (Op.bytesLess a.toList b.toList))), True) := rfl
@[simp] theorem pbinS_str_gtr (a b : ByteArray) : pbinS P st .gtr t (.c (.v (.string a))) (.c (.v (.string b))) = (.c (.v (.bool (!(Op.bytesLess a.toList b.toList || decide (a = b))))), True) := rfl
@[simp] theorem pbinS_bool_eql (a b : Bool) : pbinS P st .eql t (.c (.v (.bool a))) (.c (.v (.bool b))) = (.c (.v (.bool (a == b))), P.underlying t = some .bool) := rfl
@[simp] theorem pbinS_bool_neq (a b : Bool) : pbinS P st .neq t (.c (.v (.bool a))) (.c (.v (.bool b))) = (.c (.v (.bool (a != b))), P.underlying t = some .bool) := rfl
@[simp] theorem pbinS_nil_eql (nil : Bool) (xs : List (List C)) : pbinS P st .eql t (.c (.sl nil xs)) (.c (.sl true [])) = (.c (.v (.bool (nil))), isSl P t = true) := rfl
def pbP (P : Program) (t : TypeId) (q : Bool) : Option Res → S × Prop
  | some (.box _ _) => (bl q, isPt P t = true)
  | _ => no
@[simp] theorem pbP_box (q : Bool) (fz : Bool) (ss : List S) : pbP P t q (some (.box fz ss)) = (.c (.v (.bool q)), isPt P t = true) := rfl
@[simp] theorem pbinS_ptr_eql (i o : Nat) : pbinS P st .eql t (.ptr i o) (.c (.v (.pointer none))) = pbP P t false (st.rs i) := by
  simp only [pbinS, pbP]; cases st.rs i with
  | none => rfl
  | some r => cases r <;> rfl
@[simp] theorem pbinS_ptr_neq (i o : Nat) : pbinS P st .neq t (.ptr i o) (.c (.v (.pointer none))) = pbP P t true (st.rs i) := by
  simp only [pbinS, pbP]; cases st.rs i with
  | none => rfl
  | some r => cases r <;> rfl
@[simp] theorem pbinS_np_eql : pbinS P st .eql t (.c (.v (.pointer none))) (.c (.v (.pointer none))) = (.c (.v (.bool true)), isPt P t = true) := rfl
@[simp] theorem pbinS_np_neq : pbinS P st .neq t (.c (.v (.pointer none))) (.c (.v (.pointer none))) = (.c (.v (.bool false)), isPt P t = true) := rfl
@[simp] theorem pbinS_dp_eql (cs : List C) : pbinS P st .eql t (.c (.dp cs)) (.c (.v (.pointer none))) = (.c (.v (.bool false)), isPt P t = true) := rfl
@[simp] theorem pbinS_dp_neq (cs : List C) : pbinS P st .neq t (.c (.dp cs)) (.c (.v (.pointer none))) = (.c (.v (.bool true)), isPt P t = true) := rfl
@[simp] theorem pbinS_agg_eql (a b : List C) : pbinS P st .eql t (.agg a) (.agg b) = (.c (.v (.bool (eqCs a b))), AggEq P t a b) := rfl
def pbO_eql (P : Program) (t : TypeId) (n : Nat) : Option Res → S × Prop
  | some (.arr nil _ xs _) => (bl (nil), isSl P t = true ∧ xs.length = n)
  | _ => no
@[simp] theorem pbO_eql_arr (n : Nat) (nil : Bool) (sz : Nat) (xs : List (List C)) (fx : Nat) : pbO_eql P t n (some (.arr nil sz xs fx)) = (.c (.v (.bool (nil))), isSl P t = true ∧ xs.length = n) := rfl
@[simp] theorem pbinS_own_eql (i n : Nat) : pbinS P st .eql t (.own i n) (.c (.sl true [])) = pbO_eql P t n (st.rs i) := by
  simp only [pbinS, pbO_eql]; cases st.rs i with
  | none => rfl
  | some r => cases r <;> rfl
@[simp] theorem pbinS_nil_neq (nil : Bool) (xs : List (List C)) : pbinS P st .neq t (.c (.sl nil xs)) (.c (.sl true [])) = (.c (.v (.bool (!nil))), isSl P t = true) := rfl
@[simp] theorem pbinS_agg_neq (a b : List C) : pbinS P st .neq t (.agg a) (.agg b) = (.c (.v (.bool (!eqCs a b))), AggEq P t a b) := rfl
def pbO_neq (P : Program) (t : TypeId) (n : Nat) : Option Res → S × Prop
  | some (.arr nil _ xs _) => (bl (!nil), isSl P t = true ∧ xs.length = n)
  | _ => no
@[simp] theorem pbO_neq_arr (n : Nat) (nil : Bool) (sz : Nat) (xs : List (List C)) (fx : Nat) : pbO_neq P t n (some (.arr nil sz xs fx)) = (.c (.v (.bool (!nil))), isSl P t = true ∧ xs.length = n) := rfl
@[simp] theorem pbinS_own_neq (i n : Nat) : pbinS P st .neq t (.own i n) (.c (.sl true [])) = pbO_neq P t n (st.rs i) := by
  simp only [pbinS, pbO_neq]; cases st.rs i with
  | none => rfl
  | some r => cases r <;> rfl
@[simp] theorem sbool_c (b : Bool) : sbool (.c (.v (.bool b))) = some (true, b) := rfl
@[simp] theorem sbool_g (p b : Bool) : sbool (.g p (.c (.v (.bool b)))) = some (p, b) := rfl
def vpO (q : Bool) (c a b : Option (Bool × Bool)) : S × Prop :=
  match c, a, b with
  | some (pc, bc), some (pa, x), some (pb, y) => (bl (bif bc then x else y), q = true → pc = true ∧ (bc = true → pa = true) ∧ (bc = false → pb = true))
  | _, _, _ => no
@[simp] theorem vpO_some (pc bc pa x pb y : Bool) : vpO q (some (pc, bc)) (some (pa, x)) (some (pb, y)) = (.c (.v (.bool (bif bc then x else y))), q = true → pc = true ∧ (bc = true → pa = true) ∧ (bc = false → pb = true)) := rfl
@[simp] theorem vpick_eq (c a b : S) : vpick q c a b = vpO q (sbool c) (sbool a) (sbool b) := rfl
@[simp] theorem bl_eq (b : Bool) : bl b = .c (.v (.bool b)) := rfl
def ldS : Option S → S × Prop
  | some s => (s, True)
  | none => no
@[simp] theorem ldS_some (s : S) : ldS (some s) = (s, True) := rfl
def ldC (m : Nat) : Option (List C) → S × Prop
  | some cs => (.agg cs, cs.length = m)
  | none => no
@[simp] theorem ldC_some (m : Nat) (cs : List C) : ldC m (some cs) = (.agg cs, cs.length = m) := rfl
def ldB (y : Option (Bool × Nat)) (r : Option Res) (o : Nat) : S × Prop :=
  match y, r with
  | some (false, _), some (.box _ ss) => ldS ss[o]?
  | some (true, m), some (.box _ ss) => ldC m (allC ((ss.drop o).take m))
  | _, _ => no
@[simp] theorem ldB_0 (n : Nat) (fz : Bool) (ss : List S) (o : Nat) : ldB (some (false, n)) (some (.box fz ss)) o = ldS ss[o]? := rfl
@[simp] theorem ldB_1 (m : Nat) (fz : Bool) (ss : List S) (o : Nat) : ldB (some (true, m)) (some (.box fz ss)) o = ldC m (allC ((ss.drop o).take m)) := rfl
@[simp] theorem pload_ptr (i o : Nat) : pload P st t (.ptr i o) = ldB (tySz P t) (st.rs i) o := by
  unfold pload ldB
  cases tySz P t with
  | none => cases st.rs i with
    | none => rfl
    | some r => cases r <;> rfl
  | some y =>
    obtain ⟨b, m⟩ := y
    cases b <;> dsimp only <;> cases st.rs i with
    | none => rfl
    | some r => cases r <;> rfl
def ldE (y : Option (Bool × Nat)) (r : Option Res) (n j o : Nat) : S × Prop :=
  match y, r with
  | some (false, _), some (.arr _ sz xs _) => (.c ((xs.getD j []).getD o default), xs.length = n ∧ j < n ∧ o < sz)
  | some (true, m), some (.arr _ sz xs _) => (.agg (((xs.getD j []).drop o).take m), xs.length = n ∧ j < n ∧ o + m ≤ sz)
  | _, _ => no
@[simp] theorem ldE_0 (m : Nat) (nil : Bool) (sz : Nat) (xs : List (List C)) (fx n j o : Nat) : ldE (some (false, m)) (some (.arr nil sz xs fx)) n j o = (.c ((xs.getD j []).getD o default), xs.length = n ∧ j < n ∧ o < sz) := rfl
@[simp] theorem ldE_1 (m : Nat) (nil : Bool) (sz : Nat) (xs : List (List C)) (fx n j o : Nat) : ldE (some (true, m)) (some (.arr nil sz xs fx)) n j o = (.agg (((xs.getD j []).drop o).take m), xs.length = n ∧ j < n ∧ o + m ≤ sz) := rfl
@[simp] theorem pload_ep (i n j o : Nat) : pload P st t (.ep i n j o) = ldE (tySz P t) (st.rs i) n j o := by
  unfold pload ldE
  cases tySz P t with
  | none => cases st.rs i with
    | none => rfl
    | some r => cases r <;> rfl
  | some y =>
    obtain ⟨b, m⟩ := y
    cases b <;> dsimp only <;> cases st.rs i with
    | none => rfl
    | some r => cases r <;> rfl
def ldD (P : Program) (t : TypeId) (y : Option (Bool × Nat)) (cs : List C) : S × Prop :=
  match y, cs with
  | some (false, _), c :: _ => (.c c, True)
  | some (false, _), [] => (.c (dflC P t), False)
  | some (true, m), cs => (.agg (cs.take m), m ≤ cs.length)
  | _, _ => no
@[simp] theorem ldD_nil (P : Program) (t : TypeId) (n : Nat) : ldD P t (some (false, n)) [] = (.c (dflC P t), False) := rfl
@[simp] theorem ldD_0 (P : Program) (t : TypeId) (n : Nat) (c : C) (r : List C) : ldD P t (some (false, n)) (c :: r) = (.c c, True) := rfl
@[simp] theorem ldD_1 (P : Program) (t : TypeId) (m : Nat) (cs : List C) : ldD P t (some (true, m)) cs = (.agg (cs.take m), m ≤ cs.length) := by cases cs <;> rfl
@[simp] theorem pload_dp (cs : List C) : pload P st t (.c (.dp cs)) = ldD P t (tySz P t) cs := by
  unfold pload ldD
  cases tySz P t with
  | none => rfl
  | some y => obtain ⟨b, m⟩ := y; cases b <;> cases cs <;> rfl
def faB (y : Option (Nat × Bool × Nat)) (r : Option Res) (i o : Nat) : S × Prop :=
  match y, r with
  | some (off, _, n), some (.box _ _) => (.ptr i (o + off), n ≠ 0)
  | _, _ => no
@[simp] theorem faB_some (off : Nat) (b : Bool) (n : Nat) (fz : Bool) (ss : List S) (i o : Nat) : faB (some (off, b, n)) (some (.box fz ss)) i o = (.ptr i (o + off), n ≠ 0) := rfl
@[simp] theorem pfieldAddr_ptr (f i o : Nat) : pfieldAddr P st s f (.ptr i o) = faB (fldOf P s f) (st.rs i) i o := by
  unfold pfieldAddr faB
  cases fldOf P s f with
  | none => rfl
  | some y => obtain ⟨a, b, c⟩ := y; dsimp only; cases st.rs i with
    | none => rfl
    | some r => cases r <;> rfl
def faE (y : Option (Nat × Bool × Nat)) (r : Option Res) (i m j o : Nat) : S × Prop :=
  match y, r with
  | some (off, _, n), some (.arr _ _ xs _) => (.ep i m j (o + off), n ≠ 0 ∧ xs.length = m)
  | _, _ => no
@[simp] theorem faE_some (off : Nat) (b : Bool) (n : Nat) (nil : Bool) (sz : Nat) (xs : List (List C)) (fx i m j o : Nat) : faE (some (off, b, n)) (some (.arr nil sz xs fx)) i m j o = (.ep i m j (o + off), n ≠ 0 ∧ xs.length = m) := rfl
@[simp] theorem pfieldAddr_ep (f i m j o : Nat) : pfieldAddr P st s f (.ep i m j o) = faE (fldOf P s f) (st.rs i) i m j o := by
  unfold pfieldAddr faE
  cases fldOf P s f with
  | none => rfl
  | some y => obtain ⟨a, b, c⟩ := y; dsimp only; cases st.rs i with
    | none => rfl
    | some r => cases r <;> rfl
def faD (y : Option (Nat × Bool × Nat)) (cs : List C) : S × Prop :=
  match y with
  | some (off, _, n) => (.c (.dp (cs.drop off)), n ≠ 0)
  | _ => no
@[simp] theorem faD_some (off : Nat) (b : Bool) (n : Nat) (cs : List C) : faD (some (off, b, n)) cs = (.c (.dp (cs.drop off)), n ≠ 0) := rfl
@[simp] theorem pfieldAddr_dp (f : Nat) (cs : List C) : pfieldAddr P st s f (.c (.dp cs)) = faD (fldOf P s f) cs := by
  unfold pfieldAddr faD
  cases fldOf P s f <;> rfl
end
section
variable {P : Program} (ops : Array Oper) (st : St) (d : Option Nat) (ty : TypeId) (p : String) (af : Array Edge) (K : St → Prop) (gd : Nat × Bool)
@[simp ↓] theorem vL_none (op : Op) : vstepL P ops st ⟨d, op, ty, p, af, none⟩ K = vstep P ops st ⟨d, op, ty, p, af, none⟩ K := by simp [vstepL, glend]
@[simp ↓] theorem vL_assign (x : Operand) : vstepL P ops st ⟨d, .assign x, ty, p, af, some gd⟩ K = vstep P ops st ⟨d, .assign x, ty, p, af, some gd⟩ K := by simp [vstepL, glend, effL]
@[simp ↓] theorem vL_move (x : Operand) : vstepL P ops st ⟨d, .move x, ty, p, af, some gd⟩ K = vstep P ops st ⟨d, .move x, ty, p, af, some gd⟩ K := by simp [vstepL, glend, effL]
@[simp ↓] theorem vL_binOp (o : BinOp) (t yt : TypeId) (x y : Operand) : vstepL P ops st ⟨d, .binOp o t x y yt, ty, p, af, some gd⟩ K = vstep P ops st ⟨d, .binOp o t x y yt, ty, p, af, some gd⟩ K := by simp [vstepL, glend, effL]
@[simp ↓] theorem vL_unOp (o : UnOp) (t : TypeId) (x : Operand) : vstepL P ops st ⟨d, .unOp o t x, ty, p, af, some gd⟩ K = vstep P ops st ⟨d, .unOp o t x, ty, p, af, some gd⟩ K := by simp [vstepL, glend, effL]
@[simp ↓] theorem vL_convert (t u : TypeId) (x : Operand) : vstepL P ops st ⟨d, .convert t u x, ty, p, af, some gd⟩ K = vstep P ops st ⟨d, .convert t u x, ty, p, af, some gd⟩ K := by simp [vstepL, glend, effL]
@[simp ↓] theorem vL_fieldAddr (t : TypeId) (x : Operand) (f : Nat) : vstepL P ops st ⟨d, .fieldAddr t x f, ty, p, af, some gd⟩ K = vstep P ops st ⟨d, .fieldAddr t x f, ty, p, af, some gd⟩ K := by simp [vstepL, glend, effL]
@[simp ↓] theorem vL_field (t : TypeId) (x : Operand) (f : Nat) : vstepL P ops st ⟨d, .field t x f, ty, p, af, some gd⟩ K = vstep P ops st ⟨d, .field t x f, ty, p, af, some gd⟩ K := by simp [vstepL, glend, effL]
@[simp ↓] theorem vL_indexAddr (t : TypeId) (x i : Operand) : vstepL P ops st ⟨d, .indexAddr t x i, ty, p, af, some gd⟩ K = vstep P ops st ⟨d, .indexAddr t x i, ty, p, af, some gd⟩ K := by simp [vstepL, glend, effL]
@[simp ↓] theorem vL_index (t : TypeId) (x i : Operand) : vstepL P ops st ⟨d, .index t x i, ty, p, af, some gd⟩ K = vstep P ops st ⟨d, .index t x i, ty, p, af, some gd⟩ K := by simp [vstepL, glend, effL]
@[simp ↓] theorem vL_load (t : TypeId) (x : Operand) : vstepL P ops st ⟨d, .load t x, ty, p, af, some gd⟩ K = vstep P ops st ⟨d, .load t x, ty, p, af, some gd⟩ K := by simp [vstepL, glend, effL]
@[simp ↓] theorem vL_store (t : TypeId) (x y : Operand) : vstepL P ops st ⟨d, .store t x y, ty, p, af, some gd⟩ K = vstep P ops st ⟨d, .store t x y, ty, p, af, some gd⟩ K := by simp [vstepL, glend, effL]
@[simp ↓] theorem vL_extract (x : Operand) (n : Nat) : vstepL P ops st ⟨d, .extract x n, ty, p, af, some gd⟩ K = vstep P ops st ⟨d, .extract x n, ty, p, af, some gd⟩ K := by simp [vstepL, glend, effL]
@[simp ↓] theorem vL_slice (t : TypeId) (x : Operand) (lo hi mx : Option Operand) : vstepL P ops st ⟨d, .slice t x lo hi mx, ty, p, af, some gd⟩ K = vstep P ops st ⟨d, .slice t x lo hi mx, ty, p, af, some gd⟩ K := by simp [vstepL, glend, effL]
@[simp ↓] theorem vL_build (t : TypeId) (parts : Array (Nat × Operand)) : vstepL P ops st ⟨d, .build t parts, ty, p, af, some gd⟩ K = vstep P ops st ⟨d, .build t parts, ty, p, af, some gd⟩ K := by simp [vstepL, glend, effL]
@[simp ↓] theorem vL_nilCheck (x : Operand) : vstepL P ops st ⟨d, .nilCheck x, ty, p, af, some gd⟩ K = vstep P ops st ⟨d, .nilCheck x, ty, p, af, some gd⟩ K := by simp [vstepL, glend, effL]
@[simp ↓] theorem vL_pick (x y z : Operand) : vstepL P ops st ⟨d, .pick x y z, ty, p, af, some gd⟩ K = vstep P ops st ⟨d, .pick x y z, ty, p, af, some gd⟩ K := by simp [vstepL, glend, effL]
@[simp ↓] theorem vL_box (t : TypeId) (x : Operand) : vstepL P ops st ⟨d, .box t x, ty, p, af, some gd⟩ K = vstep P ops st ⟨d, .box t x, ty, p, af, some gd⟩ K := by simp [vstepL, glend, effL]
@[simp ↓] theorem vL_makeFunc (f : Fn) (x y : Array Operand) : vstepL P ops st ⟨d, .makeFunc f x y, ty, p, af, some gd⟩ K = vstep P ops st ⟨d, .makeFunc f x y, ty, p, af, some gd⟩ K := by simp [vstepL, glend, effL]
@[simp ↓] theorem vL_builtin (b : Builtin) (args : Array Operand) (ts : Array TypeId) (hb : b ≠ .append) : vstepL P ops st ⟨d, .call ⟨.builtin b, args, ts⟩, ty, p, af, some gd⟩ K = vstep P ops st ⟨d, .call ⟨.builtin b, args, ts⟩, ty, p, af, some gd⟩ K := by
  cases b <;> first | exact absurd rfl hb | simp [vstepL, glend, effL]
def VGL (P : Program) (ops : Array Oper) (st : St) (o : Oper) (K : St → Prop) (_ : Keep K) : Prop := vstepL P ops st o K
def vLq (P : Program) (ops : Array Oper) (st : St) (o : Oper) (K : St → Prop) (q : Bool) : Prop := bif q then vstepL P ops st o K else vstep P ops st o K
@[simp ↓] theorem vLq_true (o : Oper) : vLq P ops st o K true = VGL P ops (tick st) o K .mk := rfl
@[simp ↓] theorem vLq_false (o : Oper) : vLq P ops st o K false = vstep P ops st o K := rfl
@[simp ↓] theorem vL_call (f : Operand) (args : List Operand) (ts : Array TypeId) : vstepL P ops st ⟨d, .call ⟨.value f, args.toArray, ts⟩, ty, p, af, some gd⟩ K =
    force (tick ((args.map fun x => peel (st.ev x)).any lendS)) fun q => vLq P ops st ⟨d, .call ⟨.value f, args.toArray, ts⟩, ty, p, af, some gd⟩ K q := by
  rw [force_eq, tick_eq]
  unfold vLq
  cases hq : (args.map fun x => peel (st.ev x)).any lendS with
  | true => rfl
  | false =>
    have : ¬ glend P ops st ⟨d, .call ⟨.value f, args.toArray, ts⟩, ty, p, af, some gd⟩ K := by
      unfold glend
      simp only
      rintro ⟨h, _⟩
      have h' : (args.map fun x => peel (st.ev x)).any lendS = true := h
      rw [hq] at h'
      cases h'
    simp [vstepL, this]
theorem VGL.call {f : Operand} {args : List Operand} {ts : Array TypeId} {j : Nat} {want : Bool} {st : St} {K : St → Prop} (h1 : gflag ops st (some (j, want)) = some true) (h2 : ((f :: args).all fun x => flagOf (st.ev x)) = true)
    (h3 : (args.map fun x => peel (st.ev x)).any lendS = true) (h : force (tick (peel (st.ev f))) fun f => force (tick (args.map fun x => peel (st.ev x))) fun args => vcallF P d st f args K) :
    VGL P ops st ⟨d, .call ⟨.value f, args.toArray, ts⟩, ty, p, af, some (j, want)⟩ K .mk := by
  refine .inr ⟨h3, h1, ?_, h⟩
  simpa [Op.operands, Call.operands] using h2
@[simp ↓] theorem vL_buildSlice_no (t : TypeId) (n : Nat) (parts : Array (Nat × Operand)) (j : Nat) (want : Bool) (h : gsl ops st j want = some false) : vstepL P ops st ⟨d, .buildSlice t n parts, ty, p, af, some (j, want)⟩ K = K (st.putd d (.g false .un)) := by
  rw [← gsl_eq] at h
  simp [vstepL, glend, vstep, PStep, h, pev, no, wrapg]
@[simp ↓] theorem vL_buildSlice_yes (t : TypeId) (n : Nat) (parts : List (Nat × Operand)) (x j : Nat) (want : Bool) (h : gsl ops st j want = some true) : vstepL P ops st ⟨some x, .buildSlice t n parts.toArray, ty, p, af, some (j, want)⟩ K =
    ((parts.all fun q => flagOf (st.ev q.2)) = true ∧ force (tick (parts.map fun q => peel (st.ev q.2))) fun ss => force (tick (elZ P t)) fun z => vbsZ z n x (parts.map (·.1)) ss st K) := by
  rw [force_eq, tick_eq, force_eq, tick_eq, ← vbuild_eq (fun x => peel (st.ev x)) t n parts x st K]
  rw [← gsl_eq] at h
  simp [vstepL, glend, vstep, PStep, h, pev, no, vop, effL, Op.operands, Function.comp_def]
theorem VGL.not {o : Oper} {st : St} {K : St → Prop} (h : vstep P ops st o K) : VGL P ops st o K .mk := .inl h
end
attribute [simp] wrapg zcells znils cellsH cellsS spl pfill plAt splice chunks sint vret vret1 vrets allC asRt asRts ownNames pindexAddr ppart pfield pindex bnd pslice plen pmm pconv pun pbuild pnil frozenD frozenDs dataR dataRs retD initSt initEnv pext
end Go.VL
