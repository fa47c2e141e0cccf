/-
  A logic on data over the model's walk, part 18: an operation's effect, from less than is known of its frame.
-/
import Derived.Test.YtlmnablagocfiaaV17
namespace Go.VL
open Go.RowKit

/-- an effect: a slot's content; what is set under names; are these names new? -/
structure Eff where
  d : Option Nat
  s : S
  rs : List (Nat × Res)
  fr : Bool

def St.setRs (st : St) (l : List (Nat × Res)) : St := l.foldl (fun st p => st.setR p.1 (some p.2)) st
def St.app (st : St) (e : Eff) : St := (st.setRs e.rs).putd e.d e.s

/-- the same, whatever is asked -/
def Eqv (st st' : St) : Prop := st.get = st'.get ∧ st.rs = st'.rs
theorem Eqv.refl (st : St) : Eqv st st := ⟨rfl, rfl⟩
theorem Eqv.symm {st st' : St} (h : Eqv st st') : Eqv st' st := ⟨h.1.symm, h.2.symm⟩
theorem Eqv.trans {x y z : St} (h : Eqv x y) (h' : Eqv y z) : Eqv x z := ⟨h.1.trans h'.1, h.2.trans h'.2⟩
theorem Eqv.setR {x y : St} (h : Eqv x y) (i : Nat) (r : Option Res) : Eqv (x.setR i r) (y.setR i r) :=
  ⟨by rw [St.get_setR, St.get_setR]; exact h.1, by funext j; rw [St.rs_setR, St.rs_setR, h.2]⟩
theorem Eqv.put {x y : St} (h : Eqv x y) (t : Nat) (s : S) : Eqv (x.put t s) (y.put t s) :=
  ⟨by funext j; rw [St.get_put, St.get_put, h.1], by rw [St.rs_put, St.rs_put]; exact h.2⟩
theorem Eqv.putd {x y : St} (h : Eqv x y) (t : Option Nat) (s : S) : Eqv (x.putd t s) (y.putd t s) := by
  cases t with
  | none => exact h
  | some t => exact h.put t s
theorem Eqv.setRs {x y : St} (h : Eqv x y) (l : List (Nat × Res)) : Eqv (x.setRs l) (y.setRs l) := by
  induction l generalizing x y with
  | nil => exact h
  | cons p r ih => exact ih (h.setR p.1 (some p.2))
theorem Eqv.app {x y : St} (h : Eqv x y) (e : Eff) : Eqv (x.app e) (y.app e) := (h.setRs e.rs).putd e.d e.s

def Res.men (i : Nat) : Res → Bool
  | .box _ ss => S.mens i ss
  | .arr .. => false

structure Clean (i : Nat) (st : St) : Prop where
  get : ∀ t, (st.get t).men i = false
  rs : ∀ j r, st.rs j = some r → r.men i = false

mutual
theorem S.clr_id {i : Nat} : ∀ (s : S), s.men i = false → s.clr i = s
  | .c _, _ => rfl
  | .agg _, _ => rfl
  | .un, _ => rfl
  | .tup ss, h => by rw [S.men] at h; rw [S.clr, S.clrs_id ss h]
  | .own j _, h => by rw [S.men] at h; rw [S.clr, h]; rfl
  | .ptr j _, h => by rw [S.men] at h; rw [S.clr, h]; rfl
  | .ep j _ _ _, h => by rw [S.men] at h; rw [S.clr, h]; rfl
  | .g _ s, h => by rw [S.men] at h; rw [S.clr, S.clr_id s h]
theorem S.clrs_id {i : Nat} : ∀ (ss : List S), S.mens i ss = false → S.clrs i ss = ss
  | [], _ => rfl
  | s :: r, h => by
    rw [S.mens, Bool.or_eq_false_iff] at h
    rw [S.clrs, S.clr_id s h.1, S.clrs_id r h.2]
end
theorem S.clrs_map (i : Nat) : ∀ (ss : List S), ss.map (S.clr i) = S.clrs i ss
  | [] => rfl
  | s :: r => by rw [List.map_cons, S.clrs, S.clrs_map i r]

theorem Res.clr_id {i : Nat} (r : Res) (h : r.men i = false) : r.clr i = r := by
  cases r with
  | box fz ss => rw [Res.clr, S.clrs_map, S.clrs_id ss h]
  | arr => rfl

theorem Clean.clr {i : Nat} {st : St} (h : Clean i st) : Eqv (st.clr i) st := by
  refine ⟨?_, ?_⟩
  · funext t; rw [St.get_clr, S.clr_id _ (h.get t)]
  · funext j
    rw [St.rs_clr]
    cases e : st.rs j with
    | none => rfl
    | some r => rw [Option.map_some, Res.clr_id r (h.rs j r e)]

theorem Clean.eqv {i : Nat} {st st' : St} (h : Clean i st) (e : Eqv st' st) : Clean i st' := ⟨fun t => by rw [e.1]; exact h.get t, fun j r hr => h.rs j r (by rw [← e.2]; exact hr)⟩
theorem Clean.setR {i : Nat} {st : St} (h : Clean i st) {j : Nat} {r : Res} (hr : r.men i = false) : Clean i (st.setR j (some r)) := by
  refine ⟨fun t => by rw [St.get_setR]; exact h.get t, fun k r' e => ?_⟩
  rw [St.rs_setR] at e
  split at e
  · cases e; exact hr
  · exact h.rs k r' e
theorem Clean.put {i : Nat} {st : St} (h : Clean i st) {t : Nat} {s : S} (hs : s.men i = false) : Clean i (st.put t s) := by
  refine ⟨fun t' => ?_, h.rs⟩
  rw [St.get_put]
  split
  · exact hs
  · exact h.get t'

/-- new, by a name that nothing means -/
theorem Clean.fresh {i : Nat} {st : St} (h : Clean i st) (r : Option Res) : Eqv ((st.clr i).setR i r) (st.setR i r) := h.clr.setR i r

/-! ### The kinds of effects -/
def dataS : S → Bool
  | .c _ => true
  | .agg _ => true
  | _ => false

theorem vsnaps_data (st : St) : ∀ (ss : List S) (k : List S → St → Prop), ss.all dataS = true → k ss st → vsnaps st ss k
  | [], _, _, h => h
  | s :: r, k, hd, h => by
    simp only [List.all_cons, Bool.and_eq_true] at hd
    cases s with
    | c x => rw [vsnaps]; simp only [vsnap]; exact vsnaps_data st r _ hd.2 h
    | agg x => rw [vsnaps]; simp only [vsnap]; exact vsnaps_data st r _ hd.2 h
    | _ => simp [dataS] at hd

def rt1 (N : Nat) : Rt → S × List (Nat × Res)
  | .c x => (.c x, [])
  | .ag cs => (.agg cs, [])
  | .fr nil sz xs fx => (.own N xs.length, [(N, .arr nil sz xs fx)])
def rtsE (N : Nat) : List Rt → List S × List (Nat × Res)
  | [] => ([], [])
  | r :: rest => ((rt1 N r).1 :: (rtsE (N + 1) rest).1, (rt1 N r).2 ++ (rtsE (N + 1) rest).2)
def retEff (dst : Option Nat) (rs : List Rt) : Eff :=
  match dst, rs with
  | none, _ => ⟨none, .un, [], true⟩
  | some d, [r] => ⟨some d, (rt1 (64 * d) r).1, (rt1 (64 * d) r).2, true⟩
  | some d, rs => ⟨some d, .tup (rtsE (64 * d + 1) rs).1, (rtsE (64 * d + 1) rs).2, true⟩

def znE (N : Nat) : Nat → List Value → List (Nat × Res)
  | _, [] => []
  | k, .slice none 0 0 :: r => (N + k + 1, .arr true 0 [] 0) :: znE N (k + 1) r
  | k, _ :: r => znE N (k + 1) r

def veAlloc (P : Program) (dst : Option Nat) (t : TypeId) (k : Eff → Prop) : Prop :=
  match dst, zeroOf P t with
  | some x, some z => z.cells.all (·.oneCell') = true ∧ k ⟨some x, .ptr (64 * x) 0, znE (64 * x) 0 z.cells.toList ++ [(64 * x, .box false (zcells (64 * x) 0 z.cells.toList))], true⟩
  | _, _ => False

def veStore (P : Program) (st : St) (t : TypeId) (ad s : S) (k : Eff → Prop) : Prop :=
  match ad with
  | .ptr i off =>
    match st.rs i, tySz P t, cellsH st s with
    | some (.box false ss), some (_, n), some cs => cs.length = n ∧ off + n ≤ ss.length ∧ k ⟨none, .un, [(i, .box false (spl ss off cs))], false⟩
    | _, _, _ => False
  | .ep i m j o =>
    match st.rs i, tySz P t, cellsS s with
    | some (.arr nil sz xs fx), some (_, n), some cs => dataS s = true ∧ cs.length = n ∧ xs.length = m ∧ j < m ∧ o + n ≤ sz ∧ fx ≤ j ∧ k ⟨none, .un, [(i, .arr nil sz (xs.set j (spl (xs.getD j []) o cs)) fx)], false⟩
    | _, _, _ => False
  | _ => False

def veBuild (P : Program) (dst : Option Nat) (t : TypeId) (len : Nat) (parts : List (Nat × S)) (k : Eff → Prop) : Prop :=
  match dst, P.underlying t with
  | some x, some (.slice e) =>
    match tySz P e, zeroOf P e with
    | some (_, s), some z =>
      match cellsS (ofConst z) with
      | some zc =>
        match pfill (.inr s) (List.replicate len zc).flatten ((parts.map (·.1)).zip (parts.map (·.2))) with
        | some out => (parts.map (·.2)).all dataS = true ∧ zc.length = s ∧ len * s ≤ 16777216 ∧ 0 < s ∧ len ≤ maxLen ∧ k ⟨some x, .own (64 * x) len, [(64 * x, .arr false s (chunks s len out) 0)], true⟩
        | none => False
      | none => False
    | _, _ => False
  | _, _ => False

def veCall (P : Program) (st : St) (dst : Option Nat) (f : S) (args : List S) (k : Eff → Prop) : Prop :=
  ∃ rs, pcall P st f args rs ∧ k (retEff dst rs)

def vePure (P : Program) (st : St) (o : Oper) (k : Eff → Prop) : Prop :=
  (pev P st st.ev o.op).2 ∧ (pev P st st.ev o.op).1.kn st.rs = true ∧ k ⟨o.dst, (pev P st st.ev o.op).1, [], false⟩

/-- an operation's effect -/
def veff (P : Program) (ops : Array Oper) (st : St) (o : Oper) (k : Eff → Prop) : Prop :=
  match o.guard, o.op with
  | none, .alloc t => veAlloc P o.dst t k
  | none, .store t ad x => veStore P st t (st.ev ad) (st.ev x) k
  | none, .buildSlice t len parts => veBuild P o.dst t len (parts.toList.map fun p => (p.1, st.ev p.2)) k
  | none, .call c =>
    match c.callee with
    | .value f => veCall P st o.dst (st.ev f) (c.args.toList.map st.ev) k
    | _ => vePure P st o k
  | none, .pick .. => PStep P ops st o fun s => s.kn st.rs = true ∧ k ⟨o.dst, s, [], false⟩
  | none, _ => vePure P st o k
  | some _, _ => PStep P ops st o fun s => s.kn st.rs = true ∧ k ⟨o.dst, s, [], false⟩

def Eff.mods (e : Eff) : List Nat := e.rs.map (·.1)

section
variable {P : Program} {w0 : World} {K0 : Nat → Nat → Prop} {nt : Nat} {st : St} {a : Act} {w : World} {g : G} {ops : Array Oper}

theorem T.eqv {st' : St} (h : T w0 K0 nt st a w g) (e : Eqv st' st) : T w0 K0 nt st' a w g := h.congr e.1 e.2

theorem vrets_eqv : ∀ (rs : List Rt) (N : Nat) (x y : St), Eqv x y → (∀ i ∈ (rtsE N rs).2.map (·.1), Clean i y) → Eqv (vrets x N rs).2 (y.setRs (rtsE N rs).2) ∧ (vrets x N rs).1 = (rtsE N rs).1
  | [], _, _, _, h, _ => ⟨h, rfl⟩
  | .c c :: rest, N, x, y, h, hc => by
    obtain ⟨h1, h2⟩ := vrets_eqv rest (N + 1) x y h (by simpa [rtsE, rt1] using hc)
    exact ⟨h1, by simp only [vrets, vret1, rtsE, rt1, h2]⟩
  | .ag c :: rest, N, x, y, h, hc => by
    obtain ⟨h1, h2⟩ := vrets_eqv rest (N + 1) x y h (by simpa [rtsE, rt1] using hc)
    exact ⟨h1, by simp only [vrets, vret1, rtsE, rt1, h2]⟩
  | .fr nil sz xs fx :: rest, N, x, y, h, hc => by
    have hN : Clean N y := hc N (by simp [rtsE, rt1])
    have he : Eqv ((x.clr N).setR N (some (.arr nil sz xs fx))) (y.setR N (some (.arr nil sz xs fx))) :=
      ((hN.eqv h).fresh _).trans (h.setR _ _)
    obtain ⟨h1, h2⟩ := vrets_eqv rest (N + 1) _ _ he (fun i hi => (hc i (by simp [rtsE, rt1] at hi ⊢; exact .inr hi)).setR rfl)
    exact ⟨h1, by simp only [vrets, vret1, rtsE, rt1, h2]⟩

theorem znils_eqv (N : Nat) : ∀ (l : List Value) (k : Nat) (x y : St), Eqv x y → (∀ i ∈ (znE N k l).map (·.1), Clean i y) → Eqv (znils N k l x) (y.setRs (znE N k l))
  | [], _, _, _, h, _ => h
  | v :: r, k, x, y, h, hc => by
    by_cases hv : v = .slice none 0 0
    · subst hv
      rw [znils, znE]
      have hN : Clean (N + k + 1) y := hc _ (by rw [znE]; simp)
      have he : Eqv ((x.clr (N + k + 1)).setR (N + k + 1) (some (.arr true 0 [] 0))) (y.setR (N + k + 1) (some (.arr true 0 [] 0))) := ((hN.eqv h).fresh _).trans (h.setR _ _)
      exact znils_eqv N r (k + 1) _ _ he (fun i hi => (hc i (by rw [znE, List.map_cons]; exact List.mem_cons_of_mem _ hi)).setR rfl)
    · have e1 : znils N k (v :: r) x = znils N (k + 1) r x := by
        rw [znils]; intro h; exact hv h
      have e2 : znE N k (v :: r) = znE N (k + 1) r := by
        rw [znE]; intro h; exact hv h
      rw [e1, e2]
      rw [e2] at hc
      exact znils_eqv N r (k + 1) x y h hc

theorem St.setRs_append (st : St) (l m : List (Nat × Res)) : st.setRs (l ++ m) = (st.setRs l).setRs m := by
  unfold St.setRs; rw [List.foldl_append]

theorem Clean.setRs {i : Nat} : ∀ (l : List (Nat × Res)) {st : St}, Clean i st → (∀ p ∈ l, p.2.men i = false) → Clean i (st.setRs l)
  | [], _, h, _ => h
  | p :: r, _, h, hl => Clean.setRs r (h.setR (hl p (by simp))) (fun q hq => hl q (by simp [hq]))

theorem cellsH_sub {sR : St} (h : RSub sR.rs st.rs) {s : S} {cs : List S} (hc : cellsH sR s = some cs) : cellsH st s = some cs := by
  cases s with
  | own i n =>
    simp only [cellsH] at hc ⊢
    cases e : sR.rs i with
    | none => rw [e] at hc; simp at hc
    | some r => rw [e] at hc; rw [h.eq e]; exact hc
  | ptr i n =>
    simp only [cellsH] at hc ⊢
    cases e : sR.rs i with
    | none => rw [e] at hc; simp at hc
    | some r => rw [e] at hc; rw [h.eq e]; exact hc
  | _ => exact hc

theorem znE_arr {N : Nat} : ∀ (l : List Value) (k : Nat), ∀ p ∈ znE N k l, ∀ i, p.2.men i = false
  | [], _, p, hp, _ => by simp [znE] at hp
  | v :: r, k, p, hp, i => by
    by_cases hv : v = .slice none 0 0
    · subst hv
      rw [znE] at hp
      rcases List.mem_cons.1 hp with rfl | hp
      · rfl
      · exact znE_arr r (k + 1) p hp i
    · have e2 : znE N k (v :: r) = znE N (k + 1) r := by
        rw [znE]; intro h; exact hv h
      rw [e2] at hp
      exact znE_arr r (k + 1) p hp i

/-- THE FRAME OF AN OPERATION. -/
theorem veff_ok {o : Oper} {sR : St} (hok : opOk nt o = true) {k : Eff → Prop} (hv : veff P ops sR o k) :
    ∃ e, k e ∧ e.d = o.dst ∧ ∀ (st : St) (a : Act) (w : World) (g : G), T w0 K0 nt st a w g → Seen ops o sR st → (e.fr = true → ∀ i ∈ e.mods, Clean i st) →
      ∀ (next : Act → World → Prop) (Q : Exit → Act → World → Prop), (∀ a' w' g', T w0 K0 nt (st.app e) a' w' g' → next a' w') → stepW P ops o a w next Q := by
  have hd := opOk_dst hok
  have ps : (PStep P ops sR o fun s => s.kn sR.rs = true ∧ k ⟨o.dst, s, [], false⟩) → ∃ e, k e ∧ e.d = o.dst ∧ ∀ (st : St) (a : Act) (w : World) (g : G), T w0 K0 nt st a w g → Seen ops o sR st → (e.fr = true → ∀ i ∈ e.mods, Clean i st) →
      ∀ (next : Act → World → Prop) (Q : Exit → Act → World → Prop), (∀ a' w' g', T w0 K0 nt (st.app e) a' w' g' → next a' w') → stepW P ops o a w next Q := fun hv => by
    obtain ⟨s, h1, h2⟩ := PStep2_ok (w0 := w0) (K0 := K0) hok hv
    exact ⟨_, h1, rfl, fun st a w g h hs _ next Q hn => h2 st a w g h hs next Q hn⟩
  have un : ∀ {a : Act} {w : World} {next : Act → World → Prop} {Q : Exit → Act → World → Prop}, o.guard = none → o.wp P a w next Q → stepW P ops o a w next Q := by
    intro a w next Q hg h
    unfold stepW
    have : Region.wanted o (yielded ops a.tmps) = true := by simp [Region.wanted, hg]
    rw [this, if_pos rfl]
    exact h
  have pp : o.guard = none → vePure P sR o k → ∃ e, k e ∧ e.d = o.dst ∧ ∀ (st : St) (a : Act) (w : World) (g : G), T w0 K0 nt st a w g → Seen ops o sR st → (e.fr = true → ∀ i ∈ e.mods, Clean i st) →
      ∀ (next : Act → World → Prop) (Q : Exit → Act → World → Prop), (∀ a' w' g', T w0 K0 nt (st.app e) a' w' g' → next a' w') → stepW P ops o a w next Q := fun hg hv => by
    obtain ⟨h1, h2, h3⟩ := hv
    refine ⟨_, h3, rfl, fun st a w g h hs _ next Q hn => ?_⟩
    obtain ⟨u, r1, r2⟩ := pev_ok (h.bare hs.rs) o sR.ev (fun x hx => hs.sr h x hx) (by rw [pev_bare]; exact h1)
    rw [pev_bare] at r2
    unfold stepW
    have : Region.wanted o (yielded ops a.tmps) = true := by simp [Region.wanted, hg]
    rw [this, if_pos rfl]
    exact ow_value r1 (hn _ w g (h.putd hd (SR.up hs.rs h2 r2)))
  unfold veff at hv
  split at hv
  · rename_i t hg ho
    unfold veAlloc at hv
    split at hv
    · rename_i x z hx hz
      obtain ⟨h1, h2⟩ := hv
      refine ⟨_, h2, hx.symm, fun st a w g h hs hc next Q hn => un hg ?_⟩
      have hc := hc rfl
      refine valloc_ok (K := fun st' => Eqv st' (st.app ⟨some x, .ptr (64 * x) 0, znE (64 * x) 0 z.cells.toList ++ [(64 * x, .box false (zcells (64 * x) 0 z.cells.toList))], true⟩)) h hd ho ?_ (fun st' a' w' g' he hT => hn _ _ _ (hT.eqv he.symm))
      unfold valloc
      rw [hx, hz]
      refine ⟨h1, ?_⟩
      have hz1 := znils_eqv (64 * x) z.cells.toList 0 st st (Eqv.refl _) (fun i hi => hc i (by simp [Eff.mods] at hi ⊢; exact .inl hi))
      have hx1 : Clean (64 * x) (st.setRs (znE (64 * x) 0 z.cells.toList)) := Clean.setRs _ (hc _ (by simp [Eff.mods])) (fun p hp => znE_arr _ _ p hp _)
      have := ((hx1.eqv hz1).fresh (some (.box false (zcells (64 * x) 0 z.cells.toList)))).trans (hz1.setR _ _)
      refine (this.put x (.ptr (64 * x) 0)).trans ?_
      simp only [St.app, St.setRs_append]
      exact Eqv.refl _
    · exact hv.elim
  · rename_i t ad x hg ho
    have hdn := opOk_store hok t ad x ho
    unfold veStore at hv
    split at hv
    · rename_i i off had
      split at hv
      · rename_i ss n n' cs hr hty hcs
        obtain ⟨h1, h2, h3⟩ := hv
        refine ⟨_, h3, hdn.symm, fun st a w g h hs _ next Q hn => un hg ?_⟩
        refine vstore_ok (e := st.ev) (K := fun st' => st' = st.setR i (some (.box false (spl ss off cs)))) h hdn ho (h.ev ad) (h.ev x) ?_ (fun st' a' w' g' he hT => by subst he; exact hn _ _ _ hT)
        rw [← hs.ev ad (by rw [ho]; simp [Op.operands]), ← hs.ev x (by rw [ho]; simp [Op.operands]), had]
        unfold vstore
        simp only [hs.rs.eq hr, hty, cellsH_sub hs.rs hcs]
        exact ⟨h1, h2, trivial⟩
      · exact hv.elim
    · rename_i i m j off had
      split at hv
      · rename_i nil sz xs fx n n' cs hr hty hcs
        obtain ⟨h0, h1, h2, h3, h4, h5, h6⟩ := hv
        refine ⟨_, h6, hdn.symm, fun st a w g h hs _ next Q hn => un hg ?_⟩
        refine vstore_ok (e := st.ev) (K := fun st' => st' = st.setR i (some (.arr nil sz (xs.set j (spl (xs.getD j []) off cs)) fx))) h hdn ho (h.ev ad) (h.ev x) ?_ (fun st' a' w' g' he hT => by subst he; exact hn _ _ _ hT)
        rw [← hs.ev ad (by rw [ho]; simp [Op.operands]), ← hs.ev x (by rw [ho]; simp [Op.operands]), had]
        unfold vstore
        cases hsx : sR.ev x with
        | c y => rw [hsx] at hcs; simp only [vsnap, hs.rs.eq hr, hty, hcs]; exact ⟨h1, h2, h3, h4, h5, trivial⟩
        | agg y => rw [hsx] at hcs; simp only [vsnap, hs.rs.eq hr, hty, hcs]; exact ⟨h1, h2, h3, h4, h5, trivial⟩
        | _ => rw [hsx] at h0; simp [dataS] at h0
      · exact hv.elim
    · exact hv.elim
  · rename_i t len parts hg ho
    unfold veBuild at hv
    split at hv
    · rename_i x e hx hu
      split at hv
      · rename_i b s z hty hz
        split at hv
        · rename_i zc hzc
          split at hv
          · rename_i out hout
            obtain ⟨h0, h1, h2, h3, h4, h5⟩ := hv
            refine ⟨_, h5, hx.symm, fun st a w g h hs hc next Q hn => un hg ?_⟩
            have hN := hc rfl (64 * x) (by simp [Eff.mods])
            refine vbuildSlice_ok (e := sR.ev) (K := fun st' => Eqv st' (st.app ⟨some x, .own (64 * x) len, [(64 * x, .arr false s (chunks s len out) 0)], true⟩)) h hd ho (fun y hy => by rw [hs.ev y hy]; exact h.ev y) ?_ (fun st' a' w' g' he hT => hn _ _ _ (hT.eqv he.symm))
            unfold vbuildSlice
            simp only [hx, hu, hty, hz, hzc]
            refine vsnaps_data _ _ _ h0 ?_
            simp only [hout]
            exact ⟨h1, h2, h3, h4, (hN.fresh _).put _ _⟩
          · exact hv.elim
        · exact hv.elim
      · exact hv.elim
    · exact hv.elim
  · rename_i c hg ho
    split at hv
    · rename_i f hcal
      obtain ⟨rs, h1, h2⟩ := hv
      have hed : (retEff o.dst rs).d = o.dst := by
        unfold retEff
        split <;> simp_all
      refine ⟨_, h2, hed, fun st a w g h hs hc next Q hn => un hg ?_⟩
      refine pcall2_ok h hs.rs ho hcal sR.ev (fun x hx => hs.sr h x hx) h1 (fun vs w' g' hT p4 hlow hsz => ?_)
      have hB : w0.heap.size ≤ w.heap.size := h.below.size
      have hB' : w0.heap.size ≤ w'.heap.size := Nat.le_trans hB hsz
      have hlow' : ∀ i r b, st.rs i = some r → blk (g'.loc i) = some b → b < w.heap.size ∨ ∃ v ∈ ([] : List Value), blk v = some b := fun i r b hi hb => .inl (hlow i r b hi hb)
      cases hdst : o.dst with
      | none => rw [hdst] at hn; exact hn _ _ _ hT
      | some y =>
        rw [hdst] at hn hc
        have hlen := p4.1
        have hy := hd y hdst
        have hc : ∀ i ∈ (retEff (some y) rs).mods, Clean i st := hc (by unfold retEff; split <;> rfl)
        have two : ∀ rs', rs = rs' → (∀ r, rs' ≠ [r]) → next (a.put (some y) (retV vs)) w' := by
          intro rs' e hne
          subst e
          have hE : retEff (some y) rs = ⟨some y, .tup (rtsE (64 * y + 1) rs).1, (rtsE (64 * y + 1) rs).2, true⟩ := by
            match rs, hne with
            | [], _ => rfl
            | [r], h' => exact absurd rfl (h' r)
            | _ :: _ :: _, _ => rfl
          rw [hE] at hn hc
          obtain ⟨g2, m1, m2, m3, m4, m5⟩ := T.rets hB' rs vs st _ (64 * y + 1) w.heap.size [] hT hlow' p4 hB (by simp)
          obtain ⟨q1, q2⟩ := vrets_eqv rs (64 * y + 1) st st (Eqv.refl _) hc
          have hv : retV vs = .tuple vs.toArray := by
            unfold retV
            split
            · rename_i v
              exfalso
              match rs, hlen with
              | [x], _ => exact hne x rfl
            · rfl
          rw [hv]
          refine hn _ _ g2 ((m1.put (t := y) (s := .tup (vrets st (64 * y + 1) rs).1) (u := .tuple vs.toArray) hy (by rw [SR]; exact ⟨vs, rfl, m2⟩)).eqv (Eqv.symm ?_))
          rw [q2]
          exact q1.put _ _
        cases rs with
        | nil => exact two [] rfl (by simp)
        | cons r rest =>
          cases rest with
          | cons r2 rest => exact two _ rfl (by simp)
          | nil =>
            cases vs with
            | nil => simp at hlen
            | cons v vs =>
              cases vs with
              | cons v' vs => simp at hlen
              | nil =>
                have hE : retEff (some y) [r] = ⟨some y, (rt1 (64 * y) r).1, (rt1 (64 * y) r).2, true⟩ := rfl
                rw [hE] at hn hc
                obtain ⟨g2, m1, m2, m3, m4, m5⟩ := T.rets hB' [r] [v] st _ (64 * y) w.heap.size [] hT hlow' p4 hB (by simp)
                obtain ⟨q1, q2⟩ := vrets_eqv [r] (64 * y) st st (Eqv.refl _) (by simpa [rtsE, Eff.mods] using hc)
                have e1 : (vrets st (64 * y) [r]).1 = [(vret1 st (64 * y) r).1] := rfl
                have e2 : (rtsE (64 * y) [r]).1 = [(rt1 (64 * y) r).1] := rfl
                have e3 : (rtsE (64 * y) [r]).2 = (rt1 (64 * y) r).2 := by simp [rtsE]
                rw [e1, SRs] at m2
                obtain ⟨u, us', p1, p2, _⟩ := m2
                simp at p1
                rw [e1, e2] at q2
                rw [e3] at q1
                have q3 : (vret1 st (64 * y) r).1 = (rt1 (64 * y) r).1 := by simpa using q2
                refine hn _ _ g2 ((m1.put (t := y) (s := (rt1 (64 * y) r).1) (u := v) hy ?_).eqv (Eqv.symm (q1.put _ _)))
                rw [← q3, p1.1]
                exact p2
    · exact pp hg hv
  · exact ps hv
  · rename_i hg _ _ _ _ _
    exact pp hg hv
  · exact ps hv
end
end Go.VL
