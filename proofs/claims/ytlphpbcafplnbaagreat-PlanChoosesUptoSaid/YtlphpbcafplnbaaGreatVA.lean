/- Contracts of functions of the seat, proved in a logic on data over the model (part VA). -/
import Derived.WalkKit
import Derived.ProofKit
import Derived.WalkSpells
set_option linter.unusedSimpArgs false
set_option linter.unusedVariables false
namespace Go.VL
open Go.RowKit
inductive C where
  | v (x : Value)
  | sl (nil : Bool) (xs : List (List C))
  | dp (cs : List C)
  | fn (f : FuncId) (caps : List C)
  | ifc (d : TypeId) (cs : List C)
  | ifo (d : TypeId) (c : C)
instance : Inhabited C := ⟨.v (.int .i64 0)⟩
mutual
def CR (K : Nat → Nat → Prop) (w : World) : C → Value → Prop
  | .v x, u => u = x ∧ x.oneCell' = true
  | .sl nil xs, u => (nil = true ∧ xs = [] ∧ u = .slice none 0 0) ∨
      (nil = false ∧ ∃ b o s cap sz, u = .slice (some ⟨b, o, s⟩) xs.length cap ∧ xs.length ≤ cap ∧ cap ≤ maxLen ∧ (xs = [] ∨ s = none) ∧ ER K w b o sz xs)
  | .dp cs, u => ∃ b o, u = .pointer (some ⟨b, o, none⟩) ∧ LR K w b o cs
  | .fn f caps, u => ∃ us : List Value, u = .func (.func f) #[] us.toArray ∧ VR K w caps us
  | .ifc d cs, u => ∃ us : List Value, u = .iface d (.agg us.toArray) ∧ VR K w cs us
  | .ifo d c, u => ∃ x : Value, u = .iface d x ∧ CR K w c x
def LR (K : Nat → Nat → Prop) (w : World) (b : Nat) : Nat → List C → Prop
  | _, [] => True
  | o, c :: r => (K b o ∧ ∃ u, w.cell? ⟨b, o, none⟩ = some u ∧ CR K w c u) ∧ LR K w b (o + 1) r
def VR (K : Nat → Nat → Prop) (w : World) : List C → List Value → Prop
  | [], us => us = []
  | c :: r, us => ∃ u us', us = u :: us' ∧ CR K w c u ∧ VR K w r us'
def ER (K : Nat → Nat → Prop) (w : World) (b : Nat) : Nat → Nat → List (List C) → Prop
  | _, _, [] => True
  | o, sz, e :: r => (e.length = sz ∧ LR K w b o e) ∧ ER K w b (o + sz) sz r
end
structure Keeps (K : Nat → Nat → Prop) (w : World) (K' : Nat → Nat → Prop) (w' : World) : Prop where
  sub : ∀ b o, K b o → K' b o
  cell : ∀ b o, K b o → w'.cell? ⟨b, o, none⟩ = w.cell? ⟨b, o, none⟩
theorem Keeps.refl (K : Nat → Nat → Prop) (w : World) : Keeps K w K w := ⟨fun _ _ h => h, fun _ _ _ => rfl⟩
theorem Keeps.trans {K K' K'' : Nat → Nat → Prop} {w w' w'' : World} (h : Keeps K w K' w') (h' : Keeps K' w' K'' w'') : Keeps K w K'' w'' :=
  ⟨fun b o k => h'.sub b o (h.sub b o k), fun b o k => (h'.cell b o (h.sub b o k)).trans (h.cell b o k)⟩
mutual
theorem CR.mono {K K' : Nat → Nat → Prop} {w w' : World} (H : Keeps K w K' w') : ∀ (c : C) (u : Value), CR K w c u → CR K' w' c u
  | .v x, u, h => by rw [CR] at h ⊢; exact h
  | .sl nil xs, u, h => by
    rw [CR] at h ⊢
    rcases h with h | ⟨h1, b, o, s, cap, sz, h2, h3, h4, hs, h5⟩
    · exact .inl h
    · exact .inr ⟨h1, b, o, s, cap, sz, h2, h3, h4, hs, ER.mono H b xs o sz h5⟩
  | .dp cs, u, h => by
    rw [CR] at h ⊢
    obtain ⟨b, o, h1, h2⟩ := h
    exact ⟨b, o, h1, LR.mono H b cs o h2⟩
  | .fn f caps, u, h => by
    rw [CR] at h ⊢
    obtain ⟨us, h1, h2⟩ := h
    exact ⟨us, h1, VR.mono H caps us h2⟩
  | .ifc d cs, u, h => by
    rw [CR] at h ⊢
    obtain ⟨us, h1, h2⟩ := h
    exact ⟨us, h1, VR.mono H cs us h2⟩
  | .ifo d c, u, h => by
    rw [CR] at h ⊢
    obtain ⟨x, h1, h2⟩ := h
    exact ⟨x, h1, CR.mono H c x h2⟩
theorem LR.mono {K K' : Nat → Nat → Prop} {w w' : World} (H : Keeps K w K' w') (b : Nat) : ∀ (cs : List C) (o : Nat), LR K w b o cs → LR K' w' b o cs
  | [], o, h => by rw [LR]; trivial
  | c :: r, o, h => by
    rw [LR] at h ⊢
    obtain ⟨⟨h1, u, h2, h3⟩, h4⟩ := h
    exact ⟨⟨H.sub _ _ h1, u, by rw [H.cell _ _ h1]; exact h2, CR.mono H c u h3⟩, LR.mono H b r (o + 1) h4⟩
theorem VR.mono {K K' : Nat → Nat → Prop} {w w' : World} (H : Keeps K w K' w') : ∀ (cs : List C) (us : List Value), VR K w cs us → VR K' w' cs us
  | [], us, h => by rw [VR] at h ⊢; exact h
  | c :: r, us, h => by
    rw [VR] at h ⊢
    obtain ⟨u, us', h1, h2, h3⟩ := h
    exact ⟨u, us', h1, CR.mono H c u h2, VR.mono H r us' h3⟩
theorem ER.mono {K K' : Nat → Nat → Prop} {w w' : World} (H : Keeps K w K' w') (b : Nat) : ∀ (xs : List (List C)) (o sz : Nat), ER K w b o sz xs → ER K' w' b o sz xs
  | [], o, sz, h => by rw [ER]; trivial
  | e :: r, o, sz, h => by
    rw [ER] at h ⊢
    obtain ⟨⟨h1, h2⟩, h3⟩ := h
    exact ⟨⟨h1, LR.mono H b e o h2⟩, ER.mono H b r (o + sz) sz h3⟩
end
section forms
variable {K : Nat → Nat → Prop} {w : World}
theorem LR_iff (b : Nat) : ∀ (cs : List C) (o : Nat), LR K w b o cs ↔ ∀ (k : Nat) (c : C), cs[k]? = some c → K b (o + k) ∧ ∃ u, w.cell? ⟨b, o + k, none⟩ = some u ∧ CR K w c u
  | [], o => by rw [LR]; simp
  | c :: r, o => by
    rw [LR, LR_iff b r (o + 1)]
    constructor
    · rintro ⟨h1, h2⟩ k d hk
      cases k with
      | zero => simp at hk; subst hk; exact h1
      | succ k => have := h2 k d (by simpa using hk); rw [show o + (k + 1) = o + 1 + k from by omega]; exact this
    · intro h
      refine ⟨by simpa using h 0 c rfl, fun k d hk => ?_⟩
      have := h (k + 1) d (by simpa using hk)
      rwa [show o + (k + 1) = o + 1 + k from by omega] at this
theorem VR_iff : ∀ (cs : List C) (us : List Value), VR K w cs us ↔ us.length = cs.length ∧ ∀ (k : Nat) (c : C) (u : Value), cs[k]? = some c → us[k]? = some u → CR K w c u
  | [], us => by rw [VR]; simp
  | c :: r, us => by
    rw [VR]
    constructor
    · rintro ⟨u, us', rfl, h1, h2⟩
      obtain ⟨h3, h4⟩ := (VR_iff r us').1 h2
      refine ⟨by simp [h3], fun k d x hk hx => ?_⟩
      cases k with
      | zero => simp at hk hx; subst hk; subst hx; exact h1
      | succ k => exact h4 k d x (by simpa using hk) (by simpa using hx)
    · rintro ⟨h1, h2⟩
      cases us with
      | nil => simp at h1
      | cons u us' => exact ⟨u, us', rfl, h2 0 c u rfl rfl, (VR_iff r us').2 ⟨by simpa using h1, fun k d x hk hx => h2 (k + 1) d x (by simpa using hk) (by simpa using hx)⟩⟩
theorem ER_iff (b sz : Nat) : ∀ (xs : List (List C)) (o : Nat), ER K w b o sz xs ↔ ∀ (j : Nat) (e : List C), xs[j]? = some e → e.length = sz ∧ LR K w b (o + j * sz) e
  | [], o => by rw [ER]; simp
  | e :: r, o => by
    rw [ER, ER_iff b sz r (o + sz)]
    constructor
    · rintro ⟨h1, h2⟩ j d hj
      cases j with
      | zero => simp at hj; subst hj; simpa using h1
      | succ j => have := h2 j d (by simpa using hj); rw [show o + (j + 1) * sz = o + sz + j * sz from by rw [Nat.add_mul]; omega]; exact this
    · intro h
      refine ⟨by simpa using h 0 e rfl, fun j d hj => ?_⟩
      have := h (j + 1) d (by simpa using hj)
      rwa [show o + (j + 1) * sz = o + sz + j * sz from by rw [Nat.add_mul]; omega] at this
mutual
theorem CR.one {c : C} {u : Value} (h : CR K w c u) : u.oneCell' = true := by
  cases c with
  | v x => rw [CR] at h; obtain ⟨rfl, h⟩ := h; exact h
  | sl nil xs => rw [CR] at h; rcases h with ⟨_, _, rfl⟩ | ⟨_, b, o, s, cap, sz, rfl, _⟩ <;> rfl
  | dp cs => rw [CR] at h; obtain ⟨b, o, rfl, _⟩ := h; rfl
  | fn f caps => rw [CR] at h; obtain ⟨us, rfl, _⟩ := h; rfl
  | ifc d cs => rw [CR] at h; obtain ⟨us, rfl, _⟩ := h; rfl
  | ifo d c => rw [CR] at h; obtain ⟨x, rfl, _⟩ := h; rfl
end
end forms
inductive S where
  | c (x : C)
  | agg (cs : List C)
  | tup (ss : List S)
  | own (i n : Nat)
  | ptr (i off : Nat)
  | ep (i n j off : Nat)
  | g (b : Bool) (s : S)
  | st (ss : List S)
  | suf (i n j : Nat)
  | fnp (f : FuncId) (ss : List S)
  | mp (i : Nat)
  | me (i j off : Nat)
  | pre (i n m : Nat)
  | un
inductive MB where
  | ents (kvs : List (Value × List S))
  | iter (bm n : Nat) (seen : List Nat)
  | rows (nil : Bool) (sz : Nat) (xs : List (List S))
def MB.sh : MB → Option (Nat × Nat)
  | .rows _ sz xs => some (sz, xs.length)
  | _ => none
inductive Res where
  | box (fz : Bool) (ss : List S)
  | arr (nil : Bool) (sz : Nat) (xs : List (List C)) (fx : Nat)
  | pin (v : Value) (s : S)
  | map (m : MB)
structure St where
  env : List (Nat × S)
  res : List (Nat × Option Res)
def vlook {α : Type} (d : α) : List (Nat × α) → Nat → α
  | [], _ => d
  | (k, x) :: r, t => bif k == t then x else vlook d r t
def St.get (st : St) (t : Nat) : S := vlook .un st.env t
def St.rs (st : St) (i : Nat) : Option Res := vlook none st.res i
def St.put (st : St) (t : Nat) (s : S) : St := { st with env := (t, s) :: st.env }
def St.putd (st : St) (dst : Option Nat) (s : S) : St := match dst with | some t => st.put t s | none => st
def St.setR (st : St) (i : Nat) (r : Option Res) : St := { st with res := (i, r) :: st.res }
theorem St.get_put (st : St) (t t' : Nat) (s : S) : (st.put t s).get t' = if t = t' then s else st.get t' := by
  simp only [St.get, St.put, vlook]
  by_cases h : t = t'
  · subst h; simp
  · have : (t == t') = false := by simpa using h
    simp [this, h]
theorem St.rs_setR (st : St) (i j : Nat) (r : Option Res) : (st.setR i r).rs j = if i = j then r else st.rs j := by
  simp only [St.rs, St.setR, vlook]
  by_cases h : i = j
  · subst h; simp
  · have : (i == j) = false := by simpa using h
    simp [this, h]
@[simp] theorem St.rs_put (st : St) (t : Nat) (s : S) : (st.put t s).rs = st.rs := rfl
@[simp] theorem St.get_setR (st : St) (i : Nat) (r : Option Res) : (st.setR i r).get = st.get := rfl
structure G where
  K : Nat → Nat → Prop
  loc : Nat → Value
mutual
def SR (g : G) (w : World) (R : Nat → Option Res) : S → Value → Prop
  | .c x, u => CR g.K w x u
  | .agg cs, u => ∃ us : List Value, u = .agg us.toArray ∧ VR g.K w cs us
  | .tup ss, u => ∃ us : List Value, u = .tuple us.toArray ∧ SRs g w R ss us
  | .fnp f ss, u => ∃ us : List Value, u = .func (.func f) #[] us.toArray ∧ SRs g w R ss us
  | .st ss, u => ∃ us : List Value, u = .agg us.toArray ∧ SRs g w R ss us ∧ ∀ v ∈ us, v.oneCell' = true
  | .own i n, u => ∀ nil sz xs fx, R i = some (.arr nil sz xs fx) → xs.length = n → u = g.loc i
  | .ptr i off, u => ∀ fz ss, R i = some (.box fz ss) → ∃ b, g.loc i = .pointer (some ⟨b, 0, none⟩) ∧ u = .pointer (some ⟨b, off, none⟩)
  | .ep i n j off, u => ∀ nil sz xs fx, R i = some (.arr nil sz xs fx) → xs.length = n → ∃ b cap, g.loc i = .slice (some ⟨b, 0, none⟩) n cap ∧ u = .pointer (some ⟨b, j * sz + off, none⟩)
  | .me i j off, u => ∀ nil sz xs, R i = some (.map (.rows nil sz xs)) → j < xs.length → ∃ b cap, g.loc i = .slice (some ⟨b, 0, none⟩) xs.length cap ∧ u = .pointer (some ⟨b, j * sz + off, none⟩)
  | .suf i n j, u => ∀ nil sz xs fx, R i = some (.arr nil sz xs fx) → xs.length = n → ∃ a c, u = .slice a (n - j) c ∧ (n - j = 0 ∨ ∃ b cap, g.loc i = .slice (some ⟨b, 0, none⟩) n cap ∧ a = some ⟨b, j * sz, none⟩)
  | .pre i n m, u => ∀ nil sz xs fx, R i = some (.arr nil sz xs fx) → xs.length = n → ∃ a cap, g.loc i = .slice (some a) n cap ∧ u = .slice (some a) m cap
  | .g b s, u => (b = true → SR g w R s u) ∧ (b = false → u = undef)
  | .mp i, u => ∀ m, R i = some (.map m) → u = g.loc i
  | .un, _ => True
def SRs (g : G) (w : World) (R : Nat → Option Res) : List S → List Value → Prop
  | [], us => us = []
  | s :: r, us => ∃ u us', us = u :: us' ∧ SR g w R s u ∧ SRs g w R r us'
end
def blk : Value → Option Nat
  | .pointer (some a) => some a.block
  | .slice (some a) _ _ => some a.block
  | .map (some b) => some b
  | _ => none
def Holds (K : Nat → Nat → Prop) (w : World) (sz : Nat) (xs : List (List C)) (cur : Array Value) : Prop :=
  ∀ (j : Nat) (e : List C), xs[j]? = some e → e.length = sz ∧ ∀ (k : Nat) (c : C), e[k]? = some c → ∃ u, cur[j * sz + k]? = some u ∧ CR K w c u
def EntR (g : G) (w : World) (R : Nat → Option Res) (cs : List S) (u : Value) : Prop := match cs with
  | [c] => SR g w R c u ∧ u.oneCell' = true
  | cs => ∃ us : List Value, u = .agg us.toArray ∧ SRs g w R cs us ∧ ∀ v ∈ us, v.oneCell' = true
def MapR (g : G) (w : World) (R : Nat → Option Res) : List (Value × List S) → List MapEntry → Prop
  | [], es => es = []
  | x :: r, es => ∃ e es', es = e :: es' ∧ e.key = x.1 ∧ EntR g w R x.2 e.val ∧ MapR g w R r es'
def HoldsS (g : G) (w : World) (R : Nat → Option Res) (sz : Nat) (xs : List (List S)) (cur : Array Value) : Prop :=
  ∀ (j : Nat) (e : List S), xs[j]? = some e → e.length = sz ∧ ∀ (k : Nat) (s : S), e[k]? = some s → ∃ u, cur[j * sz + k]? = some u ∧ SR g w R s u ∧ u.oneCell' = true
def MR (g : G) (w : World) (R : Nat → Option Res) (B : Nat → Prop) (i : Nat) : MB → Prop
  | .ents kvs => ∃ b es, g.loc i = .map (some b) ∧ B b ∧ w.heap[b]? = some (.map es es.size) ∧ MapR g w R kvs es.toList ∧ ∀ (j : Nat) (e : MapEntry), es[j]? = some e → e.born = j
  | .iter bm n seen => ∃ b, g.loc i = .pointer (some ⟨b, 0, none⟩) ∧ B b ∧ w.heap[b]? = some (.mapIter (some bm) n seen.toArray n)
  | .rows nil sz xs => (nil = true ∧ xs = [] ∧ g.loc i = .slice none 0 0) ∨
      (nil = false ∧ ∃ b cap cur E, g.loc i = .slice (some ⟨b, 0, none⟩) xs.length cap ∧ B b ∧ w.heap[b]? = some (.cells cur E (0, 0)) ∧ xs.length ≤ cap ∧ cap ≤ maxLen ∧
        cur.size = cap * sz ∧ HoldsS g w R sz xs cur ∧ ∀ o, ¬ g.K b o)
def RR (g : G) (w : World) (R : Nat → Option Res) (B : Nat → Prop) (i : Nat) : Res → Prop
  | .box fz ss => ∃ b cur E, g.loc i = .pointer (some ⟨b, 0, none⟩) ∧ B b ∧ w.heap[b]? = some (.cells cur E (0, 0)) ∧ cur.size = ss.length ∧
      (∀ (k : Nat) (s : S), ss[k]? = some s → ∃ u, cur[k]? = some u ∧ SR g w R s u ∧ u.oneCell' = true) ∧ (∀ o, g.K b o → fz = true)
  | .arr nil sz xs fx => (nil = true ∧ xs = [] ∧ g.loc i = .slice none 0 0 ∧ fx = 0) ∨
      (nil = false ∧ ∃ b cap cur E, g.loc i = .slice (some ⟨b, 0, none⟩) xs.length cap ∧ B b ∧ w.heap[b]? = some (.cells cur E (0, 0)) ∧ xs.length ≤ cap ∧ cap ≤ maxLen ∧
        cur.size = cap * sz ∧ fx ≤ xs.length ∧ Holds g.K w sz xs cur ∧ ∀ o, g.K b o ↔ o < fx * sz)
  | .pin v s => g.loc i = undef ∧ SR g w R s v
  | .map m => MR g w R B i m
structure K0T where
  K : Nat → Nat → Prop
  L : Nat → Prop
  df : List Deferred
def Old (w0 : World) (K0 : K0T) (b : Nat) : Prop := b < w0.heap.size ∧ ¬ K0.L b
structure BelowD (B : Nat) (w w' : World) : Prop extends Below B w w' where
  drawn : w.drawn ≤ w'.drawn
theorem BelowD.refl (B : Nat) (w : World) : BelowD B w w := ⟨Below.refl B w, Nat.le_refl _⟩
theorem BelowD.mono {B B' : Nat} {w w' : World} (h : BelowD B w w') (hB : B' ≤ B) : BelowD B' w w' := ⟨h.toBelow.mono hB, h.drawn⟩
theorem BelowD.alloc {B : Nat} {w w' : World} (h : BelowD B w w') (hB : B ≤ w'.heap.size) (o : Obj) : BelowD B w (w'.alloc o) := ⟨h.toBelow.alloc hB o, h.drawn⟩
theorem BelowD.drew {B : Nat} {w w' : World} (h : BelowD B w w') : BelowD B w w'.drew := ⟨h.toBelow.drew, Nat.le_succ_of_le h.drawn⟩
structure Bel (w0 : World) (K0 : K0T) (w w' : World) : Prop where
  os : w'.os = w.os
  tape : w'.tape = w.tape
  output : w'.output = w.output
  size : w.heap.size ≤ w'.heap.size
  block : ∀ k, Old w0 K0 k → w'.heap[k]? = w.heap[k]?
  drawn : w.drawn ≤ w'.drawn
theorem Bel.refl (w0 : World) (K0 : K0T) (w : World) : Bel w0 K0 w w := ⟨rfl, rfl, rfl, Nat.le_refl _, fun _ _ => rfl, Nat.le_refl _⟩
theorem Bel.trans {w0 : World} {K0 : K0T} {a b c : World} (h : Bel w0 K0 a b) (k : Bel w0 K0 b c) : Bel w0 K0 a c :=
  ⟨k.os.trans h.os, k.tape.trans h.tape, k.output.trans h.output, Nat.le_trans h.size k.size, fun i hi => (k.block i hi).trans (h.block i hi), Nat.le_trans h.drawn k.drawn⟩
theorem Bel.of {w0 : World} {K0 : K0T} {w w' : World} (h : BelowD w0.heap.size w w') : Bel w0 K0 w w' := ⟨h.os, h.tape, h.output, h.size, fun k hk => h.block k hk.1, h.drawn⟩
structure T (w0 : World) (K0 : K0T) (nt : Nat) (st : St) (a : Act) (w : World) (g : G) : Prop where
  below : Bel w0 K0 w0 w
  k0 : ∀ b o, K0.K b o → g.K b o
  kold : ∀ b o, g.K b o → Old w0 K0 b → K0.K b o
  klt : ∀ b o, g.K b o → b < w.heap.size
  res : ∀ i r, st.rs i = some r → RR g w st.rs (fun b => ¬ Old w0 K0 b) i r
  dis : ∀ i j r r', st.rs i = some r → st.rs j = some r' → i ≠ j → ∀ b, blk (g.loc i) = some b → blk (g.loc j) ≠ some b
  env : ∀ t, SR g w st.rs (st.get t) (a.tmps.getD t undef)
  nt : a.tmps.size = nt
  defers : a.defers = K0.df
  keep : ∀ b o, K0.K b o → w.cell? ⟨b, o, none⟩ = w0.cell? ⟨b, o, none⟩
end Go.VL
set_option linter.unusedSimpArgs false
set_option linter.unusedVariables false
namespace Go.VL
open Go.RowKit
mutual
def S.clr (i : Nat) : S → S
  | .c x => .c x
  | .agg cs => .agg cs
  | .tup ss => .tup (S.clrs i ss)
  | .fnp f ss => .fnp f (S.clrs i ss)
  | .st ss => .st (S.clrs i ss)
  | .own j n => bif j == i then .un else .own j n
  | .ptr j o => bif j == i then .un else .ptr j o
  | .ep j n k o => bif j == i then .un else .ep j n k o
  | .suf j n k => bif j == i then .un else .suf j n k
  | .mp j => bif j == i then .un else .mp j
  | .me j k o => bif j == i then .un else .me j k o
  | .pre j n m => bif j == i then .un else .pre j n m
  | .g b s => .g b (S.clr i s)
  | .un => .un
def S.clrs (i : Nat) : List S → List S
  | [] => []
  | s :: r => S.clr i s :: S.clrs i r
end
mutual
def S.men (i : Nat) : S → Bool
  | .tup ss => S.mens i ss
  | .fnp f ss => S.mens i ss
  | .st ss => S.mens i ss
  | .own j _ => j == i
  | .ptr j _ => j == i
  | .ep j _ _ _ => j == i
  | .suf j _ _ => j == i
  | .mp j => j == i
  | .me j _ _ => j == i
  | .pre j _ _ => j == i
  | .g _ s => S.men i s
  | _ => false
def S.mens (i : Nat) : List S → Bool
  | [] => false
  | s :: r => S.men i s || S.mens i r
end
def Cmp (g : G) (R : Nat → Option Res) (g' : G) (R' : Nat → Option Res) (i : Nat) : Prop :=
  (∀ fz ss, R' i = some (.box fz ss) → (∃ fz0 ss0, R i = some (.box fz0 ss0)) ∧ g'.loc i = g.loc i) ∧
  (∀ nil sz xs fx, R' i = some (.arr nil sz xs fx) → (∃ nil0 xs0 fx0, R i = some (.arr nil0 sz xs0 fx0) ∧ xs0.length = xs.length) ∧ g'.loc i = g.loc i) ∧
  (∀ m, R' i = some (.map m) → (∃ m0, R i = some (.map m0) ∧ m0.sh = m.sh) ∧ g'.loc i = g.loc i)
theorem Cmp.same {g g' : G} {R R' : Nat → Option Res} {i : Nat} (h : R' i = R i) (hl : g'.loc i = g.loc i) : Cmp g R g' R' i :=
  ⟨fun fz ss e => ⟨⟨fz, ss, by rw [← h]; exact e⟩, hl⟩, fun nil sz xs fx e => ⟨⟨nil, xs, fx, by rw [← h]; exact e, rfl⟩, hl⟩, fun m e => ⟨⟨m, by rw [← h]; exact e, rfl⟩, hl⟩⟩
mutual
theorem SR.mono {g g' : G} {w w' : World} {R R' : Nat → Option Res} (hk : Keeps g.K w g'.K w') : ∀ (s : S) (u : Value), (∀ i, s.men i = true → Cmp g R g' R' i) → SR g w R s u → SR g' w' R' s u
  | .c x, u, _, h => by rw [SR] at h ⊢; exact CR.mono hk x u h
  | .agg cs, u, _, h => by
    rw [SR] at h ⊢
    obtain ⟨us, h1, h2⟩ := h
    exact ⟨us, h1, VR.mono hk cs us h2⟩
  | .tup ss, u, hm, h => by
    rw [SR] at h ⊢
    obtain ⟨us, h1, h2⟩ := h
    exact ⟨us, h1, SRs.mono hk ss us (fun i hi => hm i (by simpa [S.men] using hi)) h2⟩
  | .fnp f ss, u, hm, h => by
    rw [SR] at h ⊢
    obtain ⟨us, h1, h2⟩ := h
    exact ⟨us, h1, SRs.mono hk ss us (fun i hi => hm i (by simpa [S.men] using hi)) h2⟩
  | .st ss, u, hm, h => by
    rw [SR] at h ⊢
    obtain ⟨us, h1, h2, h3⟩ := h
    exact ⟨us, h1, SRs.mono hk ss us (fun i hi => hm i (by simpa [S.men] using hi)) h2, h3⟩
  | .own i n, u, hm, h => by
    rw [SR] at h ⊢
    intro nil sz xs fx hr hn
    obtain ⟨⟨nil0, xs0, fx0, h1, h2⟩, h3⟩ := (hm i (by simp [S.men])).2.1 nil sz xs fx hr
    rw [h3]
    exact h nil0 sz xs0 fx0 h1 (h2.trans hn)
  | .ptr i off, u, hm, h => by
    rw [SR] at h ⊢
    intro fz ss hr
    obtain ⟨⟨fz0, ss0, h1⟩, h3⟩ := (hm i (by simp [S.men])).1 fz ss hr
    rw [h3]
    exact h fz0 ss0 h1
  | .ep i n j off, u, hm, h => by
    rw [SR] at h ⊢
    intro nil sz xs fx hr hn
    obtain ⟨⟨nil0, xs0, fx0, h1, h2⟩, h3⟩ := (hm i (by simp [S.men])).2.1 nil sz xs fx hr
    rw [h3]
    exact h nil0 sz xs0 fx0 h1 (h2.trans hn)
  | .suf i n j, u, hm, h => by
    rw [SR] at h ⊢
    intro nil sz xs fx hr hn
    obtain ⟨⟨nil0, xs0, fx0, h1, h2⟩, h3⟩ := (hm i (by simp [S.men])).2.1 nil sz xs fx hr
    rw [h3]
    exact h nil0 sz xs0 fx0 h1 (h2.trans hn)
  | .mp i, u, hm, h => by
    rw [SR] at h ⊢
    intro kvs hr
    obtain ⟨⟨kvs0, h1, _⟩, h3⟩ := (hm i (by simp [S.men])).2.2 kvs hr
    rw [h3]
    exact h kvs0 h1
  | .pre i n m, u, hm, h => by
    rw [SR] at h ⊢
    intro nil sz xs fx hr hn
    obtain ⟨⟨nil0, xs0, fx0, q1, q2⟩, q3⟩ := (hm i (by simp [S.men])).2.1 nil sz xs fx hr
    rw [q3]
    exact h nil0 sz xs0 fx0 q1 (q2.trans hn)
  | .me i j off, u, hm, h => by
    rw [SR] at h ⊢
    intro nil sz xs hr hj
    obtain ⟨⟨m0, h1, h2⟩, h3⟩ := (hm i (by simp [S.men])).2.2 _ hr
    rw [h3]
    cases m0 with
    | ents _ => cases h2
    | iter _ _ _ => cases h2
    | rows nil0 sz0 xs0 =>
      simp only [MB.sh, Option.some.injEq, Prod.mk.injEq] at h2
      obtain ⟨rfl, e⟩ := h2
      rw [← e]
      exact h nil0 sz0 xs0 h1 (by omega)
  | .g b s, u, hm, h => by
    rw [SR] at h ⊢
    exact ⟨fun hb => SR.mono hk s u (fun i hi => hm i (by simpa [S.men] using hi)) (h.1 hb), h.2⟩
  | .un, u, _, _ => by rw [SR]; trivial
theorem SRs.mono {g g' : G} {w w' : World} {R R' : Nat → Option Res} (hk : Keeps g.K w g'.K w') : ∀ (ss : List S) (us : List Value), (∀ i, S.mens i ss = true → Cmp g R g' R' i) → SRs g w R ss us → SRs g' w' R' ss us
  | [], us, _, h => by rw [SRs] at h ⊢; exact h
  | s :: r, us, hm, h => by
    rw [SRs] at h ⊢
    obtain ⟨u, us', h1, h2, h3⟩ := h
    exact ⟨u, us', h1, SR.mono hk s u (fun i hi => hm i (by simp [S.mens, hi])) h2, SRs.mono hk r us' (fun i hi => hm i (by simp [S.mens, hi])) h3⟩
end
mutual
theorem S.men_clr (i j : Nat) : ∀ (s : S), (s.clr i).men j = true → j ≠ i ∧ s.men j = true
  | .c x, h => by simp [S.clr, S.men] at h
  | .agg cs, h => by simp [S.clr, S.men] at h
  | .tup ss, h => by
    rw [S.clr, S.men] at h
    rw [S.men]
    exact S.mens_clrs i j ss h
  | .fnp f ss, h => by
    rw [S.clr, S.men] at h
    rw [S.men]
    exact S.mens_clrs i j ss h
  | .st ss, h => by
    rw [S.clr, S.men] at h
    rw [S.men]
    exact S.mens_clrs i j ss h
  | .own k n, h => by
    rw [S.clr] at h
    by_cases hk : k = i
    · simp [hk, S.men] at h
    · have : (k == i) = false := by simpa using hk
      simp [this, S.men] at h
      subst h
      exact ⟨hk, by simp [S.men]⟩
  | .ptr k n, h => by
    rw [S.clr] at h
    by_cases hk : k = i
    · simp [hk, S.men] at h
    · have : (k == i) = false := by simpa using hk
      simp [this, S.men] at h
      subst h
      exact ⟨hk, by simp [S.men]⟩
  | .ep k n _ _, h => by
    rw [S.clr] at h
    by_cases hk : k = i
    · simp [hk, S.men] at h
    · have : (k == i) = false := by simpa using hk
      simp [this, S.men] at h
      subst h
      exact ⟨hk, by simp [S.men]⟩
  | .suf k n _, h => by
    rw [S.clr] at h
    by_cases hk : k = i
    · simp [hk, S.men] at h
    · have : (k == i) = false := by simpa using hk
      simp [this, S.men] at h
      subst h
      exact ⟨hk, by simp [S.men]⟩
  | .mp k, h => by
    rw [S.clr] at h
    by_cases hk : k = i
    · simp [hk, S.men] at h
    · have : (k == i) = false := by simpa using hk
      simp [this, S.men] at h
      subst h
      exact ⟨hk, by simp [S.men]⟩
  | .pre k n _, h => by
    rw [S.clr] at h
    by_cases hk : k = i
    · simp [hk, S.men] at h
    · have : (k == i) = false := by simpa using hk
      simp [this, S.men] at h
      subst h
      exact ⟨hk, by simp [S.men]⟩
  | .me k n _, h => by
    rw [S.clr] at h
    by_cases hk : k = i
    · simp [hk, S.men] at h
    · have : (k == i) = false := by simpa using hk
      simp [this, S.men] at h
      subst h
      exact ⟨hk, by simp [S.men]⟩
  | .g b s, h => by
    rw [S.clr, S.men] at h
    rw [S.men]
    exact S.men_clr i j s h
  | .un, h => by simp [S.clr, S.men] at h
theorem S.mens_clrs (i j : Nat) : ∀ (ss : List S), S.mens j (S.clrs i ss) = true → j ≠ i ∧ S.mens j ss = true
  | [], h => by simp [S.clrs, S.mens] at h
  | s :: r, h => by
    rw [S.clrs, S.mens] at h
    rw [S.mens]
    rcases Bool.or_eq_true _ _ ▸ h with h | h
    · obtain ⟨h1, h2⟩ := S.men_clr i j s h; exact ⟨h1, by simp [h2]⟩
    · obtain ⟨h1, h2⟩ := S.mens_clrs i j r h; exact ⟨h1, by simp [h2]⟩
end
mutual
theorem SR.clr {g : G} {w : World} {R : Nat → Option Res} (i : Nat) : ∀ (s : S) (u : Value), SR g w R s u → SR g w R (s.clr i) u
  | .c x, u, h => by rw [S.clr]; exact h
  | .agg cs, u, h => by rw [S.clr]; exact h
  | .tup ss, u, h => by
    rw [S.clr]
    rw [SR] at h ⊢
    obtain ⟨us, h1, h2⟩ := h
    exact ⟨us, h1, SRs.clr i ss us h2⟩
  | .fnp f ss, u, h => by
    rw [S.clr]
    rw [SR] at h ⊢
    obtain ⟨us, h1, h2⟩ := h
    exact ⟨us, h1, SRs.clr i ss us h2⟩
  | .st ss, u, h => by
    rw [S.clr]
    rw [SR] at h ⊢
    obtain ⟨us, h1, h2, h3⟩ := h
    exact ⟨us, h1, SRs.clr i ss us h2, h3⟩
  | .own k n, u, h => by
    rw [S.clr]
    cases hk : k == i
    · exact h
    · rw [cond_true, SR]; trivial
  | .ptr k n, u, h => by
    rw [S.clr]
    cases hk : k == i
    · exact h
    · rw [cond_true, SR]; trivial
  | .ep k n _ _, u, h => by
    rw [S.clr]
    cases hk : k == i
    · exact h
    · rw [cond_true, SR]; trivial
  | .suf k n _, u, h => by
    rw [S.clr]
    cases hk : k == i
    · exact h
    · rw [cond_true, SR]; trivial
  | .mp k, u, h => by
    rw [S.clr]
    cases hk : k == i
    · exact h
    · rw [cond_true, SR]; trivial
  | .pre k _ _, u, h => by
    rw [S.clr]
    cases hk : k == i
    · exact h
    · rw [cond_true, SR]; trivial
  | .me k _ _, u, h => by
    rw [S.clr]
    cases hk : k == i
    · exact h
    · rw [cond_true, SR]; trivial
  | .g b s, u, h => by
    rw [S.clr]
    rw [SR] at h ⊢
    exact ⟨fun hb => SR.clr i s u (h.1 hb), h.2⟩
  | .un, u, h => by rw [S.clr]; exact h
theorem SRs.clr {g : G} {w : World} {R : Nat → Option Res} (i : Nat) : ∀ (ss : List S) (us : List Value), SRs g w R ss us → SRs g w R (S.clrs i ss) us
  | [], us, h => by rw [S.clrs]; exact h
  | s :: r, us, h => by
    rw [S.clrs]
    rw [SRs] at h ⊢
    obtain ⟨u, us', h1, h2, h3⟩ := h
    exact ⟨u, us', h1, SR.clr i s u h2, SRs.clr i r us' h3⟩
end
def MB.map (f : S → S) : MB → MB
  | .ents kvs => .ents (kvs.map fun x => (x.1, x.2.map f))
  | .iter bm n seen => .iter bm n seen
  | .rows nil sz xs => .rows nil sz (xs.map fun e => e.map f)
def MB.clr (i : Nat) (m : MB) : MB := m.map (S.clr i)
def MB.cells : MB → List S
  | .ents kvs => (kvs.map (·.2)).flatten
  | .iter _ _ _ => []
  | .rows _ _ xs => xs.flatten
def MB.men (j : Nat) (m : MB) : Bool := m.cells.any (S.men j)
@[simp] theorem MB.sh_map (f : S → S) (m : MB) : (m.map f).sh = m.sh := by cases m <;> simp [MB.map, MB.sh]
@[simp] theorem MB.sh_clr (i : Nat) (m : MB) : (m.clr i).sh = m.sh := MB.sh_map _ m
theorem MB.cells_map (f : S → S) (m : MB) : (m.map f).cells = m.cells.map f := by
  cases m with
  | ents kvs => simp only [MB.map, MB.cells, List.map_flatten, List.map_map]; rfl
  | iter _ _ _ => rfl
  | rows _ _ xs => simp only [MB.map, MB.cells, List.map_flatten]
theorem MB.map_id' {f : S → S} (m : MB) (h : ∀ s ∈ m.cells, f s = s) : m.map f = m := by
  have hl : ∀ l : List S, (∀ s ∈ l, f s = s) → l.map f = l := fun l hl => by
    conv => rhs; rw [← List.map_id l]
    exact List.map_congr_left hl
  cases m with
  | ents kvs =>
    simp only [MB.map, MB.ents.injEq]
    conv => rhs; rw [← List.map_id kvs]
    refine List.map_congr_left fun x hx => ?_
    rw [hl x.2 (fun s hs => h s (by simp only [MB.cells, List.mem_flatten, List.mem_map]; exact ⟨x.2, ⟨x, hx, rfl⟩, hs⟩))]; rfl
  | iter _ _ _ => rfl
  | rows _ _ xs =>
    simp only [MB.map, MB.rows.injEq, true_and]
    conv => rhs; rw [← List.map_id xs]
    refine List.map_congr_left fun x hx => ?_
    rw [hl x (fun s hs => h s (by simp only [MB.cells, List.mem_flatten]; exact ⟨x, hx, hs⟩))]; rfl
@[simp] theorem MB.map_id (m : MB) : m.map (fun s => s) = m := MB.map_id' m fun _ _ => rfl
theorem MB.men_of {j : Nat} {m : MB} {s : S} (h : s ∈ m.cells) (hj : s.men j = true) : m.men j = true := by
  rw [MB.men, List.any_eq_true]; exact ⟨s, h, hj⟩
theorem MB.men_clr (i j : Nat) (m : MB) (h : (m.clr i).men j = true) : j ≠ i ∧ m.men j = true := by
  simp only [MB.clr, MB.men, MB.cells_map, List.any_map, List.any_eq_true, Function.comp_apply] at h ⊢
  obtain ⟨x, h1, h2⟩ := h
  obtain ⟨h3, h4⟩ := S.men_clr i j _ h2
  exact ⟨h3, x, h1, h4⟩
def Res.clr (i : Nat) : Res → Res
  | .box fz ss => .box fz (ss.map (S.clr i))
  | .arr nil sz xs fx => .arr nil sz xs fx
  | .pin v s => .pin v (S.clr i s)
  | .map m => .map (m.clr i)
def St.clr (st : St) (i : Nat) : St := { env := st.env.map fun p => (p.1, p.2.clr i), res := st.res.map fun p => (p.1, p.2.map (Res.clr i)) }
theorem vlook_map {α β : Type} (f : α → β) (d : α) (t : Nat) : ∀ l : List (Nat × α), vlook (f d) (l.map fun p => (p.1, f p.2)) t = f (vlook d l t)
  | [] => rfl
  | (k, x) :: r => by
    simp only [List.map_cons, vlook]
    cases k == t
    · exact vlook_map f d t r
    · rfl
theorem St.get_clr (st : St) (i t : Nat) : (st.clr i).get t = (st.get t).clr i := by
  have := vlook_map (S.clr i) .un t st.env
  simpa [St.get, St.clr, S.clr] using this
theorem St.rs_clr (st : St) (i j : Nat) : (st.clr i).rs j = (st.rs j).map (Res.clr i) := by
  have := vlook_map (Option.map (Res.clr i)) none j st.res
  simpa [St.rs, St.clr] using this
theorem Holds.mono {K K' : Nat → Nat → Prop} {w w' : World} {sz : Nat} {xs : List (List C)} {cur : Array Value} (hk : Keeps K w K' w') (h : Holds K w sz xs cur) : Holds K' w' sz xs cur :=
  fun j e hj => ⟨(h j e hj).1, fun k c hc => let ⟨u, h1, h2⟩ := (h j e hj).2 k c hc; ⟨u, h1, CR.mono hk c u h2⟩⟩
section
variable {g g' : G} {w w' : World} {R R' : Nat → Option Res}
theorem SRs.tr {f1 f2 : S → S} : ∀ (ss : List S) (us : List Value), (∀ s ∈ ss, ∀ u, SR g w R (f1 s) u → SR g' w' R' (f2 s) u) → SRs g w R (ss.map f1) us → SRs g' w' R' (ss.map f2) us
  | [], us, _, h => by simp only [List.map_nil] at h ⊢; rw [SRs] at h ⊢; exact h
  | s :: r, us, hs, h => by
    simp only [List.map_cons] at h ⊢
    rw [SRs] at h ⊢
    obtain ⟨u, us', h1, h2, h3⟩ := h
    exact ⟨u, us', h1, hs s (by simp) u h2, SRs.tr r us' (fun s hs' => hs s (by simp [hs'])) h3⟩
theorem EntR.tr {f1 f2 : S → S} {cs : List S} {u : Value} (hs : ∀ s ∈ cs, ∀ u, SR g w R (f1 s) u → SR g' w' R' (f2 s) u) (h : EntR g w R (cs.map f1) u) : EntR g' w' R' (cs.map f2) u := by
  match cs, hs, h with
  | [], _, h => exact h
  | [c], hs, h => exact ⟨hs c (by simp) u h.1, h.2⟩
  | c :: d :: r, hs, h =>
    obtain ⟨us, h1, h2, h3⟩ := h
    exact ⟨us, h1, SRs.tr (c :: d :: r) us hs h2, h3⟩
theorem MapR.tr {f1 f2 : S → S} : ∀ (kvs : List (Value × List S)) (es : List MapEntry), (∀ x ∈ kvs, ∀ s ∈ x.2, ∀ u, SR g w R (f1 s) u → SR g' w' R' (f2 s) u) →
    MapR g w R (kvs.map fun x => (x.1, x.2.map f1)) es → MapR g' w' R' (kvs.map fun x => (x.1, x.2.map f2)) es
  | [], es, _, h => h
  | x :: r, es, hs, h => by
    obtain ⟨e, es', h1, h2, h3, h4⟩ := h
    exact ⟨e, es', h1, h2, h3.tr (hs x (by simp)), MapR.tr r es' (fun x hx => hs x (by simp [hx])) h4⟩
theorem HoldsS.tr {f1 f2 : S → S} {sz : Nat} {xs : List (List S)} {cur : Array Value} (hs : ∀ e ∈ xs, ∀ s ∈ e, ∀ u, SR g w R (f1 s) u → SR g' w' R' (f2 s) u)
    (h : HoldsS g w R sz (xs.map fun e => e.map f1) cur) : HoldsS g' w' R' sz (xs.map fun e => e.map f2) cur := by
  intro j e hj
  simp only [List.getElem?_map, Option.map_eq_some_iff] at hj
  obtain ⟨e0, h1, rfl⟩ := hj
  obtain ⟨q1, q2⟩ := h j (e0.map f1) (by simp [h1])
  refine ⟨by simpa using q1, fun k s hk => ?_⟩
  simp only [List.getElem?_map, Option.map_eq_some_iff] at hk
  obtain ⟨s0, h2, rfl⟩ := hk
  obtain ⟨u, h3, h4, h5⟩ := q2 k (f1 s0) (by simp [h2])
  exact ⟨u, h3, hs e0 (List.mem_of_getElem? h1) s0 (List.mem_of_getElem? h2) u h4, h5⟩
theorem MR.tr {B B' : Nat → Prop} {i i' : Nat} {m : MB} {f1 f2 : S → S} (hl : g'.loc i' = g.loc i)
    (hb : ∀ b, blk (g.loc i) = some b → w'.heap[b]? = w.heap[b]? ∧ (∀ o, g'.K b o → g.K b o) ∧ (B b → B' b)) (hs : ∀ s ∈ m.cells, ∀ u, SR g w R (f1 s) u → SR g' w' R' (f2 s) u)
    (h : MR g w R B i (m.map f1)) : MR g' w' R' B' i' (m.map f2) := by
  cases m with
  | ents kvs =>
    obtain ⟨b, es, h1, h2, h3, h4, h5⟩ := h
    obtain ⟨hb1, hb2, hb3⟩ := hb b (by rw [h1]; rfl)
    exact ⟨b, es, by rw [hl, h1], hb3 h2, by rw [hb1]; exact h3, MapR.tr kvs _ (fun x hx s hs' => hs s (by simp only [MB.cells, List.mem_flatten, List.mem_map]; exact ⟨x.2, ⟨x, hx, rfl⟩, hs'⟩)) h4, h5⟩
  | iter bm n seen =>
    obtain ⟨b, h1, h2, h3⟩ := h
    obtain ⟨hb1, hb2, hb3⟩ := hb b (by rw [h1]; rfl)
    exact ⟨b, by rw [hl, h1], hb3 h2, by rw [hb1]; exact h3⟩
  | rows nil sz xs =>
    rcases h with ⟨h1, h2, h3⟩ | ⟨h0, b, cap, cur, E, h1, h2, h3, h4, h5, h6, h8, h9⟩
    · exact .inl ⟨h1, by simpa using h2, by rw [hl]; exact h3⟩
    · obtain ⟨hb1, hb2, hb3⟩ := hb b (by rw [h1]; rfl)
      exact .inr ⟨h0, b, cap, cur, E, by rw [hl]; simpa using h1, hb3 h2, by rw [hb1]; exact h3, by simpa using h4, h5, h6,
        HoldsS.tr (fun e he s hs' => hs s (by simp only [MB.cells, List.mem_flatten]; exact ⟨e, he, hs'⟩)) h8, fun o ho => h9 o (hb2 o ho)⟩
theorem EntR.mono (hk : Keeps g.K w g'.K w') {cs : List S} {u : Value} (hm : ∀ j, S.mens j cs = true → Cmp g R g' R' j) (h : EntR g w R cs u) : EntR g' w' R' cs u := by
  unfold EntR at *
  split at h
  · exact ⟨SR.mono hk _ _ (fun j hj => hm j (by simp [S.mens, hj])) h.1, h.2⟩
  · obtain ⟨us, h1, h2, h3⟩ := h; exact ⟨us, h1, SRs.mono hk _ us hm h2, h3⟩
theorem MapR.mono (hk : Keeps g.K w g'.K w') : ∀ (kvs : List (Value × List S)) (es : List MapEntry), (∀ j, Cmp g R g' R' j) → MapR g w R kvs es → MapR g' w' R' kvs es
  | [], es, _, h => h
  | x :: r, es, hm, h => by
    obtain ⟨e, es', h1, h2, h3, h4⟩ := h
    exact ⟨e, es', h1, h2, h3.mono hk (fun j _ => hm j), MapR.mono hk r es' hm h4⟩
theorem MR.mono {B : Nat → Prop} {i : Nat} {m : MB} (hk : Keeps g.K w g'.K w') (hl : g'.loc i = g.loc i)
    (hb : ∀ b, blk (g.loc i) = some b → w'.heap[b]? = w.heap[b]? ∧ ∀ o, g'.K b o → g.K b o) (hm : ∀ j, m.men j = true → Cmp g R g' R' j) (h : MR g w R B i m) : MR g' w' R' B i m := by
  have := MR.tr (f1 := fun s => s) (f2 := fun s => s) (m := m) (B' := B) hl (fun b e => ⟨(hb b e).1, (hb b e).2, fun x => x⟩) (fun s hs u hu => SR.mono hk s u (fun j hj => hm j (MB.men_of hs hj)) hu) (by rw [MB.map_id]; exact h)
  rwa [MB.map_id] at this
theorem MR.clr {B : Nat → Prop} {i : Nat} (j : Nat) {m : MB} (h : MR g w R B i m) : MR g w R B i (m.clr j) :=
  MR.tr (f1 := fun s => s) (f2 := S.clr j) (m := m) rfl (fun b e => ⟨rfl, fun _ k => k, fun x => x⟩) (fun s _ u hu => SR.clr j s u hu) (by rw [MB.map_id]; exact h)
theorem MR.block {B : Nat → Prop} {i : Nat} {m : MB} (h : MR g w R B i m) {b : Nat} (hb : blk (g.loc i) = some b) : B b ∧ ∃ o, w.heap[b]? = some o := by
  cases m with
  | ents kvs =>
    obtain ⟨b', es, h1, h2, h3, _⟩ := h
    rw [h1] at hb; simp [blk] at hb; subst hb
    exact ⟨h2, _, h3⟩
  | iter bm n seen =>
    obtain ⟨b', h1, h2, h3⟩ := h
    rw [h1] at hb; simp [blk] at hb; subst hb
    exact ⟨h2, _, h3⟩
  | rows nil sz xs =>
    rcases h with ⟨_, _, h3⟩ | ⟨h0, b', cap, cur, E, h1, h2, h3, _⟩
    · rw [h3] at hb; simp [blk] at hb
    · rw [h1] at hb; simp [blk] at hb; subst hb
      exact ⟨h2, _, h3⟩
end
theorem RR.block {g : G} {w : World} {R : Nat → Option Res} {B : Nat → Prop} {i : Nat} {r : Res} (h : RR g w R B i r) {b : Nat} (hb : blk (g.loc i) = some b) : B b ∧ ∃ o, w.heap[b]? = some o := by
  cases r with
  | box fz ss =>
    obtain ⟨b', cur, E, h1, h2, h3, _⟩ := h
    rw [h1] at hb; simp [blk] at hb; subst hb
    exact ⟨h2, _, h3⟩
  | arr nil sz xs fx =>
    rcases h with ⟨_, _, h1, _⟩ | ⟨_, b', cap, cur, E, h1, h2, h3, _⟩
    · rw [h1] at hb; simp [blk] at hb
    · rw [h1] at hb; simp [blk] at hb; subst hb
      exact ⟨h2, _, h3⟩
  | pin v s =>
    rw [h.1] at hb; cases hb
  | map m => exact MR.block h hb
theorem RR.lt {g : G} {w : World} {R : Nat → Option Res} {B : Nat → Prop} {i : Nat} {r : Res} (h : RR g w R B i r) {b : Nat} (hb : blk (g.loc i) = some b) : b < w.heap.size := by
  obtain ⟨_, o, h2⟩ := h.block hb
  exact (Array.getElem?_eq_some_iff.1 h2).1
theorem RR.mono {g g' : G} {w w' : World} {R R' : Nat → Option Res} {B : Nat → Prop} {i : Nat} {r : Res} (hk : Keeps g.K w g'.K w') (hl : g'.loc i = g.loc i)
    (hb : ∀ b, blk (g.loc i) = some b → w'.heap[b]? = w.heap[b]? ∧ ∀ o, g'.K b o → g.K b o)
    (hc : ∀ fz ss, r = .box fz ss → ∀ s ∈ ss, ∀ j, s.men j = true → Cmp g R g' R' j) (hp : ∀ v s, r = .pin v s → ∀ j, s.men j = true → Cmp g R g' R' j) (hm : ∀ m, r = .map m → ∀ j, m.men j = true → Cmp g R g' R' j) (h : RR g w R B i r) : RR g' w' R' B i r := by
  cases r with
  | box fz ss =>
    obtain ⟨b, cur, E, h1, h2, h3, h4, h5, h6⟩ := h
    obtain ⟨hb1, hb2⟩ := hb b (by rw [h1]; rfl)
    refine ⟨b, cur, E, by rw [hl, h1], h2, by rw [hb1]; exact h3, h4, fun k s hs => ?_, fun o ho => h6 o (hb2 o ho)⟩
    obtain ⟨u, e1, e2, e3⟩ := h5 k s hs
    exact ⟨u, e1, SR.mono hk s u (hc fz ss rfl s (List.mem_of_getElem? hs)) e2, e3⟩
  | arr nil sz xs fx =>
    rcases h with ⟨h1, h2, h3, h4⟩ | ⟨h0, b, cap, cur, E, h1, h2, h3, h4, h5, h6, h7, h8, h9⟩
    · exact .inl ⟨h1, h2, by rw [hl]; exact h3, h4⟩
    · obtain ⟨hb1, hb2⟩ := hb b (by rw [h1]; rfl)
      exact .inr ⟨h0, b, cap, cur, E, by rw [hl, h1], h2, by rw [hb1]; exact h3, h4, h5, h6, h7, h8.mono hk, fun o => ⟨fun ho => (h9 o).1 (hb2 o ho), fun ho => hk.sub _ _ ((h9 o).2 ho)⟩⟩
  | pin v s => exact ⟨by rw [hl]; exact h.1, SR.mono hk s v (hp v s rfl) h.2⟩
  | map m => exact MR.mono hk hl hb (hm m rfl) h
theorem RR.clr {g : G} {w : World} {R : Nat → Option Res} {B : Nat → Prop} {i : Nat} {r : Res} (j : Nat) (h : RR g w R B i r) : RR g w R B i (r.clr j) := by
  cases r with
  | box fz ss =>
    obtain ⟨b, cur, E, h1, h2, h3, h4, h5, h6⟩ := h
    refine ⟨b, cur, E, h1, h2, h3, by simpa using h4, fun k s hs => ?_, h6⟩
    simp only [List.getElem?_map, Option.map_eq_some_iff] at hs
    obtain ⟨s0, hs0, rfl⟩ := hs
    obtain ⟨u, e1, e2, e3⟩ := h5 k s0 hs0
    exact ⟨u, e1, SR.clr j s0 u e2, e3⟩
  | arr nil sz xs fx => exact h
  | pin v s => exact ⟨h.1, SR.clr j s v h.2⟩
  | map m => exact MR.clr j h
section
variable {w0 : World} {K0 : K0T} {nt : Nat} {st : St} {a : Act} {w : World} {g : G}
theorem T.put (h : T w0 K0 nt st a w g) {t : Nat} {s : S} {u : Value} (ht : t < nt) (hs : SR g w st.rs s u) : T w0 K0 nt (st.put t s) (a.put (some t) u) w g := by
  refine ⟨h.below, h.k0, h.kold, h.klt, h.res, h.dis, fun t' => ?_, by simp [Act.put, h.nt], h.defers, h.keep⟩
  rw [St.get_put]
  simp only [Act.put, St.rs_put]
  by_cases e : t = t'
  · subst e
    rw [if_pos rfl]
    have : (a.tmps.setIfInBounds t u).getD t undef = u := by simp [Array.getD, h.nt, ht]
    rw [this]
    exact hs
  · rw [if_neg e]
    have : (a.tmps.setIfInBounds t u).getD t' undef = a.tmps.getD t' undef := by
      simp only [Array.getD_eq_getD_getElem?]
      rw [Array.getElem?_setIfInBounds_ne e]
    rw [this]
    exact h.env t'
theorem T.putd (h : T w0 K0 nt st a w g) {dst : Option Nat} {s : S} {u : Value} (ht : ∀ t, dst = some t → t < nt) (hs : SR g w st.rs s u) : T w0 K0 nt (st.putd dst s) (a.put dst u) w g := by
  cases dst with
  | none => exact h
  | some t => exact h.put (ht t rfl) hs
theorem T.world (h : T w0 K0 nt st a w g) {w' : World} {K' : Nat → Nat → Prop} (hb : Bel w0 K0 w w') (hk : Keeps g.K w K' w') (hkold : ∀ b o, K' b o → Old w0 K0 b → K0.K b o) (hklt : ∀ b o, K' b o → b < w'.heap.size)
    (ho : ∀ i r b, st.rs i = some r → blk (g.loc i) = some b → w'.heap[b]? = w.heap[b]? ∧ ∀ o, K' b o → g.K b o) : T w0 K0 nt st a w' { g with K := K' } := by
  have hc : ∀ i, Cmp g st.rs { g with K := K' } st.rs i := fun i => Cmp.same rfl rfl
  refine ⟨h.below.trans hb, fun b o k => hk.sub b o (h.k0 b o k), hkold, hklt, fun i r hr => ?_, h.dis, fun t => SR.mono (g' := { g with K := K' }) hk _ _ (fun i _ => hc i) (h.env t), h.nt, h.defers, fun b o k => (hk.cell b o (h.k0 b o k)).trans (h.keep b o k)⟩
  exact RR.mono (g' := { g with K := K' }) hk rfl (fun b hb' => ho i r b hr hb') (fun _ _ _ _ _ j _ => hc j) (fun _ _ _ j _ => hc j) (fun _ _ j _ => hc j) (h.res i r hr)
theorem T.make (h : T w0 K0 nt st a w g) {w' : World} {g' : G} {i : Nat} {r : Res} (hb : Bel w0 K0 w w') (hk : Keeps g.K w g'.K w') (hkold : ∀ b o, g'.K b o → Old w0 K0 b → K0.K b o)
    (hklt : ∀ b o, g'.K b o → b < w'.heap.size) (hl : ∀ j, j ≠ i → g'.loc j = g.loc j)
    (ho : ∀ j r b, j ≠ i → st.rs j = some r → blk (g.loc j) = some b → w'.heap[b]? = w.heap[b]? ∧ ∀ o, g'.K b o → g.K b o)
    (hd : ∀ j r, j ≠ i → st.rs j = some r → ∀ b, blk (g'.loc i) = some b → blk (g.loc j) ≠ some b)
    (hr : RR g' w' ((st.clr i).setR i (some r)).rs (fun b => ¬ Old w0 K0 b) i r) : T w0 K0 nt ((st.clr i).setR i (some r)) a w' g' := by
  have hc : ∀ j, j ≠ i → Cmp g st.rs g' ((st.clr i).setR i (some r)).rs j := fun j hj => by
    have e : ((st.clr i).setR i (some r)).rs j = (st.rs j).map (Res.clr i) := by rw [St.rs_setR, if_neg (Ne.symm hj), St.rs_clr]
    refine ⟨fun fz ss e' => ?_, fun nil sz xs fx e' => ?_, fun kvs e' => ?_⟩
    · rw [e] at e'
      cases hs : st.rs j with
      | none => simp [hs] at e'
      | some r0 =>
        rw [hs] at e'
        cases r0 with
        | box fz0 ss0 => exact ⟨⟨fz0, ss0, rfl⟩, hl j hj⟩
        | arr nil sz xs fx => simp [Res.clr] at e'
        | pin v s => simp [Res.clr] at e'
        | map kvs => simp [Res.clr] at e'
    · rw [e] at e'
      cases hs : st.rs j with
      | none => simp [hs] at e'
      | some r0 =>
        rw [hs] at e'
        cases r0 with
        | box fz0 ss0 => simp [Res.clr] at e'
        | arr nil0 sz0 xs0 fx0 =>
          simp [Res.clr] at e'
          obtain ⟨rfl, rfl, rfl, rfl⟩ := e'
          exact ⟨⟨_, _, _, rfl, rfl⟩, hl j hj⟩
        | pin v s => simp [Res.clr] at e'
        | map kvs => simp [Res.clr] at e'
    · rw [e] at e'
      cases hs : st.rs j with
      | none => simp [hs] at e'
      | some r0 =>
        rw [hs] at e'
        cases r0 with
        | box fz0 ss0 => simp [Res.clr] at e'
        | arr nil sz xs fx => simp [Res.clr] at e'
        | pin v s => simp [Res.clr] at e'
        | map kvs0 =>
          simp only [Option.map_some, Res.clr, Option.some.injEq, Res.map.injEq] at e'
          exact ⟨⟨kvs0, rfl, by rw [← e', MB.sh_clr]⟩, hl j hj⟩
  refine ⟨h.below.trans hb, fun b o k => hk.sub b o (h.k0 b o k), hkold, hklt, fun j rj hj => ?_, fun j k rj rk hj hk' hne => ?_, fun t => ?_, h.nt, h.defers, fun b o k => (hk.cell b o (h.k0 b o k)).trans (h.keep b o k)⟩
  · by_cases e : j = i
    · subst e
      rw [St.rs_setR, if_pos rfl] at hj
      cases hj
      exact hr
    · rw [St.rs_setR, if_neg (Ne.symm e), St.rs_clr] at hj
      simp only [Option.map_eq_some_iff] at hj
      obtain ⟨r0, h0, rfl⟩ := hj
      refine RR.mono hk (hl j e) (fun b hb' => ho j r0 b e h0 hb') (fun fz ss e' s hs m hm => ?_) (fun v s e' m hm => ?_) (fun mb e' m hm => ?_) ((h.res j r0 h0).clr i)
      · cases r0 with
        | arr nil sz xs fx => simp [Res.clr] at e'
        | box fz0 ss0 =>
          simp only [Res.clr, Res.box.injEq] at e'
          obtain ⟨rfl, rfl⟩ := e'
          simp only [List.mem_map] at hs
          obtain ⟨s0, _, rfl⟩ := hs
          exact hc m (S.men_clr i m s0 hm).1
        | pin v s => simp [Res.clr] at e'
        | map kvs => simp [Res.clr] at e'
      · cases r0 with
        | arr nil sz xs fx => simp [Res.clr] at e'
        | box fz ss => simp [Res.clr] at e'
        | map kvs => simp [Res.clr] at e'
        | pin v0 s0 =>
          simp only [Res.clr, Res.pin.injEq] at e'
          obtain ⟨rfl, rfl⟩ := e'
          exact hc m (S.men_clr i m s0 hm).1
      · cases r0 with
        | arr nil sz xs fx => simp [Res.clr] at e'
        | box fz ss => simp [Res.clr] at e'
        | pin v0 s0 => simp [Res.clr] at e'
        | map m0 =>
          simp only [Res.clr, Res.map.injEq] at e'
          subst e'
          exact hc m (MB.men_clr i m m0 hm).1
  · intro b hb1 hb2
    by_cases e : j = i
    · subst e
      have e2 : k ≠ j := Ne.symm hne
      rw [St.rs_setR, if_neg hne, St.rs_clr] at hk'
      simp only [Option.map_eq_some_iff] at hk'
      obtain ⟨r0, h0, rfl⟩ := hk'
      rw [hl k e2] at hb2
      exact hd k r0 e2 h0 b hb1 hb2
    · rw [St.rs_setR, if_neg (Ne.symm e), St.rs_clr] at hj
      simp only [Option.map_eq_some_iff] at hj
      obtain ⟨r0, h0, rfl⟩ := hj
      rw [hl j e] at hb1
      by_cases e2 : k = i
      · subst e2
        exact hd j r0 e h0 b hb2 hb1
      · rw [St.rs_setR, if_neg (Ne.symm e2), St.rs_clr] at hk'
        simp only [Option.map_eq_some_iff] at hk'
        obtain ⟨r1, h1, rfl⟩ := hk'
        rw [hl k e2] at hb2
        exact h.dis j k r0 r1 h0 h1 hne b hb1 hb2
  · rw [St.get_setR, St.get_clr]
    exact SR.mono hk _ _ (fun j hj => hc j (S.men_clr i j _ hj).1) (SR.clr i _ _ (h.env t))
theorem T.congr {st' : St} (h : T w0 K0 nt st a w g) (h1 : st'.get = st.get) (h2 : st'.rs = st.rs) : T w0 K0 nt st' a w g :=
  ⟨h.below, h.k0, h.kold, h.klt, by rw [h2]; exact h.res, by rw [h2]; exact h.dis, by rw [h1, h2]; exact h.env, h.nt, h.defers, h.keep⟩
theorem T.mod (h : T w0 K0 nt st a w g) {w' : World} {g' : G} {i : Nat} {r0 r : Res} (hi : st.rs i = some r0) (hb : Bel w0 K0 w w') (hk : Keeps g.K w g'.K w') (hkold : ∀ b o, g'.K b o → Old w0 K0 b → K0.K b o)
    (hklt : ∀ b o, g'.K b o → b < w'.heap.size) (hl : g'.loc = g.loc)
    (ho : ∀ j r b, j ≠ i → st.rs j = some r → blk (g.loc j) = some b → w'.heap[b]? = w.heap[b]? ∧ ∀ o, g'.K b o → g.K b o)
    (hsh : (∃ fz0 ss0 fz ss, r0 = .box fz0 ss0 ∧ r = .box fz ss) ∨ (∃ nil0 sz xs0 fx0 nil xs fx, r0 = .arr nil0 sz xs0 fx0 ∧ r = .arr nil sz xs fx ∧ xs0.length = xs.length) ∨ (∃ k0 k1, r0 = .map k0 ∧ r = .map k1 ∧ k0.sh = k1.sh))
    (hr : (∀ j, Cmp g st.rs g' (st.setR i (some r)).rs j) → RR g' w' (st.setR i (some r)).rs (fun b => ¬ Old w0 K0 b) i r) : T w0 K0 nt (st.setR i (some r)) a w' g' := by
  have hc : ∀ j, Cmp g st.rs g' (st.setR i (some r)).rs j := fun j => by
    by_cases e : j = i
    · subst e
      rcases hsh with ⟨fz0, ss0, fz, ss, rfl, rfl⟩ | ⟨nil0, sz, xs0, fx0, nil, xs, fx, rfl, rfl, hlen⟩ | ⟨k0, k1, rfl, rfl, hk01⟩
      · refine ⟨fun fz' ss' e' => ⟨⟨fz0, ss0, hi⟩, by rw [hl]⟩, fun nil sz xs fx e' => ?_, fun kvs e' => ?_⟩
        · rw [St.rs_setR, if_pos rfl] at e'; simp at e'
        · rw [St.rs_setR, if_pos rfl] at e'; simp at e'
      · refine ⟨fun fz' ss' e' => ?_, fun nil' sz' xs' fx' e' => ?_, fun kvs e' => ?_⟩
        · rw [St.rs_setR, if_pos rfl] at e'; simp at e'
        · rw [St.rs_setR, if_pos rfl] at e'
          simp at e'
          obtain ⟨rfl, rfl, rfl, rfl⟩ := e'
          exact ⟨⟨nil0, xs0, fx0, hi, hlen⟩, by rw [hl]⟩
        · rw [St.rs_setR, if_pos rfl] at e'; simp at e'
      · refine ⟨fun fz' ss' e' => ?_, fun nil' sz' xs' fx' e' => ?_, fun kvs e' => ⟨⟨k0, hi, by rw [St.rs_setR, if_pos rfl] at e'; simp only [Option.some.injEq, Res.map.injEq] at e'; rw [← e']; exact hk01⟩, by rw [hl]⟩⟩
        · rw [St.rs_setR, if_pos rfl] at e'; simp at e'
        · rw [St.rs_setR, if_pos rfl] at e'; simp at e'
    · exact Cmp.same (by rw [St.rs_setR, if_neg (Ne.symm e)]) (by rw [hl])
  refine ⟨h.below.trans hb, fun b o k => hk.sub b o (h.k0 b o k), hkold, hklt, fun j rj hj => ?_, fun j k rj rk hj hk' hne => ?_, fun t => SR.mono hk _ _ (fun j _ => hc j) (h.env t), h.nt, h.defers, fun b o k => (hk.cell b o (h.k0 b o k)).trans (h.keep b o k)⟩
  · by_cases e : j = i
    · subst e
      rw [St.rs_setR, if_pos rfl] at hj
      cases hj
      exact hr hc
    · rw [St.rs_setR, if_neg (Ne.symm e)] at hj
      exact RR.mono hk (by rw [hl]) (fun b hb' => ho j rj b e hj hb') (fun _ _ _ _ _ m _ => hc m) (fun _ _ _ m _ => hc m) (fun _ _ m _ => hc m) (h.res j rj hj)
  · have hex : ∀ m r, (st.setR i (some r0)).rs m = some r → ∃ r', st.rs m = some r' := fun m r' e => by
      by_cases e2 : m = i
      · exact ⟨r0, by rw [e2]; exact hi⟩
      · rw [St.rs_setR, if_neg (Ne.symm e2)] at e; exact ⟨_, e⟩
    have hx : ∀ m rm, (st.setR i (some r)).rs m = some rm → ∃ r', st.rs m = some r' := fun m rm e => by
      by_cases e2 : m = i
      · exact ⟨r0, by rw [e2]; exact hi⟩
      · rw [St.rs_setR, if_neg (Ne.symm e2)] at e; exact ⟨_, e⟩
    obtain ⟨r1, h1⟩ := hx j rj hj
    obtain ⟨r2, h2⟩ := hx k rk hk'
    rw [hl]
    exact h.dis j k r1 r2 h1 h2 hne
end
end Go.VL
set_option linter.unusedSimpArgs false
set_option linter.unusedVariables false
namespace Go.VL
open Go.RowKit
def ofVal : Value → C
  | .slice none 0 0 => .sl true []
  | .func (.func f) fs cs => if fs.size = 0 ∧ cs.size = 0 then .fn f [] else .v (.func (.func f) fs cs)
  | x => .v x
def ofConst : Value → S
  | .agg cs => if cs.toList.all (·.oneCell') then .agg (cs.toList.map ofVal) else .un
  | .tuple _ => .un
  | x => .c (ofVal x)
theorem CR_ofVal (K : Nat → Nat → Prop) (w : World) (x : Value) (h : x.oneCell' = true) : CR K w (ofVal x) x := by
  unfold ofVal
  split
  · rw [CR]; exact .inl ⟨rfl, rfl, rfl⟩
  · rename_i f fs cs
    split
    · rename_i he
      obtain ⟨h1, h2⟩ := he
      rw [CR]
      refine ⟨[], ?_, by rw [VR]⟩
      rw [Array.size_eq_zero_iff.1 h1, Array.size_eq_zero_iff.1 h2]
    · rw [CR]; exact ⟨rfl, h⟩
  · rw [CR]; exact ⟨rfl, h⟩
theorem VR_ofVal (K : Nat → Nat → Prop) (w : World) : ∀ (xs : List Value), (∀ x ∈ xs, x.oneCell' = true) → VR K w (xs.map ofVal) xs
  | [], _ => by simp [VR]
  | x :: r, h => by
    simp only [List.map_cons, VR]
    exact ⟨x, r, rfl, CR_ofVal K w x (h x (by simp)), VR_ofVal K w r (fun y hy => h y (by simp [hy]))⟩
theorem SR_ofConst (g : G) (w : World) (R : Nat → Option Res) (x : Value) : SR g w R (ofConst x) x := by
  unfold ofConst
  split
  · rename_i cs
    split
    · rename_i h
      rw [SR]
      exact ⟨cs.toList, by simp, VR_ofVal _ _ _ (fun y hy => List.all_eq_true.1 h y hy)⟩
    · rw [SR]; trivial
  · rw [SR]; trivial
  · rename_i h1 h2
    rw [SR]
    refine CR_ofVal _ _ _ ?_
    cases x <;> first | rfl | exact absurd rfl (h1 _) | exact absurd rfl (h2 _)
def St.ev (st : St) : Operand → S
  | .tmp t => st.get t
  | .const v => ofConst v
  | .func f => .c (.fn f [])
  | .global _ => .un
theorem T.ev {w0 : World} {K0 : K0T} {nt : Nat} {st : St} {a : Act} {w : World} {g : G} (h : T w0 K0 nt st a w g) (x : Operand) : SR g w st.rs (st.ev x) (a.eval x) := by
  cases x with
  | tmp t => exact h.env t
  | const v => exact SR_ofConst _ _ _ _
  | func f => simp only [St.ev, Act.eval, SR, CR]; exact ⟨[], rfl, by rw [VR]⟩
  | global n => simp only [St.ev, SR]
def esz (P : Program) (t : TypeId) : Option Nat :=
  match P.underlying t with
  | some (.slice e) => (P.info? e).map (·.size)
  | _ => none
def aggD : TypeDesc → Bool
  | .struct _ => true
  | .array _ _ => true
  | _ => false
def tySz (P : Program) (t : TypeId) : Option (Bool × Nat) :=
  match P.underlying t, P.info? t with
  | some d, some i => some (aggD d, i.size)
  | _, _ => none
def fldOf (P : Program) (s : TypeId) (f : Nat) : Option (Nat × Bool × Nat) :=
  match P.underlying s with
  | some (.struct fs) => match (fs[f]? : Option Field) with
    | some x => (tySz P x.type).map fun y => (x.offset, y.1, y.2)
    | none => none
  | _ => none
def arrOf (P : Program) (t : TypeId) : Option (Nat × Bool × Nat) :=
  match P.underlying t with
  | some (.array n e) => (tySz P e).map fun y => (n, y.1, y.2)
  | _ => none
def intOfTy (P : Program) (t : TypeId) : Option IntKind :=
  match P.underlying t with
  | some (.int k) => some k
  | _ => none
def zeroOf (P : Program) (t : TypeId) : Option Value := (P.info? t).bind (·.zero)
section
variable {P : Program} {w : World}
theorem run_isAgg {t : TypeId} {b : Bool} {n : Nat} (h : tySz P t = some (b, n)) : (isAgg t).run P w = .ok b w := by
  unfold tySz at h
  cases hu : P.underlying t with
  | none => simp [hu] at h
  | some d =>
    cases hi : P.info? t with
    | none => simp [hu, hi] at h
    | some i =>
      simp [hu, hi] at h
      obtain ⟨rfl, rfl⟩ := h
      simp only [isAgg, Sem.run_bind, run_underlying hu, Result.andThen_ok]
      cases d <;> rfl
theorem run_sizeOf {t : TypeId} {b : Bool} {n : Nat} (h : tySz P t = some (b, n)) : (sizeOf t).run P w = .ok n w := by
  unfold tySz at h
  cases hu : P.underlying t with
  | none => simp [hu] at h
  | some d =>
    cases hi : P.info? t with
    | none => simp [hu, hi] at h
    | some i =>
      simp [hu, hi] at h
      obtain ⟨rfl, rfl⟩ := h
      simp [sizeOf, typeInfo, hi]
theorem esz_some {t : TypeId} {n : Nat} (h : esz P t = some n) : ∃ e i, P.underlying t = some (.slice e) ∧ P.info? e = some i ∧ i.size = n := by
  unfold esz at h
  split at h
  · rename_i e he
    simp only [Option.map_eq_some_iff] at h
    obtain ⟨i, h1, h2⟩ := h
    exact ⟨e, i, he, h1, h2⟩
  · cases h
end
def pbin (op : BinOp) : Value → Value → Value × Prop
  | .int k a, .int k' b =>
    match op with
    | .shl => (.int k (k.wrap (a * 2 ^ (min b.toNat k.bits))), 0 ≤ b)
    | .shr => (.int k (a.fdiv (2 ^ (min b.toNat k.bits))), 0 ≤ b)
    | .add => (.int k (k.wrap (a + b)), k = k')
    | .sub => (.int k (k.wrap (a - b)), k = k')
    | .mul => (.int k (k.wrap (a * b)), k = k')
    | .quo => (.int k (k.wrap (a.tdiv b)), k = k' ∧ b ≠ 0)
    | .rem => (.int k (a.tmod b), k = k' ∧ b ≠ 0)
    | .and => (.int k (bits .and k a b), k = k')
    | .or => (.int k (bits .or k a b), k = k')
    | .xor => (.int k (bits .xor k a b), k = k')
    | .andNot => (.int k (bits .andNot k a b), k = k')
    | .eql => (.bool (a == b), k = k')
    | .neq => (.bool (a != b), k = k')
    | .lss => (.bool (decide (a < b)), k = k')
    | .leq => (.bool (decide (a ≤ b)), k = k')
    | .gtr => (.bool (decide (b < a)), k = k')
    | .geq => (.bool (decide (b ≤ a)), k = k')
  | .string a, .string b =>
    match op with
    | .add => (.string (a ++ b), a.size + b.size ≤ maxLen)
    | .eql => (.bool (decide (a = b)), True)
    | .neq => (.bool (!decide (a = b)), True)
    | .lss => (.bool (Op.bytesLess a.toList b.toList), True)
    | .gtr => (.bool (!(Op.bytesLess a.toList b.toList || decide (a = b))), True)
    | _ => (undef, False)
  | _, _ => (undef, False)
theorem toList_beq (a b : ByteArray) : (a.toList == b.toList) = decide (a = b) := by
  rw [ByteArray.toList_eq, ByteArray.toList_eq, Bool.eq_iff_iff]
  obtain ⟨⟨x⟩⟩ := a
  obtain ⟨⟨y⟩⟩ := b
  simp
theorem pbin_ok (P : Program) (w : World) (op : BinOp) (t : TypeId) (x y : Operand) (u v : Value) (h : (pbin op u v).2) :
    (do eqGuard op t x y u v; binOp op t u v : Sem Value).run P w = .ok (pbin op u v).1 w := by
  unfold pbin at h ⊢
  split at h
  · rename_i k a k' b
    rw [eqGuard_at_int]
    cases op <;> simp only at h ⊢ <;> first
      | (obtain ⟨rfl, h⟩ := h; simp [binOp, Op.intDiv, h])
      | (subst h; simp [binOp, Op.intArith, Op.intCmp, intBits_and, intBits_or, intBits_xor, intBits_andNot])
      | (have : ¬ b < 0 := by omega
         simp [binOp, Op.shift, this])
  · rename_i a b
    rw [eqGuard_at_string]
    have hm : IntKind.i64.max = 9223372036854775807 := by decide
    cases op <;> simp only at h ⊢ <;> first
      | exact h.elim
      | (have h' : ¬ ((a.size + b.size : Nat) : Int) > IntKind.i64.max := by rw [hm]; simp only [maxLen] at h; omega
         simp only [binOp, Op.stringOp, pure_bind]
         rw [if_neg h']; rfl)
      | simp [binOp, Op.stringOp, toList_beq]
  · exact h.elim
def eqC : C → C → Bool
  | .v (.int _ a), .v (.int _ b) => a == b
  | .v (.bool a), .v (.bool b) => a == b
  | .v (.string a), .v (.string b) => decide (a = b)
  | _, _ => false
def eqCs : List C → List C → Bool
  | a :: r, b :: s => eqC a b && eqCs r s
  | [], [] => true
  | _, _ => false
def AggEq (P : Program) (t : TypeId) (cs ds : List C) : Prop :=
  ∃ us vs : List Value, cs = us.map C.v ∧ ds = vs.map C.v ∧ ∀ (w : World) (x y : Operand),
    (do eqGuard .eql t x y (.agg us.toArray) (.agg vs.toArray); binOp .eql t (.agg us.toArray) (.agg vs.toArray) : Sem Value).run P w = .ok (.bool (eqCs cs ds)) w ∧
    (do eqGuard .neq t x y (.agg us.toArray) (.agg vs.toArray); binOp .neq t (.agg us.toArray) (.agg vs.toArray) : Sem Value).run P w = .ok (.bool (!eqCs cs ds)) w
theorem VR_v {K : Nat → Nat → Prop} {w : World} : ∀ (xs us : List Value), VR K w (xs.map C.v) us → us = xs
  | [], us, h => by simpa [VR] using h
  | x :: r, us, h => by
    simp only [List.map_cons, VR, CR] at h
    obtain ⟨u, us', rfl, ⟨rfl, _⟩, h2⟩ := h
    rw [VR_v r us' h2]
def isSl (P : Program) (t : TypeId) : Bool := match P.underlying t with | some (.slice _) => true | _ => false
def isPt (P : Program) (t : TypeId) : Bool := match P.underlying t with | some (.pointer _) => true | _ => false
theorem isSl_some {P : Program} {t : TypeId} (h : isSl P t = true) : ∃ e, P.underlying t = some (.slice e) := by
  unfold isSl at h
  split at h
  · rename_i e he; exact ⟨e, he⟩
  · cases h
abbrev no : S × Prop := (.un, False)
def bl (b : Bool) : S := .c (.v (.bool b))
def pbinS (P : Program) (st : St) (op : BinOp) (t : TypeId) (x y : S) : S × Prop :=
  match x, y with
  | .c (.v (.bool a)), .c (.v (.bool b)) =>
    match op with
    | .eql => (bl (a == b), P.underlying t = some .bool)
    | .neq => (bl (a != b), P.underlying t = some .bool)
    | _ => no
  | .c (.v (.pointer none)), .c (.v (.pointer none)) =>
    match op with
    | .eql => (bl true, isPt P t = true)
    | .neq => (bl false, isPt P t = true)
    | _ => no
  | .c (.dp _), .c (.v (.pointer none)) =>
    match op with
    | .eql => (bl false, isPt P t = true)
    | .neq => (bl true, isPt P t = true)
    | _ => no
  | .ptr i _, .c (.v (.pointer none)) =>
    match st.rs i with
    | some (.box _ _) =>
      match op with
      | .eql => (bl false, isPt P t = true)
      | .neq => (bl true, isPt P t = true)
      | _ => no
    | _ => no
  | .c (.v u), .c (.v v) => (.c (.v (pbin op u v).1), (pbin op u v).2)
  | .c (.sl nil _), .c (.sl true []) =>
    match op with
    | .eql => (bl nil, isSl P t = true)
    | .neq => (bl !nil, isSl P t = true)
    | _ => no
  | .own i n, .c (.sl true []) =>
    match st.rs i with
    | some (.arr nil _ xs _) =>
      match op with
      | .eql => (bl nil, isSl P t = true ∧ xs.length = n)
      | .neq => (bl !nil, isSl P t = true ∧ xs.length = n)
      | _ => no
    | _ => no
  | .agg cs, .agg ds =>
    match op with
    | .eql => (bl (eqCs cs ds), AggEq P t cs ds)
    | .neq => (bl !(eqCs cs ds), AggEq P t cs ds)
    | _ => no
  | _, _ => no
section
variable {P : Program} {w0 : World} {K0 : K0T} {nt : Nat} {st : St} {a : Act} {w : World} {g : G}
theorem run_equalIn_sl (w : World) (d : Nat) (t e : TypeId) (b : Option Addr) (l c : Nat) (h : P.underlying t = some (.slice e)) : (Op.equalIn (d + 1) t (.slice b l c) (.slice none 0 0)).run P w = .ok b.isNone w := by
  cases b <;> simp [Op.equalIn, run_underlying h]
theorem run_equal_sl (w : World) (t e : TypeId) (b : Option Addr) (l c : Nat) (h : P.underlying t = some (.slice e)) : (Op.equal t (.slice b l c) (.slice none 0 0)).run P w = .ok b.isNone w := run_equalIn_sl w 9999 t e b l c h
theorem run_eqsl {op : BinOp} {t e : TypeId} (x y : Operand) (v : Value) (nil : Bool) (he : P.underlying t = some (.slice e)) (hv : (nil = true ∧ v = .slice none 0 0) ∨ (nil = false ∧ ∃ b n c, v = .slice (some b) n c)) (hop : op = .eql ∨ op = .neq) :
    (do eqGuard op t x y v (.slice none 0 0); binOp op t v (.slice none 0 0) : Sem Value).run P w = .ok (.bool (if op = .eql then nil else !nil)) w := by
  rcases hv with ⟨rfl, rfl⟩ | ⟨rfl, b, n, c, rfl⟩ <;> rcases hop with rfl | rfl <;>
    (rw [eqGuard_at_slice, pure_bind]
     simp [binOp, run_equal_sl w t e _ _ _ he])
theorem isPt_some {P : Program} {t : TypeId} (h : isPt P t = true) : ∃ e, P.underlying t = some (.pointer e) := by
  unfold isPt at h
  split at h
  · rename_i e he; exact ⟨e, he⟩
  · cases h
theorem run_equalIn_pt (w : World) (d : Nat) (t e : TypeId) (a : Option Addr) (h : P.underlying t = some (.pointer e)) : (Op.equalIn (d + 1) t (.pointer a) (.pointer none)).run P w = .ok a.isNone w := by
  cases a <;> simp [Op.equalIn, run_underlying h]
theorem run_equal_pt (w : World) (t e : TypeId) (a : Option Addr) (h : P.underlying t = some (.pointer e)) : (Op.equal t (.pointer a) (.pointer none)).run P w = .ok a.isNone w := run_equalIn_pt w 9999 t e a h
theorem run_eqpt {op : BinOp} {t : TypeId} (x y : Operand) (a : Option Addr) (he : isPt P t = true) (hop : op = .eql ∨ op = .neq) :
    (do eqGuard op t x y (.pointer a) (.pointer none); binOp op t (.pointer a) (.pointer none) : Sem Value).run P w = .ok (.bool (if op = .eql then a.isNone else !a.isNone)) w := by
  obtain ⟨e, he⟩ := isPt_some he
  rcases hop with rfl | rfl <;>
    (rw [eqGuard_at_pointer, pure_bind]
     simp [binOp, run_equal_pt w t e a he])
theorem bl_SR (b : Bool) : SR g w st.rs (bl b) (.bool b) := by simp [bl, SR, CR, Value.oneCell']
theorem pbinS_ok (hT : T w0 K0 nt st a w g) (op : BinOp) (t : TypeId) (x y : Operand) (sx sy : S) (u v : Value) (hx : SR g w st.rs sx u) (hy : SR g w st.rs sy v) (h : (pbinS P st op t sx sy).2) :
    ∃ r, (do eqGuard op t x y u v; binOp op t u v : Sem Value).run P w = .ok r w ∧ SR g w st.rs (pbinS P st op t sx sy).1 r := by
  unfold pbinS at h ⊢
  split at h
  · rename_i a b
    simp only [SR, CR] at hx hy
    obtain ⟨rfl, _⟩ := hx
    obtain ⟨rfl, _⟩ := hy
    rw [eqGuard_at_bool]
    cases op <;> simp only at h ⊢ <;> first
      | exact h.elim
      | exact ⟨_, by rw [pure_bind, run_eql_bool (P := P) w t _ _ h], bl_SR _⟩
      | exact ⟨_, by rw [pure_bind, run_neq_bool (P := P) w t _ _ h]; rfl, bl_SR _⟩
  · simp only [SR, CR] at hx hy
    obtain ⟨rfl, _⟩ := hx
    obtain ⟨rfl, _⟩ := hy
    cases op <;> first
      | exact False.elim h
      | exact ⟨_, run_eqpt x y none h (by simp), bl_SR _⟩
  · simp only [SR, CR] at hx hy
    obtain ⟨b, o, rfl, _⟩ := hx
    obtain ⟨rfl, _⟩ := hy
    cases op <;> first
      | exact False.elim h
      | exact ⟨_, run_eqpt x y _ h (by simp), bl_SR _⟩
  · rename_i i off
    simp only [SR] at hx hy
    rw [CR] at hy
    obtain ⟨rfl, _⟩ := hy
    split at h
    · rename_i fz ss hr
      obtain ⟨b, _, rfl⟩ := hx fz ss hr
      cases op <;> first
        | exact False.elim h
        | exact ⟨_, run_eqpt x y _ h (by simp), bl_SR _⟩
    · exact h.elim
  · rename_i hnb hnb2
    simp only [SR, CR] at hx hy
    obtain ⟨rfl, _⟩ := hx
    obtain ⟨rfl, _⟩ := hy
    refine ⟨_, pbin_ok P w op t x y _ _ h, ?_⟩
    simp only [SR, CR]
    refine ⟨trivial, ?_⟩
    unfold pbin at h ⊢
    split at h
    · cases op <;> rfl
    · cases op <;> first | rfl | exact h.elim
    · exact h.elim
  · rename_i nil xs
    simp only [SR] at hx hy
    have hv : v = .slice none 0 0 := by
      rw [CR] at hy
      rcases hy with ⟨_, _, h⟩ | ⟨h, _⟩
      · exact h
      · cases h
    subst hv
    have hu : (nil = true ∧ u = .slice none 0 0) ∨ (nil = false ∧ ∃ b n c, u = .slice (some b) n c) := by
      rw [CR] at hx
      rcases hx with ⟨h1, _, h2⟩ | ⟨h1, b, o, s, cap, sz, h2, _⟩
      · exact .inl ⟨h1, h2⟩
      · exact .inr ⟨h1, _, _, _, h2⟩
    cases op <;> first
      | exact False.elim h
      | (obtain ⟨e, he⟩ := isSl_some h
         exact ⟨_, run_eqsl x y u nil he hu (by simp), by simp; exact bl_SR _⟩)
  · rename_i i n
    simp only [SR] at hx hy
    have hv : v = .slice none 0 0 := by
      rw [CR] at hy
      rcases hy with ⟨_, _, h⟩ | ⟨h, _⟩
      · exact h
      · cases h
    subst hv
    split at h
    · rename_i nil sz xs fx hr
      have hn : xs.length = n := by cases op <;> first | exact False.elim h | exact h.2
      have hu0 := hx nil sz xs fx hr hn
      have hu : (nil = true ∧ u = .slice none 0 0) ∨ (nil = false ∧ ∃ b n c, u = .slice (some b) n c) := by
        rcases hT.res i _ hr with ⟨h1, _, h2, _⟩ | ⟨h1, b, cap, cur, E, h2, _⟩
        · exact .inl ⟨h1, by rw [hu0, h2]⟩
        · exact .inr ⟨h1, _, _, _, by rw [hu0, h2]⟩
      cases op <;> first
        | exact False.elim h
        | (obtain ⟨e, he⟩ := isSl_some h.1
           exact ⟨_, run_eqsl x y u nil he hu (by simp), by simp; exact bl_SR _⟩)
    · exact h.elim
  · rename_i cs ds
    rw [SR] at hx hy
    obtain ⟨us, rfl, hx⟩ := hx
    obtain ⟨vs, rfl, hy⟩ := hy
    cases op <;> first
      | exact False.elim h
      | (obtain ⟨us', vs', rfl, rfl, h⟩ := h
         obtain rfl := VR_v _ _ hx
         obtain rfl := VR_v _ _ hy
         first
           | exact ⟨_, (h w x y).1, bl_SR _⟩
           | exact ⟨_, (h w x y).2, bl_SR _⟩)
  · exact h.elim
end
end Go.VL
set_option linter.unusedSimpArgs false
set_option linter.unusedVariables false
namespace Go.VL
open Go.RowKit
section
variable {P : Program} {w : World}
theorem run_loadVar_one {t : TypeId} {n : Nat} {b : Addr} {u : Value} (h : tySz P t = some (false, n)) (hc : w.cell? b = some u) : (loadVar t b).run P w = .ok u w := by
  simp [loadVar, run_isAgg h, run_load, hc]
theorem run_loadVar_agg {t : TypeId} {n : Nat} {b : Addr} {us : List Value} (h : tySz P t = some (true, n)) (hn : us.length = n) (hc : ∀ (j : Nat) v, us[j]? = some v → w.cell? (b.add j) = some v) : (loadVar t b).run P w = .ok (.agg us.toArray) w := by
  have := run_loadCells_list (P := P) w b us hc
  rw [hn] at this
  simp [loadVar, run_isAgg h, run_sizeOf h, this]
theorem add_lit' (b o n : Nat) (s : Option Nat) : Addr.add ⟨b, o, s⟩ n = ⟨b, o + n, if n = 0 then s else none⟩ := by
  unfold Addr.add
  by_cases h : n = 0
  · simp [h]
  · simp [h]
theorem add_lit (b o n : Nat) : Addr.add ⟨b, o, none⟩ n = ⟨b, o + n, none⟩ := Addr.add_lit b o n
theorem LR_VR {K : Nat → Nat → Prop} (b : Nat) : ∀ (cs : List C) (o : Nat), LR K w b o cs → ∃ us : List Value, VR K w cs us ∧ us.length = cs.length ∧ ∀ (j : Nat) v, us[j]? = some v → w.cell? ⟨b, o + j, none⟩ = some v
  | [], o, _ => ⟨[], by simp [VR], rfl, by simp⟩
  | c :: r, o, h => by
    rw [LR] at h
    obtain ⟨⟨_, u, hu, hc⟩, hr⟩ := h
    obtain ⟨us, h1, h2, h3⟩ := LR_VR b r (o + 1) hr
    refine ⟨u :: us, by rw [VR]; exact ⟨u, us, rfl, hc, h1⟩, by simp [h2], fun j v hj => ?_⟩
    cases j with
    | zero => simp at hj; subst hj; exact hu
    | succ j => have := h3 j v (by simpa using hj); rwa [show o + 1 + j = o + (j + 1) from by omega] at this
theorem LR_take {K : Nat → Nat → Prop} {b o : Nat} {cs : List C} (n : Nat) (h : LR K w b o cs) : LR K w b o (cs.take n) := by
  rw [LR_iff] at h ⊢
  intro k c hk
  rw [List.getElem?_take] at hk
  split at hk
  · exact h k c hk
  · cases hk
theorem LR_drop {K : Nat → Nat → Prop} {b o : Nat} {cs : List C} (n : Nat) (h : LR K w b o cs) : LR K w b (o + n) (cs.drop n) := by
  rw [LR_iff] at h ⊢
  intro k c hk
  rw [List.getElem?_drop] at hk
  have := h (n + k) c hk
  rwa [← Nat.add_assoc] at this
theorem VR_take {K : Nat → Nat → Prop} {cs : List C} {us : List Value} (n : Nat) (h : VR K w cs us) : VR K w (cs.take n) (us.take n) := by
  rw [VR_iff] at h ⊢
  refine ⟨by simp [h.1], fun k c u hk hu => ?_⟩
  rw [List.getElem?_take] at hk hu
  split at hk
  · rename_i hlt; rw [if_pos hlt] at hu; exact h.2 k c u hk hu
  · cases hk
theorem VR_drop {K : Nat → Nat → Prop} {cs : List C} {us : List Value} (n : Nat) (h : VR K w cs us) : VR K w (cs.drop n) (us.drop n) := by
  rw [VR_iff] at h ⊢
  refine ⟨by simp [h.1], fun k c u hk hu => ?_⟩
  rw [List.getElem?_drop] at hk hu
  exact h.2 _ c u hk hu
theorem VR_append {K : Nat → Nat → Prop} {cs ds : List C} {us vs : List Value} (h : VR K w cs us) (h' : VR K w ds vs) : VR K w (cs ++ ds) (us ++ vs) := by
  induction cs generalizing us with
  | nil => rw [VR] at h; subst h; exact h'
  | cons c r ih =>
    rw [VR] at h
    obtain ⟨u, us', rfl, h1, h2⟩ := h
    rw [List.cons_append, List.cons_append, VR]
    exact ⟨u, _, rfl, h1, ih h2⟩
end
def allC : List S → Option (List C)
  | [] => some []
  | .c x :: r => (allC r).map (x :: ·)
  | _ :: _ => none
def isBo (P : Program) (t : TypeId) : Bool := match P.underlying t with | some .bool => true | _ => false
def dflC (P : Program) (t : TypeId) : C := bif isSl P t then .sl true [] else bif isBo P t then .v (.bool false) else .v (.int .i64 0)
def pload (P : Program) (st : St) (t : TypeId) (a : S) : S × Prop :=
  match tySz P t with
  | some (false, _) =>
    match a with
    | .c (.dp (c :: _)) => (.c c, True)
    | .c (.dp []) => (.c (dflC P t), False)
    | .ptr i o =>
      match st.rs i with
      | some (.box _ ss) => match ss[o]? with
        | some s => (s, True)
        | none => no
      | _ => no
    | .ep i n j o =>
      match st.rs i with
      | some (.arr _ sz xs _) => (.c ((xs.getD j []).getD o default), xs.length = n ∧ j < n ∧ o < sz)
      | _ => no
    | _ => no
  | some (true, m) =>
    match a with
    | .c (.dp cs) => (.agg (cs.take m), m ≤ cs.length)
    | .ptr i o =>
      match st.rs i with
      | some (.box _ ss) => match allC ((ss.drop o).take m) with
        | some cs => (.agg cs, cs.length = m)
        | none => no
      | _ => no
    | .ep i n j o =>
      match st.rs i with
      | some (.arr _ sz xs _) => (.agg (((xs.getD j []).drop o).take m), xs.length = n ∧ j < n ∧ o + m ≤ sz)
      | _ => no
    | _ => no
  | none => no
section
variable {P : Program} {w0 : World} {K0 : K0T} {nt : Nat} {st : St} {a : Act} {w : World} {g : G}
theorem allC_VR : ∀ (ss : List S) (cs : List C) (us : List Value), allC ss = some cs → us.length = ss.length → (∀ (k : Nat) s u, ss[k]? = some s → us[k]? = some u → SR g w st.rs s u) → VR g.K w cs us
  | [], cs, us, h, hl, _ => by
    simp [allC] at h; subst h
    cases us with
    | nil => simp [VR]
    | cons u r => simp at hl
  | s :: r, cs, us, h, hl, hs => by
    cases us with
    | nil => simp at hl
    | cons u us =>
      cases s with
      | c x =>
        simp only [allC, Option.map_eq_some_iff] at h
        obtain ⟨cs', h1, rfl⟩ := h
        rw [VR]
        have h0 := hs 0 _ u rfl rfl
        rw [SR] at h0
        exact ⟨u, us, rfl, h0, allC_VR r cs' us h1 (by simpa using hl) (fun k s' u' e1 e2 => hs (k + 1) s' u' (by simpa using e1) (by simpa using e2))⟩
      | _ => simp [allC] at h
theorem cell_of_heap {w : World} {b o : Nat} {cur : Array Value} {E : TypeId} {fz : Nat × Nat} (h : w.heap[b]? = some (.cells cur E fz)) : w.cell? ⟨b, o, none⟩ = cur[o]? := by
  simp [World.cell?, h]
theorem Holds.elem {K : Nat → Nat → Prop} {sz : Nat} {xs : List (List C)} {cur : Array Value} (h : Holds K w sz xs cur) {j : Nat} (hj : j < xs.length) :
    (xs.getD j []).length = sz ∧ ∃ us : List Value, VR K w (xs.getD j []) us ∧ us.length = sz ∧ ∀ (k : Nat) v, us[k]? = some v → cur[j * sz + k]? = some v := by
  have e : xs[j]? = some (xs.getD j []) := by simp [List.getD, List.getElem?_eq_getElem hj]
  obtain ⟨h1, h2⟩ := h j _ e
  refine ⟨h1, ?_⟩
  generalize xs.getD j [] = c at *
  have key : ∀ (c : List C) (o : Nat), (∀ (k : Nat) (d : C), c[k]? = some d → ∃ u, cur[o + k]? = some u ∧ CR K w d u) → ∃ us : List Value, VR K w c us ∧ us.length = c.length ∧ ∀ (k : Nat) v, us[k]? = some v → cur[o + k]? = some v := by
    intro c
    induction c with
    | nil => intro o _; exact ⟨[], by simp [VR], rfl, by simp⟩
    | cons d r ih =>
      intro o hh
      obtain ⟨u, hu, hd⟩ := hh 0 d rfl
      obtain ⟨us, e1, e2, e3⟩ := ih (o + 1) (fun k d hk => by have := hh (k + 1) d (by simpa using hk); rwa [show o + 1 + k = o + (k + 1) from by omega])
      refine ⟨u :: us, by rw [VR]; exact ⟨u, us, rfl, hd, e1⟩, by simp [e2], fun k v hk => ?_⟩
      cases k with
      | zero => simp at hk; subst hk; exact hu
      | succ k => have := e3 k v (by simpa using hk); rwa [show o + 1 + k = o + (k + 1) from by omega] at this
  obtain ⟨us, e1, e2, e3⟩ := key c (j * sz) h2
  exact ⟨us, e1, by rw [e2, h1], e3⟩
theorem pload_ok (hT : T w0 K0 nt st a w g) {t : TypeId} {s : S} {u : Value} (hs : SR g w st.rs s u) (h : (pload P st t s).2) :
    ∃ r, (Instr.loadAt t u).run P w = .ok r w ∧ SR g w st.rs (pload P st t s).1 r := by
  have hl : ∀ (b : Addr), (Instr.loadAt t (.pointer (some b))).run P w = (loadVar t b).run P w := fun b => by simp [Instr.loadAt, Instr.sureAddr]
  unfold pload at h ⊢
  split at h
  · rename_i n ht
    split at h
    · rename_i c r
      simp only [SR, CR, LR] at hs
      obtain ⟨b, o, rfl, ⟨_, v, hv, hc⟩, _⟩ := hs
      exact ⟨v, by rw [hl]; exact run_loadVar_one ht hv, by rw [SR]; exact hc⟩
    · exact h.elim
    · rename_i i o
      split at h
      · rename_i fz ss hr
        rw [SR] at hs
        obtain ⟨b, hb, rfl⟩ := hs fz ss hr
        obtain ⟨b', cur, E, h1, h2, h3, h4, h5, h6⟩ := hT.res i _ hr
        rw [hb] at h1
        simp at h1; subst h1
        split at h
        · rename_i s' hs'
          obtain ⟨v, e1, e2, e3⟩ := h5 o s' hs'
          exact ⟨v, by rw [hl]; exact run_loadVar_one ht (by rw [cell_of_heap h3]; exact e1), e2⟩
        · exact h.elim
      · exact h.elim
    · rename_i i m j o
      split at h
      · rename_i nil sz xs fx hr
        obtain ⟨h1, h2, h3⟩ := h
        rw [SR] at hs
        obtain ⟨b, cap, hb, rfl⟩ := hs nil sz xs fx hr h1
        rcases hT.res i _ hr with ⟨_, _, e, _⟩ | ⟨_, b', cap', cur, E, e1, e2, e3, e4, e5, e6, e7, e8, e9⟩
        · rw [hb] at e; simp at e
        · rw [hb] at e1
          simp at e1; obtain ⟨rfl, _, rfl⟩ := e1
          obtain ⟨k1, us, k2, k3, k4⟩ := e8.elem (j := j) (by omega)
          have ho : o < us.length := by omega
          have k5 := k4 o us[o] (by simp [ho])
          refine ⟨us[o], by rw [hl]; exact run_loadVar_one ht (by rw [cell_of_heap e3]; exact k5), ?_⟩
          rw [SR]
          refine ((VR_iff _ _).1 k2).2 o _ _ ?_ (by simp [ho])
          have : o < (xs.getD j []).length := by omega
          simp only [List.getD_eq_getElem?_getD] at this ⊢
          rw [List.getElem?_eq_getElem this]; rfl
      · exact h.elim
    · exact h.elim
  · rename_i m ht
    split at h
    · rename_i cs
      simp only [SR, CR] at hs
      obtain ⟨b, o, rfl, hlr⟩ := hs
      obtain ⟨us, e1, e2, e3⟩ := LR_VR b _ o (LR_take m hlr)
      refine ⟨.agg us.toArray, by rw [hl]; exact run_loadVar_agg ht (by have h' : m ≤ cs.length := h; rw [e2]; simp; omega) (fun j v hj => by rw [add_lit]; exact e3 j v hj), ?_⟩
      rw [SR]; exact ⟨us, rfl, e1⟩
    · rename_i i o
      split at h
      · rename_i fz ss hr
        rw [SR] at hs
        obtain ⟨b, hb, rfl⟩ := hs fz ss hr
        obtain ⟨b', cur, E, h1, h2, h3, h4, h5, h6⟩ := hT.res i _ hr
        rw [hb] at h1
        simp at h1; subst h1
        split at h
        · rename_i cs hcs
          have hlen : ((ss.drop o).take m).length = cs.length := by
            have : ∀ (l : List S) (cs : List C), allC l = some cs → l.length = cs.length := by
              intro l
              induction l with
              | nil => intro cs h; simp [allC] at h; subst h; rfl
              | cons s r ih =>
                intro cs h
                cases s with
                | c x => simp only [allC, Option.map_eq_some_iff] at h; obtain ⟨cs', h1, rfl⟩ := h; simp [ih _ h1]
                | _ => simp [allC] at h
            exact this _ _ hcs
          refine ⟨.agg ((cur.toList.drop o).take m).toArray, ?_, ?_⟩
          · rw [hl]
            refine run_loadVar_agg ht ?_ (fun j v hj => ?_)
            · simp at hlen ⊢; omega
            · rw [add_lit, cell_of_heap h3]
              rw [List.getElem?_take] at hj
              split at hj
              · rw [List.getElem?_drop] at hj; simpa using hj
              · cases hj
          · rw [SR]
            refine ⟨_, rfl, allC_VR (st := st) _ _ _ hcs (by simp at hlen ⊢; omega) (fun k s' v e1 e2 => ?_)⟩
            rw [List.getElem?_take] at e1 e2
            split at e1
            · rename_i hlt
              rw [if_pos hlt] at e2
              rw [List.getElem?_drop] at e1 e2
              obtain ⟨v', k1, k2, k3⟩ := h5 _ _ e1
              have : v' = v := by simp at e2; rw [k1] at e2; exact Option.some.inj e2
              subst this; exact k2
            · cases e1
        · exact h.elim
      · exact h.elim
    · rename_i i n j o
      split at h
      · rename_i nil sz xs fx hr
        obtain ⟨h1, h2, h3⟩ := h
        rw [SR] at hs
        obtain ⟨b, cap, hb, rfl⟩ := hs nil sz xs fx hr h1
        rcases hT.res i _ hr with ⟨_, _, e, _⟩ | ⟨_, b', cap', cur, E, e1, e2, e3, e4, e5, e6, e7, e8, e9⟩
        · rw [hb] at e; simp at e
        · rw [hb] at e1
          simp at e1; obtain ⟨rfl, _, rfl⟩ := e1
          obtain ⟨k1, us, k2, k3, k4⟩ := e8.elem (j := j) (by omega)
          refine ⟨.agg ((us.drop o).take m).toArray, ?_, by rw [SR]; exact ⟨_, rfl, VR_take m (VR_drop o k2)⟩⟩
          rw [hl]
          refine run_loadVar_agg ht (by simp; omega) (fun k v hk => ?_)
          rw [add_lit, cell_of_heap e3]
          rw [List.getElem?_take] at hk
          split at hk
          · rw [List.getElem?_drop] at hk
            have := k4 _ _ hk
            rwa [← Nat.add_assoc] at this
          · cases hk
      · exact h.elim
    · exact h.elim
  · exact h.elim
end
end Go.VL
set_option linter.unusedSimpArgs false
set_option linter.unusedVariables false
namespace Go.VL
open Go.RowKit
def pfieldAddr (P : Program) (st : St) (s : TypeId) (f : Nat) (x : S) : S × Prop :=
  match fldOf P s f with
  | some (off, _, n) =>
    match x with
    | .ptr i o =>
      match st.rs i with
      | some (.box _ _) => (.ptr i (o + off), n ≠ 0)
      | _ => no
    | .ep i m j o =>
      match st.rs i with
      | some (.arr _ _ xs _) => (.ep i m j (o + off), n ≠ 0 ∧ xs.length = m)
      | _ => no
    | .c (.dp cs) => (.c (.dp (cs.drop off)), n ≠ 0)
    | _ => no
  | none => no
def pindexAddr (P : Program) (st : St) (t : TypeId) (x i : S) : S × Prop :=
  match i with
  | .c (.v (.int _ n)) =>
    match x with
    | .c (.sl _ xs) => (.c (.dp (xs.getD n.toNat [])), 0 ≤ n ∧ n.toNat < xs.length ∧ esz P t = some (xs.getD n.toNat []).length)
    | .own i m =>
      match st.rs i with
      | some (.arr _ sz xs _) => (.ep i m n.toNat 0, 0 ≤ n ∧ n.toNat < m ∧ xs.length = m ∧ esz P t = some sz)
      | _ => no
    | .pre i m q =>
      match st.rs i with
      | some (.arr _ sz xs _) => (.ep i m n.toNat 0, 0 ≤ n ∧ n.toNat < q ∧ q ≤ m ∧ xs.length = m ∧ esz P t = some sz)
      | _ => no
    | .ptr i o =>
      match arrOf P t, st.rs i with
      | some (len, _, sz), some (.box _ _) => (.ptr i (o + n.toNat * sz), 0 ≤ n ∧ n < len)
      | _, _ => no
    | .c (.dp cs) =>
      match arrOf P t with
      | some (len, _, sz) => (.c (.dp (cs.drop (n.toNat * sz))), 0 ≤ n ∧ n < len)
      | none => no
    | _ => no
  | _ => no
def ppart (agg : Bool) (cs : List C) (off n : Nat) : S × Prop :=
  match agg with
  | true => (.agg ((cs.drop off).take n), off + n ≤ cs.length)
  | false => (.c (cs.getD off default), off < cs.length)
def pfield (P : Program) (s : TypeId) (f : Nat) (x : S) : S × Prop :=
  match fldOf P s f, x with
  | some (off, agg, n), .agg cs => ppart agg cs off n
  | _, _ => no
def pindex (P : Program) (t : TypeId) (x i : S) : S × Prop :=
  match i with
  | .c (.v (.int _ n)) =>
    match x with
    | .c (.v (.string s)) => (.c (.v (.int .u8 (s.data.toList.getD n.toNat 0).toNat)), 0 ≤ n ∧ n.toNat < s.size ∧ P.underlying t = some .string)
    | .agg cs =>
      match arrOf P t with
      | some (len, agg, sz) => ((ppart agg cs (n.toNat * sz) sz).1, 0 ≤ n ∧ n < len ∧ (ppart agg cs (n.toNat * sz) sz).2)
      | none => no
    | _ => no
  | _ => no
def sint : S → Option Int
  | .c (.v (.int _ n)) => some n
  | _ => none
def bnd : Option S → Int → Option Int
  | none, d => some d
  | some s, _ => sint s
def pslice (P : Program) (t : TypeId) (x : S) (lo hi mx : Option S) : S × Prop :=
  match mx with
  | some _ => no
  | none =>
    match x with
    | .c (.v (.string s)) =>
      match bnd lo 0, bnd hi s.size with
      | some l, some h => (.c (.v (.string (s.extract l.toNat h.toNat))), 0 ≤ l ∧ l ≤ h ∧ h ≤ s.size ∧ P.underlying t = some .string)
      | _, _ => no
    | .c (.sl nil xs) =>
      match bnd lo 0, bnd hi xs.length with
      | some l, some h => (.c (.sl nil ((xs.take h.toNat).drop l.toNat)), 0 ≤ l ∧ l ≤ h ∧ h ≤ xs.length ∧ ∃ n, esz P t = some n ∧ ∀ e ∈ xs, e.length = n)
      | _, _ => no
    | _ => no
def plen (P : Program) (st : St) (t : TypeId) (x : S) : S × Prop :=
  match x with
  | .c (.v (.string s)) => (.c (.v (.int .i64 s.size)), P.underlying t = some .string)
  | .c (.sl _ xs) => (.c (.v (.int .i64 xs.length)), isSl P t = true)
  | .own i n =>
    match st.rs i with
    | some (.arr _ _ xs _) => (.c (.v (.int .i64 n)), isSl P t = true ∧ xs.length = n)
    | _ => no
  | .pre i n m =>
    match st.rs i with
    | some (.arr _ _ xs _) => (.c (.v (.int .i64 m)), isSl P t = true ∧ xs.length = n)
    | _ => no
  | _ => no
def pmm (mx : Bool) : S → List S → S × Prop
  | .c (.v (.int k a)), [] => (.c (.v (.int k a)), True)
  | .c (.v (.int k a)), .c (.v (.int _ b)) :: r => pmm mx (.c (.v (.int k (bif mx then max a b else min a b)))) r
  | _, _ => no
def byteOf : List C → Option UInt8
  | [.v (.int .u8 n)] => if 0 ≤ n ∧ n < 256 then some (UInt8.ofNat n.toNat) else none
  | _ => none
def bytesOf : List (List C) → Option (List UInt8)
  | [] => some []
  | e :: r => match byteOf e, bytesOf r with
    | some b, some l => some (b :: l)
    | _, _ => none
def isBytes (P : Program) (t : TypeId) : Bool :=
  match P.underlying t with
  | some (.slice e) => match P.underlying e, P.info? e with
    | some (.int .u8), some i => i.size == 1
    | _, _ => false
  | _ => false
def pconv (P : Program) (st : St) (s d : TypeId) (x : S) : S × Prop :=
  match x with
  | .c (.v (.int _ n)) =>
    match intOfTy P d with
    | some k => (.c (.v (.int k (k.wrap n))), (P.underlying s).isSome = true)
    | none => no
  | .c (.v (.string b)) => (.c (.v (.string b)), P.underlying d = some .string ∧ P.underlying s = some .string)
  | .c (.sl _ xs) =>
    match bytesOf xs with
    | some l => (.c (.v (.string ⟨l.toArray⟩)), isBytes P s = true ∧ P.underlying d = some .string)
    | none => no
  | .own i n =>
    match st.rs i with
    | some (.arr _ _ xs _) =>
      match bytesOf xs with
      | some l => (.c (.v (.string ⟨l.toArray⟩)), isBytes P s = true ∧ P.underlying d = some .string ∧ xs.length = n)
      | none => no
    | _ => no
  | _ => no
def pun (op : UnOp) (x : S) : S × Prop :=
  match op, x with
  | .not, .c (.v (.bool b)) => (bl !b, True)
  | .neg, .c (.v (.int k n)) => (.c (.v (.int k (k.wrap (0 - n)))), True)
  | _, _ => no
section
variable {P : Program} {w0 : World} {K0 : K0T} {nt : Nat} {st : St} {a : Act} {w : World} {g : G}
theorem fldOf_some {s : TypeId} {f off n : Nat} {agg : Bool} (h : fldOf P s f = some (off, agg, n)) : ∃ fs x, P.underlying s = some (.struct fs) ∧ fs[f]? = some x ∧ x.offset = off ∧ tySz P x.type = some (agg, n) := by
  unfold fldOf at h
  split at h
  · rename_i fs hfs
    split at h
    · rename_i x hx
      simp only [Option.map_eq_some_iff] at h
      obtain ⟨⟨y1, y2⟩, h1, h2⟩ := h
      simp at h2
      obtain ⟨rfl, rfl, rfl⟩ := h2
      exact ⟨fs, x, hfs, hx, rfl, h1⟩
    · cases h
  · cases h
theorem arrOf_some {t : TypeId} {len n : Nat} {agg : Bool} (h : arrOf P t = some (len, agg, n)) : ∃ e, P.underlying t = some (.array len e) ∧ tySz P e = some (agg, n) := by
  unfold arrOf at h
  split at h
  · rename_i m e he
    simp only [Option.map_eq_some_iff] at h
    obtain ⟨⟨y1, y2⟩, h1, h2⟩ := h
    simp at h2
    obtain ⟨rfl, rfl, rfl⟩ := h2
    exact ⟨e, he, h1⟩
  · cases h
theorem run_fieldAt {s : TypeId} {f off n : Nat} {agg : Bool} {b o : Nat} (h : fldOf P s f = some (off, agg, n)) (hn : n ≠ 0) :
    (Instr.fieldAt s (.pointer (some ⟨b, o, none⟩)) f).run P w = .ok (.pointer (some ⟨b, o + off, none⟩)) w := by
  obtain ⟨fs, x, h1, h2, h3, h4⟩ := fldOf_some h
  simp [Instr.fieldAt, run_underlying h1, h2, Instr.sureAddr, fieldPlace, run_sizeOf h4, hn, h3, add_lit]
theorem pfieldAddr_ok {s : TypeId} {f : Nat} {x : S} {u : Value} (hx : SR g w st.rs x u) (h : (pfieldAddr P st s f x).2) :
    ∃ r, (Instr.fieldAt s u f).run P w = .ok r w ∧ SR g w st.rs (pfieldAddr P st s f x).1 r := by
  unfold pfieldAddr at h ⊢
  split at h
  · rename_i off agg n hf
    split at h
    · rename_i i o
      split at h
      · rename_i fz ss hr
        rw [SR] at hx
        obtain ⟨b, hb, rfl⟩ := hx fz ss hr
        exact ⟨_, run_fieldAt hf h, by rw [SR]; intro _ _ _; exact ⟨b, hb, rfl⟩⟩
      · exact h.elim
    · rename_i i m j o
      split at h
      · rename_i nil sz xs fx hr
        obtain ⟨h1, h2⟩ := h
        rw [SR] at hx
        obtain ⟨b, cap, hb, rfl⟩ := hx nil sz xs fx hr h2
        refine ⟨_, run_fieldAt hf h1, ?_⟩
        rw [SR]
        intro nil' sz' xs' fx' hr' _
        rw [hr] at hr'
        simp at hr'
        obtain ⟨rfl, rfl, rfl, rfl⟩ := hr'
        exact ⟨b, cap, hb, by rw [Nat.add_assoc]⟩
      · exact h.elim
    · rename_i cs
      simp only [SR, CR] at hx
      obtain ⟨b, o, rfl, hlr⟩ := hx
      exact ⟨_, run_fieldAt hf h, by simp only [SR, CR]; exact ⟨b, o + off, rfl, LR_drop off hlr⟩⟩
    · exact h.elim
  · exact h.elim
theorem run_indexAt_sl {t : TypeId} {sz : Nat} {b o len cap : Nat} {k : IntKind} {n : Int} (h : esz P t = some sz) (h0 : 0 ≤ n) (h1 : n.toNat < len) :
    (Instr.indexAt t (.slice (some ⟨b, o, none⟩) len cap) (.int k n)).run P w = .ok (.pointer (some ⟨b, o + n.toNat * sz, none⟩)) w := by
  obtain ⟨e, i, h2, h3, rfl⟩ := esz_some h
  have hn : 0 ≤ n ∧ n < len := ⟨h0, by omega⟩
  simp [Instr.indexAt, run_underlying h2, asIntOf, hn, sizeOf, typeInfo, h3, add_lit]
theorem run_indexAt_arr {t : TypeId} {sz len : Nat} {agg : Bool} {b o : Nat} {k : IntKind} {n : Int} (h : arrOf P t = some (len, agg, sz)) (h0 : 0 ≤ n) (h1 : n < len) :
    (Instr.indexAt t (.pointer (some ⟨b, o, none⟩)) (.int k n)).run P w = .ok (.pointer (some ⟨b, o + n.toNat * sz, none⟩)) w := by
  obtain ⟨e, h2, h3⟩ := arrOf_some h
  have hn : 0 ≤ n ∧ n < len := ⟨h0, h1⟩
  simp [Instr.indexAt, run_underlying h2, Instr.sureAddr, asIntOf, hn, run_sizeOf h3, add_lit]
theorem pindexAddr_ok (hT : T w0 K0 nt st a w g) {t : TypeId} {x i : S} {u v : Value} (hx : SR g w st.rs x u) (hi : SR g w st.rs i v) (h : (pindexAddr P st t x i).2) :
    ∃ r, (Instr.indexAt t u v).run P w = .ok r w ∧ SR g w st.rs (pindexAddr P st t x i).1 r := by
  unfold pindexAddr at h ⊢
  split at h
  · rename_i k n
    simp only [SR, CR] at hi
    obtain ⟨rfl, _⟩ := hi
    split at h
    · rename_i nil xs
      obtain ⟨h0, h1, h2⟩ := h
      simp only [SR, CR] at hx
      rcases hx with ⟨_, rfl, _⟩ | ⟨_, b, o, s, cap, sz, rfl, h3, h4, hs, h5⟩
      · simp at h1
      · obtain rfl : s = none := by
          rcases hs with rfl | hs
          · simp at h1
          · exact hs
        have e : xs[n.toNat]? = some (xs.getD n.toNat []) := by simp [List.getD, List.getElem?_eq_getElem h1]
        obtain ⟨h6, h7⟩ := (ER_iff b sz xs o).1 h5 _ _ e
        rw [h6] at h2
        refine ⟨_, run_indexAt_sl h2 h0 h1, ?_⟩
        simp only [SR, CR]
        exact ⟨b, _, rfl, h7⟩
    · rename_i i m
      split at h
      · rename_i nil sz xs fx hr
        obtain ⟨h0, h1, h2, h3⟩ := h
        rw [SR] at hx
        have hu := hx nil sz xs fx hr h2
        rcases hT.res i _ hr with ⟨_, e, _⟩ | ⟨_, b, cap, cur, E, e1, _⟩
        · subst e; simp at h2; omega
        · rw [e1] at hu
          subst hu
          refine ⟨_, run_indexAt_sl h3 h0 (by omega), ?_⟩
          rw [SR]
          intro nil' sz' xs' fx' hr' _
          rw [hr] at hr'
          simp at hr'
          obtain ⟨rfl, rfl, rfl, rfl⟩ := hr'
          exact ⟨b, cap, by rw [e1, h2], by simp⟩
      · exact h.elim
    · rename_i i m q
      split at h
      · rename_i nil sz xs fx hr
        obtain ⟨h0, h1, hq, h2, h3⟩ := h
        rw [SR] at hx
        obtain ⟨aa, cc, hl, rfl⟩ := hx nil sz xs fx hr h2
        rcases hT.res i _ hr with ⟨_, _, e, _⟩ | ⟨_, b, cap, cur, E, e1, _⟩
        · rw [hl] at e; cases e
        · rw [hl] at e1
          cases e1
          refine ⟨_, run_indexAt_sl h3 h0 (by omega), ?_⟩
          rw [SR]
          intro nil' sz' xs' fx' hr' _
          rw [hr] at hr'
          simp at hr'
          obtain ⟨rfl, rfl, rfl, rfl⟩ := hr'
          exact ⟨b, cc, hl, by simp⟩
      · exact h.elim
    · rename_i i o
      split at h
      · rename_i len agg sz fz ss ha hr
        obtain ⟨h0, h1⟩ := h
        rw [SR] at hx
        obtain ⟨b, hb, rfl⟩ := hx fz ss hr
        exact ⟨_, run_indexAt_arr ha h0 h1, by rw [SR]; intro _ _ _; exact ⟨b, hb, rfl⟩⟩
      · exact h.elim
    · rename_i cs
      split at h
      · rename_i len agg sz ha
        obtain ⟨h0, h1⟩ := h
        simp only [SR, CR] at hx
        obtain ⟨b, o, rfl, hlr⟩ := hx
        exact ⟨_, run_indexAt_arr ha h0 h1, by simp only [SR, CR]; exact ⟨b, _, rfl, LR_drop _ hlr⟩⟩
      · exact h.elim
    · exact h.elim
  · exact h.elim
theorem ppart_ok {t : TypeId} {agg : Bool} {n off : Nat} {cs : List C} {us : List Value} (ht : tySz P t = some (agg, n)) (hv : VR g.K w cs us) (h : (ppart agg cs off n).2) :
    ∃ r, (part t us.toArray off).run P w = .ok r w ∧ SR g w st.rs (ppart agg cs off n).1 r := by
  have hlen := ((VR_iff _ _).1 hv).1
  cases agg with
  | true =>
    refine ⟨.agg ((us.drop off).take n).toArray, ?_, by rw [ppart, SR]; exact ⟨_, rfl, VR_take n (VR_drop off hv)⟩⟩
    simp only [part, Sem.run_bind, run_isAgg ht, Result.andThen_ok, if_true, run_sizeOf ht, Sem.run_pure]
    congr 2
    simp only [List.extract_toArray]
    rw [List.extract_eq_take_drop]
    congr 2
    omega
  | false =>
    have hlt : off < us.length := by have h' : off < cs.length := h; omega
    refine ⟨us[off], ?_, ?_⟩
    · simp [part, run_isAgg ht, hlt]
    · simp only [ppart, SR]
      have h' : off < cs.length := h
      refine ((VR_iff _ _).1 hv).2 off _ _ ?_ (by simp [hlt])
      simp [List.getD, List.getElem?_eq_getElem h']
theorem pfield_ok {s : TypeId} {f : Nat} {x : S} {u : Value} (hx : SR g w st.rs x u) (h : (pfield P s f x).2) :
    ∃ r, (Instr.field s u f).run P w = .ok r w ∧ SR g w st.rs (pfield P s f x).1 r := by
  unfold pfield at h ⊢
  split at h
  · rename_i off agg n cs hf
    rw [SR] at hx
    obtain ⟨us, rfl, hv⟩ := hx
    obtain ⟨fs, y, h1, h2, h3, h4⟩ := fldOf_some hf
    obtain ⟨r, e1, e2⟩ := ppart_ok (st := st) h4 hv h
    refine ⟨r, ?_, e2⟩
    simp [Instr.field, run_underlying h1, h2, asAgg, h3, e1]
  · exact h.elim
theorem pindex_ok {t : TypeId} {x i : S} {u v : Value} (hx : SR g w st.rs x u) (hi : SR g w st.rs i v) (h : (pindex P t x i).2) :
    ∃ r, (Instr.index t u v).run P w = .ok r w ∧ SR g w st.rs (pindex P t x i).1 r := by
  unfold pindex at h ⊢
  split at h
  · rename_i k n
    simp only [SR, CR] at hi
    obtain ⟨rfl, _⟩ := hi
    split at h
    · rename_i s
      obtain ⟨h0, h1, h2⟩ := h
      simp only [SR, CR] at hx
      obtain ⟨rfl, _⟩ := hx
      refine ⟨.int .u8 (s.data.toList.getD n.toNat 0).toNat, ?_, by simp [SR, CR, Value.oneCell']⟩
      have e : s[n.toNat]? = some (s.data.toList.getD n.toNat 0) := by
        have h1' : n.toNat < s.data.size := h1
        rw [getElem?_pos s n.toNat h1]
        congr 1
        simp only [List.getD, Array.getElem?_toList]
        rw [Array.getElem?_eq_getElem h1']
        rfl
      simp [Instr.index, asIntOf, run_underlying h2, h0, e]
    · rename_i cs
      split at h
      · rename_i len agg sz ha
        obtain ⟨h0, h1, h2⟩ := h
        rw [SR] at hx
        obtain ⟨us, rfl, hv⟩ := hx
        obtain ⟨e, h3, h4⟩ := arrOf_some ha
        obtain ⟨r, e1, e2⟩ := ppart_ok (st := st) h4 hv h2
        refine ⟨r, ?_, e2⟩
        simp [Instr.index, asIntOf, run_underlying h3, h0, h1, run_sizeOf h4, e1]
      · exact h.elim
    · exact h.elim
  · exact h.elim
theorem sint_eq {s : S} {n : Int} {u : Value} (h : sint s = some n) (hs : SR g w st.rs s u) : ∃ k, u = .int k n := by
  unfold sint at h
  split at h
  · rename_i k m
    cases h
    simp only [SR, CR] at hs
    exact ⟨k, hs.1⟩
  · cases h
theorem run_bounds {len cap : Nat} {lo hi : Option Value} {l h : Int} (hl : lo = none ∧ l = 0 ∨ ∃ k, lo = some (.int k l)) (hh : (hi = none ∧ h = len) ∨ ∃ k, hi = some (.int k h)) (h0 : 0 ≤ l) (h1 : l ≤ h) (h2 : h ≤ cap) (isSlice : Bool) :
    (Instr.sliceBounds isSlice len cap lo hi none).run P w = .ok (l.toNat, h.toNat, cap) w := by
  have eh : (h.toNat : Int) = h := Int.toNat_of_nonneg (by omega)
  have a1 : 0 ≤ h := by omega
  rcases hl with ⟨rfl, rfl⟩ | ⟨k, rfl⟩ <;> rcases hh with ⟨rfl, rfl⟩ | ⟨k', rfl⟩ <;>
    simp [Instr.sliceBounds, Instr.sliceBound, asIntOf, *]
theorem opt_b {lo : Option S} {u : Option Value} {l d : Int} (hu : ∀ s, lo = some s → ∃ v, u = some v ∧ SR g w st.rs s v) (hn : lo = none → u = none) (h : bnd lo d = some l) :
    u = none ∧ l = d ∨ ∃ k, u = some (.int k l) := by
  cases lo with
  | none => simp [bnd] at h; exact .inl ⟨hn rfl, h.symm⟩
  | some s =>
    obtain ⟨v, h1, h2⟩ := hu s rfl
    obtain ⟨k, rfl⟩ := sint_eq h h2
    exact .inr ⟨k, h1⟩
theorem ER_take {K : Nat → Nat → Prop} {b o sz : Nat} {xs : List (List C)} (n : Nat) (h : ER K w b o sz xs) : ER K w b o sz (xs.take n) := by
  rw [ER_iff] at h ⊢
  intro k c hk
  rw [List.getElem?_take] at hk
  split at hk
  · exact h k c hk
  · cases hk
theorem ER_drop {K : Nat → Nat → Prop} {b o sz : Nat} {xs : List (List C)} (n : Nat) (h : ER K w b o sz xs) : ER K w b (o + n * sz) sz (xs.drop n) := by
  rw [ER_iff] at h ⊢
  intro k c hk
  rw [List.getElem?_drop] at hk
  have := h (n + k) c hk
  rwa [Nat.add_mul, ← Nat.add_assoc] at this
theorem pslice_ok {t : TypeId} {x : S} {u : Value} {lo hi mx : Option S} {vlo vhi vmx : Option Value} (hx : SR g w st.rs x u) (hlo : ∀ s, lo = some s → ∃ v, vlo = some v ∧ SR g w st.rs s v) (hlo' : lo = none → vlo = none)
    (hhi : ∀ s, hi = some s → ∃ v, vhi = some v ∧ SR g w st.rs s v) (hhi' : hi = none → vhi = none) (hmx : mx = none → vmx = none) (h : (pslice P t x lo hi mx).2) :
    ∃ r, (Instr.sliceAt t u vlo vhi vmx).run P w = .ok r w ∧ SR g w st.rs (pslice P t x lo hi mx).1 r := by
  unfold pslice at h ⊢
  split at h
  · exact h.elim
  · rw [hmx rfl]
    split at h
    · rename_i s
      split at h
      · rename_i l m hl hm
        obtain ⟨h0, h1, h2, h3⟩ := h
        simp only [SR, CR] at hx
        obtain ⟨rfl, _⟩ := hx
        have e := run_bounds (P := P) (w := w) (cap := s.size) (opt_b hlo hlo' hl) (opt_b hhi hhi' hm) h0 h1 h2 false
        refine ⟨.string (s.extract l.toNat m.toNat), ?_, by simp [SR, CR, Value.oneCell']⟩
        simp [Instr.sliceAt, run_underlying h3, Instr.slice, e]
      · exact h.elim
    · rename_i nil xs
      split at h
      · rename_i l m hl hm
        obtain ⟨h0, h1, h2, h3⟩ := h
        simp only [SR, CR] at hx
        rcases hx with ⟨rfl, rfl, rfl⟩ | ⟨rfl, b, o, s, cap, sz, rfl, k1, k2, ks, k3⟩
        · simp at h2
          obtain rfl : l = 0 := by omega
          obtain rfl : m = 0 := by omega
          have e := run_bounds (P := P) (w := w) (cap := 0) (opt_b hlo hlo' hl) (opt_b hhi hhi' hm) h0 h1 (by simp) true
          obtain ⟨n, h3, _⟩ := h3
          obtain ⟨el, i, h4, h5, rfl⟩ := esz_some h3
          refine ⟨.slice none 0 0, ?_, by simp [SR, CR]⟩
          simp only [List.length_nil] at e
          simp [Instr.sliceAt, run_underlying h4, Instr.slice, e, sizeOf, typeInfo, h5]
        · have e := run_bounds (P := P) (w := w) (cap := cap) (opt_b hlo hlo' hl) (opt_b hhi hhi' hm) h0 h1 (by omega) true
          obtain ⟨n, h3, h3'⟩ := h3
          obtain ⟨el, i, h4, h5, rfl⟩ := esz_some h3
          have hlen : ((xs.take m.toNat).drop l.toNat).length = m.toNat - l.toNat := by simp; omega
          refine ⟨.slice (if cap = l.toNat then some ⟨b, o, s⟩ else some ⟨b, o + l.toNat * i.size, if l.toNat * i.size = 0 then s else none⟩) (m.toNat - l.toNat) (cap - l.toNat), ?_, ?_⟩
          · simp only [Instr.sliceAt, Sem.run_bind, run_underlying h4, Result.andThen_ok, Instr.slice, e, sizeOf, typeInfo, run_program, h5, Sem.run_pure, Option.map_some, add_lit']
          · simp only [SR, CR]
            refine .inr ⟨trivial, ?_⟩
            by_cases hc : cap = l.toNat
            · rw [if_pos hc]
              have hnil : (xs.take m.toNat).drop l.toNat = [] := List.eq_nil_of_length_eq_zero (by omega)
              exact ⟨b, o, s, _, 0, by rw [hlen], by rw [hlen]; omega, by omega, .inl hnil, by rw [hnil, ER]; trivial⟩
            · rw [if_neg hc]
              refine ⟨b, _, _, _, sz, by rw [hlen], by rw [hlen]; omega, by omega, ?_, ?_⟩
              · rcases ks with rfl | rfl
                · left; simp
                · right; simp
              by_cases hz : xs = []
              · subst hz; simp [ER]
              · have : i.size = sz := by
                  cases xs with
                  | nil => exact absurd rfl hz
                  | cons y r => rw [← h3' y (by simp)]; rw [ER] at k3; exact k3.1.1
                rw [this]
                exact ER_drop _ (ER_take _ k3)
      · exact h.elim
    · exact h.elim
theorem plen_ok (hT : T w0 K0 nt st a w g) {t ty : TypeId} {x : S} {u : Value} (hx : SR g w st.rs x u) (h : (plen P st t x).2) :
    ∃ r, (Builtin.len_ #[t] ty #[u]).run P w = .ok r w ∧ SR g w st.rs (plen P st t x).1 r := by
  unfold plen at h ⊢
  split at h
  · rename_i s
    simp only [SR, CR] at hx
    obtain ⟨rfl, _⟩ := hx
    have h' : P.underlying t = some .string := h
    exact ⟨.int .i64 s.size, by simp [Builtin.len_, run_underlying h', goInt], by simp [SR, CR, Value.oneCell']⟩
  · rename_i nil xs
    have h' : isSl P t = true := h
    obtain ⟨e, he⟩ := isSl_some h'
    simp only [SR, CR] at hx
    rcases hx with ⟨rfl, rfl, rfl⟩ | ⟨rfl, b, o, s, cap, sz, rfl, _⟩
    · exact ⟨.int .i64 0, by simp [Builtin.len_, run_underlying he, goInt], by simp [SR, CR, Value.oneCell']⟩
    · exact ⟨.int .i64 xs.length, by simp [Builtin.len_, run_underlying he, goInt], by simp [SR, CR, Value.oneCell']⟩
  · rename_i i n
    split at h
    · rename_i nil sz xs fx hr
      obtain ⟨h1, h2⟩ := h
      obtain ⟨e, he⟩ := isSl_some h1
      rw [SR] at hx
      have hu := hx nil sz xs fx hr h2
      rcases hT.res i _ hr with ⟨_, e1, e2, _⟩ | ⟨_, b, cap, cur, E, e1, _⟩
      · subst e1; rw [e2] at hu; subst hu
        simp at h2
        subst h2
        exact ⟨.int .i64 0, by simp [Builtin.len_, run_underlying he, goInt], by simp [SR, CR, Value.oneCell']⟩
      · rw [e1] at hu
        subst hu
        refine ⟨.int .i64 xs.length, by simp [Builtin.len_, run_underlying he, goInt], ?_⟩
        rw [h2]; simp [SR, CR, Value.oneCell']
    · exact h.elim
  · rename_i i n m
    split at h
    · rename_i nil sz xs fx hr
      obtain ⟨h1, h2⟩ := h
      obtain ⟨e, he⟩ := isSl_some h1
      rw [SR] at hx
      obtain ⟨aa, cc, hl, rfl⟩ := hx nil sz xs fx hr h2
      exact ⟨.int .i64 m, by simp [Builtin.len_, run_underlying he, goInt], by simp [SR, CR, Value.oneCell']⟩
    · exact h.elim
  · exact h.elim
theorem pmm_ok (mx : Bool) : ∀ (r : List S) (x : S) (u : Value) (us : List Value), SR g w st.rs x u → SRs g w st.rs r us → (pmm mx x r).2 →
    ∃ z, (us.foldlM (bif mx then Builtin.max2 else Builtin.min2) u).run P w = .ok z w ∧ SR g w st.rs (pmm mx x r).1 z
  | [], x, u, us, hx, hr, h => by
    rw [SRs] at hr
    subst hr
    refine ⟨u, rfl, ?_⟩
    unfold pmm at h ⊢
    split at h
    · exact hx
    · rename_i heq; cases heq
    · exact h.elim
  | y :: r, x, u, us, hx, hr, h => by
    rw [SRs] at hr
    obtain ⟨v, us', rfl, hy, hr⟩ := hr
    unfold pmm at h ⊢
    split at h
    · rename_i heq; cases heq
    · rename_i k n k' m r' heq
      cases heq
      simp only [SR, CR] at hx hy
      obtain ⟨rfl, _⟩ := hx
      obtain ⟨rfl, _⟩ := hy
      obtain ⟨z, h1, h2⟩ := pmm_ok mx r _ (.int k (bif mx then max n m else min n m)) us' (by simp [SR, CR, Value.oneCell']) hr h
      refine ⟨z, ?_, h2⟩
      rw [List.foldlM_cons]
      have : (bif mx then Builtin.max2 else Builtin.min2) (.int k n) (.int k' m) = pure (.int k (bif mx then max n m else min n m)) := by
        cases mx <;> simp [Builtin.max2, Builtin.min2] <;> (congr 2; split <;> omega)
      rw [this, pure_bind]
      exact h1
    · exact h.elim
theorem byteOf_some {e : List C} {b : UInt8} (h : byteOf e = some b) : e = [.v (.int .u8 b.toNat)] := by
  unfold byteOf at h
  split at h
  · rename_i n
    split at h
    · rename_i hn
      cases h
      have e : ((UInt8.ofNat n.toNat).toNat : Int) = n := by
        simp
        omega
      rw [e]
    · cases h
  · cases h
theorem bytesOf_some : ∀ (xs : List (List C)) (l : List UInt8), bytesOf xs = some l → xs = l.map fun b => [C.v (.int .u8 b.toNat)]
  | [], l, h => by simp [bytesOf] at h; subst h; rfl
  | e :: r, l, h => by
    rw [bytesOf] at h
    split at h
    · rename_i b l' h1 h2
      cases h
      rw [byteOf_some h1, bytesOf_some r l' h2]
      rfl
    · cases h
theorem isBytes_some {t : TypeId} (h : isBytes P t = true) : ∃ e i, P.underlying t = some (.slice e) ∧ P.underlying e = some (.int .u8) ∧ P.info? e = some i ∧ i.size = 1 := by
  unfold isBytes at h
  split at h
  · rename_i e he
    split at h
    · rename_i i h1 h2
      exact ⟨e, i, he, h1, h2, by simpa using h⟩
    · cases h
  · cases h
theorem run_conv_bytes {s d : TypeId} {b o cap : Nat} {l : List UInt8} (hs : isBytes P s = true) (hd : P.underlying d = some .string) (hc : ∀ (j : Nat) x, l[j]? = some x → w.cell? ⟨b, o + j, none⟩ = some (.int .u8 x.toNat)) :
    (convert s d (.slice (some ⟨b, o, none⟩) l.length cap)).run P w = .ok (.string ⟨l.toArray⟩) w := by
  obtain ⟨e, i, h1, h2, _, _⟩ := isBytes_some hs
  have := run_convert_bytes_arg (P := P) w s e h1 h2 b o l.length cap (l.map fun x => (x.toNat : Int)) (by simp) (fun j hj => by
    rw [hc j l[j] (by simp [hj])]
    simp [List.getD, hj]) d hd
  rw [this]
  congr 2
  simp only [strOfNums]
  congr 1
  simp only [List.map_map]
  congr 1
  have : ((fun n : Int => UInt8.ofNat n.toNat) ∘ fun x : UInt8 => (x.toNat : Int)) = id := by
    funext x
    simp
  rw [this, List.map_id]
theorem run_conv_nob {s d : TypeId} {a : Addr} {cap : Nat} (hs : isBytes P s = true) (hd : P.underlying d = some .string) :
    (convert s d (.slice (some a) ([] : List UInt8).length cap)).run P w = .ok (.string ⟨([] : List UInt8).toArray⟩) w := by
  obtain ⟨e, i, h1, h2, _, _⟩ := isBytes_some hs
  simp [convert, run_underlying h1, run_underlying h2, run_underlying hd, Conv.bytesToString, loadCells, loadCellsFrom]
  rfl
theorem pconv_ok (hT : T w0 K0 nt st a w g) {s d : TypeId} {x : S} {u : Value} (hx : SR g w st.rs x u) (h : (pconv P st s d x).2) :
    ∃ r, (convert s d u).run P w = .ok r w ∧ SR g w st.rs (pconv P st s d x).1 r := by
  unfold pconv at h ⊢
  split at h
  · rename_i k n
    split at h
    · rename_i k' hk
      have h' : (P.underlying s).isSome = true := h
      obtain ⟨ds, hs⟩ := Option.isSome_iff_exists.1 h'
      have hd : P.underlying d = some (.int k') := by
        unfold intOfTy at hk
        split at hk
        · rename_i k2 e; cases hk; exact e
        · cases hk
      simp only [SR, CR] at hx
      obtain ⟨rfl, _⟩ := hx
      exact ⟨_, by simp [convert, run_underlying hs, run_underlying hd, Conv.intToInt]; rfl, by simp [SR, CR, Value.oneCell']⟩
    · exact h.elim
  · rename_i b
    obtain ⟨h1, h2⟩ := h
    simp only [SR, CR] at hx
    obtain ⟨rfl, _⟩ := hx
    exact ⟨_, by simp [convert, run_underlying h1, run_underlying h2]; rfl, by simp [SR, CR, Value.oneCell']⟩
  · rename_i nil xs
    split at h
    · rename_i l hl
      obtain ⟨h1, h2⟩ := h
      obtain rfl := bytesOf_some xs l hl
      refine ⟨.string ⟨l.toArray⟩, ?_, by simp [SR, CR, Value.oneCell']⟩
      simp only [SR, CR] at hx
      rcases hx with ⟨rfl, hx, rfl⟩ | ⟨rfl, b, o, sp, cap, sz, rfl, k1, k2, ks, k3⟩
      · simp at hx
        subst hx
        obtain ⟨e, i, e1, e2, _, _⟩ := isBytes_some h1
        exact run_convert_bytes_nil (P := P) w s e e1 e2 0 0 d h2
      · simp only [List.length_map]
        by_cases hl0 : l = []
        · subst hl0
          exact run_conv_nob h1 h2
        obtain rfl : sp = none := by
          rcases ks with e | e
          · simp at e; exact absurd e hl0
          · exact e
        refine run_conv_bytes h1 h2 (fun j x hj => ?_)
        obtain ⟨k4, k5⟩ := (ER_iff _ _ _ _).1 k3 j [.v (.int .u8 x.toNat)] (by simp [hj])
        simp at k4
        subst k4
        simp only [LR, CR] at k5
        obtain ⟨⟨_, v, k6, rfl, _⟩, _⟩ := k5
        simpa using k6
    · exact h.elim
  · rename_i i n
    split at h
    · rename_i nil sz xs fx hr
      split at h
      · rename_i l hl
        obtain ⟨h1, h2, h3⟩ := h
        obtain rfl := bytesOf_some xs l hl
        refine ⟨.string ⟨l.toArray⟩, ?_, by simp [SR, CR, Value.oneCell']⟩
        rw [SR] at hx
        have hu := hx nil sz _ fx hr h3
        rcases hT.res i _ hr with ⟨_, e1, e2, _⟩ | ⟨_, b, cap, cur, E, e1, e2, e3, e4, e5, e6, e7, e8, e9⟩
        · simp at e1; subst e1; rw [e2] at hu; subst hu
          obtain ⟨e, i, e1, e2, _, _⟩ := isBytes_some h1
          exact run_convert_bytes_nil (P := P) w s e e1 e2 0 0 d h2
        · rw [e1] at hu
          subst hu
          simp only [List.length_map]
          refine run_conv_bytes h1 h2 (fun j x hj => ?_)
          obtain ⟨k4, k5⟩ := e8 j [.v (.int .u8 x.toNat)] (by simp [hj])
          simp at k4
          subst k4
          obtain ⟨v, k6, k7⟩ := k5 0 _ rfl
          rw [CR] at k7
          obtain ⟨rfl, _⟩ := k7
          rw [cell_of_heap e3]
          simpa using k6
      · exact h.elim
    · exact h.elim
  · exact h.elim
theorem pun_ok {op : UnOp} {x : S} {u : Value} (hx : SR g w st.rs x u) (h : (pun op x).2) :
    ∃ r, (Op.unary op u).run P w = .ok r w ∧ SR g w st.rs (pun op x).1 r := by
  unfold pun at h ⊢
  split at h
  · rename_i b
    simp only [SR, CR] at hx
    obtain ⟨rfl, _⟩ := hx
    exact ⟨.bool !b, by simp [Op.unary], bl_SR _⟩
  · rename_i k n
    simp only [SR, CR] at hx
    obtain ⟨rfl, _⟩ := hx
    exact ⟨_, by simp [Op.unary, Op.intArith]; rfl, by simp [SR, CR, Value.oneCell']⟩
  · exact h.elim
end
end Go.VL
set_option linter.unusedSimpArgs false
set_option linter.unusedVariables false
namespace Go.VL
open Go.RowKit
def cellsS : S → Option (List C)
  | .c x => some [x]
  | .agg cs => some cs
  | _ => none
def plOf (P : Program) (t : TypeId) : Option (List (Nat × Nat) ⊕ Nat) :=
  match P.underlying t with
  | some (.struct fs) => (fs.toList.mapM fun f => (tySz P f.type).map fun y => (f.offset, y.2)).map .inl
  | some (.array _ e) => (tySz P e).map fun y => .inr y.2
  | _ => none
def plAt : List (Nat × Nat) ⊕ Nat → Nat → Option (Nat × Nat)
  | .inl l, i => l[i]?
  | .inr n, i => some (i * n, n)
def splice (cells : List C) (off : Nat) (cs : List C) : List C := cells.take off ++ cs ++ cells.drop (off + cs.length)
def pfill (pl : List (Nat × Nat) ⊕ Nat) : List C → List (Nat × S) → Option (List C)
  | cells, [] => some cells
  | cells, (i, s) :: r =>
    match plAt pl i, cellsS s with
    | some (off, n), some cs => if cs.length = n ∧ off + cs.length ≤ cells.length then pfill pl (splice cells off cs) r else none
    | _, _ => none
def pbuild (P : Program) (t : TypeId) (parts : List (Nat × S)) : S × Prop :=
  match zeroOf P t, plOf P t with
  | some z, some pl =>
    match cellsS (ofConst z) with
    | some zc => match pfill pl zc parts with
      | some cs => (.agg cs, True)
      | none => no
    | none => no
  | _, _ => no
section
variable {P : Program} {w0 : World} {K0 : K0T} {nt : Nat} {st : St} {a : Act} {w : World} {g : G}
theorem cellsS_VR {s : S} {cs : List C} {u : Value} (h : cellsS s = some cs) (hs : SR g w st.rs s u) : VR g.K w cs u.cells.toList := by
  unfold cellsS at h
  split at h
  · rename_i x
    cases h
    rw [SR] at hs
    have h1 := CR.one hs
    have : u.cells = #[u] := by cases u <;> first | rfl | cases h1
    rw [this, VR]
    exact ⟨u, [], rfl, hs, by rw [VR]⟩
  · cases h
    rw [SR] at hs
    obtain ⟨us, rfl, h⟩ := hs
    simpa [Value.cells] using h
  · cases h
theorem cellsS_one {s : S} {cs : List C} {u : Value} (h : cellsS s = some cs) (hs : SR g w st.rs s u) : ∀ v ∈ u.cells.toList, v.oneCell' = true := by
  have hv := cellsS_VR h hs
  rw [VR_iff] at hv
  intro v hm
  obtain ⟨k, hk, rfl⟩ := List.mem_iff_getElem.1 hm
  have : k < cs.length := by omega
  exact CR.one (hv.2 k cs[k] _ (by simp [this]) (by simp))
theorem foldl_set (off : Nat) : ∀ (vs : List Value) (j : Nat) (cells : List Value), off + j + vs.length ≤ cells.length →
    ((vs.zipIdx j).foldl (fun (cs : Array Value) (x : Value × Nat) => cs.setIfInBounds (off + x.2) x.1) cells.toArray) = (cells.take (off + j) ++ vs ++ cells.drop (off + j + vs.length)).toArray
  | [], j, cells, _ => by simp
  | v :: r, j, cells, h => by
    simp only [List.zipIdx_cons, List.foldl_cons, List.setIfInBounds_toArray]
    rw [foldl_set off r (j + 1) (cells.set (off + j) v) (by simp at h ⊢; omega)]
    congr 1
    simp only [List.length_cons] at h ⊢
    apply List.ext_getElem?
    intro k
    simp only [List.append_assoc, List.getElem?_append, List.length_take, List.length_set, List.getElem?_take, List.getElem?_drop, List.getElem?_set, List.length_cons]
    have e1 : min (off + (j + 1)) cells.length = off + j + 1 := by omega
    have e2 : min (off + j) cells.length = off + j := by omega
    simp only [e1, e2]
    by_cases h1 : k < off + j
    · have : k < off + j + 1 := by omega
      have h3 : k < off + (j + 1) := by omega
      have h2 : off + j ≠ k := by omega
      simp [h1, this, h2, h3]
    · by_cases h2 : k = off + j
      · subst h2
        have h3 : off + j < off + (j + 1) := by omega
        have h4 : off + j < cells.length := by omega
        simp [h3, h4]
      · have h3 : ¬ k < off + j + 1 := by omega
        simp only [h1, h3, if_false]
        by_cases h4 : k - (off + j + 1) < r.length
        · have h5 : k - (off + j) < r.length + 1 := by omega
          simp only [h4, h5, if_true]
          have : k - (off + j) = (k - (off + j + 1)) + 1 := by omega
          rw [this]
          simp
        · have h5 : ¬ k - (off + j) < r.length + 1 := by omega
          simp only [h4, h5, if_false]
          have e3 : off + (j + 1) + r.length + (k - (off + j + 1) - r.length) = k := by omega
          have e4 : off + j + (r.length + 1) + (k - (off + j) - (r.length + 1)) = k := by omega
          have h6 : off + j ≠ k := by omega
          simp [e3, e4, h6]
def PartsR (g : G) (w : World) (R : Nat → Option Res) : List (Nat × S) → List (Nat × Value) → Prop
  | [], us => us = []
  | (i, s) :: r, us => ∃ u us', us = (i, u) :: us' ∧ SR g w R s u ∧ PartsR g w R r us'
theorem VR_splice {K : Nat → Nat → Prop} {cells cs : List C} {us vs : List Value} {off : Nat} (h : VR K w cells us) (h' : VR K w cs vs) : VR K w (splice cells off cs) (us.take off ++ vs ++ us.drop (off + vs.length)) := by
  have hl := ((VR_iff _ _).1 h').1
  unfold splice
  rw [hl]
  exact VR_append (VR_append (VR_take _ h) h') (VR_drop _ h)
theorem pfill_ok (pl : List (Nat × Nat) ⊕ Nat) (place : Nat → Option (Nat × Nat)) (hp : ∀ i, place i = plAt pl i) : ∀ (parts : List (Nat × S)) (vparts : List (Nat × Value)) (cells : List C) (us : List Value) (out : List C),
    PartsR g w st.rs parts vparts → VR g.K w cells us → pfill pl cells parts = some out → ∃ vs : List Value, Instr.fill place us.toArray vparts = some vs.toArray ∧ VR g.K w out vs
  | [], vparts, cells, us, out, hr, hv, h => by
    rw [PartsR] at hr
    subst hr
    simp [pfill] at h
    subst h
    exact ⟨us, rfl, hv⟩
  | (i, s) :: r, vparts, cells, us, out, hr, hv, h => by
    rw [PartsR] at hr
    obtain ⟨u, vp, rfl, hs, hr⟩ := hr
    rw [pfill] at h
    split at h
    · rename_i off n cs h1 h2
      split at h
      · rename_i h3
        obtain ⟨h3, h4⟩ := h3
        have hv' := cellsS_VR h2 hs
        have hl := ((VR_iff _ _).1 hv').1
        have hl2 := ((VR_iff _ _).1 hv).1
        obtain ⟨vs, e1, e2⟩ := pfill_ok pl place hp r vp _ _ out hr (VR_splice (off := off) hv hv') h
        refine ⟨vs, ?_, e2⟩
        rw [Instr.fill]
        simp only [hp, h1]
        have c1 : u.cells.size = n := by simpa [h3] using hl
        have c2 : (decide (u.cells.size ≠ n) || decide (off + u.cells.size > us.toArray.size)) = false := by
          simp only [List.size_toArray, Bool.or_eq_false_iff, decide_eq_false_iff_not]
          omega
        rw [c2]
        simp only [Bool.false_eq_true, if_false]
        have := foldl_set off u.cells.toList 0 us (by simp; omega)
        simp only [Nat.add_zero] at this
        rw [← e1]
        congr 1
        rw [← this, ← Array.foldl_toList, Array.toList_zipIdx]
      · cases h
    · cases h
theorem run_zero {t : TypeId} {z : Value} (h : zeroOf P t = some z) : (zeroValue t).run P w = .ok z w := by
  unfold zeroOf at h
  cases hi : P.info? t with
  | none => simp [hi] at h
  | some i => simp [hi] at h; simp [zeroValue, typeInfo, hi, h]
theorem run_places : ∀ (fs : List Field) (l : List (Nat × Nat)), (fs.mapM fun f => (tySz P f.type).map fun y => (f.offset, y.2)) = some l →
    (fs.mapM fun f => (do pure (f.offset, ← sizeOf f.type) : Sem (Nat × Nat))).run P w = .ok l w
  | [], l, h => by simp at h; subst h; rfl
  | f :: r, l, h => by
    simp only [List.mapM_cons, Option.bind_eq_bind, Option.bind_eq_some_iff, Option.map_eq_some_iff, Option.pure_def, Option.some.injEq] at h
    obtain ⟨x, ⟨⟨b, n⟩, h1, rfl⟩, l', h2, rfl⟩ := h
    simp only [List.mapM_cons, Sem.run_bind, run_sizeOf h1, Result.andThen_ok, Sem.run_pure, run_places r l' h2]
theorem pbuild_ok {t : TypeId} {parts : List (Nat × S)} {vparts : Array (Nat × Value)} (hr : PartsR g w st.rs parts vparts.toList) (h : (pbuild P t parts).2) :
    ∃ r, (Instr.build t vparts).run P w = .ok r w ∧ SR g w st.rs (pbuild P t parts).1 r := by
  unfold pbuild at h ⊢
  split at h
  · rename_i z pl hz hpl
    split at h
    · rename_i zc hzc
      split at h
      · rename_i cs hcs
        have hv := cellsS_VR hzc (SR_ofConst g w st.rs z)
        unfold plOf at hpl
        split at hpl
        · rename_i fs hfs
          simp only [Option.map_eq_some_iff] at hpl
          obtain ⟨l, h1, rfl⟩ := hpl
          obtain ⟨vs, e1, e2⟩ := pfill_ok (.inl l) (fun i => l.toArray[i]?) (fun i => by simp [plAt]) parts _ zc _ cs hr hv hcs
          refine ⟨.agg vs.toArray, ?_, by rw [SR]; exact ⟨vs, rfl, e2⟩⟩
          have hp := run_places (P := P) (w := w) fs.toList l h1
          simp only [Instr.build, Sem.run_bind, run_zero hz, Result.andThen_ok, run_underlying hfs]
          rw [← Array.toArray_toList (xs := fs), List.mapM_toArray]
          simp only [Sem.run_map, hp, Result.andThen_ok]
          simp only [Array.toArray_toList] at e1
          simp only [e1, Sem.run_pure]
        · rename_i m e he
          simp only [Option.map_eq_some_iff] at hpl
          obtain ⟨⟨b, n⟩, h1, rfl⟩ := hpl
          obtain ⟨vs, e1, e2⟩ := pfill_ok (.inr n) (fun i => some (i * n, n)) (fun i => rfl) parts _ zc _ cs hr hv hcs
          refine ⟨.agg vs.toArray, ?_, by rw [SR]; exact ⟨vs, rfl, e2⟩⟩
          simp only [Array.toArray_toList] at e1
          simp only [Instr.build, Sem.run_bind, run_zero hz, Result.andThen_ok, run_underlying he, run_sizeOf h1, e1, Sem.run_pure]
        · cases hpl
      · exact h.elim
    · exact h.elim
  · exact h.elim
end
def pnil (st : St) (x : S) : S × Prop :=
  match x with
  | .ptr i o =>
    match st.rs i with
    | some (.box _ _) => (.ptr i o, True)
    | _ => no
  | .ep i n j o =>
    match st.rs i with
    | some (.arr _ _ xs _) => (.ep i n j o, xs.length = n)
    | _ => no
  | .c (.dp cs) => (.c (.dp cs), True)
  | .c (.fn f caps) => (.c (.fn f caps), True)
  | _ => no
def pbuiltin (P : Program) (st : St) (b : Builtin) (ts : List TypeId) (ss : List S) : S × Prop :=
  match b, ts, ss with
  | .len, [t], [x] => plen P st t x
  | .max, _, x :: r => pmm true x r
  | .min, _, x :: r => pmm false x r
  | _, _, _ => no
def isIface (P : Program) (t : TypeId) : Bool :=
  match P.underlying t with
  | some (.interface _) => true
  | some _ => false
  | none => true
def isIf (P : Program) (t : TypeId) : Bool :=
  match P.underlying t with
  | some (.interface _) => true
  | _ => false
def pmkI (P : Program) (t : TypeId) (s : S) : S × Prop :=
  match s with
  | .c x => (.c (.ifo t x), isIface P t = false)
  | .agg cs => (.c (.ifc t cs), isIface P t = false)
  | _ => no
def pnilB (P : Program) (op : BinOp) (t : TypeId) (b : Bool) : S × Prop :=
  match op with
  | .eql => (bl b, isIf P t = true)
  | .neq => (bl !b, isIf P t = true)
  | _ => no
def pnilI (P : Program) (op : BinOp) (t : TypeId) (s : S) : S × Prop :=
  match s with
  | .c (.v .nilIface) => pnilB P op t true
  | .c (.ifc _ _) => pnilB P op t false
  | .c (.ifo _ _) => pnilB P op t false
  | _ => no
def pbinQ (P : Program) (st : St) (op : BinOp) (t : TypeId) (y : Operand) (a b : S) : S × Prop :=
  match y with
  | .const .nilIface => pnilI P op t a
  | _ => pbinS P st op t a b
def pev (P : Program) (st : St) (e : Operand → S) : Op → S × Prop
  | .move x => (e x, True)
  | .assign x => (e x, True)
  | .binOp o t x y _ => pbinQ P st o t y (e x) (e y)
  | .makeInterface t x => pmkI P t (e x)
  | .unOp o _ x => pun o (e x)
  | .convert s d x => pconv P st s d (e x)
  | .fieldAddr s x f => pfieldAddr P st s f (e x)
  | .field s x f => pfield P s f (e x)
  | .indexAddr t x i => pindexAddr P st t (e x) (e i)
  | .index t x i => pindex P t (e x) (e i)
  | .load t x => pload P st t (e x)
  | .slice t x lo hi mx => pslice P t (e x) (lo.map e) (hi.map e) (mx.map e)
  | .extract x k =>
    match e x with
    | .tup ss => match ss[k]? with
      | some s => (s, True)
      | none => no
    | _ => no
  | .build t parts => pbuild P t (parts.toList.map fun p => (p.1, e p.2))
  | .nilCheck x => pnil st (e x)
  | .makeFunc (.func f) first cap => (.c (.fn f []), first.toList = [] ∧ cap.toList = [])
  | .call c =>
    match c.callee with
    | .builtin b => pbuiltin P st b c.argTypes.toList (c.args.toList.map e)
    | _ => no
  | _ => no
section
variable {P : Program} {w0 : World} {K0 : K0T} {nt : Nat} {st : St} {a : Act} {w : World} {g : G}
theorem SRs_get {ss : List S} {us : List Value} (h : SRs g w st.rs ss us) : ∀ (k : Nat) s, ss[k]? = some s → ∃ u, us[k]? = some u ∧ SR g w st.rs s u := by
  induction ss generalizing us with
  | nil => intro k s hk; simp at hk
  | cons x r ih =>
    rw [SRs] at h
    obtain ⟨u, us', rfl, h1, h2⟩ := h
    intro k s hk
    cases k with
    | zero => simp at hk; subst hk; exact ⟨u, rfl, h1⟩
    | succ k => simpa using ih h2 k s (by simpa using hk)
theorem SRs_map {α : Type} (f : α → S) (h : α → Value) : ∀ (l : List α), (∀ x ∈ l, SR g w st.rs (f x) (h x)) → SRs g w st.rs (l.map f) (l.map h)
  | [], _ => by simp [SRs]
  | x :: r, hh => by
    simp only [List.map_cons, SRs]
    exact ⟨_, _, rfl, hh x (by simp), SRs_map f h r (fun y hy => hh y (by simp [hy]))⟩
theorem PartsR_map (e : Operand → S) (h : Operand → Value) : ∀ (l : List (Nat × Operand)), (∀ x ∈ l, SR g w st.rs (e x.2) (h x.2)) → PartsR g w st.rs (l.map fun p => (p.1, e p.2)) (l.map fun p => (p.1, h p.2))
  | [], _ => by simp [PartsR]
  | x :: r, hh => by
    simp only [List.map_cons, PartsR]
    exact ⟨_, _, rfl, hh x (by simp), PartsR_map e h r (fun y hy => hh y (by simp [hy]))⟩
theorem pnil_ok {o : Oper} {x : Operand} {s : S} (ho : o.op = .nilCheck x) (hs : SR g w st.rs s (a.eval x)) (h : (pnil st s).2) :
    ∃ u, (execOp a.eval o).run P w = .ok (.value u) w ∧ SR g w st.rs (pnil st s).1 u := by
  have key : ∀ (b : Addr), a.eval x = .pointer (some b) → (execOp a.eval o).run P w = .ok (.value (a.eval x)) w := fun b hb => by
    simp [execOp, ho, hb]
  unfold pnil at h ⊢
  split at h
  · rename_i i off
    split at h
    · rename_i fz ss hr
      have hs' := hs
      rw [SR] at hs'
      obtain ⟨b, hb, hu⟩ := hs' fz ss hr
      exact ⟨_, key _ hu, hs⟩
    · exact h.elim
  · rename_i i n j off
    split at h
    · rename_i nil sz xs fx hr
      have hs' := hs
      rw [SR] at hs'
      obtain ⟨b, cap, hb, hu⟩ := hs' nil sz xs fx hr h
      exact ⟨_, key _ hu, hs⟩
    · exact h.elim
  · have hs' := hs
    simp only [SR, CR] at hs'
    obtain ⟨b, off, hu, _⟩ := hs'
    exact ⟨_, key _ hu, hs⟩
  · have hs' := hs
    simp only [SR, CR] at hs'
    obtain ⟨us, hu, _⟩ := hs'
    exact ⟨a.eval x, by simp [execOp, ho, hu], hs⟩
  · exact h.elim
theorem run_mkIface {t : TypeId} {o : Oper} {x : Operand} {u : Value} (hi : isIface P t = false) (ho : o.op = .makeInterface t x) (hx : a.eval x = u) : (execOp a.eval o).run P w = .ok (.value (.iface t u)) w := by
  unfold isIface at hi
  split at hi
  · cases hi
  · rename_i d hd hu
    have : (Instr.makeInterface t u).run P w = .ok (.iface t u) w := by
      unfold Instr.makeInterface
      have h1 : (Go.underlying t).run P w = .ok d w := by simp [Go.underlying, hu]
      simp only [Sem.run_bind, h1, Result.andThen_ok]
      rfl
    simp [execOp, ho, hx, this]
  · cases hi
theorem isIf_some {t : TypeId} (h : isIf P t = true) : ∃ ms, P.underlying t = some (.interface ms) := by
  unfold isIf at h
  split at h
  · rename_i e he; exact ⟨e, he⟩
  · cases h
theorem run_equal_if {t : TypeId} (h : isIf P t = true) : (Op.equal t .nilIface .nilIface).run P w = .ok true w ∧ ∀ d v, (Op.equal t (.iface d v) .nilIface).run P w = .ok false w := by
  obtain ⟨ms, hm⟩ := isIf_some h
  have k1 : ∀ n, (Op.equalIn (n + 1) t .nilIface .nilIface).run P w = .ok true w := fun n => by simp [Op.equalIn, run_underlying hm]
  have k2 : ∀ n d v, (Op.equalIn (n + 1) t (.iface d v) .nilIface).run P w = .ok false w := fun n d v => by simp [Op.equalIn, run_underlying hm]
  exact ⟨k1 9999, fun d v => k2 9999 d v⟩
theorem run_eqif {op : BinOp} {t : TypeId} (x : Operand) {u : Value} {b : Bool} (hu : (b = true ∧ u = .nilIface) ∨ (b = false ∧ ∃ d v, u = .iface d v)) (h : isIf P t = true) (hop : op = .eql ∨ op = .neq) :
    (do eqGuard op t x (.const .nilIface) u .nilIface; binOp op t u .nilIface : Sem Value).run P w = .ok (.bool (if op = .eql then b else !b)) w := by
  obtain ⟨e1, e2⟩ := run_equal_if (w := w) h
  rcases hu with ⟨rfl, rfl⟩ | ⟨rfl, d, v, rfl⟩ <;> rcases hop with rfl | rfl
  · simp [eqGuard, binOp, e1]
  · simp [eqGuard, binOp, e1]
  · simp [eqGuard, binOp, e2]
  · simp [eqGuard, binOp, e2]
theorem pbinQ_ok (hT : T w0 K0 nt st a w g) (op : BinOp) (t : TypeId) (x y : Operand) (sx sy : S) (hx : SR g w st.rs sx (a.eval x)) (hy : SR g w st.rs sy (a.eval y)) (h : (pbinQ P st op t y sx sy).2) :
    ∃ r, (do eqGuard op t x y (a.eval x) (a.eval y); binOp op t (a.eval x) (a.eval y) : Sem Value).run P w = .ok r w ∧ SR g w st.rs (pbinQ P st op t y sx sy).1 r := by
  unfold pbinQ at h ⊢
  split at h
  · have key : ∀ b, ((b = true ∧ a.eval x = .nilIface) ∨ (b = false ∧ ∃ d v, a.eval x = .iface d v)) → (pnilB P op t b).2 →
        ∃ r, (do eqGuard op t x (.const .nilIface) (a.eval x) .nilIface; binOp op t (a.eval x) .nilIface : Sem Value).run P w = .ok r w ∧ SR g w st.rs (pnilB P op t b).1 r := by
      intro b hu hb
      cases op <;> first
        | exact hb.elim
        | exact ⟨_, run_eqif x hu hb (by simp), bl_SR _⟩
    unfold pnilI at h ⊢
    split at h
    · simp only [SR, CR] at hx
      exact key true (.inl ⟨rfl, hx.1⟩) h
    · simp only [SR, CR] at hx
      obtain ⟨us, hx, _⟩ := hx
      exact key false (.inr ⟨rfl, _, _, hx⟩) h
    · simp only [SR, CR] at hx
      obtain ⟨us, hx, _⟩ := hx
      exact key false (.inr ⟨rfl, _, _, hx⟩) h
    · exact h.elim
  · exact pbinS_ok hT op t x y _ _ _ _ hx hy h
theorem pev_ok (hT : T w0 K0 nt st a w g) (o : Oper) (e : Operand → S) (he : ∀ x ∈ o.op.operands.toList, SR g w st.rs (e x) (a.eval x)) (h : (pev P st e o.op).2) :
    ∃ u, (execOp a.eval o).run P w = .ok (.value u) w ∧ SR g w st.rs (pev P st e o.op).1 u := by
  cases ho : o.op with
  | move x => rw [ho] at he; exact ⟨a.eval x, by simp [execOp, ho], he x (by simp [Op.operands])⟩
  | assign x => rw [ho] at he; exact ⟨a.eval x, by simp [execOp, ho], he x (by simp [Op.operands])⟩
  | binOp op t x y yt =>
    rw [ho] at he h
    obtain ⟨r, h1, h2⟩ := pbinQ_ok hT op t x y _ _ (he x (by simp [Op.operands])) (he y (by simp [Op.operands])) h
    exact ⟨r, by simp only [execOp, ho, Sem.run_bind] at h1 ⊢; simp only [h1, Result.andThen_ok, Sem.run_pure], h2⟩
  | makeInterface t x =>
    rw [ho] at he h
    have hx := he x (by simp [Op.operands])
    simp only [pev] at h ⊢
    unfold pmkI at h ⊢
    split at h
    · rename_i y hs
      rw [hs, SR] at hx
      exact ⟨_, run_mkIface h ho rfl, by rw [SR, CR]; exact ⟨_, rfl, hx⟩⟩
    · rename_i y hs
      rw [hs, SR] at hx
      obtain ⟨us, hu, hv⟩ := hx
      exact ⟨_, run_mkIface h ho hu, by rw [SR, CR]; exact ⟨us, rfl, hv⟩⟩
    · exact h.elim
  | unOp op t x =>
    rw [ho] at he h
    obtain ⟨r, h1, h2⟩ := pun_ok (P := P) (he x (by simp [Op.operands])) h
    exact ⟨r, by simp [execOp, ho, h1], h2⟩
  | convert s d x =>
    rw [ho] at he h
    obtain ⟨r, h1, h2⟩ := pconv_ok hT (he x (by simp [Op.operands])) h
    exact ⟨r, by simp [execOp, ho, h1], h2⟩
  | fieldAddr s x f =>
    rw [ho] at he h
    obtain ⟨r, h1, h2⟩ := pfieldAddr_ok (he x (by simp [Op.operands])) h
    exact ⟨r, by simp [execOp, ho, h1], h2⟩
  | field s x f =>
    rw [ho] at he h
    obtain ⟨r, h1, h2⟩ := pfield_ok (he x (by simp [Op.operands])) h
    exact ⟨r, by simp [execOp, ho, h1], h2⟩
  | indexAddr t x i =>
    rw [ho] at he h
    obtain ⟨r, h1, h2⟩ := pindexAddr_ok hT (he x (by simp [Op.operands])) (he i (by simp [Op.operands])) h
    exact ⟨r, by simp [execOp, ho, h1], h2⟩
  | index t x i =>
    rw [ho] at he h
    obtain ⟨r, h1, h2⟩ := pindex_ok (he x (by simp [Op.operands])) (he i (by simp [Op.operands])) h
    exact ⟨r, by simp [execOp, ho, h1], h2⟩
  | load t x =>
    rw [ho] at he h
    obtain ⟨r, h1, h2⟩ := pload_ok hT (he x (by simp [Op.operands])) h
    exact ⟨r, by simp [execOp, ho, h1], h2⟩
  | slice t x lo hi mx =>
    rw [ho] at he h
    have key : ∀ (z : Option Operand), (∀ y, z = some y → y ∈ (Op.slice t x lo hi mx).operands.toList) → (∀ s, z.map e = some s → ∃ v, z.map a.eval = some v ∧ SR g w st.rs s v) := by
      intro z hz s hs
      cases z with
      | none => simp at hs
      | some y => simp at hs; subst hs; exact ⟨_, rfl, he y (hz y rfl)⟩
    obtain ⟨r, h1, h2⟩ := pslice_ok (P := P) (vlo := lo.map a.eval) (vhi := hi.map a.eval) (vmx := mx.map a.eval) (he x (by simp [Op.operands])) (key lo (fun y hy => by simp [Op.operands, hy])) (by cases lo <;> simp)
      (key hi (fun y hy => by simp [Op.operands, hy])) (by cases hi <;> simp) (by cases mx <;> simp) h
    exact ⟨r, by simp [execOp, ho, h1], h2⟩
  | extract x k =>
    rw [ho] at he h
    have hx := he x (by simp [Op.operands])
    unfold pev at h ⊢
    simp only at h ⊢
    split at h
    · rename_i ss hss
      split at h
      · rename_i s hs
        rw [hss, SR] at hx
        obtain ⟨us, hu, hus⟩ := hx
        obtain ⟨u, h1, h2⟩ := SRs_get hus k s hs
        refine ⟨u, ?_, h2⟩
        simp [execOp, ho, hu, Instr.extract, h1]
      · exact h.elim
    · exact h.elim
  | build t parts =>
    rw [ho] at he h
    have hp : PartsR g w st.rs (parts.toList.map fun p => (p.1, e p.2)) (parts.map fun p => (p.1, a.eval p.2)).toList := by
      rw [Array.toList_map]
      exact PartsR_map e a.eval parts.toList (fun p hp => he p.2 (by simp [Op.operands]; exact ⟨p.1, by simpa using hp⟩))
    obtain ⟨r, h1, h2⟩ := pbuild_ok (P := P) (t := t) hp h
    exact ⟨r, by simp [execOp, ho, h1], h2⟩
  | nilCheck x =>
    rw [ho] at he h
    exact pnil_ok ho (he x (by simp [Op.operands])) h
  | makeFunc fn first cap =>
    rw [ho] at h
    cases fn with
    | func f =>
      obtain ⟨h1, h2⟩ := h
      refine ⟨.func (.func f) #[] #[], ?_, ?_⟩
      · have e1 : first = #[] := by simpa using h1
        have e2 : cap = #[] := by simpa using h2
        subst e1; subst e2
        simp [execOp, ho, Instr.makeFunc]
      · simp only [pev, SR, CR]; exact ⟨[], rfl, by rw [VR]⟩
    | _ => exact h.elim
  | call c =>
    rw [ho] at he h
    obtain ⟨callee, args, ats⟩ := c
    cases callee with
    | builtin b =>
      have hargs : SRs g w st.rs (args.toList.map e) (args.toList.map a.eval) := SRs_map e a.eval _ (fun x hx => he x (by simp [Op.operands, Call.operands]; simpa using hx))
      simp only [pev] at h ⊢
      have hex : ∀ (s : Sem Value) r, s.run P w = .ok r w → builtin b ats o.type (args.map fun | .const _ => true | _ => false) (args.map a.eval) = (do pure (.value (← s))) → (execOp a.eval o).run P w = .ok (.value r) w := by
        intro s r hs hb
        have h1 : (execOp a.eval o).run P w = (builtin b ats o.type (args.map fun | .const _ => true | _ => false) (args.map a.eval)).run P w := by
          simp only [execOp, ho, resolve, Sem.run_bind, Sem.run_pure, Result.andThen_ok, invoke]
          rfl
        rw [h1, hb]
        simp [hs]
      unfold pbuiltin at h ⊢
      split at h
      · rename_i t x hts hss
        rw [hss] at hargs
        rw [SRs] at hargs
        obtain ⟨u, us', h1, h2, h3⟩ := hargs
        rw [SRs] at h3
        subst h3
        obtain ⟨r, e1, e2⟩ := plen_ok (ty := o.type) hT h2 h
        refine ⟨r, hex _ r e1 ?_, e2⟩
        have a1 : ats = #[t] := by rw [← Array.toArray_toList (xs := ats), hts]
        have a2 : args.map a.eval = #[u] := by rw [← Array.toArray_toList (xs := args.map a.eval), Array.toList_map, h1]
        rw [a1, a2]
        rfl
      · rename_i x r hss
        rw [hss] at hargs
        rw [SRs] at hargs
        obtain ⟨u, us', h1, h2, h3⟩ := hargs
        obtain ⟨z, e1, e2⟩ := pmm_ok (P := P) true r x u us' h2 h3 h
        refine ⟨z, hex _ z e1 ?_, e2⟩
        have a2 : (args.map a.eval).toList = u :: us' := by rw [Array.toList_map, h1]
        simp only [builtin, Builtin.max_, a2]
        rfl
      · rename_i x r hss
        rw [hss] at hargs
        rw [SRs] at hargs
        obtain ⟨u, us', h1, h2, h3⟩ := hargs
        obtain ⟨z, e1, e2⟩ := pmm_ok (P := P) false r x u us' h2 h3 h
        refine ⟨z, hex _ z e1 ?_, e2⟩
        have a2 : (args.map a.eval).toList = u :: us' := by rw [Array.toList_map, h1]
        simp only [builtin, Builtin.min_, a2]
        rfl
      · exact h.elim
    | _ => exact h.elim
  | _ => rw [ho] at h; exact h.elim
end
end Go.VL
set_option linter.unusedSimpArgs false
set_option linter.unusedVariables false
namespace Go.VL
open Go.RowKit
def slT (P : Program) (t : TypeId) : Option (Nat × Nat) :=
  match P.underlying t with
  | some (.slice e) => match P.info? e with
    | some i => match i.zero with
      | some z => if z.cells.size = i.size ∧ z.cells.all (·.oneCell') = true then some (i.size, i.bytes) else none
      | none => none
    | none => none
  | _ => none
section
variable {P : Program}
theorem slT_some {t : TypeId} {s b : Nat} (h : slT P t = some (s, b)) : ∃ e i z, P.underlying t = some (.slice e) ∧ P.info? e = some i ∧ i.zero = some z ∧ z.cells.size = i.size ∧ (∀ v ∈ z.cells.toList, v.oneCell' = true) ∧ i.size = s ∧ i.bytes = b := by
  unfold slT at h
  split at h
  · rename_i e he
    split at h
    · rename_i i hi
      split at h
      · rename_i z hz
        split at h
        · rename_i h1
          cases h
          exact ⟨e, i, z, he, hi, hz, h1.1, fun v hv => Array.all_eq_true_iff_forall_mem.1 h1.2 v (by simpa using hv), rfl, rfl⟩
        · cases h
      · cases h
    · cases h
  · cases h
structure Src (P : Program) (w : World) (size : Nat) (x : Value) (m : Nat) (news : List Value) : Prop where
  len : ∀ w', (Builtin.lenOf x).run P w' = .ok m w'
  cells : (Builtin.firstCells size m x).run P w = .ok news.toArray w
  cells' : (Builtin.firstCells size m x).run P w.drew = .ok news.toArray w.drew
  size : news.length = m * size
  one : ∀ v ∈ news, v.oneCell' = true
theorem run_app_room {w : World} {t xt ty e : TypeId} {i : TypeInfo} {d : TypeDesc} (ht : P.underlying t = some (.slice e)) (hx : P.underlying xt = some d) (hd : ∀ k, d ≠ .int k) (hi : P.info? e = some i)
    {x : Value} {m : Nat} {news : List Value} (hs : Src P w i.size x m news) {g n cap : Nat} {cur : Array Value} {E : TypeId} (hg : w.heap[g]? = some (.cells cur E (0, 0))) (hroom : n + m ≤ cap) (hfit : n * i.size + news.length ≤ cur.size) :
    (Builtin.append_ #[t, xt] ty #[.slice (some ⟨g, 0, none⟩) n cap, x]).run P w =
      .ok (.slice (some ⟨g, 0, none⟩) (n + m) cap) (w.setRow g (cur.toList.take (n * i.size) ++ news ++ cur.toList.drop (n * i.size + news.length)).toArray) := by
  have hst := run_storeCells_at P g (n * i.size) E news 0 cur w hg (by simpa using hfit) hs.one
  simp only [Nat.add_zero] at hst
  have hlen := hs.len w
  have hc := hs.cells
  simp [Builtin.append_, run_underlying ht, run_underlying hx, sizeOf, typeInfo, hi, hlen, hroom, hc, add_lit, hst]
theorem run_app_none {w : World} {t xt ty e : TypeId} {i : TypeInfo} {d : TypeDesc} (ht : P.underlying t = some (.slice e)) (hx : P.underlying xt = some d) (hd : ∀ k, d ≠ .int k) (hi : P.info? e = some i)
    {x : Value} {news : List Value} (hs : Src P w i.size x 0 news) :
    (Builtin.append_ #[t, xt] ty #[.slice none 0 0, x]).run P w = .ok (.slice none 0 0) w := by
  have hlen := hs.len w
  have hc := hs.cells
  simp [Builtin.append_, run_underlying ht, run_underlying hx, sizeOf, typeInfo, hi, hlen, hc]
theorem run_app_grow {w : World} {t xt ty e : TypeId} {i : TypeInfo} {z : Value} {d : TypeDesc} (ht : P.underlying t = some (.slice e)) (hx : P.underlying xt = some d) (hd : ∀ k, d ≠ .int k) (hi : P.info? e = some i) (hz : i.zero = some z)
    {x : Value} {m : Nat} {news : List Value} (hs : Src P w i.size x m news) {base : Option Addr} {n cap : Nat} {olds : List Value} (ho : (Builtin.firstCells i.size n (.slice base n cap)).run P w.drew = .ok olds.toArray w.drew)
    (hg : cap < n + m) (h63 : n + m ≤ maxLen) (hb : (n + m) * i.bytes ≤ 140737488355328) :
    (Builtin.append_ #[t, xt] ty #[.slice base n cap, x]).run P w =
      .ok (.slice (some ⟨w.heap.size, 0, none⟩) (n + m) (grownCap w (n + m) cap e))
        (w.drew.alloc (.cells (olds.toArray ++ news.toArray ++ Builtin.zeroCells z.cells (grownCap w (n + m) cap e - (n + m))) e)) := by
  have hn : ¬ (n + m ≤ cap) := by omega
  have h63' : ¬ (9223372036854775807 < ((n : Int) + (m : Int))) := by simp only [maxLen] at h63; omega
  have h48 := growslice_fits (bytes := i.bytes) hg hb
  have h48' : ¬ (281474976710656 < Builtin.nextslicecap (n + m) cap * i.bytes) := by omega
  have hlen := hs.len w
  have hc := hs.cells'
  simp [Builtin.append_, run_underlying ht, run_underlying hx, sizeOf, typeInfo, zeroValue, hi, hz, hlen, hn, h63', h48', Question.forced, hc, ho, newRow, grownCap]
  congr 2
  apply Array.ext'
  simp [List.append_assoc]
end
section
variable {w : World} {K : Nat → Nat → Prop}
theorem ER_cells (b sz : Nat) : ∀ (xs : List (List C)) (o : Nat), ER K w b o sz xs → ∃ news : List Value, news.length = xs.length * sz ∧ Holds K w sz xs news.toArray ∧ ∀ (j : Nat) v, news[j]? = some v → w.cell? ⟨b, o + j, none⟩ = some v
  | [], o, _ => ⟨[], by simp, fun j e h => by simp at h, by simp⟩
  | e :: r, o, h => by
    rw [ER] at h
    obtain ⟨⟨h1, h2⟩, h3⟩ := h
    obtain ⟨us, k1, k2, k3⟩ := LR_VR b e o h2
    obtain ⟨news, e1, e2, e3⟩ := ER_cells b sz r (o + sz) h3
    have hus : us.length = sz := by omega
    refine ⟨us ++ news, by simp [hus, e1, Nat.add_mul]; omega, fun j d hj => ?_, fun j v hj => ?_⟩
    · cases j with
      | zero =>
        simp at hj; subst hj
        refine ⟨h1, fun k c hk => ?_⟩
        have hlt : k < us.length := by rw [k2]; exact (List.getElem?_eq_some_iff.1 hk).1
        refine ⟨us[k], by simp [List.getElem?_append_left hlt, hlt], ((VR_iff _ _).1 k1).2 k c _ hk (by simp [hlt])⟩
      | succ j =>
        obtain ⟨f1, f2⟩ := e2 j d (by simpa using hj)
        refine ⟨f1, fun k c hk => ?_⟩
        obtain ⟨u, g1, g2⟩ := f2 k c hk
        refine ⟨u, ?_, g2⟩
        have : (j + 1) * sz + k = us.length + (j * sz + k) := by rw [hus, Nat.add_mul]; omega
        rw [this, List.getElem?_toArray, List.getElem?_append_right (by omega), Nat.add_sub_cancel_left]
        simpa using g1
    · by_cases hlt : j < us.length
      · rw [List.getElem?_append_left hlt] at hj; exact k3 j v hj
      · rw [List.getElem?_append_right (by omega)] at hj
        have := e3 _ v hj
        rwa [show o + sz + (j - us.length) = o + j from by omega] at this
theorem Holds.one {sz : Nat} {xs : List (List C)} {cur : List Value} (h : Holds K w sz xs cur.toArray) (hl : cur.length = xs.length * sz) : ∀ v ∈ cur, v.oneCell' = true := by
  intro v hv
  obtain ⟨i, hi, rfl⟩ := List.mem_iff_getElem.1 hv
  have hsz : 0 < sz := by
    rcases Nat.eq_zero_or_pos sz with h0 | h0
    · subst h0; simp at hl; subst hl; simp at hi
    · exact h0
  have hj : i / sz < xs.length := Nat.div_lt_of_lt_mul (by rw [Nat.mul_comm]; omega)
  obtain ⟨h1, h2⟩ := h (i / sz) xs[i / sz] (by simp [hj])
  have hk : i % sz < (xs[i / sz]).length := by rw [h1]; exact Nat.mod_lt _ hsz
  obtain ⟨u, e1, e2⟩ := h2 (i % sz) (xs[i / sz])[i % sz] (by simp [hk])
  have : i / sz * sz + i % sz = i := by rw [Nat.mul_comm]; exact Nat.div_add_mod i sz
  rw [this] at e1
  simp [hi] at e1
  rw [e1]
  exact CR.one e2
theorem src_of_CR {P : Program} {nil : Bool} {ys : List (List C)} {u : Value} {s : Nat} (h : CR K w (.sl nil ys) u) (hs : ∀ e ∈ ys, e.length = s) :
    ∃ news : List Value, Src P w s u ys.length news ∧ Holds K w s ys news.toArray := by
  rw [CR] at h
  rcases h with ⟨_, rfl, rfl⟩ | ⟨_, b, o, sp, cap, sz, rfl, h1, h2, ks, h3⟩
  · exact ⟨[], ⟨fun _ => rfl, by simp [Builtin.firstCells], by simp [Builtin.firstCells], by simp, by simp⟩, fun j e h => by simp at h⟩
  · obtain ⟨news, e1, e2, e3⟩ := ER_cells b sz ys o h3
    have hz : ys = [] ∨ sz = s := by
      cases ys with
      | nil => exact .inl rfl
      | cons e r => right; rw [← hs e (by simp)]; rw [ER] at h3; exact h3.1.1.symm
    have hl : news.length = ys.length * s := by
      rcases hz with rfl | rfl
      · simp at e1 ⊢; exact e1
      · exact e1
    have hh : Holds K w s ys news.toArray := by
      rcases hz with rfl | rfl
      · intro j e h; simp at h
      · exact e2
    have hcell : ∀ (j : Nat) (v : Value), news[j]? = some v → w.cell? ((⟨b, o, sp⟩ : Addr).add j) = some v := by
      rcases ks with rfl | rfl
      · intro j v hj
        have : news = [] := List.eq_nil_of_length_eq_zero (by simpa using hl)
        subst this; simp at hj
      · intro j v hj; rw [add_lit]; exact e3 j v hj
    refine ⟨news, ⟨fun _ => rfl, ?_, ?_, hl, hh.one hl⟩, hh⟩
    · exact run_firstCells_some (P := P) w s ys.length ⟨b, o, sp⟩ _ _ news hl hcell
    · exact run_firstCells_some (P := P) w.drew s ys.length ⟨b, o, sp⟩ _ _ news hl hcell
theorem Holds.append {sz : Nat} {xs ys : List (List C)} {cur : Array Value} {news rest : List Value} (h : Holds K w sz xs cur) (hn : xs.length * sz ≤ cur.size) (h' : Holds K w sz ys news.toArray) :
    Holds K w sz (xs ++ ys) (cur.toList.take (xs.length * sz) ++ news ++ rest).toArray := by
  have hlen : (cur.toList.take (xs.length * sz)).length = xs.length * sz := by simp; omega
  intro j e hj
  by_cases hlt : j < xs.length
  · rw [List.getElem?_append_left hlt] at hj
    obtain ⟨h1, h2⟩ := h j e hj
    refine ⟨h1, fun k c hk => ?_⟩
    obtain ⟨u, e1, e2⟩ := h2 k c hk
    refine ⟨u, ?_, e2⟩
    have hk' : k < sz := by rw [← h1]; exact (List.getElem?_eq_some_iff.1 hk).1
    have : j * sz + k < xs.length * sz := by
      have : (j + 1) * sz ≤ xs.length * sz := Nat.mul_le_mul_right _ (by omega)
      rw [Nat.add_mul] at this; omega
    simp only [List.getElem?_toArray, List.append_assoc]
    rw [List.getElem?_append_left (by omega), List.getElem?_take, if_pos this]
    simpa using e1
  · rw [List.getElem?_append_right (by omega)] at hj
    obtain ⟨h1, h2⟩ := h' (j - xs.length) e hj
    refine ⟨h1, fun k c hk => ?_⟩
    obtain ⟨u, e1, e2⟩ := h2 k c hk
    refine ⟨u, ?_, e2⟩
    have hj2 : (j - xs.length) * sz + k < news.length := by
      simp at e1; exact (List.getElem?_eq_some_iff.1 e1).1
    have : j * sz + k = xs.length * sz + ((j - xs.length) * sz + k) := by
      rw [Nat.sub_mul]
      have : xs.length * sz ≤ j * sz := Nat.mul_le_mul_right _ (by omega)
      omega
    simp only [List.getElem?_toArray, List.append_assoc]
    rw [this, List.getElem?_append_right (by omega), hlen, Nat.add_sub_cancel_left, List.getElem?_append_left hj2]
    simpa using e1
end
section
variable {P : Program} {w0 : World} {K0 : K0T} {nt : Nat} {st : St} {a : Act} {w : World} {g : G}
theorem T.new (h : T w0 K0 nt st a w g) (i : Nat) (r : Res) (v : Value) (w' : World) (o : Obj) (hw : w' = w.alloc o ∨ w' = w.drew.alloc o) (hv : blk v = some w.heap.size)
    (hr : ∀ g' R', g' = { g with loc := fun j => if j = i then v else g.loc j } → Keeps g.K w g'.K w' → w'.heap[w.heap.size]? = some o → (∀ o, ¬ g'.K w.heap.size o) → RR g' w' R' (fun b => ¬ Old w0 K0 b) i r) :
    T w0 K0 nt ((st.clr i).setR i (some r)) a w' { g with loc := fun j => if j = i then v else g.loc j } := by
  have hheap : w'.heap = w.heap.push o := by rcases hw with rfl | rfl <;> rfl
  have hold : ∀ k, k < w.heap.size → w'.heap[k]? = w.heap[k]? := fun k hk => by rw [hheap, Array.getElem?_push, if_neg (by omega)]
  have hB : w0.heap.size ≤ w.heap.size := h.below.size
  have hkeep : Keeps g.K w g.K w' := ⟨fun _ _ k => k, fun b o k => by
    have := h.klt b o k
    simp only [World.cell?]
    rw [hold b this]⟩
  refine T.make h (g' := { g with loc := fun j => if j = i then v else g.loc j }) ?_ hkeep h.kold (fun b o k => by
    have := h.klt b o k
    rw [hheap]; simp; omega) (fun j hj => by simp [hj]) (fun j rj b hj hs hb => ⟨hold b ((h.res j rj hs).lt hb), fun _ k => k⟩) (fun j rj hj hs b hb hb2 => ?_) (hr _ _ rfl hkeep ?_ ?_)
  · refine ⟨?_, ?_, ?_, by rw [hheap]; simp, fun k hk => hold k (Nat.lt_of_lt_of_le hk.1 hB), ?_⟩ <;> (rcases hw with rfl | rfl <;> first | rfl | exact Nat.le_refl _ | exact Nat.le_succ _)
  · simp at hb
    rw [hv] at hb
    cases hb
    have := (h.res j rj hs).lt hb2
    omega
  · rw [hheap]; simp
  · intro o k
    have := h.klt _ _ k
    omega
theorem T.fix (h : T w0 K0 nt st a w g) {i : Nat} {nil : Bool} {sz : Nat} {xs : List (List C)} {fx : Nat} (hi : st.rs i = some (.arr nil sz xs fx)) (f : Nat) (hf : fx ≤ f) (hl : f ≤ xs.length) :
    ∃ g', T w0 K0 nt (st.setR i (some (.arr nil sz xs f))) a w g' ∧ g'.loc = g.loc ∧ Keeps g.K w g'.K w ∧ ∀ b, blk (g.loc i) = some b → ∀ o, g'.K b o ↔ o < f * sz := by
  rcases h.res i _ hi with ⟨h1, h2, h3, h3'⟩ | ⟨h0, b, cap, cur, E, h1, h2, h3, h4, h5, h6, h7, h8, h9⟩
  · subst h2
    have hf0 : f = 0 := by simpa using hl
    refine ⟨g, ?_, rfl, Keeps.refl _ _, fun b hb => by rw [h3] at hb; simp [blk] at hb⟩
    exact T.mod h hi (Bel.refl _ _ _) (Keeps.refl _ _) h.kold h.klt rfl (fun _ _ _ _ _ _ => ⟨rfl, fun _ k => k⟩) (.inr (.inl ⟨nil, sz, [], fx, nil, [], f, rfl, rfl, rfl⟩)) (fun _ => .inl ⟨h1, rfl, h3, hf0⟩)
  · have hk : Keeps g.K w (fun b' o => g.K b' o ∨ (b' = b ∧ o < f * sz)) w := ⟨fun _ _ k => .inl k, fun _ _ _ => rfl⟩
    have hfx : fx * sz ≤ f * sz := Nat.mul_le_mul_right _ hf
    have hiff : ∀ o, (g.K b o ∨ (b = b ∧ o < f * sz)) ↔ o < f * sz := fun o => ⟨fun k => by
      rcases k with k | ⟨_, k⟩
      · have := (h9 o).1 k; omega
      · exact k, fun k => .inr ⟨rfl, k⟩⟩
    refine ⟨{ g with K := fun b' o => g.K b' o ∨ (b' = b ∧ o < f * sz) }, ?_, rfl, hk, fun b' hb' => by
      rw [h1] at hb'; simp [blk] at hb'; subst hb'; exact hiff⟩
    refine T.mod h hi (Bel.refl _ _ _) hk (fun b' o k hb => ?_) (fun b' o k => ?_) rfl (fun j r b' hj hr hb => ⟨rfl, fun o k => ?_⟩) (.inr (.inl ⟨nil, sz, xs, fx, nil, xs, f, rfl, rfl, rfl⟩))
        (fun _ => .inr ⟨h0, b, cap, cur, E, h1, h2, h3, h4, h5, h6, hl, h8.mono hk, hiff⟩)
    · rcases k with k | ⟨rfl, _⟩
      · exact h.kold _ _ k hb
      · exact absurd hb h2
    · rcases k with k | ⟨rfl, _⟩
      · exact h.klt _ _ k
      · exact (Array.getElem?_eq_some_iff.1 h3).1
    · rcases k with k | ⟨rfl, _⟩
      · exact k
      · exact absurd hb (h.dis i j _ _ hi hr (Ne.symm hj) b' (by rw [h1]; rfl))
theorem RR.datum {R : Nat → Option Res} {B : Nat → Prop} {i : Nat} {nil : Bool} {sz : Nat} {xs : List (List C)} (h : RR g w R B i (.arr nil sz xs xs.length)) : CR g.K w (.sl nil xs) (g.loc i) := by
  rcases h with ⟨h1, h2, h3, _⟩ | ⟨h0, b, cap, cur, E, h1, h2, h3, h4, h5, h6, h7, h8, h9⟩
  · rw [CR]; exact .inl ⟨h1, h2, h3⟩
  · rw [CR]
    refine .inr ⟨h0, b, 0, none, cap, sz, h1, h4, h5, .inr rfl, ?_⟩
    rw [ER_iff]
    intro j e hj
    obtain ⟨k1, k2⟩ := h8 j e hj
    refine ⟨k1, ?_⟩
    rw [LR_iff]
    intro k c hc
    obtain ⟨u, e1, e2⟩ := k2 k c hc
    have hjlt : j < xs.length := (List.getElem?_eq_some_iff.1 hj).1
    have hklt : k < sz := by rw [← k1]; exact (List.getElem?_eq_some_iff.1 hc).1
    have : j * sz + k < xs.length * sz := by
      have : (j + 1) * sz ≤ xs.length * sz := Nat.mul_le_mul_right _ (by omega)
      rw [Nat.add_mul] at this; omega
    refine ⟨(h9 _).2 (by omega), u, ?_, e2⟩
    rw [cell_of_heap h3, Nat.zero_add]
    exact e1
theorem T.snap (h : T w0 K0 nt st a w g) {i : Nat} {nil : Bool} {sz : Nat} {xs : List (List C)} {fx : Nat} (hi : st.rs i = some (.arr nil sz xs fx)) :
    ∃ g', T w0 K0 nt (st.setR i (some (.arr nil sz xs xs.length))) a w g' ∧ CR g'.K w (.sl nil xs) (g.loc i) ∧ g'.loc = g.loc ∧ Keeps g.K w g'.K w := by
  have hle : fx ≤ xs.length := by
    rcases h.res i _ hi with ⟨_, _, _, h3⟩ | ⟨h0, b, cap, cur, E, h1, h2, h3, h4, h5, h6, h7, h8, h9⟩
    · omega
    · exact h7
  obtain ⟨g', k1, k2, k3, _⟩ := h.fix hi xs.length hle (Nat.le_refl _)
  refine ⟨g', k1, ?_, k2, k3⟩
  rw [← k2]
  exact (k1.res i _ (by rw [St.rs_setR, if_pos rfl])).datum
end
end Go.VL
set_option linter.unusedSimpArgs false
set_option linter.unusedVariables false
namespace Go.VL
open Go.RowKit
section
variable {P : Program} {w0 : World} {K0 : K0T} {nt : Nat} {st : St} {a : Act} {w : World} {g : G}
theorem T.nilR (h : T w0 K0 nt st a w g) (i : Nat) : ∃ g', T w0 K0 nt ((st.clr i).setR i (some (.arr true 0 [] 0))) a w g' ∧ g'.loc i = .slice none 0 0 ∧ (∀ j, j ≠ i → g'.loc j = g.loc j) ∧ g'.K = g.K := by
  refine ⟨{ g with loc := fun j => if j = i then .slice none 0 0 else g.loc j }, ?_, by simp, fun j hj => by simp [hj], rfl⟩
  exact T.make h (Bel.refl _ _ _) (Keeps.refl _ _) h.kold h.klt (fun j hj => by simp [hj]) (fun _ _ _ _ _ _ => ⟨rfl, fun _ k => k⟩) (fun j r hj hr b hb => by simp [blk] at hb) (.inl ⟨rfl, rfl, by simp, rfl⟩)
theorem SRs_iff : ∀ (ss : List S) (us : List Value) {R : Nat → Option Res}, SRs g w R ss us ↔ us.length = ss.length ∧ ∀ (k : Nat) s u, ss[k]? = some s → us[k]? = some u → SR g w R s u
  | [], us, R => by rw [SRs]; simp
  | s :: r, us, R => by
    rw [SRs]
    constructor
    · rintro ⟨u, us', rfl, h1, h2⟩
      obtain ⟨h3, h4⟩ := (SRs_iff r us').1 h2
      refine ⟨by simp [h3], fun k d x hk hx => ?_⟩
      cases k with
      | zero => simp at hk hx; subst hk; subst hx; exact h1
      | succ k => exact h4 k d x (by simpa using hk) (by simpa using hx)
    · rintro ⟨h1, h2⟩
      cases us with
      | nil => simp at h1
      | cons u us' => exact ⟨u, us', rfl, h2 0 s u rfl rfl, (SRs_iff r us').2 ⟨by simpa using h1, fun k d x hk hx => h2 (k + 1) d x (by simpa using hk) (by simpa using hx)⟩⟩
theorem T.newbox (h : T w0 K0 nt st a w g) (i : Nat) (ss : List S) (us : List Value) (E : TypeId) (hs : SRs g w st.rs ss us) (h1 : ∀ u ∈ us, u.oneCell' = true) (hm : S.mens i ss = false) :
    ∃ g', T w0 K0 nt ((st.clr i).setR i (some (.box false ss))) a (w.alloc (.cells us.toArray E)) g' ∧ g'.loc i = .pointer (some ⟨w.heap.size, 0, none⟩) ∧ (∀ j, j ≠ i → g'.loc j = g.loc j) ∧ g'.K = g.K := by
  refine ⟨{ g with loc := fun j => if j = i then .pointer (some ⟨w.heap.size, 0, none⟩) else g.loc j }, ?_, by simp, fun j hj => by simp [hj], rfl⟩
  have hc : ∀ R', (∀ j, j ≠ i → R' j = (st.rs j).map (Res.clr i)) → ∀ j, S.mens j ss = true → Cmp g st.rs { g with loc := fun j => if j = i then .pointer (some ⟨w.heap.size, 0, none⟩) else g.loc j } R' j := by
    intro R' hR j hj
    have hji : j ≠ i := fun e => by rw [e] at hj; rw [hj] at hm; cases hm
    refine ⟨fun fz ss' e => ?_, fun nil sz xs fx e => ?_, fun kvs e => ?_⟩
    · rw [hR j hji] at e
      cases hs : st.rs j with
      | none => simp [hs] at e
      | some r => cases r with
        | box fz0 ss0 => exact ⟨⟨fz0, ss0, rfl⟩, by simp [hji]⟩
        | arr _ _ _ _ => simp [hs, Res.clr] at e
        | pin _ _ => simp [hs, Res.clr] at e
        | map _ => simp [hs, Res.clr] at e
    · rw [hR j hji] at e
      cases hs : st.rs j with
      | none => simp [hs] at e
      | some r => cases r with
        | box fz0 ss0 => simp [hs, Res.clr] at e
        | arr nil0 sz0 xs0 fx0 =>
          simp [hs, Res.clr] at e
          obtain ⟨rfl, rfl, rfl, rfl⟩ := e
          exact ⟨⟨_, _, _, rfl, rfl⟩, by simp [hji]⟩
        | pin _ _ => simp [hs, Res.clr] at e
        | map _ => simp [hs, Res.clr] at e
    · rw [hR j hji] at e
      cases hs : st.rs j with
      | none => simp [hs] at e
      | some r => cases r with
        | box fz0 ss0 => simp [hs, Res.clr] at e
        | arr _ _ _ _ => simp [hs, Res.clr] at e
        | pin _ _ => simp [hs, Res.clr] at e
        | map k0 =>
          simp [hs, Res.clr] at e
          exact ⟨⟨k0, rfl, by rw [← e, MB.sh_clr]⟩, by simp [hji]⟩
  have key := fun (g' : G) (hg' : g' = { g with loc := fun j => if j = i then .pointer (some ⟨w.heap.size, 0, none⟩) else g.loc j }) (hk : Keeps g.K w g'.K (w.alloc (.cells us.toArray E))) =>
    SRs.mono (R' := ((st.clr i).setR i (some (.box false ss))).rs) hk ss us (fun j hj => hg' ▸ hc _ (fun j hj => by rw [St.rs_setR, if_neg (Ne.symm hj), St.rs_clr]) j hj) hs
  have hB : w0.heap.size ≤ w.heap.size := h.below.size
  refine T.make h (g' := { g with loc := fun j => if j = i then .pointer (some ⟨w.heap.size, 0, none⟩) else g.loc j }) (Bel.of ((BelowD.refl _ _).alloc hB _)) ⟨fun _ _ k => k, fun b o k => World.cell?_alloc_lt _ _ _ (h.klt b o k)⟩ h.kold (fun b o k => by
      have := h.klt b o k; simp; omega) (fun j hj => by simp [hj]) (fun j r b hj hr hb => ⟨Below.heap_alloc _ _ _ ((h.res j r hr).lt hb), fun _ k => k⟩) (fun j r hj hr b hb hb2 => ?_) ?_
  · simp [blk] at hb
    have := (h.res j r hr).lt hb2
    omega
  · have hk : Keeps g.K w g.K (w.alloc (.cells us.toArray E)) := ⟨fun _ _ k => k, fun b o k => World.cell?_alloc_lt _ _ _ (h.klt b o k)⟩
    have hss := key _ rfl hk
    obtain ⟨hl, hss⟩ := (SRs_iff ss us).1 hss
    refine ⟨w.heap.size, us.toArray, E, by simp, (fun e => absurd e.1 (by omega)), heap_alloc_new w _, by simp [hl], fun k s hs' => ?_, fun o k => ?_⟩
    · have hlt : k < us.length := by rw [hl]; exact (List.getElem?_eq_some_iff.1 hs').1
      exact ⟨us[k], by simp [hlt], hss k s _ hs' (by simp [hlt]), h1 _ (List.getElem_mem hlt)⟩
    · have := h.klt _ _ k
      omega
theorem T.newarr (h : T w0 K0 nt st a w g) (i : Nat) (sz : Nat) (xs : List (List C)) (cur : Array Value) (E : TypeId) (cap : Nat) (w' : World) (hw : w' = w.alloc (.cells cur E) ∨ w' = w.drew.alloc (.cells cur E))
    (hh : Holds g.K w sz xs cur) (h1 : xs.length ≤ cap) (h2 : cap ≤ maxLen) (h3 : cur.size = cap * sz) :
    ∃ g', T w0 K0 nt ((st.clr i).setR i (some (.arr false sz xs 0))) a w' g' ∧ g'.loc i = .slice (some ⟨w.heap.size, 0, none⟩) xs.length cap ∧ (∀ j, j ≠ i → g'.loc j = g.loc j) ∧ g'.K = g.K := by
  have hB : w0.heap.size ≤ w.heap.size := h.below.size
  refine ⟨_, T.new h i (.arr false sz xs 0) (.slice (some ⟨w.heap.size, 0, none⟩) xs.length cap) w' (.cells cur E) hw rfl (fun g' R' hg' hk hb hn => ?_), by simp, fun j hj => by simp [hj], rfl⟩
  exact .inr ⟨rfl, w.heap.size, cap, cur, E, by rw [hg']; simp, (fun e => absurd e.1 (by omega)), hb, h1, h2, h3, Nat.zero_le _, hh.mono hk, fun o => ⟨fun k => absurd k (hn o), fun k => by simp at k⟩⟩
theorem T.append (h : T w0 K0 nt st a w g) {t xt ty s B : Nat} {d : TypeDesc} (ht : slT P t = some (s, B)) (hx : P.underlying xt = some d) (hd : ∀ k, d ≠ .int k)
    {i : Nat} {nil : Bool} {sz : Nat} {xs ys : List (List C)} {fx : Nat} (hi : st.rs i = some (.arr nil sz xs fx)) (hsz : nil = false → sz = s)
    {x : Value} {news : List Value} (hs : Src P w s x ys.length news) (hh : Holds g.K w s ys news.toArray) (hB0 : 0 < B) (hB : (xs.length + ys.length) * B ≤ 140737488355328) :
    ∃ v w' g', (Builtin.append_ #[t, xt] ty #[g.loc i, x]).run P w = .ok v w' ∧ T w0 K0 nt ((st.clr i).setR i (some (.arr (nil && ys.isEmpty) s (xs ++ ys) fx))) a w' g' ∧ g'.loc i = v ∧ (∀ j, j ≠ i → g'.loc j = g.loc j) ∧ Keeps g.K w g'.K w' := by
  obtain ⟨e, ti, z, t1, t2, t3, t4, t5, rfl, rfl⟩ := slT_some ht
  have hBz : w0.heap.size ≤ w.heap.size := h.below.size
  have h63 : xs.length + ys.length ≤ maxLen := by
    have : (xs.length + ys.length) * 1 ≤ (xs.length + ys.length) * ti.bytes := Nat.mul_le_mul_left _ hB0
    simp only [maxLen]; omega
  have hkeepA : ∀ o, Keeps g.K w g.K (w.drew.alloc o) := fun o => ⟨fun _ _ k => k, fun b o' k => World.cell?_alloc_lt w.drew _ _ (h.klt b o' k)⟩
  have hheap : ∀ (o : Obj) k, k < w.heap.size → (w.drew.alloc o).heap[k]? = w.heap[k]? := fun o k hk => Below.heap_alloc w.drew o k hk
  have hbelowA : ∀ o, BelowD w0.heap.size w (w.drew.alloc o) := fun o => ((BelowD.refl _ w).drew).alloc hBz o
  have grow : ∀ (cap : Nat) (olds : List Value), Holds g.K w ti.size xs olds.toArray → olds.length = xs.length * ti.size →
      (nil && ys.isEmpty) = false → ∀ C, C = grownCap w (xs.length + ys.length) cap e →
      fx ≤ xs.length → ∃ g', T w0 K0 nt ((st.clr i).setR i (some (.arr (nil && ys.isEmpty) ti.size (xs ++ ys) fx))) a (w.drew.alloc (.cells (olds.toArray ++ news.toArray ++ Builtin.zeroCells z.cells (C - (xs.length + ys.length))) e)) g' ∧
        g'.loc i = .slice (some ⟨w.heap.size, 0, none⟩) (xs.length + ys.length) C ∧ (∀ j, j ≠ i → g'.loc j = g.loc j) ∧ Keeps g.K w g'.K (w.drew.alloc (.cells (olds.toArray ++ news.toArray ++ Builtin.zeroCells z.cells (C - (xs.length + ys.length))) e)) := by
    intro cap olds ho hol hne C hC hfx
    have hge := grownCap_ge w (xs.length + ys.length) cap e
    have hle := grownCap_le_maxLen w (xs.length + ys.length) cap e h63
    rw [← hC] at hge hle
    have hT := T.new h i (.arr (nil && ys.isEmpty) ti.size (xs ++ ys) 0) (.slice (some ⟨w.heap.size, 0, none⟩) (xs.length + ys.length) C) _ (.cells (olds.toArray ++ news.toArray ++ Builtin.zeroCells z.cells (C - (xs.length + ys.length))) e) (.inr rfl) rfl (fun g' R' hg' hk hb hn => ?_)
    · obtain ⟨g', k1, k2, k3, _⟩ := hT.fix (by rw [St.rs_setR, if_pos rfl]) fx (Nat.zero_le _) (by simp; omega)
      refine ⟨g', k1.congr rfl ?_, by rw [k2]; simp, fun j hj => by rw [k2]; simp [hj], (hkeepA _).trans k3⟩
      funext j
      simp only [St.rs_setR]
      split <;> rfl
    refine .inr ⟨hne, w.heap.size, C, _, e, by rw [hg']; simp, (fun e => absurd e.1 (by omega)), hb, by simpa using hge, hle, ?_, Nat.zero_le _, ?_, fun o => ⟨fun k => absurd k (hn o), fun k => by simp at k⟩⟩
    · simp only [Array.size_append, List.size_toArray, size_zeroCells, t4, hol, hs.size, ← Nat.add_mul]
      congr 1
      omega
    · have := Holds.append (rest := (Builtin.zeroCells z.cells (C - (xs.length + ys.length))).toList) ho (by simp [hol]) hh
      have h2 : Holds g.K w ti.size (xs ++ ys) (olds.toArray ++ news.toArray ++ Builtin.zeroCells z.cells (C - (xs.length + ys.length))) := by
        have e1 : (olds.toArray.toList.take (xs.length * ti.size)) = olds := by simp [← hol]
        rw [e1] at this
        have e2 : (olds ++ news ++ (Builtin.zeroCells z.cells (C - (xs.length + ys.length))).toList).toArray = olds.toArray ++ news.toArray ++ Builtin.zeroCells z.cells (C - (xs.length + ys.length)) := by
          apply Array.ext'; simp
        rw [e2] at this
        exact this
      exact h2.mono hk
  rcases h.res i _ hi with ⟨rfl, rfl, h3, rfl⟩ | ⟨rfl, b, cap, cur, E, h3, h4, h5, h6, h7, h8, h9, h10, h11⟩
  · rw [h3]
    by_cases hy : ys = []
    · subst hy
      refine ⟨_, w, g, run_app_none t1 hx hd t2 hs, ?_, h3, fun _ _ => rfl, Keeps.refl _ _⟩
      exact T.make h (Bel.refl _ _ _) (Keeps.refl _ _) h.kold h.klt (fun _ _ => rfl) (fun _ _ _ _ _ _ => ⟨rfl, fun _ k => k⟩) (fun j r hj hr b hb => by rw [h3] at hb; simp [blk] at hb) (.inl ⟨rfl, rfl, h3, rfl⟩)
    · have hr := run_app_grow (base := none) (n := 0) (cap := 0) (olds := []) (ty := ty) t1 hx hd t2 t3 hs (by simp [Builtin.firstCells]) (by have := List.length_pos_iff.2 hy; omega) (by simpa using h63) (by simpa using hB)
      have hg := grow 0 [] (fun j e h => by simp at h) (by simp) (by simp [hy]) _ rfl (Nat.le_refl _)
      simp only [List.length_nil, Nat.zero_add] at hr hg
      obtain ⟨g', k1, k2, k3, k4⟩ := hg
      exact ⟨_, _, g', hr, k1, k2, k3, k4⟩
  · have e : sz = ti.size := hsz rfl
    subst e
    rw [h3]
    by_cases hroom : xs.length + ys.length ≤ cap
    · have hcap : (xs.length + ys.length) * ti.size ≤ cap * ti.size := Nat.mul_le_mul_right _ hroom
      have hfit : xs.length * ti.size + news.length ≤ cur.size := by rw [hs.size, h8, ← Nat.add_mul]; exact hcap
      have hr := run_app_room (ty := ty) t1 hx hd t2 hs h5 hroom hfit
      have hlt : b < w.heap.size := (Array.getElem?_eq_some_iff.1 h5).1
      have hoth : ∀ k, k ≠ b → ∀ cs, (w.setRow b cs).heap[k]? = w.heap[k]? := fun k hk cs => setRow_other w b k cs hk
      have hxs : xs.length * ti.size ≤ cur.size := by omega
      have hk : ∀ rest : List Value, Keeps g.K w g.K (w.setRow b (cur.toList.take (xs.length * ti.size) ++ rest).toArray) := fun rest => ⟨fun _ _ k => k, fun b' o k => by
        by_cases hb : b' = b
        · subst hb
          have ho := (h11 o).1 k
          have : fx * ti.size ≤ xs.length * ti.size := Nat.mul_le_mul_right _ h9
          rw [cell_of_heap h5, cell_of_heap (setRow_heap w b' cur _ E _ h5)]
          rw [List.getElem?_toArray, List.getElem?_append_left (by simp; omega), List.getElem?_take, if_pos (by omega)]
          simp
        · simp only [World.cell?]; rw [hoth b' hb]⟩
      have hk' := hk (news ++ cur.toList.drop (xs.length * ti.size + news.length))
      rw [← List.append_assoc] at hk'
      refine ⟨_, _, { g with loc := fun j => if j = i then .slice (some ⟨b, 0, none⟩) (xs.length + ys.length) cap else g.loc j }, hr, ?_, by simp, fun j hj => by simp [hj], hk'⟩
      refine T.make h ⟨rfl, rfl, rfl, by simp, fun k hk => hoth k (fun e => h4 (e ▸ hk)) _, Nat.le_refl _⟩ hk' h.kold (fun b' o k => by simpa using h.klt b' o k) (fun j hj => by simp [hj]) (fun j r b' hj hrj hb => ⟨hoth b' (fun e => ?_) _, fun _ k => k⟩) (fun j r hj hrj b' hb hb2 => ?_) ?_
      · subst e; exact h.dis i j _ _ hi hrj (Ne.symm hj) b' (by rw [h3]; rfl) hb
      · simp [blk] at hb
        subst hb
        exact h.dis i j _ _ hi hrj (Ne.symm hj) b (by rw [h3]; rfl) hb2
      · refine .inr ⟨rfl, b, cap, _, E, by simp, h4, setRow_heap w b cur _ E _ h5, by simpa using hroom, h7, ?_, by simp; omega, ?_, h11⟩
        · simp only [List.size_toArray, List.length_append, List.length_take, List.length_drop, Array.length_toList]
          omega
        · exact (Holds.append h10 hxs hh).mono hk'
    · have hlt : b < w.heap.size := (Array.getElem?_eq_some_iff.1 h5).1
      have hcap : xs.length * ti.size ≤ cap * ti.size := Nat.mul_le_mul_right _ h6
      have hol : (cur.toList.take (xs.length * ti.size)).length = xs.length * ti.size := by simp; omega
      have hfc : (Builtin.firstCells ti.size xs.length (.slice (some ⟨b, 0, none⟩) xs.length cap)).run P w.drew = .ok (cur.toList.take (xs.length * ti.size)).toArray w.drew :=
        run_firstCells_some (P := P) w.drew ti.size xs.length ⟨b, 0, none⟩ _ _ _ hol (fun j v hj => by
          rw [add_lit, Nat.zero_add, World.cell?_drew, cell_of_heap h5]
          rw [List.getElem?_take] at hj
          split at hj
          · simpa using hj
          · cases hj)
      have hr := run_app_grow (ty := ty) t1 hx hd t2 t3 hs hfc (by omega) h63 hB
      have hho : Holds g.K w ti.size xs (cur.toList.take (xs.length * ti.size)).toArray := by
        intro j e hj
        obtain ⟨k1, k2⟩ := h10 j e hj
        refine ⟨k1, fun k c hc => ?_⟩
        obtain ⟨u, e1, e2⟩ := k2 k c hc
        refine ⟨u, ?_, e2⟩
        have hjlt : j < xs.length := (List.getElem?_eq_some_iff.1 hj).1
        have hklt : k < ti.size := by rw [← k1]; exact (List.getElem?_eq_some_iff.1 hc).1
        have : j * ti.size + k < xs.length * ti.size := by
          have : (j + 1) * ti.size ≤ xs.length * ti.size := Nat.mul_le_mul_right _ (by omega)
          rw [Nat.add_mul] at this; omega
        rw [List.getElem?_toArray, List.getElem?_take, if_pos this]
        simpa using e1
      obtain ⟨g', k1, k2, k3, k4⟩ := grow cap _ hho hol rfl _ rfl h9
      exact ⟨_, _, g', hr, k1, k2, k3, k4⟩
end
end Go.VL
set_option linter.unusedSimpArgs false
set_option linter.unusedVariables false
namespace Go.VL
open Go.RowKit
def spl {α : Type} (l : List α) (off : Nat) (new : List α) : List α := l.take off ++ new ++ l.drop (off + new.length)
def cellsH (st : St) : S → Option (List S)
  | .c x => some [.c x]
  | .agg cs => some (cs.map .c)
  | .st ss => some ss
  | .ptr i o =>
    match st.rs i with
    | some (.box _ _) => some [.ptr i o]
    | _ => none
  | .own i n =>
    match st.rs i with
    | some (.arr _ _ xs _) => if xs.length = n then some [.own i n] else none
    | _ => none
  | _ => none
section
variable {P : Program} {w0 : World} {K0 : K0T} {nt : Nat} {st : St} {a : Act} {w : World} {g : G}
theorem spl_getElem {α : Type} {l new : List α} {off : Nat} (h : off + new.length ≤ l.length) (k : Nat) :
    (spl l off new)[k]? = if k < off then l[k]? else if k < off + new.length then new[k - off]? else l[k]? := by
  unfold spl
  have hl : (l.take off).length = off := by simp; omega
  rw [List.append_assoc]
  by_cases h1 : k < off
  · rw [if_pos h1, List.getElem?_append_left (by omega), List.getElem?_take, if_pos h1]
  · rw [if_neg h1, List.getElem?_append_right (by omega), hl]
    by_cases h2 : k < off + new.length
    · rw [if_pos h2, List.getElem?_append_left (by omega)]
    · rw [if_neg h2, List.getElem?_append_right (by omega), List.getElem?_drop]
      congr 1
      omega
theorem spl_length {α : Type} {l new : List α} {off : Nat} (h : off + new.length ≤ l.length) : (spl l off new).length = l.length := by
  simp [spl]; omega
theorem run_storeAt {t : TypeId} {agg : Bool} {n b off : Nat} {u : Value} {cur : Array Value} {E : TypeId} (ht : tySz P t = some (agg, n)) (hn : u.cells.size = n) (h1 : ∀ v ∈ u.cells.toList, v.oneCell' = true) (hb : w.heap[b]? = some (.cells cur E (0, 0))) (hf : off + n ≤ cur.size) :
    (Instr.storeAt t (.pointer (some ⟨b, off, none⟩)) u).run P w = .ok () (w.setRow b (spl cur.toList off u.cells.toList).toArray) := by
  have hst := run_storeCells_at P b off E u.cells.toList 0 cur w hb (by simp; omega) h1
  simp only [Nat.add_zero] at hst
  have hne : ¬ (u.cells.size ≠ n) := by omega
  simp [Instr.storeAt, Instr.sureAddr, storeVar, run_sizeOf ht, hn, hst, spl]
theorem Holds_set {K : Nat → Nat → Prop} {sz : Nat} {xs : List (List C)} {cur : Array Value} {j o : Nat} {cs : List C} {us : List Value} (h : Holds K w sz xs cur) (hc : cur.size ≥ xs.length * sz) (hv : VR K w cs us) (hj : j < xs.length) (ho : o + cs.length ≤ sz) :
    Holds K w sz (xs.set j (spl (xs.getD j []) o cs)) (spl cur.toList (j * sz + o) us).toArray := by
  have hl := ((VR_iff _ _).1 hv).1
  have hjs : (j + 1) * sz ≤ xs.length * sz := Nat.mul_le_mul_right _ (by omega)
  rw [Nat.add_mul] at hjs
  have hsp : j * sz + o + us.length ≤ cur.toList.length := by simp; omega
  have hxj : (xs.getD j []).length = sz := (h.elem hj).1
  intro m e hm
  rw [List.getElem?_set] at hm
  by_cases e1 : j = m
  · subst e1
    rw [if_pos rfl, if_pos hj] at hm
    cases hm
    refine ⟨by rw [spl_length (by omega), hxj], fun k c hk => ?_⟩
    rw [spl_getElem (by omega)] at hk
    rw [List.getElem?_toArray, spl_getElem hsp]
    have hold : ∀ k, (xs.getD j [])[k]? = some c → ∃ u, cur.toList[j * sz + k]? = some u ∧ CR K w c u := fun k hk => by
      obtain ⟨u, k1, k2⟩ := (h j (xs.getD j []) (by simp [List.getD, List.getElem?_eq_getElem hj])).2 k c hk
      exact ⟨u, by simpa using k1, k2⟩
    by_cases c1 : k < o
    · rw [if_pos c1] at hk
      rw [if_pos (by omega)]
      exact hold k hk
    · rw [if_neg c1] at hk
      rw [if_neg (by omega)]
      by_cases c2 : k < o + cs.length
      · rw [if_pos c2] at hk
        rw [if_pos (by omega)]
        have c3 : k - o < us.length := by omega
        refine ⟨us[k - o], ?_, ((VR_iff _ _).1 hv).2 _ c _ hk (by simp [c3])⟩
        rw [show j * sz + k - (j * sz + o) = k - o from by omega]
        simp [c3]
      · rw [if_neg c2] at hk
        rw [if_neg (by omega)]
        exact hold k hk
  · rw [if_neg e1] at hm
    obtain ⟨k1, k2⟩ := h m e hm
    refine ⟨k1, fun k c hk => ?_⟩
    obtain ⟨u, k3, k4⟩ := k2 k c hk
    refine ⟨u, ?_, k4⟩
    have hklt : k < sz := by rw [← k1]; exact (List.getElem?_eq_some_iff.1 hk).1
    rw [List.getElem?_toArray, spl_getElem hsp]
    have : m * sz + k < j * sz + o ∨ j * sz + o + us.length ≤ m * sz + k := by
      rcases Nat.lt_or_gt_of_ne e1 with h' | h'
      · right
        have : (j + 1) * sz ≤ m * sz := Nat.mul_le_mul_right _ h'
        rw [Nat.add_mul] at this; omega
      · left
        have : (m + 1) * sz ≤ j * sz := Nat.mul_le_mul_right _ h'
        rw [Nat.add_mul] at this; omega
    rcases this with h' | h'
    · rw [if_pos h']; simpa using k3
    · rw [if_neg (by omega), if_neg (by omega)]; simpa using k3
theorem T.rewrite (h : T w0 K0 nt st a w g) {i : Nat} {r0 r : Res} {b : Nat} {cur : Array Value} {E : TypeId} {cs : List Value} (hi : st.rs i = some r0) (hb : blk (g.loc i) = some b) (hc : w.heap[b]? = some (.cells cur E (0, 0)))
    (hK : ∀ o, g.K b o → cs[o]? = cur[o]?)
    (hsh : (∃ fz0 ss0 fz ss, r0 = .box fz0 ss0 ∧ r = .box fz ss) ∨ (∃ nil0 sz xs0 fx0 nil xs fx, r0 = .arr nil0 sz xs0 fx0 ∧ r = .arr nil sz xs fx ∧ xs0.length = xs.length))
    (hr : (∀ j, Cmp g st.rs g (st.setR i (some r)).rs j) → Keeps g.K w g.K (w.setRow b cs.toArray) → (w.setRow b cs.toArray).heap[b]? = some (.cells cs.toArray E (0, 0)) → RR g (w.setRow b cs.toArray) (st.setR i (some r)).rs (fun b => ¬ Old w0 K0 b) i r) :
    T w0 K0 nt (st.setR i (some r)) a (w.setRow b cs.toArray) g := by
  have hB := ((h.res i r0 hi).block hb).1
  have hheap := setRow_heap w b cur cs.toArray E (0, 0) hc
  have hoth : ∀ k, k ≠ b → (w.setRow b cs.toArray).heap[k]? = w.heap[k]? := fun k hk => setRow_other w b k _ hk
  have hk : Keeps g.K w g.K (w.setRow b cs.toArray) := ⟨fun _ _ k => k, fun b' o k => by
    by_cases e : b' = b
    · subst e
      rw [cell_of_heap hheap, cell_of_heap hc, List.getElem?_toArray]
      exact hK o k
    · simp only [World.cell?]; rw [hoth b' e]⟩
  refine T.mod h hi ⟨rfl, rfl, rfl, by simp, fun k hk => hoth k (fun e => hB (e ▸ hk)), Nat.le_refl _⟩ hk h.kold (fun b' o k => by simpa using h.klt b' o k) rfl (fun j r' b' hj hrj hbj => ⟨hoth b' (fun e => ?_), fun _ k => k⟩) (hsh.elim .inl fun x => .inr (.inl x)) (fun hcmp => hr hcmp hk hheap)
  subst e
  exact h.dis i j _ _ hi hrj (Ne.symm hj) b' hb hbj
theorem T.store_box (h : T w0 K0 nt st a w g) {i off : Nat} {ss new : List S} (hi : st.rs i = some (.box false ss)) {t : TypeId} {agg : Bool} {n : Nat} (ht : tySz P t = some (agg, n)) {u ad : Value} (had : SR g w st.rs (.ptr i off) ad)
    (hs : SRs g w st.rs new u.cells.toList) (h1 : ∀ v ∈ u.cells.toList, v.oneCell' = true) (hn : new.length = n) (hf : off + n ≤ ss.length) :
    ∃ w', (Instr.storeAt t ad u).run P w = .ok () w' ∧ T w0 K0 nt (st.setR i (some (.box false (spl ss off new)))) a w' g := by
  rw [SR] at had
  obtain ⟨b, hb, rfl⟩ := had false ss hi
  obtain ⟨b', cur, E, e1, e2, e3, e4, e5, e6⟩ := h.res i _ hi
  rw [hb] at e1
  simp at e1; subst e1
  obtain ⟨hl, hs'⟩ := (SRs_iff _ _).1 hs
  have hsz : u.cells.size = n := by simpa [hn] using hl
  refine ⟨_, run_storeAt ht hsz h1 e3 (by omega), ?_⟩
  refine T.rewrite h hi (by rw [hb]; rfl) e3 (fun o k => by have := e6 o k; simp at this) (.inl ⟨false, ss, false, _, rfl, rfl⟩) (fun hcmp hk hh => ?_)
  have hlen : off + u.cells.toList.length ≤ cur.toList.length := by simp; omega
  refine ⟨b, _, E, hb, e2, hh, by have q1 := spl_length hlen; have q2 : (spl ss off new).length = ss.length := spl_length (by omega); simp only [List.size_toArray]; rw [q1, q2]; simpa using e4, fun k s hk' => ?_, fun o k => by have := e6 o k; simp at this⟩
  rw [spl_getElem (by omega)] at hk'
  have conv : ∀ (s : S) (v : Value), SR g w st.rs s v → SR g (w.setRow b (spl cur.toList off u.cells.toList).toArray) (st.setR i (some (.box false (spl ss off new)))).rs s v := fun s v hv => SR.mono hk s v (fun j _ => hcmp j) hv
  rw [List.getElem?_toArray, spl_getElem hlen]
  have hul : u.cells.toList.length = new.length := hl
  by_cases c1 : k < off
  · rw [if_pos c1] at hk' ⊢
    obtain ⟨v, f1, f2, f3⟩ := e5 k s hk'
    exact ⟨v, by simpa using f1, conv _ _ f2, f3⟩
  · rw [if_neg c1] at hk' ⊢
    by_cases c2 : k < off + new.length
    · rw [if_pos c2] at hk'
      rw [if_pos (by omega)]
      have c3 : k - off < u.cells.toList.length := by omega
      exact ⟨u.cells.toList[k - off], by simp, conv _ _ (hs' _ s _ hk' (by simp)), h1 _ (List.getElem_mem c3)⟩
    · rw [if_neg c2] at hk'
      rw [if_neg (by omega)]
      obtain ⟨v, f1, f2, f3⟩ := e5 k s hk'
      exact ⟨v, by simpa using f1, conv _ _ f2, f3⟩
theorem T.store_arr (h : T w0 K0 nt st a w g) {i m j o : Nat} {nil : Bool} {sz : Nat} {xs : List (List C)} {fx : Nat} {cs : List C} (hi : st.rs i = some (.arr nil sz xs fx)) {t : TypeId} {agg : Bool} {n : Nat} (ht : tySz P t = some (agg, n)) {u ad : Value} (had : SR g w st.rs (.ep i m j o) ad)
    (hm : xs.length = m) (hj : j < m) (hv : VR g.K w cs u.cells.toList) (h1 : ∀ v ∈ u.cells.toList, v.oneCell' = true) (hn : cs.length = n) (hf : o + n ≤ sz) (hfx : fx ≤ j) :
    ∃ w', (Instr.storeAt t ad u).run P w = .ok () w' ∧ T w0 K0 nt (st.setR i (some (.arr nil sz (xs.set j (spl (xs.getD j []) o cs)) fx))) a w' g := by
  rw [SR] at had
  obtain ⟨b, cap, hb, rfl⟩ := had nil sz xs fx hi hm
  rcases h.res i _ hi with ⟨_, _, e, _⟩ | ⟨e0, b', cap', cur, E, e1, e2, e3, e4, e5, e6, e7, e8, e9⟩
  · rw [hb] at e; simp at e
  · rw [hb] at e1
    simp at e1
    obtain ⟨rfl, _, rfl⟩ := e1
    have hl := ((VR_iff _ _).1 hv).1
    have hcap : xs.length * sz ≤ cap * sz := Nat.mul_le_mul_right _ e4
    have hjs : (j + 1) * sz ≤ xs.length * sz := Nat.mul_le_mul_right _ (by omega)
    have hfs : fx * sz ≤ j * sz := Nat.mul_le_mul_right _ hfx
    rw [Nat.add_mul] at hjs
    have hsz : u.cells.size = n := by simpa [hn] using hl
    have hsp : j * sz + o + u.cells.toList.length ≤ cur.toList.length := by simp; omega
    refine ⟨_, run_storeAt ht hsz h1 e3 (by omega), ?_⟩
    refine T.rewrite h hi (by rw [hb]; rfl) e3 (fun o' k => ?_) (.inr ⟨nil, sz, xs, fx, nil, _, fx, rfl, rfl, by simp⟩) (fun hcmp hk hh => ?_)
    · have := (e9 o').1 k
      rw [spl_getElem hsp, if_pos (by omega)]
      simp
    · refine .inr ⟨e0, b, cap, _, E, by simp [hb, hm], e2, hh, by simp; omega, e5, by simp [spl_length hsp, e6], by simp; omega, ?_, e9⟩
      exact (Holds_set e8 (by omega) hv (by omega) (by omega)).mono hk
end
inductive Rt where
  | c (x : C)
  | ag (cs : List C)
  | fr (nil : Bool) (sz : Nat) (xs : List (List C)) (fx : Nat)
def RtR (K : Nat → Nat → Prop) (w : World) (B : Nat) : Rt → Value → Prop
  | .c x, u => CR K w x u
  | .ag cs, u => ∃ us : List Value, u = .agg us.toArray ∧ VR K w cs us
  | .fr nil sz xs fx, u => RR ⟨K, fun _ => u⟩ w (fun _ => none) (fun b => B ≤ b) 0 (.arr nil sz xs fx)
def isFr : Rt → Bool
  | .fr .. => true
  | _ => false
def RtRs (K : Nat → Nat → Prop) (w : World) (B : Nat) (rs : List Rt) (vs : List Value) : Prop :=
  vs.length = rs.length ∧ (∀ (k : Nat) r v, rs[k]? = some r → vs[k]? = some v → RtR K w B r v) ∧
    ∀ (j k : Nat) r r' v v', j ≠ k → rs[j]? = some r → rs[k]? = some r' → vs[j]? = some v → vs[k]? = some v' → isFr r = true → isFr r' = true → ∀ b, blk v = some b → blk v' ≠ some b
def retV : List Value → Value
  | [v] => v
  | vs => .tuple vs.toArray
def DRs (K : Nat → Nat → Prop) (w : World) (ss : List S) (us : List Value) : Prop := SRs ⟨K, fun _ => undef⟩ w (fun _ => none) ss us
def callable (P : Program) (f : FuncId) : Bool :=
  match P.funcs[f]? with
  | some fn => fn.name != "runtime.NumGoroutine" && fn.body.isSome
  | none => false
def Runs (P : Program) (f : FuncId) (us : Array Value) (w : World) (R : Ending → World → Prop) : Prop :=
  (callable P f = true ∧ Calls P f us w R) ∨ ∃ v w', (callFunc f us).run P w = .ok (.value v) w' ∧ R (.returned v) w'
theorem Runs.mono {P : Program} {f : FuncId} {us : Array Value} {w : World} {R R' : Ending → World → Prop} (h : Runs P f us w R) (hr : ∀ e w', R e w' → R' e w') : Runs P f us w R' := by
  rcases h with ⟨h1, h2⟩ | ⟨v, w', h1, h2⟩
  · exact .inl ⟨h1, h2.mono hr⟩
  · exact .inr ⟨v, w', h1, hr _ _ h2⟩
theorem run_callable {P : Program} {f : FuncId} (hcall : callable P f = true) (us : Array Value) (w : World) : (callFunc f us).run P w = .ok (.enter f us) w := by
  unfold callable at hcall
  split at hcall
  · rename_i fn hfn
    simp only [Bool.and_eq_true, bne_iff_ne, ne_eq] at hcall
    obtain ⟨c1, c2⟩ := hcall
    have c3 : (fn.name == "runtime.NumGoroutine") = false := by simpa using c1
    have c4 : fn.body.isNone = false := by
      cases hb : fn.body with
      | none => rw [hb] at c2; simp at c2
      | some b => rfl
    simp only [callFunc, run_program, Sem.run_bind, Sem.run_pure, Result.andThen_ok, hfn, c3, c4, Bool.false_eq_true, if_false]
  · cases hcall
theorem Runs.calls' {P : Program} {f : FuncId} {us : Array Value} {w : World} {R : Ending → World → Prop} (hc : (callFunc f us).run P w = .ok (.enter f us) w) (h : Runs P f us w R) : Calls P f us w R := by
  rcases h with ⟨_, h2⟩ | ⟨v, w', h1, _⟩
  · exact h2
  · rw [hc] at h1; cases h1
theorem Runs.calls {P : Program} {f : FuncId} {us : Array Value} {w : World} {R : Ending → World → Prop} (hc : callable P f = true) (h : Runs P f us w R) : Calls P f us w R := by
  rcases h with ⟨_, h2⟩ | ⟨v, w', h1, _⟩
  · exact h2
  · rw [run_callable hc] at h1; cases h1
theorem wp_runs {P : Program} {o : Oper} {a : Act} {w : World} {next : Act → World → Prop} {Q : Exit → Act → World → Prop} {c : Call} {f : Operand} {fid : FuncId} {us : List Value} {R : Ending → World → Prop}
    (ho : o.op = .call c) (hc : c.callee = .value f) (hfv : a.eval f = .func (.func fid) #[] us.toArray) (h : Runs P fid ((c.args.toList.map a.eval ++ us).toArray) w R)
    (hR : ∀ e w', R e w' → ∃ v, e = .returned v ∧ next (a.put o.dst v) w') : o.wp P a w next Q := by
  obtain ⟨cal, args, ats⟩ := c
  simp only at hc
  subst hc
  have harr : (args.map a.eval) ++ us.toArray = (args.toList.map a.eval ++ us).toArray := by
    apply Array.ext'; simp
  have hex : (execOp a.eval o).run P w = (callFunc fid ((args.toList.map a.eval ++ us).toArray)).run P w := by
    simp only [execOp, ho, resolve, Deferred.ofValue, hfv, Sem.run_bind, Sem.run_pure, Result.andThen_ok, invoke, Array.empty_append]
    rw [harr]
  unfold Oper.wp
  rw [hex]
  rcases h with ⟨h1, h2⟩ | ⟨v, w', h1, h2⟩
  · rw [run_callable h1, Oper.upon_enter]
    refine h2.mono fun e w' hr => ?_
    obtain ⟨v, rfl, hn⟩ := hR _ _ hr
    exact hn
  · rw [h1, Oper.upon_value]
    obtain ⟨v', e1, hn⟩ := hR _ _ h2
    cases e1
    exact hn
def Con (P : Program) (f : FuncId) (args : List S) (rs : List Rt) : Prop :=
  ∀ (w : World) (K : Nat → Nat → Prop) (us : List Value), (∀ b o, K b o → b < w.heap.size) → DRs K w args us →
    Runs P f us.toArray w fun e w' => ∃ vs : List Value, e = .returned (retV vs) ∧ BelowD w.heap.size w w' ∧
      ∃ K' : Nat → Nat → Prop, (∀ b o, K b o → K' b o) ∧ (∀ b o, K' b o → b < w.heap.size → K b o) ∧ (∀ b o, K' b o → b < w'.heap.size) ∧ RtRs K' w' w.heap.size rs vs
theorem Con.of {P : Program} {f : FuncId} {args : List S} {rs : List Rt} (hc : callable P f = true) (h : ∀ (w : World) (K : Nat → Nat → Prop) (us : List Value), (∀ b o, K b o → b < w.heap.size) → DRs K w args us →
    Calls P f us.toArray w fun e w' => ∃ vs : List Value, e = .returned (retV vs) ∧ BelowD w.heap.size w w' ∧
      ∃ K' : Nat → Nat → Prop, (∀ b o, K b o → K' b o) ∧ (∀ b o, K' b o → b < w.heap.size → K b o) ∧ (∀ b o, K' b o → b < w'.heap.size) ∧ RtRs K' w' w.heap.size rs vs) : Con P f args rs :=
  fun w K us hK hd => .inl ⟨hc, h w K us hK hd⟩
def vret1 (st : St) (N : Nat) : Rt → S × St
  | .c x => (.c x, st)
  | .ag cs => (.agg cs, st)
  | .fr nil sz xs fx => (.own N xs.length, (st.clr N).setR N (some (.arr nil sz xs fx)))
def vrets (st : St) (N : Nat) : List Rt → List S × St
  | [] => ([], st)
  | r :: rest => ((vret1 st N r).1 :: (vrets (vret1 st N r).2 (N + 1) rest).1, (vrets (vret1 st N r).2 (N + 1) rest).2)
def vret (st : St) (dst : Option Nat) (rs : List Rt) : St :=
  match dst, rs with
  | none, _ => st
  | some d, [r] => (vret1 st (64 * d) r).2.put d (vret1 st (64 * d) r).1
  | some d, rs => (vrets st (64 * d + 1) rs).2.put d (.tup (vrets st (64 * d + 1) rs).1)
section
variable {P : Program} {w0 : World} {K0 : K0T} {nt : Nat} {st : St} {a : Act} {w : World} {g : G}
theorem DRs_of {ss : List S} {us : List Value} (h : SRs g w st.rs ss us) : DRs g.K w ss us :=
  SRs.mono (g := g) (g' := ⟨g.K, fun _ => undef⟩) (R' := fun _ => none) (Keeps.refl _ _) ss us (fun _ _ => ⟨fun _ _ h => by simp at h, fun _ _ _ _ h => by simp at h, fun _ h => by simp at h⟩) h
theorem T.adopt (h : T w0 K0 nt st a w g) (i : Nat) {nil : Bool} {sz : Nat} {xs : List (List C)} {fx : Nat} {v : Value} (hr : RtR g.K w w0.heap.size (.fr nil sz xs fx) v)
    (hd : ∀ j r, j ≠ i → st.rs j = some r → ∀ b, blk v = some b → blk (g.loc j) ≠ some b) :
    T w0 K0 nt ((st.clr i).setR i (some (.arr nil sz xs fx))) a w { g with loc := fun j => if j = i then v else g.loc j } := by
  refine T.make h (g' := { g with loc := fun j => if j = i then v else g.loc j }) (Bel.refl _ _ _) (Keeps.refl _ _) h.kold h.klt (fun j hj => by simp [hj]) (fun _ _ _ _ _ _ => ⟨rfl, fun _ k => k⟩) (fun j r hj hrj b hb => hd j r hj hrj b (by simpa using hb)) ?_
  rw [RtR] at hr
  rcases hr with ⟨h1, h2, h3, h4⟩ | ⟨h0, b, cap, cur, E, h1, h2, h3, h4, h5, h6, h7, h8, h9⟩
  · exact .inl ⟨h1, h2, by simpa using h3, h4⟩
  · exact .inr ⟨h0, b, cap, cur, E, by simpa using h1, (fun e => absurd e.1 (by omega)), h3, h4, h5, h6, h7, h8, h9⟩
theorem T.rets (hb0 : w0.heap.size ≤ w.heap.size) : ∀ (rs : List Rt) (vs : List Value) (st : St) (g : G) (N B1 : Nat) (used : List Value), T w0 K0 nt st a w g →
    (∀ i r b, st.rs i = some r → blk (g.loc i) = some b → b < B1 ∨ ∃ v ∈ used, blk v = some b) → RtRs g.K w B1 rs vs → w0.heap.size ≤ B1 →
    (∀ (k : Nat) r v, rs[k]? = some r → vs[k]? = some v → isFr r = true → ∀ u ∈ used, ∀ b, blk v = some b → blk u ≠ some b) →
    ∃ g', T w0 K0 nt (vrets st N rs).2 a w g' ∧ SRs g' w (vrets st N rs).2.rs (vrets st N rs).1 vs ∧ g'.K = g.K ∧
      (∀ j, (∀ k, k < rs.length → j ≠ N + k) → g'.loc j = g.loc j) ∧ (∀ s u, (∀ k, k < rs.length → s.men (N + k) = false) → SR g w st.rs s u → SR g' w (vrets st N rs).2.rs s u)
  | [], vs, st, g, N, B1, used, h, hu, hr, hB, hdu => by
    obtain ⟨h1, _, _⟩ := hr
    have : vs = [] := List.eq_nil_of_length_eq_zero (by simpa using h1)
    subst this
    exact ⟨g, h, by rw [vrets, SRs], rfl, fun _ _ => rfl, fun s u _ hs => hs⟩
  | r :: rest, vs, st, g, N, B1, used, h, hu, hr, hB, hdu => by
    obtain ⟨h1, h2, h3⟩ := hr
    cases vs with
    | nil => simp at h1
    | cons v vs =>
      have hrest : ∀ g' : G, g'.K = g.K → RtRs g'.K w B1 rest vs := fun g' e => by
        rw [e]
        exact ⟨by simpa using h1, fun k r' v' e1 e2 => h2 (k + 1) r' v' (by simpa using e1) (by simpa using e2), fun j k r1 r2 v1 v2 hjk e1 e2 e3 e4 =>
          h3 (j + 1) (k + 1) r1 r2 v1 v2 (by omega) (by simpa using e1) (by simpa using e2) (by simpa using e3) (by simpa using e4)⟩
      have h0 := h2 0 r v rfl rfl
      have data : ∀ (s : S), (vret1 st N r) = (s, st) → SR g w st.rs s v → isFr r = false → (∀ k, k < (r :: rest).length → s.men (N + k) = false) →
          ∃ g', T w0 K0 nt (vrets st N (r :: rest)).2 a w g' ∧ SRs g' w (vrets st N (r :: rest)).2.rs (vrets st N (r :: rest)).1 (v :: vs) ∧ g'.K = g.K ∧
            (∀ j, (∀ k, k < (r :: rest).length → j ≠ N + k) → g'.loc j = g.loc j) ∧ (∀ s u, (∀ k, k < (r :: rest).length → s.men (N + k) = false) → SR g w st.rs s u → SR g' w (vrets st N (r :: rest)).2.rs s u) := by
        intro s hs hsr hf hm
        obtain ⟨g', k1, k2, k3, k4, k5⟩ := T.rets hb0 rest vs st g (N + 1) B1 used h hu (hrest g rfl) hB (fun k r' v' e1 e2 e3 => hdu (k + 1) r' v' (by simpa using e1) (by simpa using e2) e3)
        have e1 : (vrets st N (r :: rest)).2 = (vrets st (N + 1) rest).2 := by rw [vrets, hs]
        have e2 : (vrets st N (r :: rest)).1 = s :: (vrets st (N + 1) rest).1 := by rw [vrets, hs]
        rw [e1, e2]
        refine ⟨g', k1, ?_, k3, fun j hj => k4 j (fun k hk => by have := hj (k + 1) (by simp; omega); omega), fun s' u' hm' hs' => k5 s' u' (fun k hk => by rw [show N + 1 + k = N + (k + 1) from by omega]; exact hm' (k + 1) (by simp; omega)) hs'⟩
        rw [SRs]
        exact ⟨v, vs, rfl, k5 s v (fun k hk => by rw [show N + 1 + k = N + (k + 1) from by omega]; exact hm (k + 1) (by simp; omega)) hsr, k2⟩
      cases r with
      | c x => exact data (.c x) rfl (by rw [SR]; rw [RtR] at h0; exact h0) rfl (fun _ _ => rfl)
      | ag cs => exact data (.agg cs) rfl (by rw [SR]; rw [RtR] at h0; exact h0) rfl (fun _ _ => rfl)
      | fr nil sz xs fx =>
        have hfr : RtR g.K w w0.heap.size (.fr nil sz xs fx) v := by
          rw [RtR] at h0 ⊢
          rcases h0 with h0 | ⟨q0, b, cap, cur, E, q1, q2, q3⟩
          · exact .inl h0
          · exact .inr ⟨q0, b, cap, cur, E, q1, by omega, q3⟩
        have hge : ∀ b, blk v = some b → B1 ≤ b := fun b hb => by
          rw [RtR] at h0
          rcases h0 with ⟨_, _, q, _⟩ | ⟨_, b', cap, cur, E, q1, q2, q3⟩
          · simp at q; rw [q] at hb; simp [blk] at hb
          · simp at q1; rw [q1] at hb; simp [blk] at hb; omega
        have hT' := h.adopt N hfr (fun j r' hj hrj b hb hb2 => by
          rcases hu j r' b hrj hb2 with h' | ⟨u, hu1, hu2⟩
          · have := hge b hb; omega
          · exact hdu 0 _ v rfl rfl rfl u hu1 b hb hu2)
        obtain ⟨g', k1, k2, k3, k4, k5⟩ := T.rets hb0 rest vs ((st.clr N).setR N (some (.arr nil sz xs fx))) { g with loc := fun j => if j = N then v else g.loc j } (N + 1) B1 (v :: used) hT'
          (fun i r' b hi hb => by
            by_cases e : i = N
            · subst e; simp at hb; exact .inr ⟨v, by simp, hb⟩
            · rw [St.rs_setR, if_neg (Ne.symm e), St.rs_clr] at hi
              simp only [Option.map_eq_some_iff] at hi
              obtain ⟨r0, hr0, _⟩ := hi
              simp [e] at hb
              rcases hu i r0 b hr0 hb with h' | ⟨u, q1, q2⟩
              · exact .inl h'
              · exact .inr ⟨u, by simp [q1], q2⟩)
          (hrest _ rfl) hB (fun k r' v' e1 e2 e3 u hu1 b hb hb2 => by
            rcases List.mem_cons.1 hu1 with rfl | hu1
            · exact h3 (k + 1) 0 r' _ v' u (by omega) (by simpa using e1) rfl (by simpa using e2) rfl e3 rfl b hb hb2
            · exact hdu (k + 1) r' v' (by simpa using e1) (by simpa using e2) e3 u hu1 b hb hb2)
        have e1 : (vrets st N (.fr nil sz xs fx :: rest)).2 = (vrets ((st.clr N).setR N (some (.arr nil sz xs fx))) (N + 1) rest).2 := rfl
        have e2 : (vrets st N (.fr nil sz xs fx :: rest)).1 = .own N xs.length :: (vrets ((st.clr N).setR N (some (.arr nil sz xs fx))) (N + 1) rest).1 := rfl
        rw [e1, e2]
        refine ⟨g', k1, ?_, k3, fun j hj => ?_, fun s u hm hs => k5 s u (fun k hk => by rw [show N + 1 + k = N + (k + 1) from by omega]; exact hm (k + 1) (by simp; omega)) ?_⟩
        · rw [SRs]
          refine ⟨v, vs, rfl, k5 (.own N xs.length) v (fun k hk => by simp [S.men]; omega) ?_, k2⟩
          rw [SR]
          intro nil' sz' xs' fx' hr' _
          simp
        · rw [k4 j (fun k hk => by have := hj (k + 1) (by simp; omega); omega)]
          have := hj 0 (by simp)
          simp at this
          simp [this]
        · refine SR.mono (g := g) (g' := { g with loc := fun j => if j = N then v else g.loc j }) (Keeps.refl _ _) s u (fun j hj => ?_) hs
          have hjN : j ≠ N := fun e => by subst e; have := hm 0 (by simp); simp at this; rw [hj] at this; cases this
          have hR : ((st.clr N).setR N (some (.arr nil sz xs fx))).rs j = (st.rs j).map (Res.clr N) := by rw [St.rs_setR, if_neg (Ne.symm hjN), St.rs_clr]
          refine ⟨fun fz ss e => ?_, fun nil sz xs fx e => ?_, fun kvs e => ?_⟩
          · rw [hR] at e
            cases hs' : st.rs j with
            | none => simp [hs'] at e
            | some r0 => cases r0 with
              | box fz0 ss0 => exact ⟨⟨fz0, ss0, rfl⟩, by simp [hjN]⟩
              | arr _ _ _ _ => simp [hs', Res.clr] at e
              | pin _ _ => simp [hs', Res.clr] at e
              | map _ => simp [hs', Res.clr] at e
          · rw [hR] at e
            cases hs' : st.rs j with
            | none => simp [hs'] at e
            | some r0 => cases r0 with
              | box fz0 ss0 => simp [hs', Res.clr] at e
              | arr nil0 sz0 xs0 fx0 =>
                simp [hs', Res.clr] at e
                obtain ⟨rfl, rfl, rfl, rfl⟩ := e
                exact ⟨⟨_, _, _, rfl, rfl⟩, by simp [hjN]⟩
              | pin _ _ => simp [hs', Res.clr] at e
              | map _ => simp [hs', Res.clr] at e
          · rw [hR] at e
            cases hs' : st.rs j with
            | none => simp [hs'] at e
            | some r0 => cases r0 with
              | box fz0 ss0 => simp [hs', Res.clr] at e
              | arr _ _ _ _ => simp [hs', Res.clr] at e
              | pin _ _ => simp [hs', Res.clr] at e
              | map k0 =>
                simp [hs', Res.clr] at e
                exact ⟨⟨k0, rfl, by rw [← e, MB.sh_clr]⟩, by simp [hjN]⟩
end
end Go.VL
set_option linter.unusedSimpArgs false
set_option linter.unusedVariables false
namespace Go.VL
open Go.RowKit
structure M (w0 : World) (K0 : K0T) (R : Nat → Option Res) (w : World) (g : G) : Prop where
  below : Bel w0 K0 w0 w
  k0 : ∀ b o, K0.K b o → g.K b o
  kold : ∀ b o, g.K b o → Old w0 K0 b → K0.K b o
  klt : ∀ b o, g.K b o → b < w.heap.size
  res : ∀ i r, R i = some r → RR g w R (fun b => ¬ Old w0 K0 b) i r
  dis : ∀ i j r r', R i = some r → R j = some r' → i ≠ j → ∀ b, blk (g.loc i) = some b → blk (g.loc j) ≠ some b
  keep : ∀ b o, K0.K b o → w.cell? ⟨b, o, none⟩ = w0.cell? ⟨b, o, none⟩
def lk (b : List (Nat × Res)) (i : Nat) : Option Res := vlook none (b.map fun p => (p.1, some p.2)) i
def lent (g : G) (b : List (Nat × Res)) : Nat → Prop := fun k => ∃ i r, lk b i = some r ∧ blk (g.loc i) = some k
def ConB (P : Program) (f : FuncId) (args : List S) (b : List (Nat × Res)) (rs args' : List S) (b' : List (Nat × Res)) : Prop :=
  callable P f = true ∧ ∀ (w : World) (g : G) (us : List Value), M w ⟨g.K, lent g b, []⟩ (lk b) w g → SRs g w (lk b) args us →
    Calls P f us.toArray w fun e w' => ∃ (vs : List Value) (g' : G), e = .returned (retV vs) ∧ M w ⟨g.K, lent g b, []⟩ (lk b') w' g' ∧ SRs g' w' (lk b') rs vs ∧ SRs g' w' (lk b') args' us
mutual
def renS (τ : Nat → Nat) : S → S
  | .c x => .c x
  | .agg cs => .agg cs
  | .tup ss => .tup (renSs τ ss)
  | .fnp f ss => .fnp f (renSs τ ss)
  | .st ss => .st (renSs τ ss)
  | .own i n => .own (τ i) n
  | .ptr i o => .ptr (τ i) o
  | .ep i n j o => .ep (τ i) n j o
  | .suf i n j => .suf (τ i) n j
  | .mp i => .mp (τ i)
  | .me i j o => .me (τ i) j o
  | .pre i n m => .pre (τ i) n m
  | .g b s => .g b (renS τ s)
  | .un => .un
def renSs (τ : Nat → Nat) : List S → List S
  | [] => []
  | s :: r => renS τ s :: renSs τ r
end
def renR (τ : Nat → Nat) : Res → Res
  | .box fz ss => .box fz (renSs τ ss)
  | .arr nil sz xs fx => .arr nil sz xs fx
  | .pin v s => .pin v (renS τ s)
  | .map m => .map (m.map (renS τ))
theorem renSs_map (τ : Nat → Nat) : ∀ ss : List S, renSs τ ss = ss.map (renS τ)
  | [] => rfl
  | s :: r => by rw [renSs, renSs_map τ r]; rfl
mutual
theorem SR_ren1 {τ : Nat → Nat} {g : G} {w : World} {R R0 : Nat → Option Res} (h : ∀ i r, R0 i = some r → R (τ i) = some (renR τ r)) :
    ∀ (s : S) (u : Value), SR g w R (renS τ s) u → SR ⟨g.K, fun i => g.loc (τ i)⟩ w R0 s u
  | .c x, u, hs => by rw [renS, SR] at hs; rw [SR]; exact hs
  | .agg cs, u, hs => by rw [renS, SR] at hs; rw [SR]; exact hs
  | .tup ss, u, hs => by
    rw [renS, SR] at hs
    obtain ⟨us, e, hs⟩ := hs
    rw [SR]
    exact ⟨us, e, SRs_ren1 h ss us hs⟩
  | .fnp f ss, u, hs => by
    rw [renS, SR] at hs
    obtain ⟨us, e, hs⟩ := hs
    rw [SR]
    exact ⟨us, e, SRs_ren1 h ss us hs⟩
  | .st ss, u, hs => by
    rw [renS, SR] at hs
    obtain ⟨us, e, hs, h3⟩ := hs
    rw [SR]
    exact ⟨us, e, SRs_ren1 h ss us hs, h3⟩
  | .own i n, u, hs => by
    rw [renS, SR] at hs
    rw [SR]
    exact fun nil sz xs fx e1 e2 => hs nil sz xs fx (h i _ e1) e2
  | .ptr i o, u, hs => by
    rw [renS, SR] at hs
    rw [SR]
    exact fun fz ss e1 => hs fz _ (h i _ e1)
  | .ep i n j o, u, hs => by
    rw [renS, SR] at hs
    rw [SR]
    exact fun nil sz xs fx e1 e2 => hs nil sz xs fx (h i _ e1) e2
  | .suf i n j, u, hs => by
    rw [renS, SR] at hs
    rw [SR]
    exact fun nil sz xs fx e1 e2 => hs nil sz xs fx (h i _ e1) e2
  | .mp i, u, hs => by
    rw [renS, SR] at hs
    rw [SR]
    exact fun m e1 => hs _ (h i _ e1)
  | .pre i n m, u, hs => by
    rw [renS, SR] at hs
    rw [SR]
    exact fun nil sz xs fx e1 e2 => hs nil sz xs fx (h i _ e1) e2
  | .me i j o, u, hs => by
    rw [renS, SR] at hs
    rw [SR]
    intro nil sz xs e1 hj
    obtain ⟨b, cap, q1, q2⟩ := hs nil sz (List.map (fun e : List S => e.map (renS τ)) xs) (by rw [h i _ e1]; rfl) (by simpa using hj)
    exact ⟨b, cap, by simpa using q1, q2⟩
  | .g b s, u, hs => by
    rw [renS, SR] at hs
    rw [SR]
    exact ⟨fun e => SR_ren1 h s u (hs.1 e), hs.2⟩
  | .un, u, hs => by rw [SR]; trivial
theorem SRs_ren1 {τ : Nat → Nat} {g : G} {w : World} {R R0 : Nat → Option Res} (h : ∀ i r, R0 i = some r → R (τ i) = some (renR τ r)) :
    ∀ (ss : List S) (us : List Value), SRs g w R (renSs τ ss) us → SRs ⟨g.K, fun i => g.loc (τ i)⟩ w R0 ss us
  | [], us, hs => by rw [renSs, SRs] at hs; rw [SRs]; exact hs
  | s :: r, us, hs => by
    rw [renSs, SRs] at hs
    obtain ⟨u, us', e, h1, h2⟩ := hs
    rw [SRs]
    exact ⟨u, us', e, SR_ren1 h s u h1, SRs_ren1 h r us' h2⟩
end
def Ren2 (τ : Nat → Nat) (g0 g : G) (R0 R : Nat → Option Res) (j : Nat) : Prop := (∀ r', R (τ j) = some r' → ∃ r, R0 j = some r ∧ r' = renR τ r) ∧ g.loc (τ j) = g0.loc j
mutual
theorem SR_ren2 {τ : Nat → Nat} {g0 g : G} {w : World} {R R0 : Nat → Option Res} (hK : g.K = g0.K) :
    ∀ (s : S) (u : Value), (∀ j, s.men j = true → Ren2 τ g0 g R0 R j) → SR g0 w R0 s u → SR g w R (renS τ s) u
  | .c x, u, _, hs => by rw [SR] at hs; rw [renS, SR, hK]; exact hs
  | .agg cs, u, _, hs => by rw [SR] at hs; rw [renS, SR, hK]; exact hs
  | .tup ss, u, h, hs => by
    rw [SR] at hs
    obtain ⟨us, e, hs⟩ := hs
    rw [renS, SR]
    exact ⟨us, e, SRs_ren2 hK ss us (fun j hj => h j (by rw [S.men]; exact hj)) hs⟩
  | .fnp f ss, u, h, hs => by
    rw [SR] at hs
    obtain ⟨us, e, hs⟩ := hs
    rw [renS, SR]
    exact ⟨us, e, SRs_ren2 hK ss us (fun j hj => h j (by rw [S.men]; exact hj)) hs⟩
  | .st ss, u, h, hs => by
    rw [SR] at hs
    obtain ⟨us, e, hs, h3⟩ := hs
    rw [renS, SR]
    exact ⟨us, e, SRs_ren2 hK ss us (fun j hj => h j (by rw [S.men]; exact hj)) hs, h3⟩
  | .own i n, u, h, hs => by
    rw [SR] at hs
    rw [renS, SR]
    intro nil sz xs fx e1 e2
    obtain ⟨h1, h2⟩ := h i (by simp [S.men])
    obtain ⟨r, e3, e4⟩ := h1 _ e1
    cases r with
    | arr a1 a2 a3 a4 =>
      simp [renR] at e4
      obtain ⟨rfl, rfl, rfl, rfl⟩ := e4
      rw [h2]; exact hs _ _ _ _ e3 e2
    | _ => simp [renR] at e4
  | .ptr i o, u, h, hs => by
    rw [SR] at hs
    rw [renS, SR]
    intro fz ss e1
    obtain ⟨h1, h2⟩ := h i (by simp [S.men])
    obtain ⟨r, e3, e4⟩ := h1 _ e1
    cases r with
    | box a1 a2 =>
      rw [h2]; exact hs _ _ e3
    | _ => simp [renR] at e4
  | .ep i n j o, u, h, hs => by
    rw [SR] at hs
    rw [renS, SR]
    intro nil sz xs fx e1 e2
    obtain ⟨h1, h2⟩ := h i (by simp [S.men])
    obtain ⟨r, e3, e4⟩ := h1 _ e1
    cases r with
    | arr a1 a2 a3 a4 =>
      simp [renR] at e4
      obtain ⟨rfl, rfl, rfl, rfl⟩ := e4
      rw [h2]; exact hs _ _ _ _ e3 e2
    | _ => simp [renR] at e4
  | .suf i n j, u, h, hs => by
    rw [SR] at hs
    rw [renS, SR]
    intro nil sz xs fx e1 e2
    obtain ⟨h1, h2⟩ := h i (by simp [S.men])
    obtain ⟨r, e3, e4⟩ := h1 _ e1
    cases r with
    | arr a1 a2 a3 a4 =>
      simp [renR] at e4
      obtain ⟨rfl, rfl, rfl, rfl⟩ := e4
      rw [h2]; exact hs _ _ _ _ e3 e2
    | _ => simp [renR] at e4
  | .mp i, u, h, hs => by
    rw [SR] at hs
    rw [renS, SR]
    intro kvs e1
    obtain ⟨h1, h2⟩ := h i (by simp [S.men])
    obtain ⟨r, e3, e4⟩ := h1 _ e1
    cases r with
    | map k0 => rw [h2]; exact hs _ e3
    | _ => simp [renR] at e4
  | .pre i n m, u, h, hs => by
    rw [SR] at hs
    rw [renS, SR]
    intro nil sz xs fx e1 e2
    obtain ⟨h1, h2⟩ := h i (by simp [S.men])
    obtain ⟨r, e3, e4⟩ := h1 _ e1
    cases r with
    | arr a1 a2 a3 a4 =>
      simp [renR] at e4
      obtain ⟨rfl, rfl, rfl, rfl⟩ := e4
      rw [h2]; exact hs _ _ _ _ e3 e2
    | _ => simp [renR] at e4
  | .me i j o, u, h, hs => by
    rw [SR] at hs
    rw [renS, SR]
    intro nil sz xs e1 hj
    obtain ⟨h1, h2⟩ := h i (by simp [S.men])
    obtain ⟨r, e3, e4⟩ := h1 _ e1
    cases r with
    | map m =>
      cases m with
      | rows n0 z0 x0 =>
        simp only [renR, MB.map, Res.map.injEq, MB.rows.injEq] at e4
        obtain ⟨rfl, rfl, rfl⟩ := e4
        obtain ⟨b, cap, q1, q2⟩ := hs _ _ _ e3 (by simpa using hj)
        exact ⟨b, cap, by rw [h2]; simpa using q1, q2⟩
      | _ => simp [renR, MB.map] at e4
    | _ => simp [renR] at e4
  | .g b s, u, h, hs => by
    rw [SR] at hs
    rw [renS, SR]
    exact ⟨fun e => SR_ren2 hK s u (fun j hj => h j (by rw [S.men]; exact hj)) (hs.1 e), hs.2⟩
  | .un, u, _, hs => by rw [renS, SR]; trivial
theorem SRs_ren2 {τ : Nat → Nat} {g0 g : G} {w : World} {R R0 : Nat → Option Res} (hK : g.K = g0.K) :
    ∀ (ss : List S) (us : List Value), (∀ j, S.mens j ss = true → Ren2 τ g0 g R0 R j) → SRs g0 w R0 ss us → SRs g w R (renSs τ ss) us
  | [], us, _, hs => by rw [SRs] at hs; rw [renSs, SRs]; exact hs
  | s :: r, us, h, hs => by
    rw [SRs] at hs
    obtain ⟨u, us', e, h1, h2⟩ := hs
    rw [renSs, SRs]
    exact ⟨u, us', e, SR_ren2 hK s u (fun j hj => h j (by simp [S.mens, hj])) h1, SRs_ren2 hK r us' (fun j hj => h j (by simp [S.mens, hj])) h2⟩
end
theorem RR_ren1 {τ : Nat → Nat} {g : G} {w : World} {R R0 : Nat → Option Res} {B B0 : Nat → Prop} (h : ∀ i r, R0 i = some r → R (τ i) = some (renR τ r)) {i : Nat} {r : Res} (hB : ∀ b, blk (g.loc (τ i)) = some b → B0 b)
    (hr : RR g w R B (τ i) (renR τ r)) : RR ⟨g.K, fun i => g.loc (τ i)⟩ w R0 B0 i r := by
  cases r with
  | box fz ss =>
    obtain ⟨b, cur, E, h1, h2, h3, h4, h5, h6⟩ := hr
    rw [renSs_map] at h4 h5
    refine ⟨b, cur, E, h1, hB b (by rw [h1]; rfl), h3, by simpa using h4, fun k s hs => ?_, h6⟩
    obtain ⟨u, e1, e2, e3⟩ := h5 k (renS τ s) (by simp [hs])
    exact ⟨u, e1, SR_ren1 h s u e2, e3⟩
  | arr nil sz xs fx =>
    rcases hr with hr | ⟨h0, b, cap, cur, E, h1, h2, h3⟩
    · exact .inl hr
    · exact .inr ⟨h0, b, cap, cur, E, h1, hB b (by rw [h1]; rfl), h3⟩
  | pin v s => exact ⟨hr.1, SR_ren1 h s v hr.2⟩
  | map m =>
    have := MR.tr (g := g) (R := R) (w := w) (g' := ⟨g.K, fun i => g.loc (τ i)⟩) (w' := w) (R' := R0) (B' := fun b => B0 b) (i' := i) (f1 := renS τ) (f2 := fun s => s) (m := m) rfl (fun b e => ⟨rfl, fun _ k => k, fun _ => hB b e⟩) (fun s _ u hu => SR_ren1 h s u hu) hr
    rwa [MB.map_id] at this
def Res.ment (j : Nat) : Res → Bool
  | .box _ ss => S.mens j ss
  | .arr .. => false
  | .map m => m.men j
  | .pin _ s => s.men j
theorem mens_of {j : Nat} : ∀ {ss : List S} {s : S}, s ∈ ss → s.men j = true → S.mens j ss = true
  | x :: r, s, h, hm => by
    rw [S.mens]
    rcases List.mem_cons.1 h with rfl | h
    · simp [hm]
    · simp [mens_of h hm]
theorem RR_ren2 {τ : Nat → Nat} {g0 g : G} {w : World} {R R0 : Nat → Option Res} {B B0 : Nat → Prop} (hK : g.K = g0.K) {i : Nat} {r : Res} (hm : ∀ j, r.ment j = true → Ren2 τ g0 g R0 R j) (hi : g.loc (τ i) = g0.loc i)
    (hB : ∀ b, blk (g0.loc i) = some b → B0 b → B b) (hr : RR g0 w R0 B0 i r) : RR g w R B (τ i) (renR τ r) := by
  cases r with
  | box fz ss =>
    obtain ⟨b, cur, E, h1, h2, h3, h4, h5, h6⟩ := hr
    refine ⟨b, cur, E, by rw [hi]; exact h1, hB b (by rw [h1]; rfl) h2, h3, by rw [renSs_map]; simpa using h4, fun k s hs => ?_, by rw [hK]; exact h6⟩
    rw [renSs_map] at hs
    simp only [List.getElem?_map, Option.map_eq_some_iff] at hs
    obtain ⟨s0, hs0, rfl⟩ := hs
    obtain ⟨u, e1, e2, e3⟩ := h5 k s0 hs0
    exact ⟨u, e1, SR_ren2 hK s0 u (fun j hj => hm j (mens_of (List.mem_of_getElem? hs0) hj)) e2, e3⟩
  | arr nil sz xs fx =>
    rcases hr with ⟨h1, h2, h3, h4⟩ | ⟨h0, b, cap, cur, E, h1, h2, h3⟩
    · exact .inl ⟨h1, h2, by rw [hi]; exact h3, h4⟩
    · exact .inr ⟨h0, b, cap, cur, E, by rw [hi]; exact h1, hB b (by rw [h1]; rfl) h2, by rw [hK]; exact h3⟩
  | pin v s => exact ⟨by rw [hi]; exact hr.1, SR_ren2 hK s v (fun j hj => hm j hj) hr.2⟩
  | map m =>
    exact MR.tr (g := g0) (R := R0) (w := w) (g' := g) (w' := w) (R' := R) (B' := B) (i' := τ i) (f1 := fun s => s) (f2 := renS τ) (m := m) hi (fun b e => ⟨rfl, fun o k => by rw [hK] at k; exact k, fun hx => hB b e hx⟩)
      (fun s hs u hu => SR_ren2 hK s u (fun j hj => hm j (MB.men_of hs hj)) hu) (by rw [MB.map_id]; exact hr)
end Go.VL
set_option linter.unusedSimpArgs false
set_option linter.unusedVariables false
namespace Go.VL
open Go.RowKit
def S.clrL : List Nat → S → S
  | [], s => s
  | i :: r, s => S.clrL r (s.clr i)
def Res.clrL : List Nat → Res → Res
  | [], s => s
  | i :: r, s => Res.clrL r (s.clr i)
def St.clrL : List Nat → St → St
  | [], st => st
  | i :: r, st => St.clrL r (st.clr i)
theorem get_clrL : ∀ (C : List Nat) (st : St) (t : Nat), (st.clrL C).get t = (st.get t).clrL C
  | [], _, _ => rfl
  | i :: r, st, t => by rw [St.clrL, get_clrL r, St.get_clr]; rfl
theorem rs_clrL : ∀ (C : List Nat) (st : St) (n : Nat), (st.clrL C).rs n = (st.rs n).map (Res.clrL C)
  | [], st, n => by simp [St.clrL, show Res.clrL [] = id from rfl]
  | i :: r, st, n => by
    rw [St.clrL, rs_clrL r, St.rs_clr]
    cases st.rs n <;> rfl
theorem SR_clrL {g : G} {w : World} {R : Nat → Option Res} : ∀ (C : List Nat) (s : S) (u : Value), SR g w R s u → SR g w R (s.clrL C) u
  | [], _, _, h => h
  | i :: r, s, u, h => SR_clrL r (s.clr i) u (SR.clr i s u h)
theorem RR_clrL {g : G} {w : World} {R : Nat → Option Res} {B : Nat → Prop} {i : Nat} : ∀ (C : List Nat) (r : Res), RR g w R B i r → RR g w R B i (r.clrL C)
  | [], _, h => h
  | j :: C, r, h => RR_clrL C (r.clr j) (h.clr j)
theorem men_clrL (j : Nat) : ∀ (C : List Nat) (s : S), (s.clrL C).men j = true → j ∉ C ∧ s.men j = true
  | [], s, h => ⟨by simp, h⟩
  | i :: r, s, h => by
    obtain ⟨h1, h2⟩ := men_clrL j r (s.clr i) h
    obtain ⟨h3, h4⟩ := S.men_clr i j s h2
    exact ⟨by simp [h3, h1], h4⟩
theorem ment_clr (i j : Nat) (r : Res) (h : (r.clr i).ment j = true) : j ≠ i ∧ r.ment j = true := by
  cases r with
  | box fz ss =>
    simp only [Res.clr, Res.ment] at h ⊢
    induction ss with
    | nil => simp [S.mens] at h
    | cons s r ih =>
      simp only [List.map_cons, S.mens, Bool.or_eq_true] at h ⊢
      rcases h with h | h
      · obtain ⟨h1, h2⟩ := S.men_clr i j s h; exact ⟨h1, .inl h2⟩
      · obtain ⟨h1, h2⟩ := ih h; exact ⟨h1, .inr h2⟩
  | arr => simp [Res.clr, Res.ment] at h
  | map m => exact MB.men_clr i j m h
  | pin v s => exact S.men_clr i j s h
theorem ment_clrL (j : Nat) : ∀ (C : List Nat) (r : Res), (r.clrL C).ment j = true → j ∉ C ∧ r.ment j = true
  | [], r, h => ⟨by simp, h⟩
  | i :: C, r, h => by
    obtain ⟨h1, h2⟩ := ment_clrL j C (r.clr i) h
    obtain ⟨h3, h4⟩ := ment_clr i j r h2
    exact ⟨by simp [h3, h1], h4⟩
theorem RR.mono' {g g' : G} {w w' : World} {R R' : Nat → Option Res} {B : Nat → Prop} {i : Nat} {r : Res} (hk : Keeps g.K w g'.K w') (hl : g'.loc i = g.loc i)
    (hb : ∀ b, blk (g.loc i) = some b → w'.heap[b]? = w.heap[b]? ∧ ∀ o, g'.K b o → g.K b o)
    (hc : ∀ j, r.ment j = true → Cmp g R g' R' j) (h : RR g w R B i r) : RR g' w' R' B i r :=
  RR.mono hk hl hb (fun fz ss e s hs j hj => hc j (by subst e; exact mens_of hs hj)) (fun v s e j hj => hc j (by subst e; exact hj)) (fun m e j hj => hc j (by subst e; exact hj)) h
theorem kind_clrL : ∀ (C : List Nat) (r : Res), (∀ fz ss, r.clrL C = .box fz ss → ∃ fz0 ss0, r = .box fz0 ss0) ∧ (∀ nil sz xs fx, r.clrL C = .arr nil sz xs fx → r = .arr nil sz xs fx) ∧ (∀ m, r.clrL C = .map m → ∃ m0, r = .map m0 ∧ m0.sh = m.sh)
  | [], r => ⟨fun fz ss e => ⟨fz, ss, e⟩, fun _ _ _ _ e => e, fun m e => ⟨m, e, rfl⟩⟩
  | i :: C, r => by
    obtain ⟨h1, h2, h3⟩ := kind_clrL C (r.clr i)
    refine ⟨fun fz ss e => ?_, fun nil sz xs fx e => ?_, fun kvs e => ?_⟩
    · obtain ⟨fz0, ss0, e0⟩ := h1 fz ss e
      cases r <;> simp [Res.clr] at e0
      exact ⟨_, _, rfl⟩
    · have e0 := h2 nil sz xs fx e
      cases r <;> simp [Res.clr] at e0
      obtain ⟨rfl, rfl, rfl, rfl⟩ := e0
      rfl
    · obtain ⟨m0, e0, hs0⟩ := h3 kvs e
      cases r <;> simp [Res.clr] at e0
      exact ⟨_, rfl, by rw [← hs0, ← e0, MB.sh_clr]⟩
def alikeR : Res → Res → Prop
  | .box .., .box .. => True
  | .arr _ sz xs _, .arr _ sz' xs' _ => sz = sz' ∧ xs.length = xs'.length
  | .map m, .map m' => m.sh = m'.sh
  | _, _ => False
section
variable {w0 : World} {K0 : K0T} {nt : Nat} {st : St} {a : Act} {w : World} {g : G}
theorem T.lend (h : T w0 K0 nt st a w g) {b b' : List (Nat × Res)} {τ : Nat → Nat} {C : List Nat} {w' : World} {g0 : G}
    (hb : ∀ i r, lk b i = some r → st.rs (τ i) = some (renR τ r))
    (hM : M w ⟨g.K, lent ⟨g.K, fun i => g.loc (τ i)⟩ b, []⟩ (lk b') w' g0)
    (inj : ∀ i j, (lk b' i).isSome = true → (lk b' j).isSome = true → τ i = τ j → i = j)
    (cl : ∀ i r, lk b' i = some r → ∀ j, r.ment j = true → (lk b' j).isSome = true)
    (sub : ∀ i, (lk b i).isSome = true → (lk b' i).isSome = true)
    (hC : ∀ i r', lk b' i = some r' → τ i ∈ C ∨ ∃ r, lk b i = some r ∧ alikeR r r' ∧ g0.loc i = g.loc (τ i))
    {st' : St} (hget : st'.get = (st.clrL C).get) (hrs1 : ∀ i r, lk b' i = some r → st'.rs (τ i) = some (renR τ r))
    (hrs2 : ∀ n, (∀ i, (lk b' i).isSome = true → τ i ≠ n) → st'.rs n = (st.clrL C).rs n) :
    ∃ g', T w0 K0 nt st' a w' g' ∧ g'.K = g0.K ∧ (∀ i, (lk b' i).isSome = true → g'.loc (τ i) = g0.loc i) ∧ (∀ j, (lk b' j).isSome = true → Ren2 τ g0 g' (lk b') st'.rs j) := by
  classical
  let loc' : Nat → Value := fun n => if hx : ∃ i, (lk b' i).isSome = true ∧ τ i = n then g0.loc hx.choose else g.loc n
  have hl1 : ∀ i, (lk b' i).isSome = true → loc' (τ i) = g0.loc i := fun i hi => by
    have hx : ∃ j, (lk b' j).isSome = true ∧ τ j = τ i := ⟨i, hi, rfl⟩
    show (if hx : ∃ j, (lk b' j).isSome = true ∧ τ j = τ i then g0.loc hx.choose else g.loc (τ i)) = _
    rw [dif_pos hx]
    exact congrArg _ (inj _ _ hx.choose_spec.1 hi hx.choose_spec.2)
  have hl2 : ∀ n, (∀ i, (lk b' i).isSome = true → τ i ≠ n) → loc' n = g.loc n := fun n hn => by
    show (if hx : ∃ j, (lk b' j).isSome = true ∧ τ j = n then g0.loc hx.choose else g.loc n) = _
    rw [dif_neg (fun ⟨i, hi, e⟩ => hn i hi e)]
  let g' : G := ⟨g0.K, loc'⟩
  have hlent : ∀ k, lent ⟨g.K, fun i => g.loc (τ i)⟩ b k → ¬ Old w0 K0 k ∧ ∃ i r, lk b i = some r ∧ blk (g.loc (τ i)) = some k := fun k ⟨i, r, h1, h2⟩ =>
    ⟨((h.res _ _ (hb i r h1)).block h2).1, i, r, h1, h2⟩
  have hold : ∀ k, Old w0 K0 k → Old w ⟨g.K, lent ⟨g.K, fun i => g.loc (τ i)⟩ b, []⟩ k := fun k hk =>
    ⟨Nat.lt_of_lt_of_le hk.1 h.below.size, fun hl => (hlent k hl).1 hk⟩
  have hkeep : Keeps g.K w g'.K w' := ⟨hM.k0, fun b o k => hM.keep b o k⟩
  have hother : ∀ n r, st.rs n = some r → (∀ i, (lk b' i).isSome = true → τ i ≠ n) → ∀ k, blk (g.loc n) = some k → w'.heap[k]? = w.heap[k]? ∧ ∀ o, g'.K k o → g.K k o := by
    intro n r hn hne k hk
    have hk' : Old w ⟨g.K, lent ⟨g.K, fun i => g.loc (τ i)⟩ b, []⟩ k := ⟨(h.res n r hn).lt hk, fun hl => by
      obtain ⟨_, i, ri, h1, h2⟩ := hlent k hl
      exact h.dis _ _ _ _ (hb i ri h1) hn (hne i (sub i (by rw [h1]; rfl))) k h2 hk⟩
    exact ⟨hM.below.block k hk', fun o ho => hM.kold k o ho hk'⟩
  have hcmp : ∀ j, j ∉ C → Cmp g st.rs g' st'.rs j := by
    intro j hj
    by_cases hx : ∃ i, (lk b' i).isSome = true ∧ τ i = j
    · obtain ⟨i, hi, rfl⟩ := hx
      obtain ⟨r', hr'⟩ := Option.isSome_iff_exists.1 hi
      rcases hC i r' hr' with hc | ⟨r, h1, h2, h3⟩
      · exact absurd hc hj
      · have e1 := hrs1 i r' hr'
        have e2 := hb i r h1
        have e3 : g'.loc (τ i) = g.loc (τ i) := (hl1 i hi).trans h3
        cases r <;> cases r' <;> simp [alikeR] at h2
        · exact ⟨fun fz ss e => ⟨⟨_, _, e2⟩, e3⟩, fun nil sz xs fx e => (by rw [e1] at e; cases e), fun kvs e => (by rw [e1] at e; cases e)⟩
        · obtain ⟨rfl, h2⟩ := h2
          refine ⟨fun fz ss e => (by rw [e1] at e; cases e), fun nil sz xs fx e => ?_, fun kvs e => (by rw [e1] at e; cases e)⟩
          rw [e1] at e
          cases e
          exact ⟨⟨_, _, _, e2, h2⟩, e3⟩
        · exact ⟨fun fz ss e => (by rw [e1] at e; cases e), fun nil sz xs fx e => (by rw [e1] at e; cases e), fun kvs e => ⟨⟨_, e2, by
            rw [e1] at e; simp only [renR, Option.some.injEq, Res.map.injEq] at e; rw [← e, MB.sh_map, MB.sh_map, h2]⟩, e3⟩⟩
    · have hx' : ∀ i, (lk b' i).isSome = true → τ i ≠ j := fun i hi e => hx ⟨i, hi, e⟩
      have e1 := hrs2 j hx'
      rw [rs_clrL] at e1
      refine ⟨fun fz ss e => ?_, fun nil sz xs fx e => ?_, fun kvs e => ?_⟩
      · rw [e1] at e
        simp only [Option.map_eq_some_iff] at e
        obtain ⟨r, q1, q2⟩ := e
        obtain ⟨fz0, ss0, rfl⟩ := (kind_clrL C r).1 fz ss q2
        exact ⟨⟨_, _, q1⟩, hl2 j hx'⟩
      · rw [e1] at e
        simp only [Option.map_eq_some_iff] at e
        obtain ⟨r, q1, q2⟩ := e
        have := (kind_clrL C r).2.1 _ _ _ _ q2
        subst this
        exact ⟨⟨_, _, _, q1, rfl⟩, hl2 j hx'⟩
      · rw [e1] at e
        simp only [Option.map_eq_some_iff] at e
        obtain ⟨r, q1, q2⟩ := e
        obtain ⟨m0, rfl, hs0⟩ := (kind_clrL C r).2.2 _ q2
        exact ⟨⟨_, q1, hs0⟩, hl2 j hx'⟩
  have hren : ∀ j, (lk b' j).isSome = true → Ren2 τ g0 g' (lk b') st'.rs j := fun j hj => by
    obtain ⟨r, hr⟩ := Option.isSome_iff_exists.1 hj
    exact ⟨fun r' e => ⟨r, hr, by rw [hrs1 j r hr] at e; exact (Option.some.inj e).symm⟩, hl1 j hj⟩
  refine ⟨g', ⟨?_, fun b o k => hM.k0 b o (h.k0 b o k), fun b o k hb' => h.kold b o (hM.kold b o k (hold b hb')) hb', hM.klt, fun n r hn => ?_, fun n m r1 r2 hn hm hne k hk1 hk2 => ?_, fun t => ?_, h.nt, h.defers, fun b o k => (hM.keep b o (h.k0 b o k)).trans (h.keep b o k)⟩, rfl, hl1, hren⟩
  · exact h.below.trans ⟨hM.below.os, hM.below.tape, hM.below.output, hM.below.size, fun k hk => hM.below.block k (hold k hk), hM.below.drawn⟩
  · by_cases hx : ∃ i, (lk b' i).isSome = true ∧ τ i = n
    · obtain ⟨i, hi, rfl⟩ := hx
      obtain ⟨r', hr'⟩ := Option.isSome_iff_exists.1 hi
      rw [hrs1 i r' hr'] at hn
      cases hn
      refine RR_ren2 (g0 := g0) (g := g') (R0 := lk b') rfl (fun j hj => hren j (cl i r' hr' j hj)) (hl1 i hi) (fun k hk ho hold' => ?_) (hM.res i r' hr')
      exact ho (hold k hold')
    · have hx' : ∀ i, (lk b' i).isSome = true → τ i ≠ n := fun i hi e => hx ⟨i, hi, e⟩
      rw [hrs2 n hx', rs_clrL] at hn
      simp only [Option.map_eq_some_iff] at hn
      obtain ⟨r0, q1, rfl⟩ := hn
      exact RR.mono' hkeep (hl2 n hx') (fun k hk => hother n r0 q1 hx' k hk) (fun j hj => hcmp j (ment_clrL j C r0 hj).1) (RR_clrL C r0 (h.res n r0 q1))
  · by_cases hx : ∃ i, (lk b' i).isSome = true ∧ τ i = n
    · obtain ⟨i, hi, rfl⟩ := hx
      obtain ⟨ri, hri⟩ := Option.isSome_iff_exists.1 hi
      by_cases hy : ∃ j, (lk b' j).isSome = true ∧ τ j = m
      · obtain ⟨j, hj, rfl⟩ := hy
        obtain ⟨rj, hrj⟩ := Option.isSome_iff_exists.1 hj
        exact hM.dis i j ri rj hri hrj (fun e => hne (by rw [e])) k (by rw [← hl1 i hi]; exact hk1) (by rw [← hl1 j hj]; exact hk2)
      · have hy' : ∀ i, (lk b' i).isSome = true → τ i ≠ m := fun i hi e => hy ⟨i, hi, e⟩
        rw [hrs2 m hy', rs_clrL] at hm
        simp only [Option.map_eq_some_iff] at hm
        obtain ⟨r0, q1, _⟩ := hm
        have hk2' : blk (g.loc m) = some k := by rw [← hl2 m hy']; exact hk2
        have hk1' : blk (g0.loc i) = some k := by rw [← hl1 i hi]; exact hk1
        refine ((hM.res i ri hri).block hk1').1 ⟨(h.res m r0 q1).lt hk2', fun hl => ?_⟩
        obtain ⟨_, i', ri', h1, h2⟩ := hlent k hl
        exact h.dis _ _ _ _ (hb i' ri' h1) q1 (hy' i' (sub i' (by rw [h1]; rfl))) k h2 hk2'
    · have hx' : ∀ i, (lk b' i).isSome = true → τ i ≠ n := fun i hi e => hx ⟨i, hi, e⟩
      rw [hrs2 n hx', rs_clrL] at hn
      simp only [Option.map_eq_some_iff] at hn
      obtain ⟨r0, q1, _⟩ := hn
      have hk1' : blk (g.loc n) = some k := by rw [← hl2 n hx']; exact hk1
      by_cases hy : ∃ j, (lk b' j).isSome = true ∧ τ j = m
      · obtain ⟨j, hj, rfl⟩ := hy
        obtain ⟨rj, hrj⟩ := Option.isSome_iff_exists.1 hj
        have hk2' : blk (g0.loc j) = some k := by rw [← hl1 j hj]; exact hk2
        refine ((hM.res j rj hrj).block hk2').1 ⟨(h.res n r0 q1).lt hk1', fun hl => ?_⟩
        obtain ⟨_, i', ri', h1, h2⟩ := hlent k hl
        exact h.dis _ _ _ _ (hb i' ri' h1) q1 (hx' i' (sub i' (by rw [h1]; rfl))) k h2 hk1'
      · have hy' : ∀ i, (lk b' i).isSome = true → τ i ≠ m := fun i hi e => hy ⟨i, hi, e⟩
        rw [hrs2 m hy', rs_clrL] at hm
        simp only [Option.map_eq_some_iff] at hm
        obtain ⟨r1', q1', _⟩ := hm
        exact h.dis n m r0 r1' q1 q1' hne k hk1' (by rw [← hl2 m hy']; exact hk2)
  · rw [hget, get_clrL]
    exact SR.mono hkeep _ _ (fun j hj => hcmp j (men_clrL j C _ hj).1) (SR_clrL C _ _ (h.env t))
end
section
variable {w0 : World} {K0 : K0T} {nt : Nat} {st : St} {a : Act} {w : World} {g : G}
theorem T.fixbox (h : T w0 K0 nt st a w g) {i : Nat} {fz : Bool} {ss : List S} {cs : List C} (hi : st.rs i = some (.box fz ss))
    (hv : ∀ b cur E, g.loc i = .pointer (some ⟨b, 0, none⟩) → w.heap[b]? = some (.cells cur E (0, 0)) → VR g.K w cs cur.toList) :
    ∃ g', T w0 K0 nt (st.setR i (some (.box true (cs.map .c)))) a w g' ∧ (∀ s u, SR g w st.rs s u → SR g' w (st.setR i (some (.box true (cs.map .c)))).rs s u) ∧ (∀ b, g.loc i = .pointer (some ⟨b, 0, none⟩) → LR g'.K w b 0 cs) ∧ g'.loc = g.loc ∧ Keeps g.K w g'.K w := by
  obtain ⟨b, cur, E, h1, h2, h3, h4, h5, h6⟩ := h.res i _ hi
  have hvr := hv b cur E h1 h3
  obtain ⟨hl, hcv⟩ := (VR_iff _ _).1 hvr
  let K' : Nat → Nat → Prop := fun b' o => g.K b' o ∨ (b' = b ∧ o < cur.size)
  have hk : Keeps g.K w K' w := ⟨fun _ _ k => .inl k, fun _ _ _ => rfl⟩
  have hc : ∀ j, Cmp g st.rs ⟨K', g.loc⟩ (st.setR i (some (.box true (cs.map .c)))).rs j := fun j => by
    by_cases e : j = i
    · subst e
      exact ⟨fun fz' ss' e' => ⟨⟨fz, ss, hi⟩, rfl⟩, fun nil sz xs fx e' => (by rw [St.rs_setR, if_pos rfl] at e'; simp at e'), fun kvs e' => (by rw [St.rs_setR, if_pos rfl] at e'; simp at e')⟩
    · exact Cmp.same (by rw [St.rs_setR, if_neg (Ne.symm e)]) rfl
  refine ⟨⟨K', g.loc⟩, ?_, fun s u hs => SR.mono hk s u (fun j _ => hc j) hs, fun b' hb' => ?_, rfl, hk⟩
  · refine T.mod h hi (Bel.refl _ _ _) hk (fun b' o k ho => ?_) (fun b' o k => ?_) rfl (fun j r b' hj hr hb => ⟨rfl, fun o k => ?_⟩) (.inl ⟨fz, ss, true, _, rfl, rfl⟩) (fun _ => ?_)
    · rcases k with k | ⟨rfl, _⟩
      · exact h.kold _ _ k ho
      · exact absurd ho h2
    · rcases k with k | ⟨rfl, _⟩
      · exact h.klt _ _ k
      · exact (Array.getElem?_eq_some_iff.1 h3).1
    · rcases k with k | ⟨rfl, _⟩
      · exact k
      · exact absurd hb (h.dis i j _ _ hi hr (Ne.symm hj) b' (by rw [h1]; rfl))
    · refine ⟨b, cur, E, h1, h2, h3, by simpa using hl, fun k s hs => ?_, fun o _ => rfl⟩
      simp only [List.getElem?_map, Option.map_eq_some_iff] at hs
      obtain ⟨c, hc1, rfl⟩ := hs
      have hlt : k < cur.toList.length := by rw [hl]; exact (List.getElem?_eq_some_iff.1 hc1).1
      have hcr := hcv k c _ hc1 (List.getElem?_eq_getElem hlt)
      refine ⟨cur.toList[k], ?_, by rw [SR]; exact CR.mono hk c _ hcr, CR.one hcr⟩
      rw [← Array.getElem?_toList, List.getElem?_eq_getElem hlt]
  · rw [h1] at hb'
    simp at hb'
    subst hb'
    rw [LR_iff]
    intro k c hk1
    have hlt : k < cur.toList.length := by rw [hl]; exact (List.getElem?_eq_some_iff.1 hk1).1
    have hcr := hcv k c _ hk1 (List.getElem?_eq_getElem hlt)
    refine ⟨.inr ⟨rfl, by simpa using hlt⟩, cur.toList[k], ?_, CR.mono hk c _ hcr⟩
    rw [cell_of_heap h3, ← Array.getElem?_toList, Nat.zero_add, List.getElem?_eq_getElem hlt]
end
mutual
def S.nam : S → List Nat
  | .tup ss => S.nams ss
  | .fnp f ss => S.nams ss
  | .st ss => S.nams ss
  | .own i _ => [i]
  | .ptr i _ => [i]
  | .ep i _ _ _ => [i]
  | .suf i _ _ => [i]
  | .mp i => [i]
  | .me i _ _ => [i]
  | .pre i _ _ => [i]
  | .g _ s => S.nam s
  | _ => []
def S.nams : List S → List Nat
  | [] => []
  | s :: r => S.nam s ++ S.nams r
end
mutual
theorem S.nam_of {j : Nat} : ∀ (s : S), s.men j = true → j ∈ s.nam
  | .tup ss, h => by rw [S.men] at h; rw [S.nam]; exact S.nams_of ss h
  | .fnp f ss, h => by rw [S.men] at h; rw [S.nam]; exact S.nams_of ss h
  | .st ss, h => by rw [S.men] at h; rw [S.nam]; exact S.nams_of ss h
  | .own i n, h => by simp [S.men] at h; simp [S.nam, h]
  | .ptr i n, h => by simp [S.men] at h; simp [S.nam, h]
  | .ep i n k o, h => by simp [S.men] at h; simp [S.nam, h]
  | .suf i n k, h => by simp [S.men] at h; simp [S.nam, h]
  | .mp i, h => by simp [S.men] at h; simp [S.nam, h]
  | .me i n k, h => by simp [S.men] at h; simp [S.nam, h]
  | .pre i n k, h => by simp [S.men] at h; simp [S.nam, h]
  | .g b s, h => by rw [S.men] at h; rw [S.nam]; exact S.nam_of s h
  | .c x, h => by simp [S.men] at h
  | .agg cs, h => by simp [S.men] at h
  | .un, h => by simp [S.men] at h
theorem S.nams_of {j : Nat} : ∀ (ss : List S), S.mens j ss = true → j ∈ S.nams ss
  | [], h => by simp [S.mens] at h
  | s :: r, h => by
    simp only [S.mens, Bool.or_eq_true] at h
    rw [S.nams, List.mem_append]
    rcases h with h | h
    · exact .inl (S.nam_of s h)
    · exact .inr (S.nams_of r h)
end
def Res.nam : Res → List Nat
  | .box _ ss => S.nams ss
  | .arr .. => []
  | .map m => S.nams m.cells
  | .pin _ s => s.nam
theorem Res.nam_of {j : Nat} (r : Res) (h : r.ment j = true) : j ∈ r.nam := by
  cases r with
  | box fz ss => exact S.nams_of ss h
  | arr => simp [Res.ment] at h
  | map m =>
    simp only [Res.ment, MB.men, List.any_eq_true] at h
    obtain ⟨s, h1, h2⟩ := h
    exact S.nams_of m.cells (mens_of h1 h2)
  | pin v s => exact S.nam_of s h
theorem lk_mem : ∀ {b : List (Nat × Res)} {i : Nat} {r : Res}, lk b i = some r → (i, r) ∈ b
  | [], _, _, h => by simp [lk, vlook] at h
  | (k, x) :: l, i, r, h => by
    unfold lk at h
    simp only [List.map_cons, vlook] at h
    cases hk : (k == i) with
    | true => rw [hk] at h; simp at h; simp at hk; subst hk; subst h; simp
    | false => rw [hk] at h; simp at h; exact List.mem_cons_of_mem _ (lk_mem (b := l) h)
theorem lk_some : ∀ {b : List (Nat × Res)} {i : Nat}, i ∈ b.map (·.1) ↔ (lk b i).isSome = true
  | [], i => by simp [lk, vlook]
  | (k, x) :: l, i => by
    have ih := lk_some (b := l) (i := i)
    unfold lk at ih ⊢
    simp only [List.map_cons, vlook, List.mem_cons]
    by_cases hk : k = i
    · subst hk; simp
    · have : (k == i) = false := by simpa using hk
      rw [this]
      simp only [cond_false]
      rw [← ih]
      constructor
      · rintro (h | h)
        · exact absurd h.symm hk
        · exact h
      · exact .inr
def keptQ (r r' : Res) (i : Nat) : List S → List S → Prop
  | .ptr a o :: x, .ptr c o' :: y => (a = i ∧ c = i ∧ o = o' ∧ (∃ fz ss fz' ss', r = .box fz ss ∧ r' = .box fz' ss')) ∨ keptQ r r' i x y
  | _ :: x, _ :: y => keptQ r r' i x y
  | _, _ => False
def keptP (r r' : Res) (i : Nat) : List S → List S → Prop
  | .ptr a o :: x, .ptr c o' :: y => (a = i ∧ c = i ∧ o = o' ∧ (∃ fz ss fz' ss', r = .box fz ss ∧ r' = .box fz' ss')) ∨ keptP r r' i x y
  | .own a n :: x, .own c m :: y => (a = i ∧ c = i ∧ n = m ∧ (∃ nil sz xs fx nil' xs' fx', r = .arr nil sz xs fx ∧ r' = .arr nil' sz xs' fx' ∧ xs.length = n ∧ xs'.length = n)) ∨ keptP r r' i x y
  | .pre a n m :: x, .pre c n' m' :: y => (a = i ∧ c = i ∧ n = n' ∧ m = m' ∧ (∃ nil sz xs fx nil' xs' fx', r = .arr nil sz xs fx ∧ r' = .arr nil' sz xs' fx' ∧ xs.length = n ∧ xs'.length = n)) ∨ keptP r r' i x y
  | .mp a :: x, .mp c :: y => (a = i ∧ c = i ∧ (∃ m m', r = .map m ∧ r' = .map m' ∧ m.sh = m'.sh)) ∨ keptP r r' i x y
  | .fnp _ p :: x, .fnp _ q :: y => keptQ r r' i p q ∨ keptP r r' i x y
  | _ :: x, _ :: y => keptP r r' i x y
  | _, _ => False
theorem keptQ_ok {g g0 : G} {w w' : World} {R R' : Nat → Option Res} {r r' : Res} {i : Nat} (hR : R i = some r) (hR' : R' i = some r') : ∀ (x y : List S) (us : List Value), keptQ r r' i x y → SRs g w R x us → SRs g0 w' R' y us →
    alikeR r r' ∧ g0.loc i = g.loc i
  | [], _, _, h, _, _ => by simp [keptQ] at h
  | _ :: _, [], _, h, _, _ => by unfold keptQ at h; split at h <;> simp_all
  | s :: x, t :: y, us, h, h1, h2 => by
    rw [SRs] at h1 h2
    obtain ⟨u, us', rfl, a1, b1⟩ := h1
    obtain ⟨u', us'', e, a2, b2⟩ := h2
    cases e
    have ih := fun h => keptQ_ok hR hR' x y us' h b1 b2
    unfold keptQ at h
    split at h
    · rename_i e1 e2
      cases e1; cases e2
      rcases h with ⟨rfl, rfl, rfl, fz, ss, fz', ss', rfl, rfl⟩ | h
      · rw [SR] at a1 a2
        obtain ⟨b, c1, c2⟩ := a1 fz ss hR
        obtain ⟨b', c3, c4⟩ := a2 fz' ss' hR'
        rw [c2] at c4
        simp at c4
        exact ⟨trivial, by rw [c1, c3, c4]⟩
      · exact ih h
    · rename_i e1 e2
      cases e1; cases e2
      exact ih h
    · exact h.elim
theorem keptP_ok {g g0 : G} {w w' : World} {R R' : Nat → Option Res} {r r' : Res} {i : Nat} (hR : R i = some r) (hR' : R' i = some r') : ∀ (x y : List S) (us : List Value), keptP r r' i x y → SRs g w R x us → SRs g0 w' R' y us →
    alikeR r r' ∧ g0.loc i = g.loc i
  | [], _, _, h, _, _ => by simp [keptP] at h
  | _ :: _, [], _, h, _, _ => by unfold keptP at h; split at h <;> simp_all
  | s :: x, t :: y, us, h, h1, h2 => by
    rw [SRs] at h1 h2
    obtain ⟨u, us', rfl, a1, b1⟩ := h1
    obtain ⟨u', us'', e, a2, b2⟩ := h2
    cases e
    have ih := fun h => keptP_ok hR hR' x y us' h b1 b2
    unfold keptP at h
    split at h
    · rename_i e1 e2
      cases e1; cases e2
      rcases h with ⟨rfl, rfl, rfl, fz, ss, fz', ss', rfl, rfl⟩ | h
      · rw [SR] at a1 a2
        obtain ⟨b, c1, c2⟩ := a1 fz ss hR
        obtain ⟨b', c3, c4⟩ := a2 fz' ss' hR'
        rw [c2] at c4
        simp at c4
        exact ⟨trivial, by rw [c1, c3, c4]⟩
      · exact ih h
    · rename_i e1 e2
      cases e1; cases e2
      rcases h with ⟨rfl, rfl, rfl, nil, sz, xs, fx, nil', xs', fx', rfl, rfl, c1, c2⟩ | h
      · rw [SR] at a1 a2
        have d1 := a1 nil sz xs fx hR c1
        have d2 := a2 nil' sz xs' fx' hR' c2
        exact ⟨⟨rfl, by rw [c1, c2]⟩, by rw [← d1, ← d2]⟩
      · exact ih h
    · rename_i e1 e2
      cases e1; cases e2
      rcases h with ⟨rfl, rfl, rfl, rfl, nil, sz, xs, fx, nil', xs', fx', rfl, rfl, c1, c2⟩ | h
      · rw [SR] at a1 a2
        obtain ⟨p1, cap1, d1, e1⟩ := a1 nil sz xs fx hR c1
        obtain ⟨p2, cap2, d2, e2⟩ := a2 nil' sz xs' fx' hR' c2
        rw [e1] at e2
        cases e2
        exact ⟨⟨rfl, by rw [c1, c2]⟩, by rw [d1, d2]⟩
      · exact ih h
    · rename_i e1 e2
      cases e1; cases e2
      rcases h with ⟨rfl, rfl, m, m', rfl, rfl, hsh⟩ | h
      · rw [SR] at a1 a2
        have d1 := a1 m hR
        have d2 := a2 m' hR'
        exact ⟨hsh, by rw [← d1, ← d2]⟩
      · exact ih h
    · rename_i e1 e2
      cases e1; cases e2
      rcases h with h | h
      · rw [SR] at a1 a2
        obtain ⟨us1, c1, d1⟩ := a1
        obtain ⟨us2, c2, d2⟩ := a2
        rw [c1] at c2
        have e : us1 = us2 := by simpa using (Value.func.inj c2).2.2
        subst e
        exact keptQ_ok hR hR' _ _ us1 h d1 d2
      · exact ih h
    · rename_i e1 e2
      cases e1; cases e2
      exact ih h
    · exact h.elim
def lendSt (st : St) (τ : Nat → Nat) (C : List Nat) (b' : List (Nat × Res)) : St :=
  ⟨(st.clrL C).env, (b'.map fun p => (τ p.1, some (renR τ p.2))) ++ (st.clrL C).res⟩
def retS (τ : Nat → Nat) : List S → S
  | [r] => renS τ r
  | rs => .tup (renSs τ rs)
theorem look_app (τ : Nat → Nat) (l : List (Nat × Option Res)) : ∀ (b' : List (Nat × Res)) (n : Nat), vlook none ((b'.map fun p => (τ p.1, some (renR τ p.2))) ++ l) n =
    if n ∈ b'.map (fun p => τ p.1) then vlook none (b'.map fun p => (τ p.1, some (renR τ p.2))) n else vlook none l n
  | [], n => by simp
  | p :: b', n => by
    simp only [List.map_cons, List.cons_append, vlook, List.mem_cons]
    cases hk : (τ p.1 == n) with
    | true => simp at hk; simp [hk]
    | false =>
      have hne : τ p.1 ≠ n := by simpa using hk
      simp only [cond_false, look_app τ l b' n]
      by_cases hm : n ∈ b'.map (fun p => τ p.1)
      · rw [if_pos hm, if_pos (.inr hm)]
      · rw [if_neg hm, if_neg (fun h => h.elim (fun h => hne h.symm) hm)]
theorem look_in {τ : Nat → Nat} : ∀ {b' : List (Nat × Res)}, (b'.map fun p => τ p.1).Nodup → ∀ {i : Nat} {r : Res}, lk b' i = some r → vlook none (b'.map fun p => (τ p.1, some (renR τ p.2))) (τ i) = some (renR τ r)
  | [], _, i, r, h => by simp [lk, vlook] at h
  | (k, x) :: b', hnd, i, r, h => by
    simp only [List.map_cons, List.nodup_cons] at hnd
    unfold lk at h
    simp only [List.map_cons, vlook] at h ⊢
    cases hk : (k == i) with
    | true => rw [hk] at h; simp at h; simp at hk; subst hk; subst h; simp
    | false =>
      rw [hk] at h
      simp only [cond_false] at h
      have hm : τ i ∈ b'.map (fun p => τ p.1) := List.mem_map.2 ⟨(i, r), lk_mem (b := b') h, rfl⟩
      have : (τ k == τ i) = false := by
        simp only [beq_eq_false_iff_ne, ne_eq]
        exact fun e => hnd.1 (e ▸ hm)
      rw [this]
      exact look_in (b' := b') hnd.2 h
theorem nodup_inj {α : Type} {f : α → Nat} : ∀ {l : List α}, (l.map f).Nodup → ∀ {x y : α}, x ∈ l → y ∈ l → f x = f y → x = y
  | [], _, _, _, h, _, _ => by cases h
  | z :: l, hnd, x, y, hx, hy, e => by
    simp only [List.map_cons, List.nodup_cons] at hnd
    rcases List.mem_cons.1 hx with h1 | h1
    · rcases List.mem_cons.1 hy with h2 | h2
      · rw [h1, h2]
      · exact absurd (List.mem_map.2 ⟨y, h2, by rw [← e, h1]⟩) hnd.1
    · rcases List.mem_cons.1 hy with h2 | h2
      · exact absurd (List.mem_map.2 ⟨x, h1, by rw [e, h2]⟩) hnd.1
      · exact nodup_inj hnd.2 h1 h2 e
structure LendOk (P : Program) (st : St) (fid : FuncId) (args : List S) (b b' : List (Nat × Res)) (as0 rs as1 : List S) (τ : Nat → Nat) (C : List Nat) : Prop where
  con : ConB P fid as0 b rs as1 b'
  args : args = renSs τ as0
  pre : ∀ p ∈ b, st.rs (τ p.1) = some (renR τ p.2)
  inj : (b'.map fun p => τ p.1).Nodup
  sub : ∀ p ∈ b, p.1 ∈ b'.map (·.1)
  cl : ∀ p ∈ b', ∀ j ∈ p.2.nam, j ∈ b'.map (·.1)
  clr : ∀ j ∈ S.nams rs, j ∈ b'.map (·.1)
  kept : ∀ p ∈ b', τ p.1 ∈ C ∨ ∃ r, lk b p.1 = some r ∧ keptP r p.2 p.1 as0 as1
section
variable {P : Program} {w0 : World} {K0 : K0T} {nt : Nat} {st : St} {a : Act} {w : World} {g : G}
theorem LendOk.calls {fid : FuncId} {args : List S} {b b' : List (Nat × Res)} {as0 rs as1 : List S} {τ : Nat → Nat} {C : List Nat} (L : LendOk P st fid args b b' as0 rs as1 τ C) (h : T w0 K0 nt st a w g) {us : List Value} (hu : SRs g w st.rs args us) :
    Calls P fid us.toArray w fun e w' => ∃ (vs : List Value) (g' : G), e = .returned (retV vs) ∧ T w0 K0 nt (lendSt st τ C b') a w' g' ∧ SRs g' w' (lendSt st τ C b').rs (renSs τ rs) vs := by
  have hb : ∀ i r, lk b i = some r → st.rs (τ i) = some (renR τ r) := fun i r hi => L.pre (i, r) (lk_mem hi)
  have inj : ∀ i j, (lk b' i).isSome = true → (lk b' j).isSome = true → τ i = τ j → i = j := by
    intro i j hi hj e
    obtain ⟨ri, hri⟩ := Option.isSome_iff_exists.1 hi
    obtain ⟨rj, hrj⟩ := Option.isSome_iff_exists.1 hj
    exact (Prod.mk.inj (nodup_inj L.inj (lk_mem hri) (lk_mem hrj) e)).1
  have sub : ∀ i, (lk b i).isSome = true → (lk b' i).isSome = true := fun i hi => by
    obtain ⟨r, hr⟩ := Option.isSome_iff_exists.1 hi
    exact lk_some.1 (L.sub _ (lk_mem hr))
  have hu0 := hu
  rw [L.args] at hu
  have hu' := SRs_ren1 hb as0 us hu
  have hM0 : M w ⟨g.K, lent ⟨g.K, fun i => g.loc (τ i)⟩ b, []⟩ (lk b) w ⟨g.K, fun i => g.loc (τ i)⟩ := by
    refine ⟨Bel.refl _ _ _, fun _ _ k => k, fun _ _ k _ => k, h.klt, fun i r hi => ?_, fun i j ri rj hi hj hne k h1 h2 => ?_, fun _ _ _ => rfl⟩
    · exact RR_ren1 hb (fun k hk ho => ho.2 ⟨i, r, hi, hk⟩) (h.res _ _ (hb i r hi))
    · exact h.dis _ _ _ _ (hb i ri hi) (hb j rj hj) (fun e => hne (inj i j (sub i (by rw [hi]; rfl)) (sub j (by rw [hj]; rfl)) e)) k h1 h2
  refine (L.con.2 w _ us hM0 hu').mono fun e w' ⟨vs, g0, he, hM, hrs, has⟩ => ?_
  obtain ⟨g', k1, k2, k3, k4⟩ := T.lend h (st' := lendSt st τ C b') (C := C) hb hM inj (fun i r hi j hj => lk_some.1 (L.cl (i, r) (lk_mem hi) j (r.nam_of hj))) sub (fun i r' hi => by
      rcases L.kept (i, r') (lk_mem hi) with hc | ⟨r, h1, h2⟩
      · exact .inl hc
      · obtain ⟨q1, q2⟩ := keptP_ok h1 hi as0 as1 us h2 hu' has
        exact .inr ⟨r, h1, q1, q2⟩) rfl (fun i r hi => by
      show vlook none ((b'.map fun p => (τ p.1, some (renR τ p.2))) ++ (st.clrL C).res) (τ i) = _
      rw [look_app, if_pos (List.mem_map.2 ⟨(i, r), lk_mem hi, rfl⟩)]
      exact look_in L.inj hi) (fun n hn => by
      show vlook none ((b'.map fun p => (τ p.1, some (renR τ p.2))) ++ (st.clrL C).res) n = _
      rw [look_app, if_neg (fun hm => by
        obtain ⟨p, hp, e⟩ := List.mem_map.1 hm
        exact hn p.1 (lk_some.1 (List.mem_map.2 ⟨p, hp, rfl⟩)) e)]
      rfl)
  exact ⟨vs, g', he, k1, SRs_ren2 k2 rs vs (fun j hj => k4 j (lk_some.1 (L.clr j (S.nams_of rs hj)))) hrs⟩
end
end Go.VL
