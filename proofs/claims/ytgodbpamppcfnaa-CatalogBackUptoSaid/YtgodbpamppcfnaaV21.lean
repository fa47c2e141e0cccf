/-
  A logic on data over the model's walk, part 21: how simp reckons a region that draws its order.
-/
import Derived.Test.YtgodbpamppcfnaaV20
set_option linter.unusedSimpArgs false
set_option linter.unusedVariables false
namespace Go.VL
open Go.RowKit

section
variable {P : Program} {w0 : World} {K0 : K0T} {nt : Nat}

/-- A REGION THAT DRAWS ITS ORDER, as it is left. pl: masks and bars (see the program that prints them). -/
theorem VL.draw {id : Nat} {l : List Oper} {st : St} {Q : Exit → St → Prop} (hm : P.follows .mixedOrders = true) (pl : List (Nat × Bool)) (hS : (staticB nt l.toArray (pmask pl) (pbar pl) && pl.length == l.toArray.size) = true)
    (hv : vd P l.toArray l pl 0 st [] st (Q .normal)) : VL P w0 K0 nt (.region id l.toArray true) st Q .mk .mk :=
  vw_draw hm pl hS hv

theorem T.re {st : St} {a : Act} {w : World} {g : G} {t : Nat} {s : S} (h : T w0 K0 nt st a w g) (hs : SR g w st.rs s (a.tmps.getD t undef)) : T w0 K0 nt (st.put t s) a w g := by
  refine ⟨h.below, h.k0, h.kold, h.klt, h.res, h.dis, fun t' => ?_, h.nt, h.defers, h.keep⟩
  rw [St.get_put]
  by_cases e : t = t'
  · subst e; rw [if_pos rfl]; exact hs
  · rw [if_neg e]; exact h.env t'
/-- ONE'S OWN ROW (in slot t) is a datum from now on -/
theorem VL.snap {c : Code} {st : St} {Q : Exit → St → Prop} (t : Nat) (h : force (tick (st.get t)) fun s => vsnap st s fun s' st' => force (tick (st'.put t s')) fun st' => VL P w0 K0 nt c st' Q .mk .mk) : VL P w0 K0 nt c st Q .mk .mk := by
  intro a w g hT
  have h' : vsnap st (st.get t) fun s' st' => VL P w0 K0 nt c (st'.put t s') Q .mk .mk := h
  obtain ⟨s', st', g', k1, k2, k3, _⟩ := vsnap_ok hT (hT.env t) h'
  exact k1 a w g' (k2.re k3)

@[simp ↓] theorem vd_nil (ops : Array Oper) (pl : List (Nat × Bool)) (j : Nat) (st0 : St) (l : List Rec) (cur : St) (K : St → Prop) : vd P ops [] pl j st0 l cur K = force (tick cur) K := by rw [vd]; rfl
@[simp ↓] theorem vd_bar (ops : Array Oper) (o : Oper) (r : List Oper) (m : Nat) (pl : List (Nat × Bool)) (j : Nat) (st0 : St) (l : List Rec) (cur : St) (K : St → Prop) :
    vd P ops (o :: r) ((m, true) :: pl) j st0 l cur K = force (tick cur) fun cur => vstep P ops cur o fun st' => force (tick st') fun st' => vd P ops r pl (j + 1) st' [] st' K := by rw [vd]; rfl
@[simp ↓] theorem vd_op (ops : Array Oper) (o : Oper) (r : List Oper) (m : Nat) (pl : List (Nat × Bool)) (j : Nat) (st0 : St) (l : List Rec) (cur : St) (K : St → Prop) :
    vd P ops (o :: r) ((m, false) :: pl) j st0 l cur K = force (tick cur) fun cur => force (tick (rdOf cur o)) fun rd => force (tick (restr cur rd)) fun sR => veff P ops sR o fun e => force (tick e) fun e => chk m st0 l e rd = true ∧ force (tick (l ++ [⟨j, e, rd⟩])) fun l => vd P ops r pl (j + 1) st0 l (cur.app e) K := by rw [vd]; rfl

variable (ops : Array Oper) (st : St) (d : Option Nat) (ty : TypeId) (p : String) (af : Array Edge) (k : Eff → Prop)
def goE (st : St) (d : Option Nat) (s : S) (k : Eff → Prop) : Prop := s.kn st.rs = true ∧ k ⟨d, s, [], false⟩
@[simp ↓] theorem goE_eq (s : S) : goE st d s k = (s.kn st.rs = true ∧ k ⟨d, s, [], false⟩) := rfl

@[simp ↓] theorem ve_move (x : Operand) : veff P ops st ⟨d, .move x, ty, p, af, none⟩ k = force (tick (st.ev x)) fun s => goE st d s k := by rw [force_eq, tick_eq]; simp [veff, vePure, pev]
@[simp ↓] theorem ve_assign (x : Operand) : veff P ops st ⟨d, .assign x, ty, p, af, none⟩ k = force (tick (st.ev x)) fun s => goE st d s k := by rw [force_eq, tick_eq]; simp [veff, vePure, pev]
@[simp ↓] theorem ve_binOp (o : BinOp) (t yt : TypeId) (x y : Operand) : veff P ops st ⟨d, .binOp o t x y yt, ty, p, af, none⟩ k = force (tick (pbinS P st o t (st.ev x) (st.ev y))) fun r => goS r fun s => goE st d s k := rfl
@[simp ↓] theorem ve_unOp (o : UnOp) (t : TypeId) (x : Operand) : veff P ops st ⟨d, .unOp o t x, ty, p, af, none⟩ k = force (tick (pun o (st.ev x))) fun r => goS r fun s => goE st d s k := rfl
@[simp ↓] theorem ve_convert (a b : TypeId) (x : Operand) : veff P ops st ⟨d, .convert a b x, ty, p, af, none⟩ k = force (tick (pconv P st a b (st.ev x))) fun r => goS r fun s => goE st d s k := rfl
@[simp ↓] theorem ve_fieldAddr (t : TypeId) (x : Operand) (f : Nat) : veff P ops st ⟨d, .fieldAddr t x f, ty, p, af, none⟩ k = force (tick (pfieldAddr P st t f (st.ev x))) fun r => goS r fun s => goE st d s k := rfl
@[simp ↓] theorem ve_field (t : TypeId) (x : Operand) (f : Nat) : veff P ops st ⟨d, .field t x f, ty, p, af, none⟩ k = force (tick (pfield P t f (st.ev x))) fun r => goS r fun s => goE st d s k := rfl
@[simp ↓] theorem ve_indexAddr (t : TypeId) (x i : Operand) : veff P ops st ⟨d, .indexAddr t x i, ty, p, af, none⟩ k = force (tick (pindexAddr P st t (st.ev x) (st.ev i))) fun r => goS r fun s => goE st d s k := rfl
@[simp ↓] theorem ve_index (t : TypeId) (x i : Operand) : veff P ops st ⟨d, .index t x i, ty, p, af, none⟩ k = force (tick (pindex P t (st.ev x) (st.ev i))) fun r => goS r fun s => goE st d s k := rfl
@[simp ↓] theorem ve_nilCheck (x : Operand) : veff P ops st ⟨d, .nilCheck x, ty, p, af, none⟩ k = force (tick (pnil st (st.ev x))) fun r => goS r fun s => goE st d s k := rfl
@[simp ↓] theorem ve_extract (x : Operand) (n : Nat) : veff P ops st ⟨d, .extract x n, ty, p, af, none⟩ k = force (tick (pext n (st.ev x))) fun r => goS r fun s => goE st d s k := rfl
@[simp ↓] theorem ve_load (t : TypeId) (x : Operand) : veff P ops st ⟨d, .load t x, ty, p, af, none⟩ k = force (tick (pload P st t (st.ev x))) fun r => goS r fun s => goE st d s k := rfl
@[simp ↓] theorem ve_slice (t : TypeId) (x : Operand) (lo hi mx : Option Operand) : veff P ops st ⟨d, .slice t x lo hi mx, ty, p, af, none⟩ k = force (tick (pslice P t (st.ev x) (lo.map st.ev) (hi.map st.ev) (mx.map st.ev))) fun r => goS r fun s => goE st d s k := rfl
@[simp ↓] theorem ve_build (t : TypeId) (parts : List (Nat × Operand)) : veff P ops st ⟨d, .build t parts.toArray, ty, p, af, none⟩ k = force (tick (pbuild P t (parts.map fun p => (p.1, st.ev p.2)))) fun r => goS r fun s => goE st d s k := rfl
@[simp ↓] theorem ve_makeFunc (f : FuncId) : veff P ops st ⟨d, .makeFunc (.func f) #[] #[], ty, p, af, none⟩ k = goE st d (.c (.fn f [])) k := by
  simp [veff, vePure, pev]
@[simp ↓] theorem ve_len (t : TypeId) (x : Operand) : veff P ops st ⟨d, .call ⟨.builtin .len, #[x], #[t]⟩, ty, p, af, none⟩ k = force (tick (plen P st t (st.ev x))) fun r => goS r fun s => goE st d s k := rfl
@[simp ↓] theorem ve_max (ts : Array TypeId) (x : Operand) (r : List Operand) : veff P ops st ⟨d, .call ⟨.builtin .max, ⟨x :: r⟩, ts⟩, ty, p, af, none⟩ k = force (tick (pmm true (st.ev x) (r.map st.ev))) fun r => goS r fun s => goE st d s k := rfl
@[simp ↓] theorem ve_min (ts : Array TypeId) (x : Operand) (r : List Operand) : veff P ops st ⟨d, .call ⟨.builtin .min, ⟨x :: r⟩, ts⟩, ty, p, af, none⟩ k = force (tick (pmm false (st.ev x) (r.map st.ev))) fun r => goS r fun s => goE st d s k := rfl
@[simp ↓] theorem ve_pick (c x y : Operand) : veff P ops st ⟨d, .pick c x y, ty, p, af, none⟩ k = force (tick (vpick true (st.ev c) (st.ev x) (st.ev y))) fun r => goS r fun s => goE st d s k := by
  rw [force_eq, tick_eq]; simp [veff, PStep, gflag, wrapg, goS]
@[simp ↓] theorem ve_alloc (t : TypeId) : veff P ops st ⟨d, .alloc t, ty, p, af, none⟩ k = veAlloc P d t k := rfl
@[simp ↓] theorem ve_store (t : TypeId) (x y : Operand) : veff P ops st ⟨d, .store t x y, ty, p, af, none⟩ k = force (tick (st.ev x)) fun x => force (tick (st.ev y)) fun y => veStore P st t x y k := rfl
def veApO (r : Option Res) (s B i n y : Nat) (ys : List (List C)) (kl : List (Nat × Res)) (k : Eff → Prop) : Prop :=
  match r with
  | some (.arr nil sz xs fx) => kl.all (fun p => p.1 != 64 * y && p.1 != i) = true ∧ (i != 64 * y) = true ∧ xs.length = n ∧ (nil = false → sz = s) ∧ (∀ e ∈ ys, e.length = s) ∧ 0 < B ∧ (xs.length + ys.length) * B ≤ 140737488355328 ∧
      k ⟨some y, .own (64 * y) (n + ys.length), kl ++ [(i, dead), (64 * y, .arr (nil && ys.isEmpty) s (xs ++ ys) fx)], true⟩
  | _ => False
@[simp ↓] theorem veApO_arr (nil : Bool) (sz : Nat) (xs : List (List C)) (fx s B i n y : Nat) (ys : List (List C)) (kl : List (Nat × Res)) : veApO (some (.arr nil sz xs fx)) s B i n y ys kl k =
  (kl.all (fun p => p.1 != 64 * y && p.1 != i) = true ∧ (i != 64 * y) = true ∧ xs.length = n ∧ (nil = false → sz = s) ∧ (∀ e ∈ ys, e.length = s) ∧ 0 < B ∧ (xs.length + ys.length) * B ≤ 140737488355328 ∧
      k ⟨some y, .own (64 * y) (n + ys.length), kl ++ [(i, dead), (64 * y, .arr (nil && ys.isEmpty) s (xs ++ ys) fx)], true⟩) := rfl
def veApX (d : S) (o : Option (List (List C) × List (Nat × Res))) (st : St) (s B y : Nat) (k : Eff → Prop) : Prop :=
  match o with
  | some (ys, kl) =>
    match d with
    | .c (.sl true []) => kl.all (fun p => p.1 != 64 * y) = true ∧ (∀ e ∈ ys, e.length = s) ∧ 0 < B ∧ ys.length * B ≤ 140737488355328 ∧ k ⟨some y, .own (64 * y) ys.length, kl ++ [(64 * y, .arr ys.isEmpty s ys 0)], true⟩
    | .own i n => veApO (st.rs i) s B i n y ys kl k
    | _ => False
  | none => False
@[simp ↓] theorem veApX_nil (ys : List (List C)) (kl : List (Nat × Res)) (s B y : Nat) : veApX (.c (.sl true [])) (some (ys, kl)) st s B y k =
  (kl.all (fun p => p.1 != 64 * y) = true ∧ (∀ e ∈ ys, e.length = s) ∧ 0 < B ∧ ys.length * B ≤ 140737488355328 ∧ k ⟨some y, .own (64 * y) ys.length, kl ++ [(64 * y, .arr ys.isEmpty s ys 0)], true⟩) := rfl
@[simp ↓] theorem veApX_own (i n : Nat) (ys : List (List C)) (kl : List (Nat × Res)) (s B y : Nat) : veApX (.own i n) (some (ys, kl)) st s B y k = force (tick (st.rs i)) fun r => veApO r s B i n y ys kl k := rfl
def veApT (z : Option (Nat × Nat)) (d x : S) (st : St) (y : Nat) (k : Eff → Prop) : Prop :=
  match z with
  | some (s, B) => force (tick (veOpd st x)) fun o => veApX d o st s B y k
  | none => False
@[simp ↓] theorem veApT_some (s B : Nat) (d x : S) (y : Nat) : veApT (some (s, B)) d x st y k = force (tick (veOpd st x)) fun o => veApX d o st s B y k := rfl
def veOpR (r : Option Res) (j m : Nat) : Option (List (List C) × List (Nat × Res)) :=
  match r with
  | some (.arr _ _ ys _) => if ys.length = m then some (ys, [(j, dead)]) else none
  | _ => none
@[simp] theorem veOpR_arr (nil : Bool) (sz : Nat) (ys : List (List C)) (fx j m : Nat) : veOpR (some (.arr nil sz ys fx)) j m = if ys.length = m then some (ys, [(j, dead)]) else none := rfl
@[simp] theorem veOpd_c (nil : Bool) (ys : List (List C)) : veOpd st (.c (.sl nil ys)) = some (ys, []) := rfl
@[simp] theorem veOpd_own (j m : Nat) : veOpd st (.own j m) = veOpR (st.rs j) j m := rfl
@[simp ↓] theorem ve_append (t xt : TypeId) (x z : Operand) (y : Nat) : veff P ops st ⟨some y, .call ⟨.builtin .append, #[x, z], #[t, xt]⟩, ty, p, af, none⟩ k =
    force (tick (st.ev x)) fun x => force (tick (st.ev z)) fun z => force (tick (apT P t xt)) fun q => veApT q x z st y k := by
  show veAppend P (some y) st t xt (st.ev x) (st.ev z) k = veApT (apT P t xt) (st.ev x) (st.ev z) st y k
  unfold veAppend apT veApT
  cases slT P t with
  | none => rfl
  | some q =>
    obtain ⟨s, B⟩ := q
    cases P.underlying xt with
    | none => rfl
    | some de =>
      cases de with
      | slice e =>
        simp only [force, tick]
        cases veOpd st (st.ev z) with
        | none => rfl
        | some o => obtain ⟨ys, kl⟩ := o; rfl
      | _ => rfl
def veBO (out : Option (List C)) (s : Nat) (zc : List C) (len x : Nat) (ss : List S) (k : Eff → Prop) : Prop :=
  match out with
  | some out => ss.all dataS = true ∧ zc.length = s ∧ len * s ≤ 16777216 ∧ 0 < s ∧ len ≤ maxLen ∧ k ⟨some x, .own (64 * x) len, [(64 * x, .arr false s (chunks s len out) 0)], true⟩
  | none => False
@[simp ↓] theorem veBO_some (out : List C) (s : Nat) (zc : List C) (len x : Nat) (ss : List S) : veBO (some out) s zc len x ss k = (ss.all dataS = true ∧ zc.length = s ∧ len * s ≤ 16777216 ∧ 0 < s ∧ len ≤ maxLen ∧ k ⟨some x, .own (64 * x) len, [(64 * x, .arr false s (chunks s len out) 0)], true⟩) := rfl
def veBZ (z : Option (Nat × List C)) (len x : Nat) (is : List Nat) (ss : List S) (k : Eff → Prop) : Prop :=
  match z with
  | some (s, zc) => force (tick (pfill (.inr s) (List.replicate len zc).flatten (is.zip ss))) fun out => veBO out s zc len x ss k
  | none => False
@[simp ↓] theorem veBZ_some (s : Nat) (zc : List C) (len x : Nat) (is : List Nat) (ss : List S) : veBZ (some (s, zc)) len x is ss k = force (tick (pfill (.inr s) (List.replicate len zc).flatten (is.zip ss))) fun out => veBO out s zc len x ss k := rfl
@[simp ↓] theorem ve_buildSlice (t : TypeId) (n x : Nat) (parts : List (Nat × Operand)) : veff P ops st ⟨some x, .buildSlice t n parts.toArray, ty, p, af, none⟩ k =
    force (tick (parts.map fun q => st.ev q.2)) fun ss => force (tick (elZ P t)) fun z => veBZ z n x (parts.map (·.1)) ss k := by
  show veBuild P (some x) t n (parts.map fun q => (q.1, st.ev q.2)) k = veBZ (elZ P t) n x (parts.map (·.1)) (parts.map fun q => st.ev q.2) k
  have e1 : (parts.map fun q => (q.1, st.ev q.2)).map (·.2) = parts.map fun q => st.ev q.2 := by simp [Function.comp_def]
  have e2 : (parts.map fun q => (q.1, st.ev q.2)).map (·.1) = parts.map (·.1) := by simp [Function.comp_def]
  unfold veBuild elZ veBZ force tick veBO
  rw [e1, e2]
  cases P.underlying t with
  | none => rfl
  | some de =>
    cases de with
    | slice e =>
      simp only
      cases tySz P e with
      | none => rfl
      | some y =>
        obtain ⟨b, s⟩ := y
        cases zeroOf P e with
        | none => rfl
        | some z =>
          simp only
          cases cellsS (ofConst z) <;> rfl
    | _ => rfl
/-- a guarded operation -/
@[simp ↓] theorem ve_guard (op : Op) (x : Nat) (g : Nat × Bool) : veff P ops st ⟨some x, op, ty, p, af, some g⟩ k = vstep P ops st ⟨some x, op, ty, p, af, some g⟩ fun st' => force (tick (st'.get x)) fun s => goE st (some x) s k := by
  unfold veff vstep
  simp only [force_eq, tick_eq]
  simp [St.putd, St.get_put]
/-- a call, as it is left -/
def VCE (P : Program) (fid : FuncId) (args : List S) (dst : Option Nat) (k : Eff → Prop) (_ : Keep k) : Prop := ∃ rs, Con P fid args rs ∧ k (retEff dst rs)
theorem VCE.mk {fid : FuncId} {args : List S} {dst : Option Nat} {k : Eff → Prop} {m : Keep k} (rs : List Rt) (h : Con P fid args rs) (hk : k (retEff dst rs)) : VCE P fid args dst k m := ⟨rs, h, hk⟩
def veC (P : Program) (st : St) (d : Option Nat) (f : S) (args : List S) (k : Eff → Prop) : Prop := veCall P st d f args k
@[simp ↓] theorem veC_fn (fid : FuncId) (caps : List C) (args : List S) : veC P st d (.c (.fn fid caps)) args k = ((frozenDs st args).2 ∧ VCE P fid (tick ((frozenDs st args).1 ++ caps.map .c)) d k .mk) := by
  simp only [veC, veCall, VCE, pcall, tick]
  apply propext
  constructor
  · rintro ⟨rs, ⟨h1, h2⟩, h3⟩; exact ⟨h1, rs, h2, h3⟩
  · rintro ⟨h1, rs, h2, h3⟩; exact ⟨rs, ⟨h1, h2⟩, h3⟩
@[simp ↓] theorem ve_call (f : Operand) (args : List Operand) (ts : Array TypeId) : veff P ops st ⟨d, .call ⟨.value f, args.toArray, ts⟩, ty, p, af, none⟩ k = force (tick (st.ev f)) fun f => force (tick (args.map st.ev)) fun args => veC P st d f args k := rfl
end

@[simp] theorem app_eq (st : St) (d : Option Nat) (s : S) (rs : List (Nat × Res)) (fr : Bool) : st.app ⟨d, s, rs, fr⟩ = (st.setRs rs).putd d s := rfl
@[simp] theorem setRs_nil (st : St) : st.setRs [] = st := rfl
@[simp] theorem setRs_cons (st : St) (p : Nat × Res) (l : List (Nat × Res)) : st.setRs (p :: l) = (st.setR p.1 (some p.2)).setRs l := rfl
@[simp] theorem restr_mk (env : List (Nat × S)) (res : List (Nat × Option Res)) (rd : List Nat) : restr ⟨env, res⟩ rd = ⟨env, rss ⟨env, res⟩ rd⟩ := rfl
@[simp] theorem operands_move (x : Operand) : (Op.move x).operands = #[x] := rfl
attribute [simp] rdOf evs inners inner rss S.nm S.nms S.kn S.kns chk pairB freshB Eff.mods Eff.news news Res.isPin dead Eff.men Res.men St.cleanB cleanE cleanR tb retEff rt1 rtsE znE veAlloc veStore dataS Op.operands Call.operands
end Go.VL
