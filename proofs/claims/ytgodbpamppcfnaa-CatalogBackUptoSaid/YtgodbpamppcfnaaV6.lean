/-
  A logic on data over the model's walk, part 6: structs written out; all that only computes or reads, in one function.
-/
import Derived.Test.YtgodbpamppcfnaaV5
set_option linter.unusedSimpArgs false
set_option linter.unusedVariables false
namespace Go.VL
open Go.RowKit

def cellsS : S → Option (List C)
  | .c x => some [x]
  | .agg cs => some cs
  | _ => none

/-- where the parts of a struct lie, or of how many cells an element of an array is -/
def plOf (P : Program) (t : TypeId) : Option (List (Nat × Nat) ⊕ Nat) :=
  match P.underlying t with
  | some (.struct fs) => (fs.toList.mapM fun f => (tySz P f.type).map fun y => (f.offset, y.2)).map .inl
  | some (.array _ e) => (tySz P e).map fun y => .inr y.2
  | _ => none
def plAt : List (Nat × Nat) ⊕ Nat → Nat → Option (Nat × Nat)
  | .inl l, i => l[i]?
  | .inr n, i => some (i * n, n)

def splice (cells : List C) (off : Nat) (cs : List C) : List C := cells.take off ++ cs ++ cells.drop (off + cs.length)

def pfill (pl : List (Nat × Nat) ⊕ Nat) : List C → List (Nat × S) → Option (List C)
  | cells, [] => some cells
  | cells, (i, s) :: r =>
    match plAt pl i, cellsS s with
    | some (off, n), some cs => if cs.length = n ∧ off + cs.length ≤ cells.length then pfill pl (splice cells off cs) r else none
    | _, _ => none

def pbuild (P : Program) (t : TypeId) (parts : List (Nat × S)) : S × Prop :=
  match zeroOf P t, plOf P t with
  | some z, some pl =>
    match cellsS (ofConst z) with
    | some zc => match pfill pl zc parts with
      | some cs => (.agg cs, True)
      | none => no
    | none => no
  | _, _ => no

section
variable {P : Program} {w0 : World} {K0 : K0T} {nt : Nat} {st : St} {a : Act} {w : World} {g : G}

theorem cellsS_VR {s : S} {cs : List C} {u : Value} (h : cellsS s = some cs) (hs : SR g w st.rs s u) : VR g.K w cs u.cells.toList := by
  unfold cellsS at h
  split at h
  · rename_i x
    cases h
    rw [SR] at hs
    have h1 := CR.one hs
    have : u.cells = #[u] := by cases u <;> first | rfl | cases h1
    rw [this, VR]
    exact ⟨u, [], rfl, hs, by rw [VR]⟩
  · cases h
    rw [SR] at hs
    obtain ⟨us, rfl, h⟩ := hs
    simpa [Value.cells] using h
  · cases h

theorem cellsS_one {s : S} {cs : List C} {u : Value} (h : cellsS s = some cs) (hs : SR g w st.rs s u) : ∀ v ∈ u.cells.toList, v.oneCell' = true := by
  have hv := cellsS_VR h hs
  rw [VR_iff] at hv
  intro v hm
  obtain ⟨k, hk, rfl⟩ := List.mem_iff_getElem.1 hm
  have : k < cs.length := by omega
  exact CR.one (hv.2 k cs[k] _ (by simp [this]) (by simp))

theorem foldl_set (off : Nat) : ∀ (vs : List Value) (j : Nat) (cells : List Value), off + j + vs.length ≤ cells.length →
    ((vs.zipIdx j).foldl (fun (cs : Array Value) (x : Value × Nat) => cs.setIfInBounds (off + x.2) x.1) cells.toArray) = (cells.take (off + j) ++ vs ++ cells.drop (off + j + vs.length)).toArray
  | [], j, cells, _ => by simp
  | v :: r, j, cells, h => by
    simp only [List.zipIdx_cons, List.foldl_cons, List.setIfInBounds_toArray]
    rw [foldl_set off r (j + 1) (cells.set (off + j) v) (by simp at h ⊢; omega)]
    congr 1
    simp only [List.length_cons] at h ⊢
    apply List.ext_getElem?
    intro k
    simp only [List.append_assoc, List.getElem?_append, List.length_take, List.length_set, List.getElem?_take, List.getElem?_drop, List.getElem?_set, List.length_cons]
    have e1 : min (off + (j + 1)) cells.length = off + j + 1 := by omega
    have e2 : min (off + j) cells.length = off + j := by omega
    simp only [e1, e2]
    by_cases h1 : k < off + j
    · have : k < off + j + 1 := by omega
      have h3 : k < off + (j + 1) := by omega
      have h2 : off + j ≠ k := by omega
      simp [h1, this, h2, h3]
    · by_cases h2 : k = off + j
      · subst h2
        have h3 : off + j < off + (j + 1) := by omega
        have h4 : off + j < cells.length := by omega
        simp [h3, h4]
      · have h3 : ¬ k < off + j + 1 := by omega
        simp only [h1, h3, if_false]
        by_cases h4 : k - (off + j + 1) < r.length
        · have h5 : k - (off + j) < r.length + 1 := by omega
          simp only [h4, h5, if_true]
          have : k - (off + j) = (k - (off + j + 1)) + 1 := by omega
          rw [this]
          simp
        · have h5 : ¬ k - (off + j) < r.length + 1 := by omega
          simp only [h4, h5, if_false]
          have e3 : off + (j + 1) + r.length + (k - (off + j + 1) - r.length) = k := by omega
          have e4 : off + j + (r.length + 1) + (k - (off + j) - (r.length + 1)) = k := by omega
          have h6 : off + j ≠ k := by omega
          simp [e3, e4, h6]

def PartsR (g : G) (w : World) (R : Nat → Option Res) : List (Nat × S) → List (Nat × Value) → Prop
  | [], us => us = []
  | (i, s) :: r, us => ∃ u us', us = (i, u) :: us' ∧ SR g w R s u ∧ PartsR g w R r us'

theorem VR_splice {K : Nat → Nat → Prop} {cells cs : List C} {us vs : List Value} {off : Nat} (h : VR K w cells us) (h' : VR K w cs vs) : VR K w (splice cells off cs) (us.take off ++ vs ++ us.drop (off + vs.length)) := by
  have hl := ((VR_iff _ _).1 h').1
  unfold splice
  rw [hl]
  exact VR_append (VR_append (VR_take _ h) h') (VR_drop _ h)

theorem pfill_ok (pl : List (Nat × Nat) ⊕ Nat) (place : Nat → Option (Nat × Nat)) (hp : ∀ i, place i = plAt pl i) : ∀ (parts : List (Nat × S)) (vparts : List (Nat × Value)) (cells : List C) (us : List Value) (out : List C),
    PartsR g w st.rs parts vparts → VR g.K w cells us → pfill pl cells parts = some out → ∃ vs : List Value, Instr.fill place us.toArray vparts = some vs.toArray ∧ VR g.K w out vs
  | [], vparts, cells, us, out, hr, hv, h => by
    rw [PartsR] at hr
    subst hr
    simp [pfill] at h
    subst h
    exact ⟨us, rfl, hv⟩
  | (i, s) :: r, vparts, cells, us, out, hr, hv, h => by
    rw [PartsR] at hr
    obtain ⟨u, vp, rfl, hs, hr⟩ := hr
    rw [pfill] at h
    split at h
    · rename_i off n cs h1 h2
      split at h
      · rename_i h3
        obtain ⟨h3, h4⟩ := h3
        have hv' := cellsS_VR h2 hs
        have hl := ((VR_iff _ _).1 hv').1
        have hl2 := ((VR_iff _ _).1 hv).1
        obtain ⟨vs, e1, e2⟩ := pfill_ok pl place hp r vp _ _ out hr (VR_splice (off := off) hv hv') h
        refine ⟨vs, ?_, e2⟩
        rw [Instr.fill]
        simp only [hp, h1]
        have c1 : u.cells.size = n := by simpa [h3] using hl
        have c2 : (decide (u.cells.size ≠ n) || decide (off + u.cells.size > us.toArray.size)) = false := by
          simp only [List.size_toArray, Bool.or_eq_false_iff, decide_eq_false_iff_not]
          omega
        rw [c2]
        simp only [Bool.false_eq_true, if_false]
        have := foldl_set off u.cells.toList 0 us (by simp; omega)
        simp only [Nat.add_zero] at this
        rw [← e1]
        congr 1
        rw [← this, ← Array.foldl_toList, Array.toList_zipIdx]
      · cases h
    · cases h

theorem run_zero {t : TypeId} {z : Value} (h : zeroOf P t = some z) : (zeroValue t).run P w = .ok z w := by
  unfold zeroOf at h
  cases hi : P.info? t with
  | none => simp [hi] at h
  | some i => simp [hi] at h; simp [zeroValue, typeInfo, hi, h]

theorem run_places : ∀ (fs : List Field) (l : List (Nat × Nat)), (fs.mapM fun f => (tySz P f.type).map fun y => (f.offset, y.2)) = some l →
    (fs.mapM fun f => (do pure (f.offset, ← sizeOf f.type) : Sem (Nat × Nat))).run P w = .ok l w
  | [], l, h => by simp at h; subst h; rfl
  | f :: r, l, h => by
    simp only [List.mapM_cons, Option.bind_eq_bind, Option.bind_eq_some_iff, Option.map_eq_some_iff, Option.pure_def, Option.some.injEq] at h
    obtain ⟨x, ⟨⟨b, n⟩, h1, rfl⟩, l', h2, rfl⟩ := h
    simp only [List.mapM_cons, Sem.run_bind, run_sizeOf h1, Result.andThen_ok, Sem.run_pure, run_places r l' h2]

theorem pbuild_ok {t : TypeId} {parts : List (Nat × S)} {vparts : Array (Nat × Value)} (hr : PartsR g w st.rs parts vparts.toList) (h : (pbuild P t parts).2) :
    ∃ r, (Instr.build t vparts).run P w = .ok r w ∧ SR g w st.rs (pbuild P t parts).1 r := by
  unfold pbuild at h ⊢
  split at h
  · rename_i z pl hz hpl
    split at h
    · rename_i zc hzc
      split at h
      · rename_i cs hcs
        have hv := cellsS_VR hzc (SR_ofConst g w st.rs z)
        unfold plOf at hpl
        split at hpl
        · rename_i fs hfs
          simp only [Option.map_eq_some_iff] at hpl
          obtain ⟨l, h1, rfl⟩ := hpl
          obtain ⟨vs, e1, e2⟩ := pfill_ok (.inl l) (fun i => l.toArray[i]?) (fun i => by simp [plAt]) parts _ zc _ cs hr hv hcs
          refine ⟨.agg vs.toArray, ?_, by rw [SR]; exact ⟨vs, rfl, e2⟩⟩
          have hp := run_places (P := P) (w := w) fs.toList l h1
          simp only [Instr.build, Sem.run_bind, run_zero hz, Result.andThen_ok, run_underlying hfs]
          rw [← Array.toArray_toList (xs := fs), List.mapM_toArray]
          simp only [Sem.run_map, hp, Result.andThen_ok]
          simp only [Array.toArray_toList] at e1
          simp only [e1, Sem.run_pure]
        · rename_i m e he
          simp only [Option.map_eq_some_iff] at hpl
          obtain ⟨⟨b, n⟩, h1, rfl⟩ := hpl
          obtain ⟨vs, e1, e2⟩ := pfill_ok (.inr n) (fun i => some (i * n, n)) (fun i => rfl) parts _ zc _ cs hr hv hcs
          refine ⟨.agg vs.toArray, ?_, by rw [SR]; exact ⟨vs, rfl, e2⟩⟩
          simp only [Array.toArray_toList] at e1
          simp only [Instr.build, Sem.run_bind, run_zero hz, Result.andThen_ok, run_underlying he, run_sizeOf h1, e1, Sem.run_pure]
        · cases hpl
      · exact h.elim
    · exact h.elim
  · exact h.elim
end

def pnil (st : St) (x : S) : S × Prop :=
  match x with
  | .ptr i o =>
    match st.rs i with
    | some (.box _ _) => (.ptr i o, True)
    | _ => no
  | .ep i n j o =>
    match st.rs i with
    | some (.arr _ _ xs _) => (.ep i n j o, xs.length = n)
    | _ => no
  | .c (.dp cs) => (.c (.dp cs), True)
  | .c (.fn f caps) => (.c (.fn f caps), True)
  | _ => no

def pbuiltin (P : Program) (st : St) (b : Builtin) (ts : List TypeId) (ss : List S) : S × Prop :=
  match b, ts, ss with
  | .len, [t], [x] => plen P st t x
  | .max, _, x :: r => pmm true x r
  | .min, _, x :: r => pmm false x r
  | _, _, _ => no

/-- all that only computes or reads -/
def pev (P : Program) (st : St) (e : Operand → S) : Op → S × Prop
  | .move x => (e x, True)
  | .assign x => (e x, True)
  | .binOp o t x y _ => pbinS P st o t (e x) (e y)
  | .unOp o _ x => pun o (e x)
  | .convert s d x => pconv P st s d (e x)
  | .fieldAddr s x f => pfieldAddr P st s f (e x)
  | .field s x f => pfield P s f (e x)
  | .indexAddr t x i => pindexAddr P st t (e x) (e i)
  | .index t x i => pindex P t (e x) (e i)
  | .load t x => pload P st t (e x)
  | .slice t x lo hi mx => pslice P t (e x) (lo.map e) (hi.map e) (mx.map e)
  | .extract x k =>
    match e x with
    | .tup ss => match ss[k]? with
      | some s => (s, True)
      | none => no
    | _ => no
  | .build t parts => pbuild P t (parts.toList.map fun p => (p.1, e p.2))
  | .nilCheck x => pnil st (e x)
  | .makeFunc (.func f) first cap => (.c (.fn f []), first.toList = [] ∧ cap.toList = [])
  | .call c =>
    match c.callee with
    | .builtin b => pbuiltin P st b c.argTypes.toList (c.args.toList.map e)
    | _ => no
  | _ => no

section
variable {P : Program} {w0 : World} {K0 : K0T} {nt : Nat} {st : St} {a : Act} {w : World} {g : G}

theorem SRs_get {ss : List S} {us : List Value} (h : SRs g w st.rs ss us) : ∀ (k : Nat) s, ss[k]? = some s → ∃ u, us[k]? = some u ∧ SR g w st.rs s u := by
  induction ss generalizing us with
  | nil => intro k s hk; simp at hk
  | cons x r ih =>
    rw [SRs] at h
    obtain ⟨u, us', rfl, h1, h2⟩ := h
    intro k s hk
    cases k with
    | zero => simp at hk; subst hk; exact ⟨u, rfl, h1⟩
    | succ k => simpa using ih h2 k s (by simpa using hk)

theorem SRs_map {α : Type} (f : α → S) (h : α → Value) : ∀ (l : List α), (∀ x ∈ l, SR g w st.rs (f x) (h x)) → SRs g w st.rs (l.map f) (l.map h)
  | [], _ => by simp [SRs]
  | x :: r, hh => by
    simp only [List.map_cons, SRs]
    exact ⟨_, _, rfl, hh x (by simp), SRs_map f h r (fun y hy => hh y (by simp [hy]))⟩

theorem PartsR_map (e : Operand → S) (h : Operand → Value) : ∀ (l : List (Nat × Operand)), (∀ x ∈ l, SR g w st.rs (e x.2) (h x.2)) → PartsR g w st.rs (l.map fun p => (p.1, e p.2)) (l.map fun p => (p.1, h p.2))
  | [], _ => by simp [PartsR]
  | x :: r, hh => by
    simp only [List.map_cons, PartsR]
    exact ⟨_, _, rfl, hh x (by simp), PartsR_map e h r (fun y hy => hh y (by simp [hy]))⟩

theorem pnil_ok {o : Oper} {x : Operand} {s : S} (ho : o.op = .nilCheck x) (hs : SR g w st.rs s (a.eval x)) (h : (pnil st s).2) :
    ∃ u, (execOp a.eval o).run P w = .ok (.value u) w ∧ SR g w st.rs (pnil st s).1 u := by
  have key : ∀ (b : Addr), a.eval x = .pointer (some b) → (execOp a.eval o).run P w = .ok (.value (a.eval x)) w := fun b hb => by
    simp [execOp, ho, hb]
  unfold pnil at h ⊢
  split at h
  · rename_i i off
    split at h
    · rename_i fz ss hr
      have hs' := hs
      rw [SR] at hs'
      obtain ⟨b, hb, hu⟩ := hs' fz ss hr
      exact ⟨_, key _ hu, hs⟩
    · exact h.elim
  · rename_i i n j off
    split at h
    · rename_i nil sz xs fx hr
      have hs' := hs
      rw [SR] at hs'
      obtain ⟨b, cap, hb, hu⟩ := hs' nil sz xs fx hr h
      exact ⟨_, key _ hu, hs⟩
    · exact h.elim
  · have hs' := hs
    simp only [SR, CR] at hs'
    obtain ⟨b, off, hu, _⟩ := hs'
    exact ⟨_, key _ hu, hs⟩
  · have hs' := hs
    simp only [SR, CR] at hs'
    obtain ⟨us, hu, _⟩ := hs'
    exact ⟨a.eval x, by simp [execOp, ho, hu], hs⟩
  · exact h.elim

theorem pev_ok (hT : T w0 K0 nt st a w g) (o : Oper) (e : Operand → S) (he : ∀ x ∈ o.op.operands.toList, SR g w st.rs (e x) (a.eval x)) (h : (pev P st e o.op).2) :
    ∃ u, (execOp a.eval o).run P w = .ok (.value u) w ∧ SR g w st.rs (pev P st e o.op).1 u := by
  cases ho : o.op with
  | move x => rw [ho] at he; exact ⟨a.eval x, by simp [execOp, ho], he x (by simp [Op.operands])⟩
  | assign x => rw [ho] at he; exact ⟨a.eval x, by simp [execOp, ho], he x (by simp [Op.operands])⟩
  | binOp op t x y yt =>
    rw [ho] at he h
    obtain ⟨r, h1, h2⟩ := pbinS_ok hT op t x y _ _ _ _ (he x (by simp [Op.operands])) (he y (by simp [Op.operands])) h
    exact ⟨r, by simp only [execOp, ho, Sem.run_bind] at h1 ⊢; simp only [h1, Result.andThen_ok, Sem.run_pure], h2⟩
  | unOp op t x =>
    rw [ho] at he h
    obtain ⟨r, h1, h2⟩ := pun_ok (P := P) (he x (by simp [Op.operands])) h
    exact ⟨r, by simp [execOp, ho, h1], h2⟩
  | convert s d x =>
    rw [ho] at he h
    obtain ⟨r, h1, h2⟩ := pconv_ok hT (he x (by simp [Op.operands])) h
    exact ⟨r, by simp [execOp, ho, h1], h2⟩
  | fieldAddr s x f =>
    rw [ho] at he h
    obtain ⟨r, h1, h2⟩ := pfieldAddr_ok (he x (by simp [Op.operands])) h
    exact ⟨r, by simp [execOp, ho, h1], h2⟩
  | field s x f =>
    rw [ho] at he h
    obtain ⟨r, h1, h2⟩ := pfield_ok (he x (by simp [Op.operands])) h
    exact ⟨r, by simp [execOp, ho, h1], h2⟩
  | indexAddr t x i =>
    rw [ho] at he h
    obtain ⟨r, h1, h2⟩ := pindexAddr_ok hT (he x (by simp [Op.operands])) (he i (by simp [Op.operands])) h
    exact ⟨r, by simp [execOp, ho, h1], h2⟩
  | index t x i =>
    rw [ho] at he h
    obtain ⟨r, h1, h2⟩ := pindex_ok (he x (by simp [Op.operands])) (he i (by simp [Op.operands])) h
    exact ⟨r, by simp [execOp, ho, h1], h2⟩
  | load t x =>
    rw [ho] at he h
    obtain ⟨r, h1, h2⟩ := pload_ok hT (he x (by simp [Op.operands])) h
    exact ⟨r, by simp [execOp, ho, h1], h2⟩
  | slice t x lo hi mx =>
    rw [ho] at he h
    have key : ∀ (z : Option Operand), (∀ y, z = some y → y ∈ (Op.slice t x lo hi mx).operands.toList) → (∀ s, z.map e = some s → ∃ v, z.map a.eval = some v ∧ SR g w st.rs s v) := by
      intro z hz s hs
      cases z with
      | none => simp at hs
      | some y => simp at hs; subst hs; exact ⟨_, rfl, he y (hz y rfl)⟩
    obtain ⟨r, h1, h2⟩ := pslice_ok (P := P) (vlo := lo.map a.eval) (vhi := hi.map a.eval) (vmx := mx.map a.eval) (he x (by simp [Op.operands])) (key lo (fun y hy => by simp [Op.operands, hy])) (by cases lo <;> simp)
      (key hi (fun y hy => by simp [Op.operands, hy])) (by cases hi <;> simp) (by cases mx <;> simp) h
    exact ⟨r, by simp [execOp, ho, h1], h2⟩
  | extract x k =>
    rw [ho] at he h
    have hx := he x (by simp [Op.operands])
    unfold pev at h ⊢
    simp only at h ⊢
    split at h
    · rename_i ss hss
      split at h
      · rename_i s hs
        rw [hss, SR] at hx
        obtain ⟨us, hu, hus⟩ := hx
        obtain ⟨u, h1, h2⟩ := SRs_get hus k s hs
        refine ⟨u, ?_, h2⟩
        simp [execOp, ho, hu, Instr.extract, h1]
      · exact h.elim
    · exact h.elim
  | build t parts =>
    rw [ho] at he h
    have hp : PartsR g w st.rs (parts.toList.map fun p => (p.1, e p.2)) (parts.map fun p => (p.1, a.eval p.2)).toList := by
      rw [Array.toList_map]
      exact PartsR_map e a.eval parts.toList (fun p hp => he p.2 (by simp [Op.operands]; exact ⟨p.1, by simpa using hp⟩))
    obtain ⟨r, h1, h2⟩ := pbuild_ok (P := P) (t := t) hp h
    exact ⟨r, by simp [execOp, ho, h1], h2⟩
  | nilCheck x =>
    rw [ho] at he h
    exact pnil_ok ho (he x (by simp [Op.operands])) h
  | makeFunc fn first cap =>
    rw [ho] at h
    cases fn with
    | func f =>
      obtain ⟨h1, h2⟩ := h
      refine ⟨.func (.func f) #[] #[], ?_, ?_⟩
      · have e1 : first = #[] := by simpa using h1
        have e2 : cap = #[] := by simpa using h2
        subst e1; subst e2
        simp [execOp, ho, Instr.makeFunc]
      · simp only [pev, SR, CR]; exact ⟨[], rfl, by rw [VR]⟩
    | _ => exact h.elim
  | call c =>
    rw [ho] at he h
    obtain ⟨callee, args, ats⟩ := c
    cases callee with
    | builtin b =>
      have hargs : SRs g w st.rs (args.toList.map e) (args.toList.map a.eval) := SRs_map e a.eval _ (fun x hx => he x (by simp [Op.operands, Call.operands]; simpa using hx))
      simp only [pev] at h ⊢
      have hex : ∀ (s : Sem Value) r, s.run P w = .ok r w → builtin b ats o.type (args.map fun | .const _ => true | _ => false) (args.map a.eval) = (do pure (.value (← s))) → (execOp a.eval o).run P w = .ok (.value r) w := by
        intro s r hs hb
        have h1 : (execOp a.eval o).run P w = (builtin b ats o.type (args.map fun | .const _ => true | _ => false) (args.map a.eval)).run P w := by
          simp only [execOp, ho, resolve, Sem.run_bind, Sem.run_pure, Result.andThen_ok, invoke]
          rfl
        rw [h1, hb]
        simp [hs]
      unfold pbuiltin at h ⊢
      split at h
      · rename_i t x hts hss
        rw [hss] at hargs
        rw [SRs] at hargs
        obtain ⟨u, us', h1, h2, h3⟩ := hargs
        rw [SRs] at h3
        subst h3
        obtain ⟨r, e1, e2⟩ := plen_ok (ty := o.type) hT h2 h
        refine ⟨r, hex _ r e1 ?_, e2⟩
        have a1 : ats = #[t] := by rw [← Array.toArray_toList (xs := ats), hts]
        have a2 : args.map a.eval = #[u] := by rw [← Array.toArray_toList (xs := args.map a.eval), Array.toList_map, h1]
        rw [a1, a2]
        rfl
      · rename_i x r hss
        rw [hss] at hargs
        rw [SRs] at hargs
        obtain ⟨u, us', h1, h2, h3⟩ := hargs
        obtain ⟨z, e1, e2⟩ := pmm_ok (P := P) true r x u us' h2 h3 h
        refine ⟨z, hex _ z e1 ?_, e2⟩
        have a2 : (args.map a.eval).toList = u :: us' := by rw [Array.toList_map, h1]
        simp only [builtin, Builtin.max_, a2]
        rfl
      · rename_i x r hss
        rw [hss] at hargs
        rw [SRs] at hargs
        obtain ⟨u, us', h1, h2, h3⟩ := hargs
        obtain ⟨z, e1, e2⟩ := pmm_ok (P := P) false r x u us' h2 h3 h
        refine ⟨z, hex _ z e1 ?_, e2⟩
        have a2 : (args.map a.eval).toList = u :: us' := by rw [Array.toList_map, h1]
        simp only [builtin, Builtin.min_, a2]
        rfl
      · exact h.elim
    | _ => exact h.elim
  | _ => rw [ho] at h; exact h.elim

end
end Go.VL
