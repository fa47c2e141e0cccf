/-
  A logic on data over the model's walk, part 22: structs of plain cells held against each other.
-/
import Derived.Test.YtgodbpamppcfnaaV21
import Derived.Laws.StructEq
import Derived.ChangeKeysEq
set_option linter.unusedSimpArgs false
set_option linter.unusedVariables false
namespace Go.VL
open Go.RowKit

/-- what a cell may be: an integer, a bool, a string -/
inductive FK where
  | i
  | b
  | s
def fkOf (P : Program) (t : TypeId) : Option FK :=
  match P.underlying t with
  | some (.int _) => some .i
  | some .bool => some .b
  | some .string => some .s
  | _ => none
def eqFs (P : Program) : Nat → List Field → Option (List FK)
  | _, [] => some []
  | o, f :: r => if f.name != "_" && f.offset == o then
      match fkOf P f.type, eqFs P (o + 1) r with
      | some k, some ks => some (k :: ks)
      | _, _ => none
    else none
/-- the cells of a struct that may be held against another -/
def eqT (P : Program) (t : TypeId) : Option (List FK) :=
  match P.underlying t with
  | some (.struct fs) => if P.stoodInHeld t || P.eqGuardType P.depth t then none else eqFs P 0 fs.toList
  | _ => none
def fitK : List FK → List C → List C → Bool
  | [], [], [] => true
  | .i :: r, .v (.int k _) :: cs, .v (.int k' _) :: ds => decide (k = k') && fitK r cs ds
  | .b :: r, .v (.bool _) :: cs, .v (.bool _) :: ds => fitK r cs ds
  | .s :: r, .v (.string _) :: cs, .v (.string _) :: ds => fitK r cs ds
  | _, _, _ => false
@[simp] theorem fitK_nil : fitK [] [] [] = true := rfl
@[simp] theorem fitK_i (r : List FK) (k k' : IntKind) (a b : Int) (cs ds : List C) : fitK (.i :: r) (.v (.int k a) :: cs) (.v (.int k' b) :: ds) = (decide (k = k') && fitK r cs ds) := rfl
@[simp] theorem fitK_b (r : List FK) (a b : Bool) (cs ds : List C) : fitK (.b :: r) (.v (.bool a) :: cs) (.v (.bool b) :: ds) = fitK r cs ds := rfl
@[simp] theorem fitK_s (r : List FK) (a b : ByteArray) (cs ds : List C) : fitK (.s :: r) (.v (.string a) :: cs) (.v (.string b) :: ds) = fitK r cs ds := rfl
@[simp] theorem eqC_int (k k' : IntKind) (a b : Int) : eqC (.v (.int k a)) (.v (.int k' b)) = (a == b) := rfl
@[simp] theorem eqC_bool (a b : Bool) : eqC (.v (.bool a)) (.v (.bool b)) = (a == b) := rfl
@[simp] theorem eqC_string (a b : ByteArray) : eqC (.v (.string a)) (.v (.string b)) = decide (a = b) := rfl
@[simp] theorem eqCs_nil : eqCs [] [] = true := rfl
@[simp] theorem eqCs_cons (a b : C) (r s : List C) : eqCs (a :: r) (b :: s) = (eqC a b && eqCs r s) := rfl

theorem fitK_inv {k : FK} {ks : List FK} {cs ds : List C} (h : fitK (k :: ks) cs ds = true) : ∃ u v cs' ds', cs = C.v u :: cs' ∧ ds = C.v v :: ds' ∧ fitK ks cs' ds' = true ∧
    ((k = .i ∧ ∃ q a b, u = .int q a ∧ v = .int q b) ∨ (k = .b ∧ ∃ a b, u = .bool a ∧ v = .bool b) ∨ (k = .s ∧ ∃ a b, u = .string a ∧ v = .string b)) := by
  unfold fitK at h
  split at h
  · cases ‹k :: ks = _›
  · cases ‹k :: ks = _›
    simp only [Bool.and_eq_true, decide_eq_true_eq] at h
    obtain ⟨rfl, h⟩ := h
    exact ⟨_, _, _, _, rfl, rfl, h, .inl ⟨rfl, _, _, _, rfl, rfl⟩⟩
  · cases ‹k :: ks = _›; exact ⟨_, _, _, _, rfl, rfl, h, .inr (.inl ⟨rfl, _, _, rfl, rfl⟩)⟩
  · cases ‹k :: ks = _›; exact ⟨_, _, _, _, rfl, rfl, h, .inr (.inr ⟨rfl, _, _, rfl, rfl⟩)⟩
  · cases h

theorem eqFs_ok {P : Program} (w : World) (d : Nat) : ∀ (fs : List Field) (ks : List FK) (cs ds : List C) (o : Nat) (xs ys : Array Value) (us vs : List Value), eqFs P o fs = some ks → fitK ks cs ds = true →
    cs = us.map C.v → ds = vs.map C.v → xs.toList.drop o = us → ys.toList.drop o = vs → (Op.eqFields (d + 1) xs ys fs).run P w = .ok (eqCs cs ds) w
  | [], ks, cs, ds, o, xs, ys, us, vs, h, hf, hc, hd, hx, hy => by
    simp only [eqFs, Option.some.injEq] at h
    subst h
    unfold fitK at hf
    split at hf <;> simp_all [Op.eqFields]
  | f :: r, ks, cs, ds, o, xs, ys, us, vs, h, hf, hc, hd, hx, hy => by
    unfold eqFs at h
    split at h
    · rename_i hn
      simp only [Bool.and_eq_true, bne_iff_ne, ne_eq, beq_iff_eq] at hn
      split at h
      · rename_i k ks' hk hks
        cases h
        have step : ∀ (u v : Value) (us' vs' : List Value) (cs' ds' : List C), us = u :: us' → vs = v :: vs' → cs' = us'.map C.v → ds' = vs'.map C.v → fitK ks' cs' ds' = true → P.plainKey f.type = true → ∀ q : Bool, (Op.equalIn (d + 1) f.type u v).run P w = .ok q w →
            (Op.eqFields (d + 1) xs ys (f :: r)).run P w = .ok (q && eqCs cs' ds') w := by
          intro u v us' vs' cs' ds' e1 e2 e3 e4 hf' hp q hq
          have gx : xs[f.offset]? = some u := by
            rw [hn.2, ← Array.getElem?_toList, ← Nat.add_zero o, ← List.getElem?_drop, hx, e1]; rfl
          have gy : ys[f.offset]? = some v := by
            rw [hn.2, ← Array.getElem?_toList, ← Nat.add_zero o, ← List.getElem?_drop, hy, e2]; rfl
          have ih := eqFs_ok w d r ks' cs' ds' (o + 1) xs ys us' vs' hks hf' e3 e4 (by rw [← List.drop_drop, hx, e1]; rfl) (by rw [← List.drop_drop, hy, e2]; rfl)
          simp only [Op.eqFields, hn.1, ne_eq, not_false_eq_true, if_true, Sem.run_bind, run_part_plain w hp gx, run_part_plain w hp gy, hq, Result.andThen_ok]
          cases q
          · simp
          · simpa using ih
        obtain ⟨u, v, cs', ds', rfl, rfl, h', hkk⟩ := fitK_inv hf
        cases us with
        | nil => cases hc
        | cons u' us' =>
          cases vs with
          | nil => cases hd
          | cons v' vs' =>
            simp only [List.map_cons, List.cons.injEq, C.v.injEq] at hc hd
            obtain ⟨rfl, hc⟩ := hc
            obtain ⟨rfl, hd⟩ := hd
            rw [eqCs_cons]
            unfold fkOf at hk
            rcases hkk with ⟨rfl, q, a, b, rfl, rfl⟩ | ⟨rfl, a, b, rfl, rfl⟩ | ⟨rfl, a, b, rfl, rfl⟩
            · split at hk <;> cases hk
              rename_i q' hu
              exact step _ _ us' vs' _ _ rfl rfl hc hd h' (by simp [Program.plainKey, hu]) _ (run_equalIn_int w d _ _ _ _ _ hu)
            · split at hk <;> cases hk
              rename_i hu
              exact step _ _ us' vs' _ _ rfl rfl hc hd h' (by simp [Program.plainKey, hu]) _ (run_equalIn_bool w d _ _ _ hu)
            · split at hk <;> cases hk
              rename_i hu
              refine step _ _ us' vs' _ _ rfl rfl hc hd h' (by simp [Program.plainKey, hu]) _ ?_
              rw [run_equalIn_string w d _ _ _ hu, toList_beq]
              rfl
      · cases h
    · cases h

def aggOk (o : Option (List FK)) (cs ds : List C) : Bool :=
  match o with
  | some ks => fitK ks cs ds
  | none => false
@[simp] theorem aggOk_some (ks : List FK) (cs ds : List C) : aggOk (some ks) cs ds = fitK ks cs ds := rfl

theorem fitK_v : ∀ (ks : List FK) (cs ds : List C), fitK ks cs ds = true → ∃ us vs : List Value, cs = us.map C.v ∧ ds = vs.map C.v := by
  intro ks
  induction ks with
  | nil =>
    intro cs ds h
    unfold fitK at h
    split at h
    · exact ⟨[], [], rfl, rfl⟩
    · cases ‹([] : List FK) = _›
    · cases ‹([] : List FK) = _›
    · cases ‹([] : List FK) = _›
    · cases h
  | cons k ks ih =>
    intro cs ds h
    obtain ⟨u, v, cs', ds', rfl, rfl, h', _⟩ := fitK_inv h
    obtain ⟨us, vs, rfl, rfl⟩ := ih cs' ds' h'
    exact ⟨u :: us, v :: vs, rfl, rfl⟩

/-- STRUCTS OF PLAIN CELLS are held against each other cell by cell -/
theorem aggEq_ok {P : Program} {t : TypeId} {cs ds : List C} (h : aggOk (eqT P t) cs ds = true) : AggEq P t cs ds := by
  unfold aggOk at h
  split at h
  · rename_i ks hks
    obtain ⟨us, vs, e1, e2⟩ := fitK_v ks cs ds h
    refine ⟨us, vs, e1, e2, fun w x y => ?_⟩
    unfold eqT at hks
    split at hks
    · rename_i fs hu
      split at hks
      · cases hks
      · rename_i hg
        simp only [Bool.or_eq_true, not_or, Bool.not_eq_true] at hg
        have hfs : P.fieldsOf t = fs := by simp [Program.fieldsOf, hu]
        have main : (Op.equal t (.agg us.toArray) (.agg vs.toArray)).run P w = .ok (eqCs cs ds) w := by
          show (Op.equalIn (9999 + 1) t (.agg us.toArray) (.agg vs.toArray)).run P w = _
          rw [run_equalIn_struct w 9999 t _ _ (by rw [hfs]; exact hu) hg.1, hfs]
          exact eqFs_ok w 9998 fs.toList ks cs ds 0 us.toArray vs.toArray us vs hks h e1 e2 rfl rfl
        have b1 : (binOp .eql t (.agg us.toArray) (.agg vs.toArray)) = (do pure (.bool (← Op.equal t (.agg us.toArray) (.agg vs.toArray))) : Sem Value) := rfl
        have b2 : (binOp .neq t (.agg us.toArray) (.agg vs.toArray)) = (do pure (.bool (!(← Op.equal t (.agg us.toArray) (.agg vs.toArray)))) : Sem Value) := rfl
        constructor
        · rw [b1]
          simp [eqGuard, Sem.run_bind, run_program, hg.2, main]
        · rw [b2]
          simp [eqGuard, Sem.run_bind, run_program, hg.2, main]
    · cases hks
  · cases h
@[simp] theorem aggEq_simp {P : Program} {t : TypeId} {cs ds : List C} (h : aggOk (eqT P t) cs ds = true) : AggEq P t cs ds ↔ True := ⟨fun _ => trivial, fun _ => aggEq_ok h⟩
end Go.VL
