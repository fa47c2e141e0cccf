/- Values, rows, facts as data; the order of rows. -/
import Derived.Test.YtlphpbcafplnbaaGreatQA
import Derived.Test.YtlphpbcafplnbaaGreatV33
import Derived.Test.YtlphpbcafplnbaaGreatVC
set_option linter.unusedSimpArgs false
set_option linter.unusedVariables false
namespace Go.Proofs.YtlphpbcafplnbaaGreat
open Go.VL Go.RowKit

/-- a value -/
structure Val where
  kind : Int
  int : Int
  text : List UInt8
deriving DecidableEq
instance : Inhabited Val := ⟨⟨0, 0, []⟩⟩
def Val.cells (v : Val) : List C := [i64 v.kind, i64 v.int, str v.text]
@[simp] theorem Val.len (v : Val) : v.cells.length = 3 := rfl
abbrev vals (l : List Val) : List (List C) := l.map Val.cells
/-- a fact: its row (is it nil?), its period -/
structure Fact where
  nl : Bool
  row : List Val
  p : Per
deriving DecidableEq
instance : Inhabited Fact := ⟨⟨false, [], ⟨0, 0⟩⟩⟩
def Fact.cells (f : Fact) : List C := [.sl f.nl (vals f.row), i64 f.p.f, i64 f.p.t]
@[simp] theorem Fact.len (f : Fact) : f.cells.length = 3 := rfl
abbrev facts (l : List Fact) : List (List C) := l.map Fact.cells
/-- a fact, whether or not its row is nil -/
def Fact.strip (f : Fact) : List Val × Per := (f.row, f.p)
def strips (l : List Fact) : List (List Val × Per) := l.map Fact.strip

@[simp] theorem str_toList (l : List UInt8) : (ByteArray.mk l.toArray).toList = l := by
  rw [ByteArray.toList_eq]

/-! ### The order of values, rows -/
def ltV (a b : Val) : Bool := decide (a.kind < b.kind) || (decide (a.kind = b.kind) && (decide (a.int < b.int) || (decide (a.int = b.int) && Op.bytesLess a.text b.text)))
theorem bl_irr : ∀ (a : List UInt8), Op.bytesLess a a = false
  | [] => rfl
  | x :: a => by simp [Op.bytesLess, bl_irr a]
theorem ltV_irr (a : Val) : ltV a a = false := by simp [ltV, bl_irr]
def cmpV (a b : Val) : Int := if ltV a b then -1 else if a = b then 0 else 1
theorem cmpV_0 (a b : Val) : cmpV a b = 0 ↔ a = b := by
  unfold cmpV
  constructor
  · intro h
    split at h
    · cases h
    · split at h
      · assumption
      · cases h
  · rintro rfl; simp [ltV_irr]
def cmpR : List Val → List Val → Int
  | [], [] => 0
  | [], _ :: _ => -1
  | _ :: _, [] => 1
  | a :: l, b :: m => if cmpV a b = 0 then cmpR l m else cmpV a b
theorem cmpR_0 : ∀ (l m : List Val), cmpR l m = 0 ↔ l = m
  | [], [] => by simp [cmpR]
  | [], _ :: _ => by simp [cmpR]
  | _ :: _, [] => by simp [cmpR]
  | a :: l, b :: m => by
    rw [cmpR]
    by_cases h : cmpV a b = 0
    · rw [if_pos h, cmpR_0 l m]
      rw [cmpV_0] at h
      simp [h]
    · rw [if_neg h]
      rw [cmpV_0] at h
      simp [cmpV_0, h]
/-- of rows alike in their first k values -/
theorem cmpR_take : ∀ (k : Nat) (l m : List Val), l.take k = m.take k → k ≤ l.length → k ≤ m.length → cmpR l m = cmpR (l.drop k) (m.drop k)
  | 0, l, m, _, _, _ => by simp
  | k + 1, [], m, _, h, _ => by simp at h
  | k + 1, _ :: _, [], _, _, h => by simp at h
  | k + 1, a :: l, b :: m, h, h1, h2 => by
    simp at h
    rw [cmpR, if_pos ((cmpV_0 a b).2 h.1)]
    simp only [List.drop_succ_cons]
    exact cmpR_take k l m h.2 (by simpa using h1) (by simpa using h2)
theorem cmpR_at {l m : List Val} {k : Nat} (h : l.take k = m.take k) (h1 : k < l.length) (h2 : k < m.length) (hne : cmpV l[k] m[k] ≠ 0) : cmpR l m = cmpV l[k] m[k] := by
  rw [cmpR_take k l m h (by omega) (by omega), List.drop_eq_getElem_cons h1, List.drop_eq_getElem_cons h2, cmpR, if_neg hne]
theorem cmpR_end {l m : List Val} {k : Nat} (h : l.take k = m.take k) (h1 : k ≤ l.length) (h2 : k ≤ m.length) (he : k = l.length ∨ k = m.length) : cmpR l m = if l.length < m.length then -1 else if m.length < l.length then 1 else 0 := by
  rw [cmpR_take k l m h h1 h2]
  rcases he with rfl | rfl
  · rw [List.drop_length]
    rcases Nat.lt_or_ge l.length m.length with hlt | hge
    · rw [if_pos hlt, List.drop_eq_getElem_cons hlt]; rfl
    · rw [if_neg (by omega), if_neg (by omega), List.drop_of_length_le (by omega)]; rfl
  · rw [show m.drop m.length = [] from List.drop_length]
    rcases Nat.lt_or_ge m.length l.length with hlt | hge
    · rw [if_neg (by omega), if_pos hlt, List.drop_eq_getElem_cons hlt]; rfl
    · rw [if_neg (by omega), if_neg (by omega), List.drop_of_length_le (by omega)]; rfl
theorem take_step {α : Type} {l m : List α} {k : Nat} (h : k < l.length) (h' : k < m.length) (e : l.take k = m.take k) (e' : l[k] = m[k]) : l.take (k + 1) = m.take (k + 1) := by
  rw [take_snoc h, take_snoc h', e, e']

/-! ### Which values are values -/
def badV (v : Val) : Int :=
  if (v.kind = 1 ∧ v.text = []) ∨ (v.kind = 2 ∧ v.int = 0 ∧ v.text.length ≤ 64) then 0 else if v.kind = 2 ∧ v.int = 0 then 2 else 21
def badR : List Val → Int
  | [] => 0
  | v :: l => if badV v = 0 then badR l else badV v
theorem badR_at (l : List Val) {k : Nat} (h : k < l.length) (hb : badR (l.take k) = 0) : badR (l.take (k + 1)) = badV l[k] := by
  rw [take_snoc h]
  generalize l.take k = m at *
  induction m with
  | nil => simp only [List.nil_append, badR]; split <;> omega
  | cons v m ih =>
    simp only [badR, List.cons_append] at hb ⊢
    split at hb
    · rename_i h0; rw [if_pos h0]; exact ih hb
    · rename_i h0; exact absurd hb h0
theorem badR_stop (l : List Val) {k : Nat} (h : k < l.length) (hb : badR (l.take k) = 0) (hv : badV l[k] ≠ 0) : badR l = badV l[k] := by
  have e : l = l.take k ++ l[k] :: l.drop (k + 1) := by rw [← List.drop_eq_getElem_cons h, List.take_append_drop]
  generalize l[k] = v at *
  generalize l.drop (k + 1) = r at *
  rw [e]
  clear e h
  generalize l.take k = m at *
  induction m with
  | nil => simp [badR, hv]
  | cons w m ih =>
    simp only [badR, List.cons_append] at hb ⊢
    split at hb
    · rename_i h0; rw [if_pos h0]; exact ih hb
    · rename_i h0; exact absurd hb h0
end Go.Proofs.YtlphpbcafplnbaaGreat
/- Contracts: the document's One, Compare, Same; the same facts. -/
set_option linter.unusedSimpArgs false
set_option linter.unusedVariables false
namespace Go.Proofs.YtlphpbcafplnbaaGreat
open Go.VL Go.RowKit

set_option maxRecDepth 4000 in
set_option maxHeartbeats 8000000 in
theorem refOne_spec (a b : Val) : Con Tryz.prog 107 [.agg a.cells, .agg b.cells] [.c (i64 (cmpV a b))] := by
  refine spec_of Tryz.func107 rfl (by kernel_rfl) (by simp [Tryz.f107]) (fun w0 K0 => vc_ok _ _ _ (by kernel_rfl) ?_)
  simp only [Tryz.f107]
  simp -dsimp [Val.cells]
  refine ⟨by grind, by grind, by grind, VIf.mk (fun h => ?_) (fun h => ?_)⟩
  · simp -dsimp
    have : ltV a b = true := by unfold ltV; simpa using h
    simp [cmpV, this]
  · have hl : ltV a b = false := by
      rw [Bool.eq_false_iff]; intro e; unfold ltV at e; rw [Bool.eq_false_iff] at h; exact h (by simpa using e)
    simp -dsimp
    refine VIf.mk (fun h2 => ?_) (fun h2 => ?_)
    · simp -dsimp
      have : a = b := by cases a; cases b; simp at h2; simp [h2]
      subst this
      simp [cmpV, hl]
    · simp -dsimp
      have : ¬ a = b := by rintro rfl; simp at h2
      simp [cmpV, hl, this]
theorem refOne_at (cs ds : List C) (a b : Val) (h : cs = a.cells) (h' : ds = b.cells) : Con Tryz.prog 107 [.agg cs, .agg ds] [.c (i64 (cmpV a b))] := by rw [h, h']; exact refOne_spec a b

set_option maxRecDepth 4000 in
set_option maxHeartbeats 8000000 in
theorem refCompare_spec (na nb : Bool) (l m : List Val) (hl : l.length ≤ 140737488355328) : Con Tryz.prog 83 [.c (.sl na (vals l)), .c (.sl nb (vals m))] [.c (i64 (cmpR l m))] := by
  refine spec_of Tryz.func83 rfl (by kernel_rfl) (by simp [Tryz.f83]) (fun w0 K0 => vc_ok _ _ _ (by kernel_rfl) ?_)
  simp only [Tryz.f83]
  simp -dsimp
  refine VL.loop (fun k : Nat => ⟨[(5, .c (i64 k)), (0, .c (.sl na (vals l))), (1, .c (.sl nb (vals m)))], []⟩) (fun k => k ≤ l.length ∧ k ≤ m.length ∧ l.take k = m.take k) (fun k => l.length - k) 0 (by kernel_rfl) (by simp) (by simp [St.le]) ?_
  intro k ⟨hk, hk', heq⟩
  have hw : IntKind.i64.wrap ((k : Int) + 1) = (k : Int) + 1 := IntWalk.i64_in _ (by omega)
  by_cases hlt : k < l.length ∧ k < m.length
  · obtain ⟨h1, h2⟩ := hlt
    simp -dsimp [h1, h2]
    refine VL.draw (by kernel_rfl) [(0, false), (0, false), (3, false), (7, false), (0, false), (0, false), (48, false), (112, false), (255, true), (511, true)] (by kernel_rfl) ?_
    simp -dsimp [h1, h2]
    refine VC.mk _ (refOne_at _ _ l[k] m[k] rfl rfl) ?_
    simp -dsimp
    refine VIf.mk (fun h => ?_) (fun h => ?_)
    · simp at h
      simp -dsimp
      exact (cmpR_at heq h1 h2 h).symm
    · simp at h
      simp -dsimp [hw]
      refine ⟨k + 1, ⟨by omega, by omega, take_step h1 h2 heq ((cmpV_0 _ _).1 h)⟩, ?_, by omega⟩
      simp [St.le]
  · have hend := cmpR_end heq hk hk' (by omega)
    by_cases h1 : k < l.length
    · have h2 : ¬ k < m.length := fun h => hlt ⟨h1, h⟩
      simp -dsimp [h1, h2]
      refine VIf.mk (fun h3 => ?_) (fun h3 => ?_)
      · simp at h3; omega
      · simp -dsimp
        refine VIf.mk (fun h4 => ?_) (fun h4 => ?_)
        · simp -dsimp
          simp at h4
          rw [hend, if_neg (by omega), if_pos (by omega)]
        · simp at h4; omega
    · simp -dsimp [h1]
      refine VIf.mk (fun h3 => ?_) (fun h3 => ?_)
      · simp -dsimp
        simp at h3
        rw [hend, if_pos (by omega)]
      · simp -dsimp
        simp at h3
        refine VIf.mk (fun h4 => ?_) (fun h4 => ?_)
        · simp at h4; omega
        · simp -dsimp
          simp at h4
          rw [hend, if_neg (by omega), if_neg (by omega)]
end Go.Proofs.YtlphpbcafplnbaaGreat
/- Contracts: the same rows and facts; copies; which values and facts are right. -/
set_option linter.unusedSimpArgs false
set_option linter.unusedVariables false
namespace Go.Proofs.YtlphpbcafplnbaaGreat
open Go.VL Go.RowKit

set_option maxRecDepth 4000 in
set_option maxHeartbeats 8000000 in
theorem refSame_spec (na nb : Bool) (l m : List Val) (hl : l.length ≤ 140737488355328) : Con Tryz.prog 54 [.c (.sl na (vals l)), .c (.sl nb (vals m))] [.c (bln (decide (l = m)))] := by
  refine spec_of Tryz.func54 rfl (by kernel_rfl) (by simp [Tryz.f54]) (fun w0 K0 => vc_ok _ _ _ (by kernel_rfl) ?_)
  simp only [Tryz.f54]
  simp -dsimp
  refine VG.mk [.c (i64 (cmpR l m))] _ (fun _ => refCompare_spec na nb l m hl) rfl ?_
  simp -dsimp
  have h0 := cmpR_0 l m
  rw [Bool.eq_iff_iff]
  by_cases h : l = m
  · subst h; simp [h0]
  · have : ¬ cmpR l m = 0 := fun e => h (h0.1 e)
    simp [h, this]
theorem refSame_at (na nb : Bool) (xs ys : List (List C)) (l m : List Val) (h : xs = vals l) (h' : ys = vals m) (hl : l.length ≤ 140737488355328) : Con Tryz.prog 54 [.c (.sl na xs), .c (.sl nb ys)] [.c (bln (decide (l = m)))] := by
  rw [h, h']; exact refSame_spec na nb l m hl

/-- rows that a machine can hold -/
def Rows1 (l : List Fact) : Prop := ∀ f ∈ l, f.row.length ≤ 4294967296
theorem strips_step {l m : List Fact} {k : Nat} (h : k < l.length) (h' : k < m.length) (e : strips (l.take k) = strips (m.take k)) (e' : l[k].strip = m[k].strip) : strips (l.take (k + 1)) = strips (m.take (k + 1)) := by
  unfold strips at *
  rw [take_snoc h, take_snoc h', List.map_append, List.map_append, e]
  simp [e']

set_option maxRecDepth 4000 in
set_option maxHeartbeats 8000000 in
theorem sameF_spec (na nb : Bool) (l m : List Fact) (hl : l.length ≤ 140737488355328) (hr : Rows1 l) : Con Tryz.prog 19 [.c (.sl na (facts l)), .c (.sl nb (facts m))] [.c (bln (decide (strips l = strips m)))] := by
  refine spec_of Tryz.func19 rfl (by kernel_rfl) (by simp [Tryz.f19]) (fun w0 K0 => vc_ok _ _ _ (by kernel_rfl) ?_)
  simp only [Tryz.f19]
  simp -dsimp
  refine VIf.mk (fun h => ?_) (fun h => ?_)
  · simp -dsimp
    intro e
    have := congrArg List.length e
    simp [strips] at this
    simp [this] at h
  have hlen : l.length = m.length := by simp at h; omega
  simp -dsimp
  refine VL.loop (fun k : Nat => ⟨[(5, .c (i64 k)), (0, .c (.sl na (facts l))), (1, .c (.sl nb (facts m)))], []⟩) (fun k => k ≤ l.length ∧ strips (l.take k) = strips (m.take k)) (fun k => l.length - k) 0 (by kernel_rfl) (by simp) (by simp [St.le]) ?_
  intro k ⟨hk, heq⟩
  by_cases h1 : k < l.length
  · have h2 : k < m.length := by omega
    have hw : IntKind.i64.wrap ((k : Int) + 1) = (k : Int) + 1 := IntWalk.i64_in _ (by omega)
    have hrk := hr l[k] (List.getElem_mem h1)
    have hp : ∀ p q : Per, (!(p.f == q.f && p.t == q.t)) = !decide (p = q) := by
      intro p q; cases p; cases q; rw [Bool.eq_iff_iff]; simp
    simp -dsimp [h1, h2]
    refine VL.draw (by kernel_rfl) [(0, false), (0, false), (3, false), (7, false), (15, false), (0, false), (0, false), (96, false), (224, false), (480, false), (1023, true), (2047, true), (4095, false), (4095, false), (16383, false), (32767, false), (65535, false), (4095, false), (4095, false), (397311, false), (921599, false), (1970175, false), (4194303, true), (8388607, true), (16777215, true)] (by kernel_rfl) ?_
    simp -dsimp [h1, h2, Fact.cells]
    refine VG.mk [.c (bln (decide (l[k].row = m[k].row)))] _ (fun _ => refSame_spec _ _ _ _ (by omega)) rfl ?_
    simp -dsimp
    refine VIf.mk (fun h => ?_) (fun h => ?_)
    · simp -dsimp
      intro e
      have e2 : l[k].strip = m[k].strip := by
        have a1 : (strips l)[k]? = some l[k].strip := by simp [strips, h1]
        have a2 : (strips m)[k]? = some m[k].strip := by simp [strips, h2]
        rw [e, a2] at a1
        exact (Option.some.inj a1).symm
      simp [Fact.strip] at e2
      simp [e2] at h
    · simp -dsimp [hw]
      refine ⟨k + 1, ⟨by omega, strips_step h1 h2 heq ?_⟩, ?_, by omega⟩
      · simp at h
        unfold Fact.strip
        obtain ⟨⟨a1, a2⟩, a3⟩ := h
        have : l[k].p = m[k].p := by
          cases hx : l[k].p; cases hy : m[k].p; rw [hx, hy] at a1 a2; simp at a1 a2; simp [a1, a2]
        rw [this, a3]
      · simp [St.le]
  · obtain rfl : k = l.length := by omega
    simp -dsimp
    rw [List.take_length, hlen, List.take_length] at heq
    exact heq

end Go.Proofs.YtlphpbcafplnbaaGreat
/- Plain laws: the first thing that is wrong in a list; what is kept; who is alike. -/
set_option linter.unusedSimpArgs false
set_option linter.unusedVariables false
namespace Go.Proofs.YtlphpbcafplnbaaGreat
open Go.VL Go.RowKit

/-- the first code that isn't 0, of each element after those before it -/
def firstE {α : Type} (f : List α → α → Int) (bef : List α) : List α → Int
  | [] => 0
  | a :: l => if f bef a = 0 then firstE f (bef ++ [a]) l else f bef a
theorem firstE_app {α : Type} (f : List α → α → Int) : ∀ (l m bef : List α), firstE f bef l = 0 → firstE f bef (l ++ m) = firstE f (bef ++ l) m
  | [], m, bef, _ => by simp
  | a :: l, m, bef, h => by
    rw [firstE] at h
    split at h
    · rename_i h0
      rw [List.cons_append, firstE, if_pos h0, firstE_app f l m _ h, List.append_assoc]; rfl
    · rename_i h0; exact absurd h h0
theorem firstE_at {α : Type} (f : List α → α → Int) (l : List α) {k : Nat} (h : k < l.length) (hb : firstE f [] (l.take k) = 0) (hv : f (l.take k) l[k] = 0) : firstE f [] (l.take (k + 1)) = 0 := by
  rw [take_snoc h, firstE_app f _ _ _ hb, List.nil_append, firstE, if_pos hv]; rfl
theorem firstE_stop {α : Type} (f : List α → α → Int) (l : List α) {k : Nat} (h : k < l.length) (hb : firstE f [] (l.take k) = 0) (hv : f (l.take k) l[k] ≠ 0) : firstE f [] l = f (l.take k) l[k] := by
  have e : l = l.take k ++ l[k] :: l.drop (k + 1) := by rw [← List.drop_eq_getElem_cons h, List.take_append_drop]
  have e2 := firstE_app f (l.take k) (l[k] :: l.drop (k + 1)) [] hb
  rw [← e, List.nil_append, firstE, if_neg hv] at e2
  exact e2

/-- a change's ends: the error's number -/
def endE (n : Nat) (bef : List Int) (e : Int) : Int := if e < 0 ∨ (n : Int) ≤ e then 4 else if e ∈ bef then 162 else 0
def endsE (n : Nat) (ended : List Int) : Int := firstE (endE n) [] ended
/-- those that haven't ended -/
def keep (g : Nat → Bool) (l : List Fact) : Nat → List Fact
  | 0 => []
  | k + 1 => keep g l k ++ (if g k then [] else match l[k]? with | some f => [f] | none => [])
theorem keep_len (g : Nat → Bool) (l : List Fact) : ∀ k, (keep g l k).length ≤ k
  | 0 => by simp [keep]
  | k + 1 => by
    have := keep_len g l k
    rw [keep, List.length_append]
    split
    · simp; omega
    · split <;> simp <;> omega
theorem keep_mem (g : Nat → Bool) (l : List Fact) : ∀ k, ∀ f ∈ keep g l k, f ∈ l
  | 0, f, h => by simp [keep] at h
  | k + 1, f, h => by
    rw [keep, List.mem_append] at h
    rcases h with h | h
    · exact keep_mem g l k f h
    · split at h
      · simp at h
      · split at h
        · rename_i e
          simp at h; subst h
          exact List.mem_of_getElem? e
        · simp at h
def goneE (ended : List Int) (i : Nat) : Bool := ended.any fun e => e == (i : Int)
/-- the facts with rows of their own -/
def owned (f : Fact) : Fact := ⟨false, f.row, f.p⟩
def applyF (l : List Fact) (ended : List Int) (added : List Fact) : List Fact := keep (goneE ended) l l.length ++ added

/-! ### Who is alike -/
def alikeK (a b : List Val) (k : Int) : Bool := decide (0 ≤ k) && decide (k < a.length) && decide (k < b.length) && (a[k.toNat]! == b[k.toNat]!)
def alike (a b : List Val) (keys : List Int) : Bool := keys.all (alikeK a b) && decide (0 < keys.length)
def clashes (f g : Fact) (keys : List Int) : Bool := lapOk f.p g.p && alike f.row g.row keys
end Go.Proofs.YtlphpbcafplnbaaGreat
/- Contracts: does a fact fit a table; the terms that hold where there are none. -/
set_option linter.unusedSimpArgs false
set_option linter.unusedVariables false
namespace Go.Proofs.YtlphpbcafplnbaaGreat
open Go.VL Go.RowKit

structure Col where
  name : List UInt8
  kind : Int
def Col.cells (c : Col) : List C := [str c.name, i64 c.kind]
@[simp] theorem Col.len (c : Col) : c.cells.length = 2 := rfl
def keyc (k : List UInt8) : List C := [str k]
@[simp] theorem keyc_len (k : List UInt8) : (keyc k).length = 1 := rfl
structure Tab where
  id : Int
  name : List UInt8
  nc : Bool
  cols : List Col
  nk : Bool
  keys : List (List UInt8)
  ix : Bool
def Tab.cells (t : Tab) : List C := [i64 t.id, str t.name, .sl t.nc (t.cols.map Col.cells), .sl t.nk (t.keys.map keyc), bln t.ix]

def kindsK (r : List Val) (c : List Col) (k : Nat) : Prop := ∀ j, (h : j < r.length) → (h' : j < c.length) → j < k → r[j].kind = c[j].kind
noncomputable instance (r : List Val) (c : List Col) (k : Nat) : Decidable (kindsK r c k) := Classical.propDecidable _
noncomputable def fitsOf (t : Tab) (f : Fact) : Int :=
  if f.row.length ≠ t.cols.length then 1 else if kindsK f.row t.cols f.row.length then (if badR f.row ≠ 0 then badR f.row else checkOf f.p) else 170
theorem kindsK_step {r : List Val} {c : List Col} {k : Nat} (h : k < r.length) (h' : k < c.length) (hb : kindsK r c k) (e : r[k].kind = c[k].kind) : kindsK r c (k + 1) := by
  intro j hj hj' hlt
  by_cases e2 : j = k
  · subst e2; exact e
  · exact hb j hj hj' (by omega)

set_option maxRecDepth 4000 in
set_option maxHeartbeats 8000000 in
theorem holds_nil (nl nw : Bool) (l : List Val) : Con Tryz.prog 285 [.c (.sl nl (vals l)), .c (.sl nw [])] [.c (bln true)] := by
  refine spec_of Tryz.func285 rfl (by kernel_rfl) (by simp [Tryz.f285]) (fun w0 K0 => vc_ok _ _ _ (by kernel_rfl) ?_)
  simp only [Tryz.f285]
  simp -dsimp
  refine VL.loop (fun _ : Unit => ⟨[(11, .c (i64 0)), (10, .c (i64 0))], []⟩) (fun _ => True) (fun _ => 0) () (by kernel_rfl) trivial (by simp [St.le]) ?_
  intro _ _
  simp -dsimp
end Go.Proofs.YtlphpbcafplnbaaGreat
/- Contracts: who is alike in the keys. -/
set_option linter.unusedSimpArgs false
set_option linter.unusedVariables false
namespace Go.Proofs.YtlphpbcafplnbaaGreat
open Go.VL Go.RowKit

def icell (k : Int) : List C := [i64 k]
@[simp] theorem icell_len (k : Int) : (icell k).length = 1 := rfl
theorem all_snoc {α : Type} (p : α → Bool) {l : List α} {k : Nat} (h : k < l.length) : (l.take (k + 1)).all p = ((l.take k).all p && p l[k]) := by
  rw [take_snoc h, List.all_append]; simp
theorem all_stop {α : Type} (p : α → Bool) {l : List α} {k : Nat} (h : k < l.length) (hp : p l[k] = false) : l.all p = false := by
  rw [List.all_eq_false]
  exact ⟨l[k], List.getElem_mem h, by simp [hp]⟩
theorem alikeK_in (a b : List Val) (n : Nat) (h : n < a.length) (h' : n < b.length) : alikeK a b (n : Int) = decide (a[n] = b[n]) := by
  unfold alikeK
  rw [Bool.eq_iff_iff]
  simp [h, h']

end Go.Proofs.YtlphpbcafplnbaaGreat
/- Contracts: the first two facts that are alike at once. -/
set_option linter.unusedSimpArgs false
set_option linter.unusedVariables false
namespace Go.Proofs.YtlphpbcafplnbaaGreat
open Go.VL Go.RowKit

def clashRow (l : List Fact) (keys : List Int) (i : Nat) : Nat → Option (Nat × Nat)
  | 0 => none
  | m + 1 => match clashRow l keys i m with
    | some r => some r
    | none => if clashes l[m]! l[i]! keys then some (m, i) else none
def clashUp (l : List Fact) (keys : List Int) : Nat → Option (Nat × Nat)
  | 0 => none
  | n + 1 => match clashUp l keys n with
    | some r => some r
    | none => clashRow l keys n n
def clashR (l : List Fact) (keys : List Int) : Option (Nat × Nat) := clashUp l keys l.length
def clashI (l : List Fact) (keys : List Int) : Int := match clashR l keys with | some r => r.1 | none => 0
def clashJ (l : List Fact) (keys : List Int) : Int := match clashR l keys with | some r => r.2 | none => 0
theorem clashRow_mono {l : List Fact} {keys : List Int} {i j : Nat} {r : Nat × Nat} (h : clashRow l keys i j = some r) : ∀ m, clashRow l keys i (j + m) = some r
  | 0 => h
  | m + 1 => by rw [← Nat.add_assoc, clashRow, clashRow_mono h m]
theorem clashUp_mono {l : List Fact} {keys : List Int} {j : Nat} {r : Nat × Nat} (h : clashUp l keys j = some r) : ∀ m, clashUp l keys (j + m) = some r
  | 0 => h
  | m + 1 => by rw [← Nat.add_assoc, clashUp, clashUp_mono h m]
theorem clashRow_no {l : List Fact} {keys : List Int} {i j : Nat} (h : clashRow l keys i j = none) (hc : clashes l[j]! l[i]! keys = false) : clashRow l keys i (j + 1) = none := by
  rw [clashRow, h]; show (if clashes l[j]! l[i]! keys then some (j, i) else none) = none; rw [hc]; rfl
theorem clashR_yes {l : List Fact} {keys : List Int} {i j : Nat} (hi : i < l.length) (hj : j < i) (hu : clashUp l keys i = none) (h : clashRow l keys i j = none) (hc : clashes l[j]! l[i]! keys = true) : clashR l keys = some (j, i) := by
  have h1 : clashRow l keys i (j + 1) = some (j, i) := by rw [clashRow, h]; show (if clashes l[j]! l[i]! keys then some (j, i) else none) = some (j, i); rw [hc]; rfl
  have h2 := clashRow_mono h1 (i - (j + 1))
  rw [show j + 1 + (i - (j + 1)) = i from by omega] at h2
  have h3 : clashUp l keys (i + 1) = some (j, i) := by rw [clashUp, hu]; exact h2
  have h4 := clashUp_mono h3 (l.length - (i + 1))
  rw [show i + 1 + (l.length - (i + 1)) = l.length from by omega] at h4
  exact h4

end Go.Proofs.YtlphpbcafplnbaaGreat
/- Contracts: the document's first two facts that are alike at once. -/
set_option linter.unusedSimpArgs false
set_option linter.unusedVariables false
namespace Go.Proofs.YtlphpbcafplnbaaGreat
open Go.VL Go.RowKit

theorem lapOk_eq (a b : Per) : lapOk a b = (right a && (right b && (decide (a.f < b.t) && decide (b.f < a.t)))) := by
  rw [Bool.eq_iff_iff]
  unfold lapOk right lapP
  simp
  omega

end Go.Proofs.YtlphpbcafplnbaaGreat
/- Contracts: the facts behind a change. -/
set_option linter.unusedSimpArgs false
set_option linter.unusedVariables false
namespace Go.Proofs.YtlphpbcafplnbaaGreat
open Go.VL Go.RowKit

def goneRow (n : Nat) (e : List Int) : List (List C) := (List.range n).map fun i => [bln (goneE e i)]
@[simp] theorem goneRow_len (n : Nat) (e : List Int) : (goneRow n e).length = n := by simp [goneRow]
@[simp] theorem goneRow_get (n : Nat) (e : List Int) (i : Nat) (h : i < (goneRow n e).length) : (goneRow n e)[i] = [bln (goneE e i)] := by simp [goneRow]
theorem goneRow_nil (n : Nat) : List.replicate n [bln false] = goneRow n [] := by
  refine List.ext_getElem (by simp) fun i h1 h2 => ?_
  simp [goneE]
theorem goneRow_set (n : Nat) (e : List Int) (i : Nat) (h : i < n) : (goneRow n e).set i [bln true] = goneRow n (e ++ [(i : Int)]) := by
  refine List.ext_getElem (by simp) fun j h1 h2 => ?_
  simp only [List.getElem_set, goneRow_get]
  unfold goneE
  by_cases e2 : i = j
  · subst e2; simp
  · have : ((i : Int) == (j : Int)) = false := by simp; omega
    simp [e2, this]
theorem goneE_mem (e : List Int) (i : Nat) : goneE e i = decide ((i : Int) ∈ e) := by
  rw [Bool.eq_iff_iff]; unfold goneE; simp
structure KI where
  k : Nat
  nl : Bool
  sz : Nat
def KI.Ok (i : KI) (row : List Fact) : Prop := i.nl = row.isEmpty ∧ i.sz = if i.nl then 0 else 3
theorem KI.same {k k' : Nat} {nl : Bool} {sz : Nat} {row : List Fact} (h : KI.Ok ⟨k, nl, sz⟩ row) : KI.Ok ⟨k', nl, sz⟩ row := h
theorem KI.next {k : Nat} {row : List Fact} {f : Fact} : KI.Ok ⟨k, false, 3⟩ (row ++ [f]) := ⟨by cases row <;> rfl, rfl⟩
/-- what the program makes of the kept facts -/
def ownedL (l : List Fact) : List (List C) := l.map fun f => (owned f).cells
@[simp] theorem ownedL_len (l : List Fact) : (ownedL l).length = l.length := by simp [ownedL]
theorem ownedL_snoc (l : List Fact) (f : Fact) : ownedL (l ++ [f]) = ownedL l ++ [(owned f).cells] := by simp [ownedL]
theorem keep_yes {g : Nat → Bool} {l : List Fact} {k : Nat} (h : k < l.length) (hg : g k = false) : keep g l (k + 1) = keep g l k ++ [l[k]] := by
  rw [keep, hg, List.getElem?_eq_getElem h]; rfl
theorem keep_no {g : Nat → Bool} {l : List Fact} {k : Nat} (hg : g k = true) : keep g l (k + 1) = keep g l k := by
  rw [keep, hg]; simp

end Go.Proofs.YtlphpbcafplnbaaGreat
/- Contracts: the document's facts behind a change. -/
set_option linter.unusedSimpArgs false
set_option linter.unusedVariables false
namespace Go.Proofs.YtlphpbcafplnbaaGreat
open Go.VL Go.RowKit

theorem facts_snoc (l : List Fact) (f : Fact) : facts (l ++ [f]) = facts l ++ [f.cells] := by simp [facts]
theorem goneE_snoc (e : List Int) (i : Nat) {k : Nat} (h : k < e.length) : goneE (e.take (k + 1)) i = (goneE (e.take k) i || e[k] == (i : Int)) := by
  unfold goneE; rw [take_snoc h, List.any_append]; simp

end Go.Proofs.YtlphpbcafplnbaaGreat
