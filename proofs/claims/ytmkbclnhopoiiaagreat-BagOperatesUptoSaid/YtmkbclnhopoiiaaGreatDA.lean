/- Values, rows, facts as data; the order of rows. -/
import Derived.Test.YtmkbclnhopoiiaaGreatQA
import Derived.Test.YtmkbclnhopoiiaaGreatV33
set_option linter.unusedSimpArgs false
set_option linter.unusedVariables false
namespace Go.Proofs.YtmkbclnhopoiiaaGreat
open Go.VL Go.RowKit

/-- a value -/
structure Val where
  kind : Int
  int : Int
  text : List UInt8
deriving DecidableEq
instance : Inhabited Val := ⟨⟨0, 0, []⟩⟩
def Val.cells (v : Val) : List C := [i64 v.kind, i64 v.int, str v.text]
@[simp] theorem Val.len (v : Val) : v.cells.length = 3 := rfl
abbrev vals (l : List Val) : List (List C) := l.map Val.cells
/-- a fact: its row (is it nil?), its period -/
structure Fact where
  nl : Bool
  row : List Val
  p : Per
deriving DecidableEq
instance : Inhabited Fact := ⟨⟨false, [], ⟨0, 0⟩⟩⟩
def Fact.cells (f : Fact) : List C := [.sl f.nl (vals f.row), i64 f.p.f, i64 f.p.t]
@[simp] theorem Fact.len (f : Fact) : f.cells.length = 3 := rfl
abbrev facts (l : List Fact) : List (List C) := l.map Fact.cells
/-- a fact, whether or not its row is nil -/
def Fact.strip (f : Fact) : List Val × Per := (f.row, f.p)
def strips (l : List Fact) : List (List Val × Per) := l.map Fact.strip

@[simp] theorem str_toList (l : List UInt8) : (ByteArray.mk l.toArray).toList = l := by
  rw [ByteArray.toList_eq]

/-! ### The order of values, rows -/
def ltV (a b : Val) : Bool := decide (a.kind < b.kind) || (decide (a.kind = b.kind) && (decide (a.int < b.int) || (decide (a.int = b.int) && Op.bytesLess a.text b.text)))
theorem bl_irr : ∀ (a : List UInt8), Op.bytesLess a a = false
  | [] => rfl
  | x :: a => by simp [Op.bytesLess, bl_irr a]
theorem ltV_irr (a : Val) : ltV a a = false := by simp [ltV, bl_irr]
def cmpV (a b : Val) : Int := if ltV a b then -1 else if a = b then 0 else 1
theorem cmpV_0 (a b : Val) : cmpV a b = 0 ↔ a = b := by
  unfold cmpV
  constructor
  · intro h
    split at h
    · cases h
    · split at h
      · assumption
      · cases h
  · rintro rfl; simp [ltV_irr]
def cmpR : List Val → List Val → Int
  | [], [] => 0
  | [], _ :: _ => -1
  | _ :: _, [] => 1
  | a :: l, b :: m => if cmpV a b = 0 then cmpR l m else cmpV a b
theorem cmpR_0 : ∀ (l m : List Val), cmpR l m = 0 ↔ l = m
  | [], [] => by simp [cmpR]
  | [], _ :: _ => by simp [cmpR]
  | _ :: _, [] => by simp [cmpR]
  | a :: l, b :: m => by
    rw [cmpR]
    by_cases h : cmpV a b = 0
    · rw [if_pos h, cmpR_0 l m]
      rw [cmpV_0] at h
      simp [h]
    · rw [if_neg h]
      rw [cmpV_0] at h
      simp [cmpV_0, h]
/-- of rows alike in their first k values -/
theorem cmpR_take : ∀ (k : Nat) (l m : List Val), l.take k = m.take k → k ≤ l.length → k ≤ m.length → cmpR l m = cmpR (l.drop k) (m.drop k)
  | 0, l, m, _, _, _ => by simp
  | k + 1, [], m, _, h, _ => by simp at h
  | k + 1, _ :: _, [], _, _, h => by simp at h
  | k + 1, a :: l, b :: m, h, h1, h2 => by
    simp at h
    rw [cmpR, if_pos ((cmpV_0 a b).2 h.1)]
    simp only [List.drop_succ_cons]
    exact cmpR_take k l m h.2 (by simpa using h1) (by simpa using h2)
theorem cmpR_at {l m : List Val} {k : Nat} (h : l.take k = m.take k) (h1 : k < l.length) (h2 : k < m.length) (hne : cmpV l[k] m[k] ≠ 0) : cmpR l m = cmpV l[k] m[k] := by
  rw [cmpR_take k l m h (by omega) (by omega), List.drop_eq_getElem_cons h1, List.drop_eq_getElem_cons h2, cmpR, if_neg hne]
theorem cmpR_end {l m : List Val} {k : Nat} (h : l.take k = m.take k) (h1 : k ≤ l.length) (h2 : k ≤ m.length) (he : k = l.length ∨ k = m.length) : cmpR l m = if l.length < m.length then -1 else if m.length < l.length then 1 else 0 := by
  rw [cmpR_take k l m h h1 h2]
  rcases he with rfl | rfl
  · rw [List.drop_length]
    rcases Nat.lt_or_ge l.length m.length with hlt | hge
    · rw [if_pos hlt, List.drop_eq_getElem_cons hlt]; rfl
    · rw [if_neg (by omega), if_neg (by omega), List.drop_of_length_le (by omega)]; rfl
  · rw [show m.drop m.length = [] from List.drop_length]
    rcases Nat.lt_or_ge m.length l.length with hlt | hge
    · rw [if_neg (by omega), if_pos hlt, List.drop_eq_getElem_cons hlt]; rfl
    · rw [if_neg (by omega), if_neg (by omega), List.drop_of_length_le (by omega)]; rfl
theorem take_step {α : Type} {l m : List α} {k : Nat} (h : k < l.length) (h' : k < m.length) (e : l.take k = m.take k) (e' : l[k] = m[k]) : l.take (k + 1) = m.take (k + 1) := by
  rw [take_snoc h, take_snoc h', e, e']

/-! ### Which values are values -/
def badV (v : Val) : Int :=
  if (v.kind = 1 ∧ v.text = []) ∨ (v.kind = 2 ∧ v.int = 0 ∧ v.text.length ≤ 64) then 0 else if v.kind = 2 ∧ v.int = 0 then 2 else 21
def badR : List Val → Int
  | [] => 0
  | v :: l => if badV v = 0 then badR l else badV v
theorem badR_at (l : List Val) {k : Nat} (h : k < l.length) (hb : badR (l.take k) = 0) : badR (l.take (k + 1)) = badV l[k] := by
  rw [take_snoc h]
  generalize l.take k = m at *
  induction m with
  | nil => simp only [List.nil_append, badR]; split <;> omega
  | cons v m ih =>
    simp only [badR, List.cons_append] at hb ⊢
    split at hb
    · rename_i h0; rw [if_pos h0]; exact ih hb
    · rename_i h0; exact absurd hb h0
theorem badR_stop (l : List Val) {k : Nat} (h : k < l.length) (hb : badR (l.take k) = 0) (hv : badV l[k] ≠ 0) : badR l = badV l[k] := by
  have e : l = l.take k ++ l[k] :: l.drop (k + 1) := by rw [← List.drop_eq_getElem_cons h, List.take_append_drop]
  generalize l[k] = v at *
  generalize l.drop (k + 1) = r at *
  rw [e]
  clear e h
  generalize l.take k = m at *
  induction m with
  | nil => simp [badR, hv]
  | cons w m ih =>
    simp only [badR, List.cons_append] at hb ⊢
    split at hb
    · rename_i h0; rw [if_pos h0]; exact ih hb
    · rename_i h0; exact absurd hb h0
end Go.Proofs.YtmkbclnhopoiiaaGreat
/- Contracts: the document's One, Compare, Same; the same facts. -/
set_option linter.unusedSimpArgs false
set_option linter.unusedVariables false
namespace Go.Proofs.YtmkbclnhopoiiaaGreat
open Go.VL Go.RowKit

set_option maxRecDepth 4000 in
set_option maxHeartbeats 8000000 in
theorem refOne_spec (a b : Val) : Con Tryz.prog 82 [.agg a.cells, .agg b.cells] [.c (i64 (cmpV a b))] := by
  refine spec_of Tryz.func82 rfl (by kernel_rfl) (by simp [Tryz.f82]) (fun w0 K0 => vc_ok _ _ _ (by kernel_rfl) ?_)
  simp only [Tryz.f82]
  simp -dsimp [Val.cells]
  refine ⟨by grind, by grind, by grind, VIf.mk (fun h => ?_) (fun h => ?_)⟩
  · simp -dsimp
    have : ltV a b = true := by unfold ltV; simpa using h
    simp [cmpV, this]
  · have hl : ltV a b = false := by
      rw [Bool.eq_false_iff]; intro e; unfold ltV at e; rw [Bool.eq_false_iff] at h; exact h (by simpa using e)
    simp -dsimp
    refine VIf.mk (fun h2 => ?_) (fun h2 => ?_)
    · simp -dsimp
      have : a = b := by cases a; cases b; simp at h2; simp [h2]
      subst this
      simp [cmpV, hl]
    · simp -dsimp
      have : ¬ a = b := by rintro rfl; simp at h2
      simp [cmpV, hl, this]
theorem refOne_at (cs ds : List C) (a b : Val) (h : cs = a.cells) (h' : ds = b.cells) : Con Tryz.prog 82 [.agg cs, .agg ds] [.c (i64 (cmpV a b))] := by rw [h, h']; exact refOne_spec a b

set_option maxRecDepth 4000 in
set_option maxHeartbeats 8000000 in
theorem refCompare_spec (na nb : Bool) (l m : List Val) (hl : l.length ≤ 140737488355328) : Con Tryz.prog 65 [.c (.sl na (vals l)), .c (.sl nb (vals m))] [.c (i64 (cmpR l m))] := by
  refine spec_of Tryz.func65 rfl (by kernel_rfl) (by simp [Tryz.f65]) (fun w0 K0 => vc_ok _ _ _ (by kernel_rfl) ?_)
  simp only [Tryz.f65]
  simp -dsimp
  refine VL.loop (fun k : Nat => ⟨[(5, .c (i64 k)), (0, .c (.sl na (vals l))), (1, .c (.sl nb (vals m)))], []⟩) (fun k => k ≤ l.length ∧ k ≤ m.length ∧ l.take k = m.take k) (fun k => l.length - k) 0 (by kernel_rfl) (by simp) (by simp [St.le]) ?_
  intro k ⟨hk, hk', heq⟩
  have hw : IntKind.i64.wrap ((k : Int) + 1) = (k : Int) + 1 := IntWalk.i64_in _ (by omega)
  by_cases hlt : k < l.length ∧ k < m.length
  · obtain ⟨h1, h2⟩ := hlt
    simp -dsimp [h1, h2]
    refine VL.draw (by kernel_rfl) [(0, false), (0, false), (3, false), (7, false), (0, false), (0, false), (48, false), (112, false), (255, true), (511, true)] (by kernel_rfl) ?_
    simp -dsimp [h1, h2]
    refine VC.mk _ (refOne_at _ _ l[k] m[k] rfl rfl) ?_
    simp -dsimp
    refine VIf.mk (fun h => ?_) (fun h => ?_)
    · simp at h
      simp -dsimp
      exact (cmpR_at heq h1 h2 h).symm
    · simp at h
      simp -dsimp [hw]
      refine ⟨k + 1, ⟨by omega, by omega, take_step h1 h2 heq ((cmpV_0 _ _).1 h)⟩, ?_, by omega⟩
      simp [St.le]
  · have hend := cmpR_end heq hk hk' (by omega)
    by_cases h1 : k < l.length
    · have h2 : ¬ k < m.length := fun h => hlt ⟨h1, h⟩
      simp -dsimp [h1, h2]
      refine VIf.mk (fun h3 => ?_) (fun h3 => ?_)
      · simp at h3; omega
      · simp -dsimp
        refine VIf.mk (fun h4 => ?_) (fun h4 => ?_)
        · simp -dsimp
          simp at h4
          rw [hend, if_neg (by omega), if_pos (by omega)]
        · simp at h4; omega
    · simp -dsimp [h1]
      refine VIf.mk (fun h3 => ?_) (fun h3 => ?_)
      · simp -dsimp
        simp at h3
        rw [hend, if_pos (by omega)]
      · simp -dsimp
        simp at h3
        refine VIf.mk (fun h4 => ?_) (fun h4 => ?_)
        · simp at h4; omega
        · simp -dsimp
          simp at h4
          rw [hend, if_neg (by omega), if_neg (by omega)]
end Go.Proofs.YtmkbclnhopoiiaaGreat
/- Contracts: the same rows and facts; copies; which values and facts are right. -/
set_option linter.unusedSimpArgs false
set_option linter.unusedVariables false
namespace Go.Proofs.YtmkbclnhopoiiaaGreat
open Go.VL Go.RowKit

set_option maxRecDepth 4000 in
set_option maxHeartbeats 8000000 in
theorem refSame_spec (na nb : Bool) (l m : List Val) (hl : l.length ≤ 140737488355328) : Con Tryz.prog 37 [.c (.sl na (vals l)), .c (.sl nb (vals m))] [.c (bln (decide (l = m)))] := by
  refine spec_of Tryz.func37 rfl (by kernel_rfl) (by simp [Tryz.f37]) (fun w0 K0 => vc_ok _ _ _ (by kernel_rfl) ?_)
  simp only [Tryz.f37]
  simp -dsimp
  refine VG.mk [.c (i64 (cmpR l m))] _ (fun _ => refCompare_spec na nb l m hl) rfl ?_
  simp -dsimp
  have h0 := cmpR_0 l m
  rw [Bool.eq_iff_iff]
  by_cases h : l = m
  · subst h; simp [h0]
  · have : ¬ cmpR l m = 0 := fun e => h (h0.1 e)
    simp [h, this]
theorem refSame_at (na nb : Bool) (xs ys : List (List C)) (l m : List Val) (h : xs = vals l) (h' : ys = vals m) (hl : l.length ≤ 140737488355328) : Con Tryz.prog 37 [.c (.sl na xs), .c (.sl nb ys)] [.c (bln (decide (l = m)))] := by
  rw [h, h']; exact refSame_spec na nb l m hl

/-- rows that a machine can hold -/
def Rows1 (l : List Fact) : Prop := ∀ f ∈ l, f.row.length ≤ 4398046511104
theorem strips_step {l m : List Fact} {k : Nat} (h : k < l.length) (h' : k < m.length) (e : strips (l.take k) = strips (m.take k)) (e' : l[k].strip = m[k].strip) : strips (l.take (k + 1)) = strips (m.take (k + 1)) := by
  unfold strips at *
  rw [take_snoc h, take_snoc h', List.map_append, List.map_append, e]
  simp [e']

set_option maxRecDepth 4000 in
set_option maxHeartbeats 8000000 in
theorem sameF_spec (na nb : Bool) (l m : List Fact) (hl : l.length ≤ 140737488355328) (hr : Rows1 l) : Con Tryz.prog 11 [.c (.sl na (facts l)), .c (.sl nb (facts m))] [.c (bln (decide (strips l = strips m)))] := by
  refine spec_of Tryz.func11 rfl (by kernel_rfl) (by simp [Tryz.f11]) (fun w0 K0 => vc_ok _ _ _ (by kernel_rfl) ?_)
  simp only [Tryz.f11]
  simp -dsimp
  refine VIf.mk (fun h => ?_) (fun h => ?_)
  · simp -dsimp
    intro e
    have := congrArg List.length e
    simp [strips] at this
    simp [this] at h
  have hlen : l.length = m.length := by simp at h; omega
  simp -dsimp
  refine VL.loop (fun k : Nat => ⟨[(5, .c (i64 k)), (0, .c (.sl na (facts l))), (1, .c (.sl nb (facts m)))], []⟩) (fun k => k ≤ l.length ∧ strips (l.take k) = strips (m.take k)) (fun k => l.length - k) 0 (by kernel_rfl) (by simp) (by simp [St.le]) ?_
  intro k ⟨hk, heq⟩
  by_cases h1 : k < l.length
  · have h2 : k < m.length := by omega
    have hw : IntKind.i64.wrap ((k : Int) + 1) = (k : Int) + 1 := IntWalk.i64_in _ (by omega)
    have hrk := hr l[k] (List.getElem_mem h1)
    have hp : ∀ p q : Per, (!(p.f == q.f && p.t == q.t)) = !decide (p = q) := by
      intro p q; cases p; cases q; rw [Bool.eq_iff_iff]; simp
    simp -dsimp [h1, h2]
    refine VL.draw (by kernel_rfl) [(0, false), (0, false), (3, false), (7, false), (15, false), (0, false), (0, false), (96, false), (224, false), (480, false), (1023, true), (2047, true), (4095, false), (4095, false), (16383, false), (32767, false), (65535, false), (4095, false), (4095, false), (397311, false), (921599, false), (1970175, false), (4194303, true), (8388607, true), (16777215, true)] (by kernel_rfl) ?_
    simp -dsimp [h1, h2, Fact.cells]
    refine VG.mk [.c (bln (decide (l[k].row = m[k].row)))] _ (fun _ => refSame_spec _ _ _ _ (by omega)) rfl ?_
    simp -dsimp
    refine VIf.mk (fun h => ?_) (fun h => ?_)
    · simp -dsimp
      intro e
      have e2 : l[k].strip = m[k].strip := by
        have a1 : (strips l)[k]? = some l[k].strip := by simp [strips, h1]
        have a2 : (strips m)[k]? = some m[k].strip := by simp [strips, h2]
        rw [e, a2] at a1
        exact (Option.some.inj a1).symm
      simp [Fact.strip] at e2
      simp [e2] at h
    · simp -dsimp [hw]
      refine ⟨k + 1, ⟨by omega, strips_step h1 h2 heq ?_⟩, ?_, by omega⟩
      · simp at h
        unfold Fact.strip
        obtain ⟨⟨a1, a2⟩, a3⟩ := h
        have : l[k].p = m[k].p := by
          cases hx : l[k].p; cases hy : m[k].p; rw [hx, hy] at a1 a2; simp at a1 a2; simp [a1, a2]
        rw [this, a3]
      · simp [St.le]
  · obtain rfl : k = l.length := by omega
    simp -dsimp
    rw [List.take_length, hlen, List.take_length] at heq
    exact heq

set_option maxRecDepth 4000 in
set_option maxHeartbeats 8000000 in
theorem copy_spec (nl : Bool) (l : List Val) (hl : l.length ≤ 4398046511104) : Con Tryz.prog 29 [.c (.sl nl (vals l))] [.fr false 3 (vals l) 0] := by
  refine spec_of Tryz.func29 rfl (by kernel_rfl) (by simp [Tryz.f29]) (fun w0 K0 => vc_ok _ _ _ (by kernel_rfl) ?_)
  simp only [Tryz.f29]
  simp -dsimp [maxLen]
  omega

end Go.Proofs.YtmkbclnhopoiiaaGreat
