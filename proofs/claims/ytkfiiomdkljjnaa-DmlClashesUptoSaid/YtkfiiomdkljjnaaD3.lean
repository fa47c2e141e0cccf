/- Plain laws: the first thing that is wrong in a list; what is kept; who is alike. -/
import Derived.Test.YtkfiiomdkljjnaaD2
set_option linter.unusedSimpArgs false
set_option linter.unusedVariables false
namespace Go.Proofs.Ytkfiiomdkljjnaa
open Go.VL Go.RowKit

/-- the first code that isn't 0, of each element after those before it -/
def firstE {α : Type} (f : List α → α → Int) (bef : List α) : List α → Int
  | [] => 0
  | a :: l => if f bef a = 0 then firstE f (bef ++ [a]) l else f bef a
theorem firstE_app {α : Type} (f : List α → α → Int) : ∀ (l m bef : List α), firstE f bef l = 0 → firstE f bef (l ++ m) = firstE f (bef ++ l) m
  | [], m, bef, _ => by simp
  | a :: l, m, bef, h => by
    rw [firstE] at h
    split at h
    · rename_i h0
      rw [List.cons_append, firstE, if_pos h0, firstE_app f l m _ h, List.append_assoc]; rfl
    · rename_i h0; exact absurd h h0
theorem firstE_at {α : Type} (f : List α → α → Int) (l : List α) {k : Nat} (h : k < l.length) (hb : firstE f [] (l.take k) = 0) (hv : f (l.take k) l[k] = 0) : firstE f [] (l.take (k + 1)) = 0 := by
  rw [take_snoc h, firstE_app f _ _ _ hb, List.nil_append, firstE, if_pos hv]; rfl
theorem firstE_stop {α : Type} (f : List α → α → Int) (l : List α) {k : Nat} (h : k < l.length) (hb : firstE f [] (l.take k) = 0) (hv : f (l.take k) l[k] ≠ 0) : firstE f [] l = f (l.take k) l[k] := by
  have e : l = l.take k ++ l[k] :: l.drop (k + 1) := by rw [← List.drop_eq_getElem_cons h, List.take_append_drop]
  have e2 := firstE_app f (l.take k) (l[k] :: l.drop (k + 1)) [] hb
  rw [← e, List.nil_append, firstE, if_neg hv] at e2
  exact e2

/-- a change's ends: the error's number -/
def endE (n : Nat) (bef : List Int) (e : Int) : Int := if e < 0 ∨ (n : Int) ≤ e then 4 else if e ∈ bef then 162 else 0
def endsE (n : Nat) (ended : List Int) : Int := firstE (endE n) [] ended
/-- those that haven't ended -/
def keep (g : Nat → Bool) (l : List Fact) : Nat → List Fact
  | 0 => []
  | k + 1 => keep g l k ++ (if g k then [] else match l[k]? with | some f => [f] | none => [])
theorem keep_len (g : Nat → Bool) (l : List Fact) : ∀ k, (keep g l k).length ≤ k
  | 0 => by simp [keep]
  | k + 1 => by
    have := keep_len g l k
    rw [keep, List.length_append]
    split
    · simp; omega
    · split <;> simp <;> omega
theorem keep_mem (g : Nat → Bool) (l : List Fact) : ∀ k, ∀ f ∈ keep g l k, f ∈ l
  | 0, f, h => by simp [keep] at h
  | k + 1, f, h => by
    rw [keep, List.mem_append] at h
    rcases h with h | h
    · exact keep_mem g l k f h
    · split at h
      · simp at h
      · split at h
        · rename_i e
          simp at h; subst h
          exact List.mem_of_getElem? e
        · simp at h
def goneE (ended : List Int) (i : Nat) : Bool := ended.any fun e => e == (i : Int)
/-- the facts with rows of their own -/
def owned (f : Fact) : Fact := ⟨false, f.row, f.p⟩
def applyF (l : List Fact) (ended : List Int) (added : List Fact) : List Fact := keep (goneE ended) l l.length ++ added

/-! ### Who is alike -/
def alikeK (a b : List Val) (k : Int) : Bool := decide (0 ≤ k) && decide (k < a.length) && decide (k < b.length) && (a[k.toNat]! == b[k.toNat]!)
def alike (a b : List Val) (keys : List Int) : Bool := keys.all (alikeK a b) && decide (0 < keys.length)
def clashes (f g : Fact) (keys : List Int) : Bool := lapOk f.p g.p && alike f.row g.row keys
end Go.Proofs.Ytkfiiomdkljjnaa
