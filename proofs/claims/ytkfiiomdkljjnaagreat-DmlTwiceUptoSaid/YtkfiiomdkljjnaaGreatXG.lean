/- Contracts of the document's package 20: which facts a change is about, what lies outside, what lies within. -/
import Derived.Test.YtkfiiomdkljjnaaGreatXE
import Derived.Test.YtkfiiomdkljjnaaGreatXF
import Derived.Test.YtkfiiomdkljjnaaGreatEA
set_option linter.unusedSimpArgs false
set_option linter.unusedVariables false
namespace Go.Proofs.YtkfiiomdkljjnaaGreat
open Go.VL Go.RowKit

/-- expressions that were bound, and their terms -/
def Bound (sc : List SCol) (es : List Ex) (ts : List Tm) : Prop := es.length = ts.length ∧ ∀ i, (h : i < es.length) → (h' : i < ts.length) → es[i].fit ∧ bindE sc es[i] = .ok ts[i]
def tchP (a b : Per) : Bool := right a && right b && decide (a.f < b.t) && decide (b.f < a.t)
theorem tch_lap (a b : Per) : tchP a b = lapOk a b := by
  unfold tchP lapOk lapP right
  rw [Bool.eq_iff_iff]
  simp only [Bool.and_eq_true, decide_eq_true_eq]
  omega
theorem Bound.take {sc : List SCol} {es : List Ex} {ts : List Tm} (h : Bound sc es ts) {k : Nat} (hk : k < es.length) : k < ts.length := by rw [← h.1]; exact hk

def restR (f : Fact) (p : Per) : List Fact :=
  (if f.p.f < p.f then [⟨false, f.row, ⟨f.p.f, p.f⟩⟩] else []) ++ (if p.t < f.p.t then [⟨false, f.row, ⟨p.t, f.p.t⟩⟩] else [])

end Go.Proofs.YtkfiiomdkljjnaaGreat
/- Contracts of the document's package 20: deleting within a period, where conditions hold. -/
set_option linter.unusedSimpArgs false
set_option linter.unusedVariables false
namespace Go.Proofs.YtkfiiomdkljjnaaGreat
open Go.VL Go.RowKit

def partR (i : Nat) (f : Fact) (p : Per) : Part := ⟨i, lapP f.p p, restR f p⟩
def partsR (ts : List Tm) (l : List Fact) (p : Per) : Nat → List Part
  | 0 => []
  | k + 1 => partsR ts l p k ++ (match l[k]? with | some f => if okP ts p f then [partR k f p] else [] | none => [])
theorem partsR_yes {ts : List Tm} {l : List Fact} {p : Per} {k : Nat} (h : k < l.length) (hg : okP ts p l[k] = true) : partsR ts l p (k + 1) = partsR ts l p k ++ [partR k l[k] p] := by
  rw [partsR, List.getElem?_eq_getElem h]; simp [hg]
theorem partsR_no {ts : List Tm} {l : List Fact} {p : Per} {k : Nat} (h : k < l.length) (hg : okP ts p l[k] = false) : partsR ts l p (k + 1) = partsR ts l p k := by
  rw [partsR, List.getElem?_eq_getElem h]; simp [hg]
theorem partsR_len (ts : List Tm) (l : List Fact) (p : Per) : ∀ k, (partsR ts l p k).length ≤ k
  | 0 => by simp [partsR]
  | k + 1 => by
    have := partsR_len ts l p k
    rw [partsR, List.length_append]
    split
    · split <;> simp <;> omega
    · simp; omega
theorem restR_len (f : Fact) (p : Per) : (restR f p).length ≤ 2 := by
  unfold restR; split <;> split <;> simp
theorem partsR_rests (ts : List Tm) (l : List Fact) (p : Per) : ∀ k, ∀ x ∈ partsR ts l p k, x.rests.length ≤ 2
  | 0, x, h => by simp [partsR] at h
  | k + 1, x, h => by
    rw [partsR, List.mem_append] at h
    rcases h with h | h
    · exact partsR_rests ts l p k x h
    · split at h
      · split at h
        · simp at h; subst h; exact restR_len _ _
        · simp at h
      · simp at h
def pE (L : List Part) : List Int := L.map fun x => (x.at_ : Int)
def pA (L : List Part) : List Fact := L.flatMap Part.rests
theorem pA_len (L : List Part) (h : ∀ x ∈ L, x.rests.length ≤ 2) : (pA L).length ≤ 2 * L.length := flat_len L h
end Go.Proofs.YtkfiiomdkljjnaaGreat
/- Contract of the document's package 20: columns get other values within a period. -/
set_option linter.unusedSimpArgs false
set_option linter.unusedVariables false
namespace Go.Proofs.YtkfiiomdkljjnaaGreat
open Go.VL Go.RowKit

structure RSet where
  place : Int
  e : Ex
def RSet.cells (s : RSet) : List C := i64 s.place :: s.e.cells
@[simp] theorem RSet.len (s : RSet) : s.cells.length = 6 := by simp [RSet.cells]
abbrev rsets (l : List RSet) : List (List C) := l.map RSet.cells
def BoundS (sc : List SCol) (rs : List RSet) (us : List USet) : Prop := rs.length = us.length ∧ ∀ i, (h : i < rs.length) → (h' : i < us.length) → rs[i].place = us[i].place ∧ rs[i].e.fit ∧ bindE sc rs[i].e = .ok us[i].t

theorem partsR_pre (ts : List Tm) (l : List Fact) (p : Per) (k : Nat) : ∀ n, k ≤ n → ∃ m, partsR ts l p n = partsR ts l p k ++ m
  | 0, h => ⟨[], by have : k = 0 := by omega
                    subst this; simp⟩
  | n + 1, h => by
    by_cases e : k = n + 1
    · subst e; exact ⟨[], by simp⟩
    · obtain ⟨m, hm⟩ := partsR_pre ts l p k n (by omega)
      rw [partsR, hm]
      exact ⟨_, List.append_assoc _ _ _⟩

end Go.Proofs.YtkfiiomdkljjnaaGreat
