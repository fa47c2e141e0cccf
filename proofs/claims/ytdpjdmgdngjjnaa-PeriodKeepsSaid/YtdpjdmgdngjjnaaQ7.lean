/- Contracts of functions of the seat, proved in a logic on data over the model (part Q7). -/
import Derived.Test.YtdpjdmgdngjjnaaQ6
set_option linter.unusedSimpArgs false
set_option linter.unusedVariables false
namespace Go.Proofs.Ytdpjdmgdngjjnaa
open Go.VL Go.RowKit

/-- Union, of whatever slice -/
def unionL (sortP : List Per → List Per) (l : List Per) : List Per := sumP (sortP (l.filter right))
def esz (m : List Per) : Nat := if m.isEmpty then 0 else 2
theorem union_spec {sortP : List Per → List Per} (hs : Sorts sortP) (nl : Bool) (l : List Per) (hn : nl = true → l = []) (hl : l.length ≤ 8796093021952) :
    Con Try.prog 13 [.c (.sl nl (l.map Per.cells))] [.fr (unionL sortP l).isEmpty (esz (unionL sortP l)) ((unionL sortP l).map Per.cells) 0] := by
  cases nl with
  | false => exact union_some hs l hl
  | true =>
    obtain rfl := hn rfl
    have h := union_nil hs
    have e : unionL sortP [] = [] := by
      unfold unionL
      have : (sortP ([].filter right)) = [] := by
        have := hs.len []
        simpa using this
      rw [this]; rfl
    rw [e]
    exact h

/-- what is left before p, and from where on -/
def subS (s : List Per × Int) (p : Per) : List Per × Int := (if s.2 < p.f then s.1 ++ [⟨s.2, p.f⟩] else s.1, max s.2 p.t)
def subK (a : Per) (u : List Per) : List Per × Int := u.foldl subS ([], a.f)
def minusP (a : Per) (u : List Per) : List Per :=
  let s := subK a (u.takeWhile fun p => decide (p.f < a.t))
  if s.2 < a.t then s.1 ++ [⟨s.2, a.t⟩] else s.1
def minusL (sortP : List Per → List Per) (a : Per) (l : List Per) : List Per := if right a then minusP a (unionL sortP l) else []
theorem subK_snoc (a : Per) (u : List Per) {k : Nat} (h : k < u.length) : subK a (u.take (k + 1)) = subS (subK a (u.take k)) u[k] := by
  unfold subK; rw [take_snoc h, List.foldl_append]; rfl
theorem subS_len (s : List Per × Int) (p : Per) : (subS s p).1.length ≤ s.1.length + 1 := by
  unfold subS; split <;> simp
theorem subK_len (a : Per) (u : List Per) : ∀ k, k ≤ u.length → (subK a (u.take k)).1.length ≤ k
  | 0, _ => by simp [subK]
  | k + 1, h => by
    rw [subK_snoc a u h]
    have := subS_len (subK a (u.take k)) u[k]
    have := subK_len a u k (by omega)
    omega
theorem takeWhile_at {α : Type} (q : α → Bool) : ∀ (u : List α) (k : Nat), k ≤ u.length → (∀ j, (h : j < u.length) → j < k → q u[j] = true) → (∀ h : k < u.length, q u[k] = false) → u.takeWhile q = u.take k
  | [], k, _, _, _ => by simp
  | x :: u, 0, _, _, h => by
    have := h (by simp)
    simp at this
    simp [this]
  | x :: u, k + 1, hk, h1, h2 => by
    have := h1 0 (by simp) (by omega)
    simp at this
    rw [List.takeWhile_cons, this]
    simp only [if_true, List.take_succ_cons]
    rw [takeWhile_at q u k (by simp at hk; omega) (fun j h hj => by have := h1 (j + 1) (by simp; omega) (by omega); simpa using this) (fun h => by have := h2 (by simp; omega); simpa using this)]

set_option maxRecDepth 4000 in
set_option maxHeartbeats 8000000 in
theorem minus_spec {sortP : List Per → List Per} (hs : Sorts sortP) (a : Per) (nl : Bool) (l : List Per) (hn : nl = true → l = []) (hl : l.length ≤ 8796093021952) :
    Con Try.prog 12 [.agg a.cells, .c (.sl nl (l.map Per.cells))] [.fr (minusL sortP a l).isEmpty (esz (minusL sortP a l)) ((minusL sortP a l).map Per.cells) 0] := by
  refine spec_of Try.func12 rfl (by kernel_rfl) (by simp [Try.f12]) (fun w0 K0 => vc_ok _ _ _ (by kernel_rfl) ?_)
  simp only [Try.f12]
  simp -dsimp [Per.cells]
  refine VC.mk _ (check_at _ a rfl) ?_
  simp -dsimp
  refine VIf.mk (fun h => ?_) (fun h => ?_)
  · have hr : right a = false := by simpa using h
    have e : minusL sortP a l = [] := by simp [minusL, hr]
    rw [e]
    simp -dsimp [esz]
  have hr : right a = true := by simpa using h
  have hul : (unionL sortP l).length ≤ 8796093021952 := by
    have h1 := hs.len (l.filter right)
    have h2 := sumP_len (sortP (l.filter right)) (sortP (l.filter right)).length (Nat.le_refl _)
    rw [List.take_length] at h2
    have h3 := List.length_filter_le right l
    unfold unionL
    omega
  simp -dsimp
  refine VC.mk _ (union_spec hs nl l hn hl) ?_
  have em : minusL sortP a l = minusP a (unionL sortP l) := by simp [minusL, hr]
  rw [em]
  generalize unionL sortP l = u at *
  simp -dsimp
  refine VL.loop (fun i : UI => ⟨[(17, .c (i64 i.k)), (16, .c (i64 u.length)), (15, .own 960 u.length), (5, .own 320 (subK a (u.take i.k)).1.length), (6, .c (i64 (subK a (u.take i.k)).2)), (2, .ptr 128 0)],
      [(320, some (.arr i.nl i.sz ((subK a (u.take i.k)).1.map Per.cells) 0)), (960, some (.arr u.isEmpty (esz u) (u.map Per.cells) 0)), (128, some (.box false [.c (i64 a.f), .c (i64 a.t)]))]⟩)
    (fun i => i.k ≤ u.length ∧ i.nl = (subK a (u.take i.k)).1.isEmpty ∧ (i.sz = if i.nl then 0 else 2) ∧ ∀ j, (h : j < u.length) → j < i.k → u[j].f < a.t) (fun i => u.length - i.k) ⟨0, true, 0⟩ (by kernel_rfl) (by simp [subK]) (by simp [St.le, subK]) ?_
  intro ⟨k, nl', sz⟩ ⟨hk, hnl, hsz, hbef⟩
  simp only at hk hnl hsz hbef
  have hol := subK_len a u k hk
  have hsu := fun h : k < u.length => subK_snoc a u h
  generalize ho : subK a (u.take k) = o at *
  obtain ⟨out, fr⟩ := o
  simp only at hnl hol
  simp -dsimp
  refine VIf.mk (fun h => ?_) (fun h => ?_)
  · have hlt : k < u.length := by simpa using h
    have hw : IntKind.i64.wrap ((k : Int) + 1) = (k : Int) + 1 := IntWalk.i64_in _ (by omega)
    have hue : u.isEmpty = false := by cases u with | nil => simp at hlt | cons => rfl
    have hsz2 : esz u = 2 := by simp [esz, hue]
    simp -dsimp [hlt, hue, hsz2, Per.cells]
    refine VIf.mk (fun hb => ?_) (fun hb => ?_)
    · have hb' : a.t ≤ u[k].f := by simpa using hb
      have etw : u.takeWhile (fun p => decide (p.f < a.t)) = u.take k :=
        takeWhile_at (fun p => decide (p.f < a.t)) u k hk (fun j h hj => by simpa using hbef j h hj) (fun h => by simpa using hb')
      have emp : minusP a u = if fr < a.t then out ++ [⟨fr, a.t⟩] else out := by
        simp only [minusP, etw, ho]
      simp -dsimp
      refine VIf.mk (fun hf => ?_) (fun hf => ?_)
      · have hf' : fr < a.t := by simpa using hf
        rw [if_pos hf'] at emp
        rw [emp]
        simp -dsimp [maxLen]
        refine ⟨fun e => ?_, by omega, ?_⟩
        · rw [hsz, e]; rfl
        · simp [esz, Per.cells]
      · have hf' : ¬ fr < a.t := by simpa using hf
        rw [if_neg hf'] at emp
        rw [emp]
        simp -dsimp
        refine ⟨hnl, ?_⟩
        rw [hsz, hnl]; rfl
    · have hb' : u[k].f < a.t := by simpa using hb
      have hsu' := hsu hlt
      simp -dsimp
      refine VIf.mk (fun hf => ?_) (fun hf => ?_)
      · have hf' : fr < u[k].f := by simpa using hf
        have e : subK a (u.take (k + 1)) = (out ++ [⟨fr, u[k].f⟩], max fr u[k].t) := by rw [hsu']; simp [subS, hf']
        simp -dsimp [maxLen, hw]
        refine ⟨fun e2 => by rw [hsz, e2]; rfl, by omega, ⟨k + 1, false, 2⟩, ⟨hlt, by rw [e]; simp, rfl, ?_⟩, ?_, by simp; omega⟩
        · intro j h hj
          by_cases e3 : j = k
          · subst e3; exact hb'
          · exact hbef j h (by simp only at hj; omega)
        · have hun : ¬ u = [] := by intro e4; rw [e4] at hlt; simp at hlt
          simp [St.le, e, Per.cells, hsz2, hun]
      · have hf' : ¬ fr < u[k].f := by simpa using hf
        have e : subK a (u.take (k + 1)) = (out, max fr u[k].t) := by rw [hsu']; simp [subS, hf']
        simp -dsimp [hw]
        refine ⟨⟨k + 1, nl', sz⟩, ⟨hlt, by rw [e]; exact hnl, hsz, ?_⟩, ?_, by simp; omega⟩
        · intro j h hj
          by_cases e3 : j = k
          · subst e3; exact hb'
          · exact hbef j h (by simp only at hj; omega)
        · simp [St.le, e, hue, hsz2]
  · simp at h
    obtain rfl : k = u.length := by omega
    rw [List.take_length] at ho
    have etw : u.takeWhile (fun p => decide (p.f < a.t)) = u := by
      rw [takeWhile_at (fun p => decide (p.f < a.t)) u u.length (Nat.le_refl _) (fun j h hj => by simpa using hbef j h hj) (fun h => absurd h (by omega)), List.take_length]
    have emp : minusP a u = if fr < a.t then out ++ [⟨fr, a.t⟩] else out := by
      simp only [minusP, etw, ho]
    simp -dsimp
    refine VIf.mk (fun hf => ?_) (fun hf => ?_)
    · have hf' : fr < a.t := by simpa using hf
      rw [if_pos hf'] at emp
      rw [emp]
      simp -dsimp [maxLen]
      refine ⟨fun e => ?_, by omega, ?_⟩
      · rw [hsz, e]; rfl
      · simp [esz, Per.cells]
    · have hf' : ¬ fr < a.t := by simpa using hf
      rw [if_neg hf'] at emp
      rw [emp]
      simp -dsimp
      refine ⟨hnl, ?_⟩
      rw [hsz, hnl]; rfl
end Go.Proofs.Ytdpjdmgdngjjnaa
