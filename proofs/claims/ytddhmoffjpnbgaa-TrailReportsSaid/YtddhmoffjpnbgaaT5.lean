/- Contracts of functions of the seat, proved in a logic on data over the model (part T5). -/
import Derived.Test.YtddhmoffjpnbgaaT4
import Derived.Test.YtddhmoffjpnbgaaVN2
set_option linter.unusedSimpArgs false
set_option linter.unusedVariables false
namespace Go.Proofs.Ytddhmoffjpnbgaa
open Go.VL Go.RowKit

/-- of lists whose keys rise, one that permutes the other is the other -/
theorem rise_ext {α : Type} (f : α → Int) : ∀ {l m : List α}, l.Pairwise (fun x y => f x < f y) → m.Pairwise (fun x y => f x < f y) → l.Perm m → l = m
  | [], m, _, _, h => (List.nil_perm.1 h).symm
  | x :: l, [], _, _, h => by have := h.length_eq; simp at this
  | x :: l, y :: m, hl, hm, h => by
    obtain ⟨l1, l2⟩ := List.pairwise_cons.1 hl
    obtain ⟨m1, m2⟩ := List.pairwise_cons.1 hm
    have hx : x ∈ y :: m := h.mem_iff.1 (by simp)
    have hy : y ∈ x :: l := h.mem_iff.2 (by simp)
    have e : x = y := by
      rcases List.mem_cons.1 hx with e | hx
      · exact e
      · rcases List.mem_cons.1 hy with e | hy
        · exact e.symm
        · have := l1 y hy; have := m1 x hx; omega
    subst e
    rw [rise_ext f l2 m2 (List.perm_cons x |>.1 h)]
theorem rises {α : Type} (f : α → Int) {l : List α} (h : l.Pairwise fun x y => f x ≤ f y) (hn : (l.map f).Nodup) : l.Pairwise fun x y => f x < f y := by
  have hn' : l.Pairwise fun x y => f x ≠ f y := by
    have := hn
    rw [List.Nodup, List.pairwise_map] at this
    exact this
  exact (h.and hn').imp fun ⟨a, b⟩ => by omega
theorem Sorts.uniq {sortT : List Tou → List Tou} (hs : Sorts sortT) {l m : List Tou} (hl : (l.map Tou.page).Nodup) (h : m.Perm l) : sortT m = sortT l := by
  have h1 : (sortT m).Perm (sortT l) := (hs.perm m).trans (h.trans (hs.perm l).symm)
  have hn : ((sortT l).map Tou.page).Nodup := ((hs.perm l).map _).nodup_iff.2 hl
  have hm : ((sortT m).map Tou.page).Nodup := (h1.map _).nodup_iff.2 hn
  exact rise_ext Tou.page (rises _ (hs.sorted m) hm) (rises _ (hs.sorted l) hn) h1

def sortedB (N : Nat) (sortT : List Tou → List Tou) (l : List Tou) : List (Nat × Res) := [(N, .arr l.isEmpty (if l.isEmpty then 0 else 3) ((sortT l).map Tou.cells) 0)]
def sortedQ (N : Nat) (sortT : List Tou → List Tou) (l : List Tou) (rs : List S) (b' : List (Nat × Res)) : Prop := rs = [.own N l.length] ∧ b' = sortedB N sortT l

set_option maxRecDepth 4000 in
set_option maxHeartbeats 8000000 in
theorem sortedFunc_spec {sortT : List Tou → List Tou} (hs : Sorts sortT) (l : List Tou) (hl : l.length ≤ 2200000000000) (hp : (l.map Tou.page).Nodup) : ConX Try.prog 15 [.fnp 28 [.ptr 1 0], .c (.fn 17 [])] (pgB l) (sortedQ 600 sortT l) := by
  refine spec_ofX Try.func15 rfl (by kernel_rfl) (by simp [Try.f15]) (fun w0 K0 => vx_ok (H := fun id => id == 1) _ _ _ (by kernel_rfl) ?_)
  simp only [Try.f15]
  simp -dsimp [initY, initEnv, pgB]
  refine VL.hand (by kernel_rfl) ?_
  refine VRS.run 1 ?_
  simp -dsimp
  refine VRS.callX (pgB l) (seqQ2 500 l) [.fnp 28 [.ptr 1 0]] (fun i => if i = 500 then 600 else i) (by simp) ⟨collect_spec l hl, ?_, ?_, ?_, ?_, ?_, ?_⟩ ?_
  · simp [renSs, renS]
  · simp [pgB, renR, renSs, renS, ren_mpE]
  · simp [pgB]
  · rintro rs b' ⟨m, hm, rfl, rfl⟩
    simp [pgB]
  · rintro rs b' ⟨m, hm, rfl, rfl⟩
    simp [Res.nam]
  · rintro rs b' ⟨m, hm, rfl, rfl⟩
    simp [S.nams, S.nam]
  rintro rs b' ⟨m, hm, rfl, rfl⟩
  have hlen := hm.length_eq
  have hu := hs.uniq hp hm
  have hlm := hs.len m
  simp -dsimp [pgB, retS, renSs, renS, renR]
  refine VRS.fin ?_
  simp -dsimp
  cases m with
  | nil =>
    obtain rfl : l = [] := List.length_eq_zero_iff.1 hlen.symm
    have hu0 : sortT [] = [] := List.length_eq_zero_iff.1 hlm
    refine VCL.seenX [(600, .arr true 0 [] 0)] 700 _ _ (by kernel_rfl) hs.nil (by simp [seenAs, seenA, lk, vlook]) (by simp [isArr, keptP]) (by simp) (by simp [resB]) (by simp) ?_
    simp -dsimp [resB, resS, retS, renSs, renS]
    simp [retX, Try.f15]
    refine ⟨_, ⟨rfl, rfl⟩, by simp [resEnd, sortedB, hu0]⟩
  | cons t m =>
    have hle : l.isEmpty = false := by cases l with | nil => simp at hlen | cons => rfl
    have hlne : l ≠ [] := by intro e; simp [e] at hle
    refine VCL.lend [(1, .arr false 3 ((t :: m).map Tou.cells) 0)] [(1, .arr false 3 ((sortT (t :: m)).map Tou.cells) 0)] [.own 1 (t :: m).length, .c (.fn 17 [])] _ _ (fun _ => 600) [] ⟨hs.con (t :: m) (by omega), ?_, ?_, ?_, ?_, ?_, ?_, ?_⟩ ?_
    · simp [renSs, renS]
    · simp [renR]
    · simp
    · simp
    · simp [Res.nam]
    · simp [S.nams]
    · simp [lk, keptP]
      exact ⟨3, _, ⟨rfl, rfl⟩, _, ⟨rfl, rfl⟩, by simp, by simp [hlm]⟩
    simp -dsimp [retS, renSs]
    rw [hu]
    simp [retX, Try.f15]
    refine ⟨_, ⟨?_, rfl⟩, ?_⟩
    · simpa using hlen
    · simp [resEnd, sortedB, hle, hlne]
end Go.Proofs.Ytddhmoffjpnbgaa
