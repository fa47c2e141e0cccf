/- Contracts of functions of the seat, proved in a logic on data over the model (part Q11). -/
import Derived.Test.YtdpjdmgdngjjnaaQ9
import Derived.Test.YtdpjdmgdngjjnaaV31
import Derived.Test.YtdpjdmgdngjjnaaV30
set_option linter.unusedSimpArgs false
set_option linter.unusedVariables false
namespace Go.Proofs.Ytdpjdmgdngjjnaa
open Go.VL Go.RowKit

theorem Canon.someP {l : List Per} (h : Canon l) (t : Int) : someP l t = inL l t := by
  unfold Go.Proofs.Ytdpjdmgdngjjnaa.someP inL
  rw [Bool.eq_iff_iff, List.any_eq_true, List.any_eq_true]
  constructor
  · rintro ⟨p, h1, h2⟩
    simp at h2
    exact ⟨p, h1, h2.2⟩
  · rintro ⟨p, h1, h2⟩
    exact ⟨p, h1, by simp [h.ok p h1, h2]⟩
theorem someP_append (l m : List Per) (t : Int) : someP (l ++ m) t = (someP l t || someP m t) := by
  unfold someP; rw [List.any_append]

/-- one more, put together with what is put together -/
theorem union_step {sortP : List Per → List Per} (hs : Sorts sortP) (l : List Per) (p : Per) : unionL sortP (unionL sortP l ++ [p]) = unionL sortP (l ++ [p]) := by
  have h1 := unionL_ok hs l
  have h2 := unionL_ok hs (unionL sortP l ++ [p])
  have h3 := unionL_ok hs (l ++ [p])
  refine Canon.ext h2.1 h3.1 fun t => ?_
  rw [h2.2, h3.2, someP_append, someP_append, h1.1.someP, h1.2]

/-- what is within -/
theorem within {l : List Per} {x : Per} (h : Canon l) (hx : ∀ t, inL l t = true → x.f ≤ t ∧ t < x.t) : ∀ q ∈ l, x.f ≤ q.f ∧ q.t ≤ x.t := by
  intro q hq
  have hr := (right_iff q).1 (h.ok q hq)
  have a := hx q.f ((inL_iff _ _).2 ⟨q, hq, by omega, by omega⟩)
  have b := hx (q.t - 1) ((inL_iff _ _).2 ⟨q, hq, by omega, by omega⟩)
  omega

/-- p taken off each -/
def offP (sortP : List Per → List Per) (p : Per) (m : List Per) : List Per := m.flatMap fun x => minusL sortP x [p]
theorem offP_ok {sortP : List Per → List Per} (hs : Sorts sortP) (p : Per) : ∀ (m : List Per), Canon m → Canon (offP sortP p m) ∧ ∀ t, inL (offP sortP p m) t = (inL m t && !someP [p] t)
  | [], _ => ⟨by simp [offP, Canon.nil], by simp [offP, inL]⟩
  | x :: m, h => by
    obtain ⟨h1, h2⟩ := offP_ok hs p m h.tail
    have hx := minusL_ok hs x [p]
    have hrx := h.ok x (by simp)
    have e : offP sortP p (x :: m) = minusL sortP x [p] ++ offP sortP p m := by simp [offP]
    rw [e]
    have hw := within hx.1 (x := x) (fun t ht => by
      rw [hx.2] at ht
      simp at ht
      exact (has_iff x t).1 ht.1.2)
    refine ⟨⟨fun q hq => ?_, ?_⟩, fun t => ?_⟩
    · rcases List.mem_append.1 hq with h3 | h3
      · exact hx.1.ok q h3
      · exact h1.ok q h3
    · rw [List.pairwise_append]
      refine ⟨hx.1.apart, h1.apart, fun q hq r hr => ?_⟩
      have a := hw q hq
      have hrr := (right_iff r).1 (h1.ok r hr)
      have b : inL m r.f = true := by
        have := (inL_iff (offP sortP p m) r.f).2 ⟨r, hr, by omega, by omega⟩
        rw [h2] at this
        simp at this
        exact this.1
      have := h.head b
      omega
    · rw [inL_append, hx.2, h2, inL_cons, hrx]
      cases has x t <;> cases inL m t <;> cases someP [p] t <;> rfl
theorem off_step {sortP : List Per → List Per} (hs : Sorts sortP) (a p : Per) (l : List Per) : offP sortP p (minusL sortP a l) = minusL sortP a (l ++ [p]) := by
  have h1 := minusL_ok hs a l
  have h2 := offP_ok hs p _ h1.1
  have h3 := minusL_ok hs a (l ++ [p])
  refine Canon.ext h2.1 h3.1 fun t => ?_
  rw [h2.2, h3.2, h1.2, someP_append]
  cases right a && has a t <;> cases someP l t <;> cases someP [p] t <;> rfl
theorem offP_snoc {sortP : List Per → List Per} (p : Per) (m : List Per) {j : Nat} (h : j < m.length) : offP sortP p (m.take (j + 1)) = offP sortP p (m.take j) ++ minusL sortP m[j] [p] := by
  unfold offP; rw [take_snoc h, List.flatMap_append]; simp
theorem offP_len {sortP : List Per → List Per} (p : Per) (m : List Per) (j : Nat) : (offP sortP p (m.take j)).length ≤ (offP sortP p m).length := by
  conv => rhs; rw [← List.take_append_drop j m]
  unfold offP
  rw [List.flatMap_append, List.length_append]
  omega
theorem same_at (na nb : Bool) (xs ys : List (List C)) (l : List Per) (h : xs = l.map Per.cells) (h' : ys = l.map Per.cells) (hl : l.length ≤ 140737488355328) : Con Try.prog 14 [.c (.sl na xs), .c (.sl nb ys)] [.c (bln true)] := by
  have := same_spec na nb l l hl
  simp at this
  rw [h, h']; exact this

/-- names turned at the loop's head -/
def sτ (n : Nat) : Nat := if n = 576 then 960 else if n = 960 then 576 else if n = 2560 then 384 else if n = 384 then 2560 else n
theorem sτ_inv (n : Nat) : sτ (sτ n) = n := by
  unfold sτ
  repeat' split
  all_goals omega
/-- an index of a loop: how many are done; an element's cells -/
structure SI where
  k : Nat
  sz : Nat

set_option maxRecDepth 4000 in
set_option maxHeartbeats 16000000 in
theorem steps_spec {sortP : List Per → List Per} (hs : Sorts sortP) (a : Per) (nl : Bool) (l : List Per) (hn : nl = true → l = []) (hl : l.length ≤ 8796093021952) :
    Con Try.prog 3 [.agg a.cells, .c (.sl nl (l.map Per.cells))] [.c (bln true)] := by
  refine spec_of Try.func3 rfl (by kernel_rfl) (by simp [Try.f3]) (fun w0 K0 => vc_ok _ _ _ (by kernel_rfl) ?_)
  simp only [Try.f3]
  simp -dsimp [Per.cells]
  refine VC.mk _ (awake_spec hs) ?_
  simp -dsimp
  refine VC.mk _ (minus_at hs _ true _ a [] rfl rfl (by simp) (by simp)) ?_
  simp -dsimp
  refine VL.loopR (fun i : SI => ⟨[(18, .c (i64 i.k)), (17, .c (i64 l.length)), (16, .c (.sl nl (l.map Per.cells))), (5, .own 960 (minusL sortP a (l.take i.k)).length), (6, .own 384 (unionL sortP (l.take i.k)).length), (2, .ptr 128 0), (1, .c (.sl nl (l.map Per.cells)))],
      [(960, some (.arr (minusL sortP a (l.take i.k)).isEmpty i.sz ((minusL sortP a (l.take i.k)).map Per.cells) 0)), (384, some (.arr (unionL sortP (l.take i.k)).isEmpty (esz (unionL sortP (l.take i.k))) ((unionL sortP (l.take i.k)).map Per.cells) 0)), (128, some (.box false [.c (i64 a.f), .c (i64 a.t)]))]⟩)
    (fun i => i.k ≤ l.length ∧ (minusL sortP a (l.take i.k) ≠ [] → i.sz = 2)) (fun i => l.length - i.k) ⟨0, esz (minusL sortP a [])⟩ (by kernel_rfl) ⟨by simp, fun h => by simp [esz]; simpa using h⟩ ?_ ?_
  · have e : unionL sortP [] = [] := by
      have := unionL_len hs []
      simpa using this
    simp [St.le, e, esz]
  intro ⟨k, sz⟩ ⟨hk, hsz⟩
  simp only at hk hsz
  have hm1 := minusL_len hs a (l.take k)
  have hu1 := unionL_len hs (l.take k)
  have hst := fun p => off_step hs a p (l.take k)
  have hut := fun p => union_step hs (l.take k) p
  have hlk : (l.take k).length = k := by rw [List.length_take]; omega
  rw [hlk] at hm1 hu1
  by_cases hlt : k < l.length
  · have hsn := take_snoc hlt
    have hm2 := minusL_len hs a (l.take (k + 1))
    rw [hsn, List.length_append, hlk] at hm2
    rw [← hsn] at hm2
    have hst' := hst l[k]
    have hut' := hut l[k]
    rw [← hsn] at hst' hut'
    generalize hm : minusL sortP a (l.take k) = m at *
    generalize hu : unionL sortP (l.take k) = u at *
    have hw : IntKind.i64.wrap ((k : Int) + 1) = (k : Int) + 1 := IntWalk.i64_in _ (by omega)
    have hmm : ∀ j, j ≤ m.length → (offP sortP l[k] (m.take j)).length ≤ k + 2 := fun j _ => by
      have := offP_len (sortP := sortP) l[k] m j
      rw [hst'] at this
      simp at hm2
      omega
    simp -dsimp [hlt, Per.cells]
    refine VL.loop (fun i : SI => ⟨[(24, .c (i64 i.k)), (23, .c (i64 m.length)), (22, .own 960 m.length), (9, .own 576 (offP sortP l[k] (m.take i.k)).length), (8, .ptr 512 0), (18, .c (i64 k)), (17, .c (i64 l.length)), (16, .c (.sl nl (l.map Per.cells))), (6, .own 384 u.length), (2, .ptr 128 0), (1, .c (.sl nl (l.map Per.cells)))],
      [(576, some (.arr (offP sortP l[k] (m.take i.k)).isEmpty i.sz ((offP sortP l[k] (m.take i.k)).map Per.cells) 0)), (512, some (.box false [.c (i64 l[k].f), .c (i64 l[k].t)])), (960, some (.arr m.isEmpty sz (m.map Per.cells) 0)), (384, some (.arr u.isEmpty (esz u) (u.map Per.cells) 0)), (128, some (.box false [.c (i64 a.f), .c (i64 a.t)]))]⟩)
      (fun i => i.k ≤ m.length ∧ (offP sortP l[k] (m.take i.k) ≠ [] → i.sz = 2)) (fun i => m.length - i.k) ⟨0, 0⟩ (by kernel_rfl) (by simp [offP]) (by simp [St.le, offP, esz]) ?_
    intro ⟨j, sz2⟩ ⟨hj, hsz2⟩
    simp only at hj hsz2
    have hmj := hmm j hj
    have hsj := fun h : j < m.length => offP_snoc (sortP := sortP) l[k] m h
    simp -dsimp
    refine VIf.mk (fun h => ?_) (fun h => ?_)
    · have hjm : j < m.length := by simpa using h
      have hwj : IntKind.i64.wrap ((j : Int) + 1) = (j : Int) + 1 := IntWalk.i64_in _ (by omega)
      have hme : m.isEmpty = false := by cases m with | nil => simp at hjm | cons => rfl
      have hez : sz = 2 := hsz (by intro e; rw [e] at hjm; simp at hjm)
      have hsj' := hsj hjm
      have hmj1 := hmm (j + 1) hjm
      rw [hsj'] at hmj1
      generalize offP sortP l[k] (m.take j) = nx at *
      simp -dsimp [hjm, hme, hez, Per.cells]
      refine ⟨by decide, VCL.snap ?_⟩
      simp -dsimp
      refine VC.mk _ (minus_at hs _ false _ m[j] [l[k]] rfl rfl (by simp) (by simp)) ?_
      generalize minusL sortP m[j] [l[k]] = e at *
      simp -dsimp [hwj]
      refine ⟨hsz2, by simp at hmj1; omega, ⟨j + 1, 2⟩, ⟨hjm, fun _ => rfl⟩, ?_, by simp; omega⟩
      simp [St.le, hsj', hme, hez]
      cases nx <;> cases e <;> rfl
    · simp at h
      obtain rfl : j = m.length := by omega
      rw [List.take_length] at hsz2 ⊢
      simp -dsimp
      refine ⟨by decide, fun h => by simp [esz]; simpa using h, by omega, VCL.snap ?_⟩
      simp -dsimp
      have hun := union_spec hs false (u ++ [l[k]]) (by simp) (by simp; omega)
      rw [hut'] at hun
      simp only [List.map_append, List.map_cons, List.map_nil, Per.cells] at hun
      refine VC.mk _ hun ?_
      simp -dsimp [hw]
      refine ⟨⟨k + 1, sz2⟩, ⟨hlt, ?_⟩, sτ, sτ_inv, ?_, by simp; omega⟩
      · rw [← hst']; simpa using hsz2
      · rw [← hst']
        simp [St.le, St.ren, sτ, renS, renR, renSs]
  · obtain rfl : k = l.length := by omega
    rw [List.take_length]
    have hm := minusL_len hs a l
    have hu := unionL_len hs l
    simp -dsimp
    refine VC.mk _ (minus_at hs _ nl _ a l rfl rfl hn hl) ?_
    simp -dsimp
    refine VCL.snap ?_
    simp -dsimp
    refine VC.mk _ (same_at _ _ _ _ (minusL sortP a l) rfl rfl (by omega)) ?_
    simp -dsimp
    refine VG.mk [.c (.sl (unionL sortP l).isEmpty ((unionL sortP l).map Per.cells))] _ (fun _ => (union_spec hs nl l hn hl).frz 0 rfl) rfl ?_
    simp -dsimp
    refine VGL.call (args := [.tmp 48, .tmp 50]) _ _ _ _ _ ?_ ?_ ?_ ?_
    · rfl
    · rfl
    · rfl
    simp -dsimp
    refine VCL.snap ?_
    simp -dsimp
    refine VC.mk _ (same_at _ _ _ _ (unionL sortP l) rfl rfl (by omega)) ?_
    simp -dsimp
end Go.Proofs.Ytdpjdmgdngjjnaa
