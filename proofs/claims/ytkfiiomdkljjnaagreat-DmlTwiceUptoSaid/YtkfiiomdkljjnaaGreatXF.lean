/- Contracts: which facts a change is about, where conditions hold; deleting. -/
import Derived.Test.YtkfiiomdkljjnaaGreatXC
import Derived.Test.YtkfiiomdkljjnaaGreatDB
import Derived.Test.YtkfiiomdkljjnaaGreatVC
set_option linter.unusedSimpArgs false
set_option linter.unusedVariables false
namespace Go.Proofs.YtkfiiomdkljjnaaGreat
open Go.VL Go.RowKit

/-- is a change about a fact? -/
def okP (ts : List Tm) (p : Per) (f : Fact) : Bool := lapOk f.p p && holdsT f.row ts
def partsT (sortP : List Per → List Per) (ts : List Tm) (l : List Fact) (p : Per) : Nat → List Part
  | 0 => []
  | k + 1 => partsT sortP ts l p k ++ (match l[k]? with | some f => if okP ts p f then [partOf sortP k f p] else [] | none => [])
theorem partsT_yes {sortP : List Per → List Per} {ts : List Tm} {l : List Fact} {p : Per} {k : Nat} (h : k < l.length) (hg : okP ts p l[k] = true) : partsT sortP ts l p (k + 1) = partsT sortP ts l p k ++ [partOf sortP k l[k] p] := by
  rw [partsT, List.getElem?_eq_getElem h]; simp [hg]
theorem partsT_no {sortP : List Per → List Per} {ts : List Tm} {l : List Fact} {p : Per} {k : Nat} (h : k < l.length) (hg : okP ts p l[k] = false) : partsT sortP ts l p (k + 1) = partsT sortP ts l p k := by
  rw [partsT, List.getElem?_eq_getElem h]; simp [hg]
theorem partsT_len (sortP : List Per → List Per) (ts : List Tm) (l : List Fact) (p : Per) : ∀ k, (partsT sortP ts l p k).length ≤ k
  | 0 => by simp [partsT]
  | k + 1 => by
    have := partsT_len sortP ts l p k
    rw [partsT, List.length_append]
    split
    · split <;> simp <;> omega
    · simp; omega
set_option maxRecDepth 4000 in
set_option maxHeartbeats 16000000 in
theorem partsT_spec {sortP : List Per → List Per} (hs : Sorts sortP) (nl nw : Bool) (l : List Fact) (p : Per) (ts : List Tm) (hl : l.length ≤ 1000000000) (hr : Rows1 l) (hrow : ∀ f ∈ l, VFit f.row) (hts : TOk ts) (htl : ts.length ≤ 1000000000) :
    Con Tryz.prog 20 [.c (.sl nl (facts l)), .agg p.cells, .c (.sl nw (terms ts))] [.c (.sl (partsT sortP ts l p l.length).isEmpty (partCs (partsT sortP ts l p l.length)))] := by
  refine Con.frz (rs := [.fr (partsT sortP ts l p l.length).isEmpty (if (partsT sortP ts l p l.length).isEmpty then 0 else 4) (partCs (partsT sortP ts l p l.length)) 0]) ?_ 0 rfl
  refine spec_of Tryz.func20 rfl (by kernel_rfl) (by simp [Tryz.f20]) (fun w0 K0 => vc_ok _ _ _ (by kernel_rfl) ?_)
  simp only [Tryz.f20]
  simp -dsimp [Per.cells]
  refine VL.loop (fun i : KI => ⟨[(17, .c (i64 i.k)), (16, .c (i64 l.length)), (15, .c (.sl nl (facts l))), (0, .c (.sl nl (facts l))), (7, .own 448 (partsT sortP ts l p i.k).length), (4, .ptr 256 0), (2, .c (.sl nw (terms ts)))],
      [(448, some (.arr i.nl i.sz (partCs (partsT sortP ts l p i.k)) 0)), (256, some (.box false [.c (i64 p.f), .c (i64 p.t)]))]⟩)
    (fun i => i.k ≤ l.length ∧ PI i (partsT sortP ts l p i.k)) (fun i => l.length - i.k) ⟨0, true, 0⟩ (by kernel_rfl) ⟨by simp, rfl, rfl⟩ (by simp [St.le, partsT, partCs]) ?_
  intro ⟨k, z, sz⟩ ⟨hk, hz, hsz⟩
  simp only at hk hz hsz
  have hpl := partsT_len sortP ts l p k
  by_cases h1 : k < l.length
  · have hw : IntKind.i64.wrap ((k : Int) + 1) = (k : Int) + 1 := IntWalk.i64_in _ (by omega)
    simp -dsimp [h1, Fact.cells]
    refine VC.mk _ (overlap_spec l[k].p p) ?_
    simp -dsimp [Per.cells]
    refine VG.mk [.c (bln (holdsT l[k].row ts))] _ (fun _ => Holds_spec l[k].nl nw l[k].row (hrow _ (List.getElem_mem h1)) ts hts (by omega)) rfl ?_
    simp -dsimp
    refine VIf.mk (fun h => ?_) (fun h => ?_)
    · have hg : okP ts p l[k] = false := by unfold okP; revert h; cases lapOk l[k].p p <;> cases holdsT l[k].row ts <;> simp
      simp -dsimp [hw]
      refine ⟨⟨k + 1, z, sz⟩, ⟨by simp only; omega, by rw [partsT_no h1 hg]; exact ⟨hz, hsz⟩⟩, ?_, by simp only; omega⟩
      simp [St.le, partsT_no h1 hg]
    · have hg : okP ts p l[k] = true := by unfold okP; revert h; cases lapOk l[k].p p <;> cases holdsT l[k].row ts <;> simp
      simp -dsimp
      refine ⟨by decide, VCL.snap ?_⟩
      simp -dsimp
      refine VC.mk _ (minus_at hs _ false _ l[k].p [p] rfl rfl (by simp) (by simp)) ?_
      have hrl : (restsOf sortP l[k] p).length ≤ 2 := by
        have := minusL_len hs l[k].p [p]
        unfold restsOf; simp at this ⊢; omega
      have hRl : (minusL sortP l[k].p [p]).length ≤ 2 := by
        have := minusL_len hs l[k].p [p]
        simp at this; omega
      simp -dsimp
      refine VL.nilcell 768 3 10000 (by decide) ?_
      simp -dsimp
      obtain ⟨R, hR⟩ : ∃ R, R = minusL sortP l[k].p [p] := ⟨_, rfl⟩
      obtain ⟨F, hF⟩ : ∃ F, F = restsOf sortP l[k] p := ⟨_, rfl⟩
      rw [← hR] at hRl ⊢
      rw [← hF] at hrl
      have hFR : F = R.map fun q => ⟨false, l[k].row, q⟩ := by rw [hF, hR]; rfl
      have hlen : F.length = R.length := by rw [hFR]; simp
      refine VL.loop (fun i : KI => ⟨[(47, .c (i64 i.k)), (46, .c (i64 R.length)), (45, .c (.sl R.isEmpty (R.map Per.cells))), (9, .ptr 576 0), (12, .ptr 768 0), (7, .own 448 (partsT sortP ts l p k).length), (17, .c (i64 k)), (16, .c (i64 l.length)), (15, .c (.sl nl (facts l))), (0, .c (.sl nl (facts l))), (4, .ptr 256 0), (2, .c (.sl nw (terms ts)))],
          [(576, some (.box false [.c (.sl l[k].nl (vals l[k].row)), .c (i64 l[k].p.f), .c (i64 l[k].p.t)])),
            (768, some (.box false [.c (i64 k), .c (i64 (lap l[k].p p).f), .c (i64 (lap l[k].p p).t), .own 10000 (F.take i.k).length])),
            (10000, some (.arr i.nl i.sz (facts (F.take i.k)) 0)),
            (448, some (.arr z sz (partCs (partsT sortP ts l p k)) 0)), (256, some (.box false [.c (i64 p.f), .c (i64 p.t)]))]⟩)
        (fun i => i.k ≤ R.length ∧ i.Ok (F.take i.k)) (fun i => R.length - i.k) ⟨0, true, 0⟩ (by kernel_rfl) ⟨by simp, rfl, rfl⟩ (by simp [St.le, facts]) ?_
      intro ⟨j, z2, sz2⟩ ⟨hj, hz2, hsz2⟩
      simp only at hj hz2 hsz2
      have hmin : min j F.length = j := by omega
      by_cases h2 : j < R.length
      · have hw2 : IntKind.i64.wrap ((j : Int) + 1) = (j : Int) + 1 := IntWalk.i64_in _ (by omega)
        have hjF : j < F.length := by omega
        have hFj : F[j] = ⟨false, l[k].row, R[j]⟩ := by simp [hFR]
        simp -dsimp [h2, Per.cells]
        refine VL.draw (by kernel_rfl) [(0, false), (1, false), (0, false), (4, false), (12, false), (0, false), (60, false), (124, false), (255, true), (511, true), (1023, true)] (by kernel_rfl) ?_
        simp -dsimp
        refine VCE.mk _ (copied_frz l[k].nl l[k].row (hr l[k] (List.getElem_mem h1))) ?_
        simp -dsimp [hw2, hmin, maxLen]
        have hTk : List.take (j + 1) (List.map Fact.cells F) = List.take j (List.map Fact.cells F) ++ [F[j].cells] := by
          have := congrArg (List.map Fact.cells) (take_snoc hjF); rw [List.map_append, List.map_take, List.map_take] at this; exact this
        have hmin2 : min (j + 1) F.length = j + 1 := by omega
        refine ⟨fun e => by rw [hsz2, e]; rfl, by omega, ⟨j + 1, false, 3⟩, ⟨by simp only; omega, ?_⟩, ?_, by simp only; omega⟩
        · rw [take_snoc hjF]; exact KI.next
        · simp [St.le, hTk, hmin2, hFj, Fact.cells]
      · obtain rfl : j = R.length := by omega
        simp -dsimp [hmin]
        have hTF : F.take R.length = F := by rw [← hlen, List.take_length]
        have hTk : List.take R.length (List.map Fact.cells F) = List.map Fact.cells F := by rw [← List.map_take, hTF]
        rw [hTF] at hz2
        have hpk : partsT sortP ts l p (k + 1) = partsT sortP ts l p k ++ [⟨k, lap l[k].p p, F⟩] := by rw [partsT_yes h1 hg, hF]; rfl
        have e2 : (partsT sortP ts l p (k + 1)).length = (partsT sortP ts l p k).length + 1 := by rw [hpk]; simp
        refine ⟨by decide, fun e => by rw [hsz, e]; rfl, by omega, ⟨k + 1, false, 4⟩, ⟨by simp only; omega, ?_⟩, ?_, by simp only; omega⟩
        · rw [hpk]; exact PI.next
        · simp only [e2]
          rw [hpk, partCs_snoc]
          simp [St.le, hTk, hz2, hw, Part.cells]
  · obtain rfl : k = l.length := by omega
    simp -dsimp
    exact ⟨hz, by rw [hsz, hz]; simp⟩

def delET (sortP : List Per → List Per) (ts : List Tm) (l : List Fact) (p : Per) : List Int := (partsT sortP ts l p l.length).map fun x => (x.at_ : Int)
def delAT (sortP : List Per → List Per) (ts : List Tm) (l : List Fact) (p : Per) : List Fact := (partsT sortP ts l p l.length).flatMap Part.rests
theorem partsT_rests {sortP : List Per → List Per} (hs : Sorts sortP) (ts : List Tm) (l : List Fact) (p : Per) : ∀ k, ∀ x ∈ partsT sortP ts l p k, x.rests.length ≤ 2
  | 0, x, h => by simp [partsT] at h
  | k + 1, x, h => by
    rw [partsT, List.mem_append] at h
    rcases h with h | h
    · exact partsT_rests hs ts l p k x h
    · split at h
      · split at h
        · simp at h
          subst h
          have := minusL_len hs (by assumption : Fact).p [p]
          simp [partOf, restsOf] at this ⊢
          omega
        · simp at h
      · simp at h
set_option maxRecDepth 4000 in
set_option maxHeartbeats 16000000 in
theorem deleteT_spec {sortP : List Per → List Per} (hs : Sorts sortP) (nl nw : Bool) (l : List Fact) (p : Per) (ts : List Tm) (hl : l.length ≤ 1000000000) (hr : Rows1 l) (hrow : ∀ f ∈ l, VFit f.row) (hts : TOk ts) (htl : ts.length ≤ 1000000000) :
    Con Tryz.prog 9 [.c (.sl nl (facts l)), .agg p.cells, .c (.sl nw (terms ts))] [.ag [.sl (delET sortP ts l p).isEmpty ((delET sortP ts l p).map icell), .sl (delAT sortP ts l p).isEmpty (facts (delAT sortP ts l p))]] := by
  refine spec_of Tryz.func9 rfl (by kernel_rfl) (by simp [Tryz.f9]) (fun w0 K0 => vc_ok _ _ _ (by kernel_rfl) ?_)
  simp only [Tryz.f9]
  simp -dsimp [Per.cells]
  refine VC.mk _ (partsT_spec hs nl nw l p ts hl hr hrow hts htl) ?_
  have hrs := partsT_rests hs ts l p l.length
  have hpl := partsT_len sortP ts l p l.length
  unfold delET delAT
  generalize partsT sortP ts l p l.length = L at hrs hpl ⊢
  simp -dsimp
  refine VL.loop (fun i : DI => ⟨[(15, .c (i64 i.k)), (14, .c (i64 L.length)), (13, .c (.sl L.isEmpty (partCs L))), (7, .ptr 448 0), (6, .ptr 384 0)],
      [(448, some (.box false [.own 449 i.k, .own 450 (flatR L i.k).length])), (449, some (.arr i.n1 i.s1 ((L.take i.k).map fun x => [i64 (x.at_ : Int)]) 0)), (450, some (.arr i.n2 i.s2 (facts (flatR L i.k)) 0)),
        (384, some (.box false [.own 385 0, .own 386 0])), (386, some (.arr true 0 [] 0)), (385, some (.arr true 0 [] 0))]⟩)
    (fun i => i.k ≤ L.length ∧ i.n1 = (L.take i.k).isEmpty ∧ (i.n1 = false → i.s1 = 1) ∧ i.n2 = (flatR L i.k).isEmpty ∧ (i.n2 = false → i.s2 = 3)) (fun i => L.length - i.k) ⟨0, true, 0, true, 0⟩ (by kernel_rfl) (by simp [flatR]) (by simp [St.le, facts, flatR]) ?_
  intro ⟨k, n1, s1, n2, s2⟩ ⟨hk, hn1, hs1, hn2, hs2⟩
  simp only at hk hn1 hs1 hn2 hs2
  have hfl : (flatR L k).length ≤ _ := flat_len (L.take k) (fun x hx => hrs x (List.mem_of_mem_take hx))
  have hkl : (L.take k).length ≤ k := by rw [List.length_take]; omega
  have hmin : min k L.length = k := by omega
  by_cases h1 : k < L.length
  · have hw : IntKind.i64.wrap ((k : Int) + 1) = (k : Int) + 1 := IntWalk.i64_in _ (by omega)
    have hrk := hrs L[k] (List.getElem_mem h1)
    have hf := flat_snoc h1
    simp -dsimp [h1, Part.cells, hmin]
    have htk : L.take (k + 1) = L.take k ++ [L[k]] := take_snoc h1
    have hTk : List.take (k + 1) (List.map (fun x : Part => [i64 (x.at_ : Int)]) L) = List.take k (List.map (fun x : Part => [i64 (x.at_ : Int)]) L) ++ [[i64 (L[k].at_ : Int)]] := by
      have := congrArg (List.map fun x : Part => [i64 (x.at_ : Int)]) htk; rw [List.map_append, List.map_take, List.map_take] at this; exact this
    have hne : (L.take (k + 1)).isEmpty = false := by rw [htk]; cases L.take k <;> rfl
    refine ⟨by decide, hs1, by omega, hs2, by omega, ⟨k + 1, false, 1, n2 && L[k].rests.isEmpty, 3⟩, ⟨by simp only; omega, hne.symm, fun _ => rfl, ?_, fun _ => rfl⟩, ?_, by simp only; omega⟩
    · simp only; rw [hf, hn2]; cases flatR L k <;> simp
    · simp only [hf, List.length_append]
      simp [St.le, hTk, hw, facts]
  · obtain rfl : k = L.length := by omega
    have hfL : flatR L L.length = L.flatMap Part.rests := by unfold flatR; rw [List.take_length]
    rw [List.take_length] at hn1
    rw [hfL] at hn2
    simp -dsimp
    exact ⟨⟨hn1, fun _ _ => rfl⟩, hn2, by rw [hfL]⟩
end Go.Proofs.YtkfiiomdkljjnaaGreat
/- Contract: columns get other values. -/
set_option linter.unusedSimpArgs false
set_option linter.unusedVariables false
namespace Go.Proofs.YtkfiiomdkljjnaaGreat
open Go.VL Go.RowKit

/-- a column that gets a term's value -/
structure USet where
  place : Int
  t : Tm
def USet.cells (s : USet) : List C := i64 s.place :: s.t.cells
@[simp] theorem USet.len (s : USet) : s.cells.length = 8 := by simp [USet.cells]
abbrev usets (l : List USet) : List (List C) := l.map USet.cells
inductive Up where
  | ok (row : List Val)
  | no (c : Int)
def setOne (row0 : List Val) (s : USet) (row : List Val) : Up :=
  if evC (evalT row0 s.t) ≠ 0 then .no (evC (evalT row0 s.t))
  else if s.place < 0 ∨ (row.length : Int) ≤ s.place then .no 161
  else if (evV (evalT row0 s.t)).kind ≠ (row.getD s.place.toNat default).kind then .no 170
  else .ok (row.set s.place.toNat (evV (evalT row0 s.t)))
def setRow (row0 : List Val) : List USet → List Val → Up
  | [], row => .ok row
  | s :: r, row => match setOne row0 s row with
    | .no c => .no c
    | .ok row' => setRow row0 r row'
theorem setRow_app (row0 : List Val) (m : List USet) : ∀ (l : List USet) (row row' : List Val), setRow row0 l row = .ok row' → setRow row0 (l ++ m) row = setRow row0 m row'
  | [], row, row', h => by rw [setRow] at h; cases h; rfl
  | s :: r, row, row', h => by
    rw [setRow] at h
    rw [List.cons_append, setRow]
    cases hs : setOne row0 s row with
    | no c => rw [hs] at h; cases h
    | ok row2 => rw [hs] at h; exact setRow_app row0 m r row2 row' h
theorem setOne_len {row0 row row' : List Val} {s : USet} (h : setOne row0 s row = .ok row') : row'.length = row.length := by
  unfold setOne at h
  repeat' split at h
  all_goals first | (cases h; done) | (cases h; simp)
inductive UR where
  | ok (E : List Int) (A : List Fact)
  | no (c : Int)
def rowAt (l : List Fact) (i : Nat) : List Val := (l.getD i default).row
def updR (l : List Fact) (sets : List USet) : List Part → List Int → List Fact → UR
  | [], E, A => .ok E A
  | x :: r, E, A => match setRow (rowAt l x.at_) sets (rowAt l x.at_) with
    | .no c => .no c
    | .ok row => updR l sets r (E ++ [(x.at_ : Int)]) (A ++ x.rests ++ [⟨false, row, x.p⟩])
theorem updR_app (l : List Fact) (sets : List USet) (n : List Part) : ∀ (m : List Part) (E E' : List Int) (A A' : List Fact), updR l sets m E A = .ok E' A' → updR l sets (m ++ n) E A = updR l sets n E' A'
  | [], E, E', A, A', h => by rw [updR] at h; cases h; rfl
  | x :: r, E, E', A, A', h => by
    rw [updR] at h
    rw [List.cons_append, updR]
    cases hs : setRow (rowAt l x.at_) sets (rowAt l x.at_) with
    | no c => rw [hs] at h; cases h
    | ok row => rw [hs] at h; exact updR_app l sets n r _ E' _ A' h
theorem updR_len (l : List Fact) (sets : List USet) : ∀ (m : List Part) (E E' : List Int) (A A' : List Fact), (∀ x ∈ m, x.rests.length ≤ 2) → updR l sets m E A = .ok E' A' → E'.length = E.length + m.length ∧ A'.length ≤ A.length + 3 * m.length
  | [], E, E', A, A', _, h => by rw [updR] at h; cases h; simp
  | x :: r, E, E', A, A', hr, h => by
    rw [updR] at h
    cases hs : setRow (rowAt l x.at_) sets (rowAt l x.at_) with
    | no c => rw [hs] at h; cases h
    | ok row =>
      rw [hs] at h
      obtain ⟨h1, h2⟩ := updR_len l sets r _ E' _ A' (fun y hy => hr y (by simp [hy])) h
      have := hr x (by simp)
      simp at h1 h2 ⊢
      omega
theorem partsT_at {sortP : List Per → List Per} {ts : List Tm} {l : List Fact} {p : Per} : ∀ k, ∀ x ∈ partsT sortP ts l p k, x.at_ < l.length
  | 0, x, h => by simp [partsT] at h
  | k + 1, x, h => by
    rw [partsT, List.mem_append] at h
    rcases h with h | h
    · exact partsT_at k x h
    · split at h
      · rename_i f hf
        split at h
        · simp at h; subst h; exact (List.getElem?_eq_some_iff.1 hf).1
        · simp at h
      · simp at h

def updT (sortP : List Per → List Per) (ts : List Tm) (sets : List USet) (l : List Fact) (p : Per) : UR := updR l sets (partsT sortP ts l p l.length) [] []
def urC : UR → List C
  | .ok E A => [.sl E.isEmpty (E.map icell), .sl A.isEmpty (facts A)]
  | .no _ => [.sl true [], .sl true []]
def urE : UR → Int
  | .ok _ _ => 0
  | .no c => c
structure UO where
  k : Nat
  n1 : Bool
  s1 : Nat
  n2 : Bool
  s2 : Nat
  E : List Int
  A : List Fact
def UO.Ok (l : List Fact) (sets : List USet) (L : List Part) (i : UO) : Prop :=
  i.k ≤ L.length ∧ updR l sets (L.take i.k) [] [] = .ok i.E i.A ∧ i.n1 = i.E.isEmpty ∧ (i.n1 = false → i.s1 = 1) ∧ i.n2 = i.A.isEmpty ∧ (i.n2 = false → i.s2 = 3)
@[simp] theorem Val.drop3 (v : Val) : List.drop 3 v.cells = [] := rfl
structure UJ where
  k : Nat
  row : List Val

end Go.Proofs.YtkfiiomdkljjnaaGreat
