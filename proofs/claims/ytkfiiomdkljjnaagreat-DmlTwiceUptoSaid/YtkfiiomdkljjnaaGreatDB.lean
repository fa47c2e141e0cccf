/- Contracts: which facts a change is about; deleting (no conditions). -/
import Derived.Test.YtkfiiomdkljjnaaGreatDA
import Derived.Test.YtkfiiomdkljjnaaGreatQA
import Derived.Test.YtkfiiomdkljjnaaGreatVE
set_option linter.unusedSimpArgs false
set_option linter.unusedVariables false
namespace Go.Proofs.YtkfiiomdkljjnaaGreat
open Go.VL Go.RowKit

theorem minus_at {sortP : List Per → List Per} (hs : Sorts sortP) (cs : List C) (nl : Bool) (xs : List (List C)) (a : Per) (l : List Per) (h : cs = a.cells) (hx : xs = l.map Per.cells) (hn : nl = true → l = []) (hl : l.length ≤ 8796093021952) :
    Con Tryz.prog 38 [.agg cs, .c (.sl nl xs)] [.c (.sl (minusL sortP a l).isEmpty ((minusL sortP a l).map Per.cells))] := by
  rw [h, hx]; exact Con.frz (minus_spec hs a nl l hn hl) 0 rfl

structure Part where
  at_ : Nat
  p : Per
  rests : List Fact
def Part.cells (x : Part) : List C := [i64 x.at_, i64 x.p.f, i64 x.p.t, .sl x.rests.isEmpty (facts x.rests)]
@[simp] theorem Part.len (x : Part) : x.cells.length = 4 := rfl
/-- what of a fact lies outside -/
def restsOf (sortP : List Per → List Per) (f : Fact) (p : Per) : List Fact := (minusL sortP f.p [p]).map fun q => ⟨false, f.row, q⟩
def partOf (sortP : List Per → List Per) (i : Nat) (f : Fact) (p : Per) : Part := ⟨i, lap f.p p, restsOf sortP f p⟩
def partsK (sortP : List Per → List Per) (l : List Fact) (p : Per) : Nat → List Part
  | 0 => []
  | k + 1 => partsK sortP l p k ++ (match l[k]? with | some f => if lapOk f.p p then [partOf sortP k f p] else [] | none => [])
theorem partsK_yes {sortP : List Per → List Per} {l : List Fact} {p : Per} {k : Nat} (h : k < l.length) (hg : lapOk l[k].p p = true) : partsK sortP l p (k + 1) = partsK sortP l p k ++ [partOf sortP k l[k] p] := by
  rw [partsK, List.getElem?_eq_getElem h]; simp [hg]
theorem partsK_no {sortP : List Per → List Per} {l : List Fact} {p : Per} {k : Nat} (h : k < l.length) (hg : lapOk l[k].p p = false) : partsK sortP l p (k + 1) = partsK sortP l p k := by
  rw [partsK, List.getElem?_eq_getElem h]; simp [hg]
theorem partsK_len (sortP : List Per → List Per) (l : List Fact) (p : Per) : ∀ k, (partsK sortP l p k).length ≤ k
  | 0 => by simp [partsK]
  | k + 1 => by
    have := partsK_len sortP l p k
    rw [partsK, List.length_append]
    split
    · split <;> simp <;> omega
    · simp; omega
def partCs (l : List Part) : List (List C) := l.map Part.cells
@[simp] theorem partCs_len (l : List Part) : (partCs l).length = l.length := by simp [partCs]
@[simp] theorem partCs_get (l : List Part) (k : Nat) (h : k < (partCs l).length) : (partCs l)[k] = (l[k]'(by simpa using h)).cells := by simp [partCs]
theorem partCs_snoc (l : List Part) (x : Part) : partCs (l ++ [x]) = partCs l ++ [x.cells] := by simp [partCs]
def PI (i : KI) (row : List Part) : Prop := i.nl = row.isEmpty ∧ i.sz = if i.nl then 0 else 4
theorem PI.next {k : Nat} {row : List Part} {f : Part} : PI ⟨k, false, 4⟩ (row ++ [f]) := ⟨by cases row <;> rfl, rfl⟩

set_option maxRecDepth 4000 in
set_option maxHeartbeats 16000000 in
theorem parts_spec {sortP : List Per → List Per} (hs : Sorts sortP) (nl nw : Bool) (l : List Fact) (p : Per) (hl : l.length ≤ 1000000000) (hr : Rows1 l) :
    Con Tryz.prog 20 [.c (.sl nl (facts l)), .agg p.cells, .c (.sl nw [])] [.c (.sl (partsK sortP l p l.length).isEmpty (partCs (partsK sortP l p l.length)))] := by
  refine Con.frz (rs := [.fr (partsK sortP l p l.length).isEmpty (if (partsK sortP l p l.length).isEmpty then 0 else 4) (partCs (partsK sortP l p l.length)) 0]) ?_ 0 rfl
  refine spec_of Tryz.func20 rfl (by kernel_rfl) (by simp [Tryz.f20]) (fun w0 K0 => vc_ok _ _ _ (by kernel_rfl) ?_)
  simp only [Tryz.f20]
  simp -dsimp [Per.cells]
  refine VL.loop (fun i : KI => ⟨[(17, .c (i64 i.k)), (16, .c (i64 l.length)), (15, .c (.sl nl (facts l))), (0, .c (.sl nl (facts l))), (7, .own 448 (partsK sortP l p i.k).length), (4, .ptr 256 0), (2, .c (.sl nw []))],
      [(448, some (.arr i.nl i.sz (partCs (partsK sortP l p i.k)) 0)), (256, some (.box false [.c (i64 p.f), .c (i64 p.t)]))]⟩)
    (fun i => i.k ≤ l.length ∧ PI i (partsK sortP l p i.k)) (fun i => l.length - i.k) ⟨0, true, 0⟩ (by kernel_rfl) ⟨by simp, rfl, rfl⟩ (by simp [St.le, partsK, partCs]) ?_
  intro ⟨k, z, sz⟩ ⟨hk, hz, hsz⟩
  simp only at hk hz hsz
  have hpl := partsK_len sortP l p k
  by_cases h1 : k < l.length
  · have hw : IntKind.i64.wrap ((k : Int) + 1) = (k : Int) + 1 := IntWalk.i64_in _ (by omega)
    simp -dsimp [h1, Fact.cells]
    refine VC.mk _ (overlap_spec l[k].p p) ?_
    simp -dsimp [Per.cells]
    refine VG.mk [.c (bln true)] _ (fun _ => holds_nil _ _ l[k].row) rfl ?_
    simp -dsimp
    refine VIf.mk (fun h => ?_) (fun h => ?_)
    · have hg : lapOk l[k].p p = false := by simpa using h
      simp -dsimp [hw]
      refine ⟨⟨k + 1, z, sz⟩, ⟨by simp only; omega, by rw [partsK_no h1 hg]; exact ⟨hz, hsz⟩⟩, ?_, by simp only; omega⟩
      simp [St.le, partsK_no h1 hg]
    · have hg : lapOk l[k].p p = true := by simpa using h
      simp -dsimp
      refine ⟨by decide, VCL.snap ?_⟩
      simp -dsimp
      refine VC.mk _ (minus_at hs _ false _ l[k].p [p] rfl rfl (by simp) (by simp)) ?_
      have hrl : (restsOf sortP l[k] p).length ≤ 2 := by
        have := minusL_len hs l[k].p [p]
        unfold restsOf; simp at this ⊢; omega
      have hRl : (minusL sortP l[k].p [p]).length ≤ 2 := by
        have := minusL_len hs l[k].p [p]
        simp at this; omega
      simp -dsimp
      refine VL.nilcell 768 3 10000 (by decide) ?_
      simp -dsimp
      obtain ⟨R, hR⟩ : ∃ R, R = minusL sortP l[k].p [p] := ⟨_, rfl⟩
      obtain ⟨F, hF⟩ : ∃ F, F = restsOf sortP l[k] p := ⟨_, rfl⟩
      rw [← hR] at hRl ⊢
      rw [← hF] at hrl
      have hFR : F = R.map fun q => ⟨false, l[k].row, q⟩ := by rw [hF, hR]; rfl
      have hlen : F.length = R.length := by rw [hFR]; simp
      refine VL.loop (fun i : KI => ⟨[(47, .c (i64 i.k)), (46, .c (i64 R.length)), (45, .c (.sl R.isEmpty (R.map Per.cells))), (9, .ptr 576 0), (12, .ptr 768 0), (7, .own 448 (partsK sortP l p k).length), (17, .c (i64 k)), (16, .c (i64 l.length)), (15, .c (.sl nl (facts l))), (0, .c (.sl nl (facts l))), (4, .ptr 256 0), (2, .c (.sl nw []))],
          [(576, some (.box false [.c (.sl l[k].nl (vals l[k].row)), .c (i64 l[k].p.f), .c (i64 l[k].p.t)])),
            (768, some (.box false [.c (i64 k), .c (i64 (lap l[k].p p).f), .c (i64 (lap l[k].p p).t), .own 10000 (F.take i.k).length])),
            (10000, some (.arr i.nl i.sz (facts (F.take i.k)) 0)),
            (448, some (.arr z sz (partCs (partsK sortP l p k)) 0)), (256, some (.box false [.c (i64 p.f), .c (i64 p.t)]))]⟩)
        (fun i => i.k ≤ R.length ∧ i.Ok (F.take i.k)) (fun i => R.length - i.k) ⟨0, true, 0⟩ (by kernel_rfl) ⟨by simp, rfl, rfl⟩ (by simp [St.le, facts]) ?_
      intro ⟨j, z2, sz2⟩ ⟨hj, hz2, hsz2⟩
      simp only at hj hz2 hsz2
      have hmin : min j F.length = j := by omega
      by_cases h2 : j < R.length
      · have hw2 : IntKind.i64.wrap ((j : Int) + 1) = (j : Int) + 1 := IntWalk.i64_in _ (by omega)
        have hjF : j < F.length := by omega
        have hFj : F[j] = ⟨false, l[k].row, R[j]⟩ := by simp [hFR]
        simp -dsimp [h2, Per.cells]
        refine VL.draw (by kernel_rfl) [(0, false), (1, false), (0, false), (4, false), (12, false), (0, false), (60, false), (124, false), (255, true), (511, true), (1023, true)] (by kernel_rfl) ?_
        simp -dsimp
        refine VCE.mk _ (copied_frz l[k].nl l[k].row (hr l[k] (List.getElem_mem h1))) ?_
        simp -dsimp [hw2, hmin, maxLen]
        have hTk : List.take (j + 1) (List.map Fact.cells F) = List.take j (List.map Fact.cells F) ++ [F[j].cells] := by
          have := congrArg (List.map Fact.cells) (take_snoc hjF); rw [List.map_append, List.map_take, List.map_take] at this; exact this
        have hmin2 : min (j + 1) F.length = j + 1 := by omega
        refine ⟨fun e => by rw [hsz2, e]; rfl, by omega, ⟨j + 1, false, 3⟩, ⟨by simp only; omega, ?_⟩, ?_, by simp only; omega⟩
        · rw [take_snoc hjF]; exact KI.next
        · simp [St.le, hTk, hmin2, hFj, Fact.cells]
      · obtain rfl : j = R.length := by omega
        simp -dsimp [hmin]
        have hTF : F.take R.length = F := by rw [← hlen, List.take_length]
        have hTk : List.take R.length (List.map Fact.cells F) = List.map Fact.cells F := by rw [← List.map_take, hTF]
        rw [hTF] at hz2
        have hpk : partsK sortP l p (k + 1) = partsK sortP l p k ++ [⟨k, lap l[k].p p, F⟩] := by rw [partsK_yes h1 hg, hF]; rfl
        have e2 : (partsK sortP l p (k + 1)).length = (partsK sortP l p k).length + 1 := by rw [hpk]; simp
        refine ⟨by decide, fun e => by rw [hsz, e]; rfl, by omega, ⟨k + 1, false, 4⟩, ⟨by simp only; omega, ?_⟩, ?_, by simp only; omega⟩
        · rw [hpk]; exact PI.next
        · simp only [e2]
          rw [hpk, partCs_snoc]
          simp [St.le, hTk, hz2, hw, Part.cells]
  · obtain rfl : k = l.length := by omega
    simp -dsimp
    exact ⟨hz, by rw [hsz, hz]; simp⟩

def delE (sortP : List Per → List Per) (l : List Fact) (p : Per) : List Int := (partsK sortP l p l.length).map fun x => (x.at_ : Int)
def delA (sortP : List Per → List Per) (l : List Fact) (p : Per) : List Fact := (partsK sortP l p l.length).flatMap Part.rests
structure DI where
  k : Nat
  n1 : Bool
  s1 : Nat
  n2 : Bool
  s2 : Nat
def flatR (l : List Part) (k : Nat) : List Fact := (l.take k).flatMap Part.rests
theorem flat_snoc {l : List Part} {k : Nat} (h : k < l.length) : flatR l (k + 1) = flatR l k ++ l[k].rests := by
  unfold flatR; rw [take_snoc h, List.flatMap_append]; simp
theorem partsK_rests {sortP : List Per → List Per} (hs : Sorts sortP) (l : List Fact) (p : Per) : ∀ k, ∀ x ∈ partsK sortP l p k, x.rests.length ≤ 2
  | 0, x, h => by simp [partsK] at h
  | k + 1, x, h => by
    rw [partsK, List.mem_append] at h
    rcases h with h | h
    · exact partsK_rests hs l p k x h
    · split at h
      · split at h
        · simp at h
          subst h
          have := minusL_len hs (by assumption : Fact).p [p]
          simp [partOf, restsOf] at this ⊢
          omega
        · simp at h
      · simp at h
theorem flat_len (l : List Part) (h : ∀ x ∈ l, x.rests.length ≤ 2) : (l.flatMap Part.rests).length ≤ 2 * l.length := by
  induction l with
  | nil => simp
  | cons x l ih =>
    have h1 := h x (by simp)
    have h2 := ih (fun y hy => h y (by simp [hy]))
    simp at h2 ⊢
    omega

set_option maxRecDepth 4000 in
set_option maxHeartbeats 16000000 in
theorem delete_spec {sortP : List Per → List Per} (hs : Sorts sortP) (nl nw : Bool) (l : List Fact) (p : Per) (hl : l.length ≤ 1000000000) (hr : Rows1 l) :
    Con Tryz.prog 9 [.c (.sl nl (facts l)), .agg p.cells, .c (.sl nw [])] [.ag [.sl (delE sortP l p).isEmpty ((delE sortP l p).map icell), .sl (delA sortP l p).isEmpty (facts (delA sortP l p))]] := by
  refine spec_of Tryz.func9 rfl (by kernel_rfl) (by simp [Tryz.f9]) (fun w0 K0 => vc_ok _ _ _ (by kernel_rfl) ?_)
  simp only [Tryz.f9]
  simp -dsimp [Per.cells]
  refine VC.mk _ (parts_spec hs nl nw l p hl hr) ?_
  have hrs := partsK_rests hs l p l.length
  have hpl := partsK_len sortP l p l.length
  unfold delE delA
  generalize partsK sortP l p l.length = L at hrs hpl ⊢
  simp -dsimp
  refine VL.loop (fun i : DI => ⟨[(15, .c (i64 i.k)), (14, .c (i64 L.length)), (13, .c (.sl L.isEmpty (partCs L))), (7, .ptr 448 0), (6, .ptr 384 0)],
      [(448, some (.box false [.own 449 i.k, .own 450 (flatR L i.k).length])), (449, some (.arr i.n1 i.s1 ((L.take i.k).map fun x => [i64 (x.at_ : Int)]) 0)), (450, some (.arr i.n2 i.s2 (facts (flatR L i.k)) 0)),
        (384, some (.box false [.own 385 0, .own 386 0])), (386, some (.arr true 0 [] 0)), (385, some (.arr true 0 [] 0))]⟩)
    (fun i => i.k ≤ L.length ∧ i.n1 = (L.take i.k).isEmpty ∧ (i.n1 = false → i.s1 = 1) ∧ i.n2 = (flatR L i.k).isEmpty ∧ (i.n2 = false → i.s2 = 3)) (fun i => L.length - i.k) ⟨0, true, 0, true, 0⟩ (by kernel_rfl) (by simp [flatR]) (by simp [St.le, facts, flatR]) ?_
  intro ⟨k, n1, s1, n2, s2⟩ ⟨hk, hn1, hs1, hn2, hs2⟩
  simp only at hk hn1 hs1 hn2 hs2
  have hfl : (flatR L k).length ≤ _ := flat_len (L.take k) (fun x hx => hrs x (List.mem_of_mem_take hx))
  have hkl : (L.take k).length ≤ k := by rw [List.length_take]; omega
  have hmin : min k L.length = k := by omega
  by_cases h1 : k < L.length
  · have hw : IntKind.i64.wrap ((k : Int) + 1) = (k : Int) + 1 := IntWalk.i64_in _ (by omega)
    have hrk := hrs L[k] (List.getElem_mem h1)
    have hf := flat_snoc h1
    simp -dsimp [h1, Part.cells, hmin]
    have htk : L.take (k + 1) = L.take k ++ [L[k]] := take_snoc h1
    have hTk : List.take (k + 1) (List.map (fun x : Part => [i64 (x.at_ : Int)]) L) = List.take k (List.map (fun x : Part => [i64 (x.at_ : Int)]) L) ++ [[i64 (L[k].at_ : Int)]] := by
      have := congrArg (List.map fun x : Part => [i64 (x.at_ : Int)]) htk; rw [List.map_append, List.map_take, List.map_take] at this; exact this
    have hne : (L.take (k + 1)).isEmpty = false := by rw [htk]; cases L.take k <;> rfl
    refine ⟨by decide, hs1, by omega, hs2, by omega, ⟨k + 1, false, 1, n2 && L[k].rests.isEmpty, 3⟩, ⟨by simp only; omega, hne.symm, fun _ => rfl, ?_, fun _ => rfl⟩, ?_, by simp only; omega⟩
    · simp only; rw [hf, hn2]; cases flatR L k <;> simp
    · simp only [hf, List.length_append]
      simp [St.le, hTk, hw, facts]
  · obtain rfl : k = L.length := by omega
    have hfL : flatR L L.length = L.flatMap Part.rests := by unfold flatR; rw [List.take_length]
    rw [List.take_length] at hn1
    rw [hfL] at hn2
    simp -dsimp
    exact ⟨⟨hn1, fun _ _ => rfl⟩, hn2, by rw [hfL]⟩
end Go.Proofs.YtkfiiomdkljjnaaGreat
/- Contract: awake. -/
set_option linter.unusedSimpArgs false
set_option linter.unusedVariables false
namespace Go.Proofs.YtkfiiomdkljjnaaGreat
open Go.VL Go.RowKit

def row2 (n : Int) : List Val := [⟨1, n, []⟩, ⟨2, 0, []⟩]
def fact2 (n f t : Int) : Fact := ⟨false, row2 n, ⟨f, t⟩⟩
def table2 : Tab := ⟨1, [84], false, [⟨[65], 1⟩, ⟨[66], 2⟩], true, [], false⟩

set_option maxRecDepth 4000 in
set_option maxHeartbeats 16000000 in
theorem fact_spec (n f t : Int) : Con Tryz.prog 13 [.c (i64 n), .c (i64 f), .c (i64 t)] [.ag (fact2 n f t).cells] := by
  refine spec_of Tryz.func13 rfl (by kernel_rfl) (by simp [Tryz.f13]) (fun w0 K0 => vc_ok _ _ _ (by kernel_rfl) ?_)
  simp only [Tryz.f13]
  simp -dsimp
  exact ⟨by decide, rfl⟩

set_option maxRecDepth 4000 in
set_option maxHeartbeats 16000000 in
theorem table_spec : Con Tryz.prog 16 [] [.ag table2.cells] := by
  refine spec_of Tryz.func16 rfl (by kernel_rfl) (by simp [Tryz.f16]) (fun w0 K0 => vc_ok _ _ _ (by kernel_rfl) ?_)
  simp only [Tryz.f16]
  simp -dsimp
  exact ⟨by decide, rfl⟩

theorem minus_03 {sortP : List Per → List Per} (hs : Sorts sortP) : minusL sortP ⟨0, 9⟩ [⟨3, 5⟩] = [⟨0, 3⟩, ⟨5, 9⟩] := by
  have e : unionL sortP [⟨3, 5⟩] = [⟨3, 5⟩] := by
    unfold unionL
    have : sortP [⟨3, 5⟩] = [⟨3, 5⟩] := List.perm_singleton.1 (hs.perm [⟨3, 5⟩])
    rw [show [(⟨3, 5⟩ : Per)].filter right = [⟨3, 5⟩] from by decide, this]
    decide
  unfold minusL
  rw [e]
  decide
theorem del_awake {sortP : List Per → List Per} (hs : Sorts sortP) : delE sortP [fact2 1 0 9] ⟨3, 5⟩ = [0] ∧ delA sortP [fact2 1 0 9] ⟨3, 5⟩ = [fact2 1 0 3, fact2 1 5 9] := by
  have e : partsK sortP [fact2 1 0 9] ⟨3, 5⟩ 1 = [partOf sortP 0 (fact2 1 0 9) ⟨3, 5⟩] := partsK_yes (k := 0) (by decide) (by decide)
  unfold delE delA
  rw [show [fact2 1 0 9].length = 1 from rfl, e]
  refine ⟨rfl, ?_⟩
  simp only [List.flatMap_cons, List.flatMap_nil, List.append_nil, partOf, restsOf]
  rw [show (fact2 1 0 9).p = ⟨0, 9⟩ from rfl, minus_03 hs]
  rfl
theorem clash_awake : clashR [fact2 1 0 5, fact2 1 4 9] [0] = some (0, 1) := by decide
theorem fits_awake : fitsOf table2 (fact2 1 0 5) = 0 := by
  unfold fitsOf
  rw [if_neg (by decide), if_pos, if_neg (by decide)]
  · decide
  · intro j h h' _
    have : j = 0 ∨ j = 1 := by have : j < 2 := h; omega
    rcases this with rfl | rfl <;> rfl

set_option maxRecDepth 4000 in
set_option maxHeartbeats 16000000 in
theorem awake_spec {sortP : List Per → List Per} (hs : Sorts sortP) : Con Tryz.prog 5 [] [.c (bln true)] := by
  refine spec_of Tryz.func5 rfl (by kernel_rfl) (by simp [Tryz.f5]) (fun w0 K0 => vc_ok _ _ _ (by kernel_rfl) ?_)
  simp only [Tryz.f5]
  simp -dsimp
  refine VC.mk _ (fact_spec 1 0 9) ?_
  simp -dsimp
  refine ⟨by decide, VCL.snap ?_⟩
  simp -dsimp
  have hd := delete_spec hs false true [fact2 1 0 9] ⟨3, 5⟩ (by simp) (by intro f hf; simp at hf; subst hf; decide)
  rw [(del_awake hs).1, (del_awake hs).2] at hd
  refine VC.mk _ hd ?_
  simp -dsimp
  refine VC.mk _ (fact_spec 1 0 5) ?_
  simp -dsimp
  refine VC.mk _ (fact_spec 1 4 9) ?_
  simp -dsimp
  refine ⟨by decide, by decide, VCL.snap ?_⟩
  simp -dsimp
  have hc := clash_spec false false [fact2 1 0 5, fact2 1 4 9] [0] (by simp) (by intro f hf; simp at hf; rcases hf with rfl | rfl <;> decide) (by simp)
  rw [show clashI [fact2 1 0 5, fact2 1 4 9] [0] = 0 from by unfold clashI; rw [clash_awake]; rfl, show clashJ [fact2 1 0 5, fact2 1 4 9] [0] = 1 from by unfold clashJ; rw [clash_awake]; rfl, clash_awake] at hc
  refine VC.mk _ hc ?_
  simp -dsimp [fact2, Fact.cells]
  refine VG.mk [.ag table2.cells] _ (fun _ => table_spec) rfl ?_
  simp -dsimp
  refine VG.mk [.ag (fact2 1 0 5).cells] _ (fun _ => fact_spec 1 0 5) rfl ?_
  simp -dsimp
  have hf := fits_spec table2 (fact2 1 0 5) (by decide)
  rw [fits_awake] at hf
  refine VG.mk [.c (i64 0)] _ (fun _ => hf) rfl ?_
  simp -dsimp
end Go.Proofs.YtkfiiomdkljjnaaGreat
/- Contract: DmlApplies. -/
set_option linter.unusedSimpArgs false
set_option linter.unusedVariables false
namespace Go.Proofs.YtkfiiomdkljjnaaGreat
open Go.VL Go.RowKit

theorem ownedL_facts (l : List Fact) : ownedL l = facts (l.map owned) := by simp [ownedL, facts]
theorem strips_owned (l : List Fact) : strips (l.map owned) = strips l := by
  unfold strips; rw [List.map_map]; rfl
theorem Rows1.app {l m : List Fact} (h : Rows1 l) (h' : Rows1 m) : Rows1 (l ++ m) := fun f hf => (List.mem_append.1 hf).elim (h f) (h' f)
theorem Rows1.owned {l : List Fact} (h : Rows1 l) : Rows1 (l.map owned) := fun f hf => by
  obtain ⟨g, hg, rfl⟩ := List.mem_map.1 hf
  exact h g hg
theorem Rows1.keep {l : List Fact} (h : Rows1 l) (g : Nat → Bool) (k : Nat) : Rows1 (keep g l k) := fun f hf => h f (keep_mem g l k f hf)
theorem apply_ok (nl ne nd : Bool) (l : List Fact) (ended : List Int) (added : List Fact) (hl : l.length ≤ 1000000000) (hr : Rows1 l) (he : ended.length ≤ 1000000000) (hd : added.length ≤ 1000000000) (hr2 : Rows1 added) (h0 : endsE l.length ended = 0) :
    Con Tryz.prog 8 [.c (.sl nl (facts l)), .agg [.sl ne (ended.map icell), .sl nd (facts added)]] [.c (.sl (applyF l ended added).isEmpty (facts ((applyF l ended added).map owned))), .c (i64 0)] := by
  have h := apply_spec nl ne nd l ended added hl hr he hd hr2
  rw [if_pos h0, ownedL_facts] at h
  exact Con.frz h 0 rfl
theorem apply_err (nl ne nd : Bool) (l : List Fact) (ended : List Int) (added : List Fact) (hl : l.length ≤ 1000000000) (hr : Rows1 l) (he : ended.length ≤ 1000000000) (hd : added.length ≤ 1000000000) (hr2 : Rows1 added) (h0 : ¬ endsE l.length ended = 0) :
    Con Tryz.prog 8 [.c (.sl nl (facts l)), .agg [.sl ne (ended.map icell), .sl nd (facts added)]] [.c (.sl true []), .c (i64 (endsE l.length ended))] := by
  have h := apply_spec nl ne nd l ended added hl hr he hd hr2
  rw [if_neg h0] at h
  exact Con.frz h 0 rfl
/-- a table and a fact, and key columns -/
def fitCells (t : Tab) (f : Fact) (nk : Bool) (keys : List Int) : List C := t.cells ++ f.cells ++ [.sl nk (keys.map icell)]
theorem fitsOf_plain (t : Tab) (f : Fact) : fitsOf ⟨t.id, t.name, t.nc, t.cols, true, [], false⟩ f = fitsOf t f := rfl

end Go.Proofs.YtkfiiomdkljjnaaGreat
