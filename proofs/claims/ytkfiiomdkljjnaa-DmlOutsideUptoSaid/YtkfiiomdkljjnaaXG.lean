/- Contracts of the document's package 20: which facts a change is about, what lies outside, what lies within. -/
import Derived.Test.YtkfiiomdkljjnaaXE
import Derived.Test.YtkfiiomdkljjnaaXF
import Derived.Test.YtkfiiomdkljjnaaEA
set_option linter.unusedSimpArgs false
set_option linter.unusedVariables false
namespace Go.Proofs.Ytkfiiomdkljjnaa
open Go.VL Go.RowKit

/-- expressions that were bound, and their terms -/
def Bound (sc : List SCol) (es : List Ex) (ts : List Tm) : Prop := es.length = ts.length ∧ ∀ i, (h : i < es.length) → (h' : i < ts.length) → es[i].fit ∧ bindE sc es[i] = .ok ts[i]
def tchP (a b : Per) : Bool := right a && right b && decide (a.f < b.t) && decide (b.f < a.t)
theorem tch_lap (a b : Per) : tchP a b = lapOk a b := by
  unfold tchP lapOk lapP right
  rw [Bool.eq_iff_iff]
  simp only [Bool.and_eq_true, decide_eq_true_eq]
  omega
theorem Bound.take {sc : List SCol} {es : List Ex} {ts : List Tm} (h : Bound sc es ts) {k : Nat} (hk : k < es.length) : k < ts.length := by rw [← h.1]; exact hk

set_option maxRecDepth 4000 in
set_option maxHeartbeats 16000000 in
theorem touched_spec (ne sn : Bool) (sc : List SCol) (hsc : sc.length ≤ 1000000000000) (f : Fact) (p : Per) (es : List Ex) (ts : List Tm) (hb : Bound sc es ts) (hf : VFit f.row) (hl : es.length ≤ 1000000000) :
    Con Try.prog 46 [.agg f.cells, .agg p.cells, .c (.sl ne (exprs es)), .c (.sl sn (scols sc))] [.c (bln (okP ts p f))] := by
  unfold okP
  rw [← tch_lap]
  refine spec_of Try.func46 rfl (by kernel_rfl) (by simp [Try.f46]) (fun w0 K0 => vc_ok _ _ _ (by kernel_rfl) ?_)
  simp only [Try.f46]
  simp -dsimp [Fact.cells, Per.cells]
  refine VC.mk _ (refRight_spec f.p) ?_
  simp -dsimp
  refine VG.mk [.c (bln (right p))] _ (fun _ => refRight_spec p) rfl ?_
  simp -dsimp
  refine VL.loop (fun k : Nat => ⟨[(10, .c (i64 k)), (9, .c (bln (tchP f.p p && holdsT f.row (ts.take k)))), (4, .ptr 256 0), (2, .c (.sl ne (exprs es))), (3, .c (.sl sn (scols sc)))],
      [(256, some (.box false [.c (.sl f.nl (vals f.row)), .c (i64 f.p.f), .c (i64 f.p.t)]))]⟩)
    (fun k => k ≤ es.length) (fun k => es.length - k) 0 (by kernel_rfl) (by simp) (by simp [St.le, tchP, holdsT]) ?_
  intro k hk
  simp -dsimp
  refine VIf.mk (fun h => ?_) (fun h => ?_)
  · have hlt : k < es.length := by simpa using h
    have hlt2 := hb.take hlt
    have hw : IntKind.i64.wrap ((k : Int) + 1) = (k : Int) + 1 := IntWalk.i64_in _ (by omega)
    obtain ⟨hfit, hbe⟩ := hb.2 k hlt hlt2
    have hH := refHolds_spec sn sc hsc f.nl f.row hf es[k] ts[k] hfit hbe
    have hst : holdsT f.row (ts.take (k + 1)) = (holdsT f.row (ts.take k) && holds1 f.row ts[k]) := by
      unfold holdsT; rw [take_snoc hlt2, List.all_append]; simp
    simp -dsimp
    refine VL.draw (by kernel_rfl) [(0, true), (1, true), (3, false), (3, false), (15, false), (31, false), (3, false), (3, false), (131, false), (511, true), (1023, true), (2047, true)] (by kernel_rfl) ?_
    simp -dsimp [hlt]
    refine VG.mk [.c (bln (holds1 f.row ts[k]))] _ (fun _ => hH) rfl ?_
    simp -dsimp [hw]
    refine ⟨k + 1, by omega, ?_, by omega⟩
    rw [hst]
    simp [St.le, Bool.and_assoc]
  · simp at h
    obtain rfl : k = es.length := by omega
    have e : ts.take es.length = ts := by rw [hb.1, List.take_length]
    simp -dsimp [e]

def restR (f : Fact) (p : Per) : List Fact :=
  (if f.p.f < p.f then [⟨false, f.row, ⟨f.p.f, p.f⟩⟩] else []) ++ (if p.t < f.p.t then [⟨false, f.row, ⟨p.t, f.p.t⟩⟩] else [])

set_option maxRecDepth 4000 in
set_option maxHeartbeats 16000000 in
theorem rests_spec (f : Fact) (p : Per) (hr : f.row.length ≤ 4294967296) : Con Try.prog 48 [.agg f.cells, .agg p.cells] [.c (.sl (restR f p).isEmpty (facts (restR f p)))] := by
  refine Con.frz (rs := [.fr (restR f p).isEmpty (if (restR f p).isEmpty then 0 else 3) (facts (restR f p)) 0]) ?_ 0 rfl
  have hc := copy_frz f.nl f.row hr
  refine spec_of Try.func48 rfl (by kernel_rfl) (by simp [Try.f48]) (fun w0 K0 => vc_ok _ _ _ (by kernel_rfl) ?_)
  simp only [Try.f48]
  simp -dsimp [Fact.cells, Per.cells]
  refine VIf.mk (fun h => ?_) (fun h => ?_)
  · have h1 : f.p.f < p.f := by simpa using h
    simp -dsimp
    refine VL.draw (by kernel_rfl) [(0, false), (0, false), (2, false), (6, false), (0, false), (16, false), (48, false), (0, false), (128, false), (496, false), (1022, false), (2046, false), (4095, true), (8191, true)] (by kernel_rfl) ?_
    simp -dsimp
    refine VCE.mk _ hc ?_
    simp -dsimp [maxLen]
    refine VIf.mk (fun h2 => ?_) (fun h2 => ?_)
    · have h3 : p.t < f.p.t := by simpa using h2
      simp -dsimp
      refine VL.draw (by kernel_rfl) [(0, false), (0, false), (2, false), (6, false), (0, false), (16, false), (0, false), (64, false), (192, false), (496, false), (1022, false), (2046, false), (4095, true), (8191, true)] (by kernel_rfl) ?_
      simp -dsimp
      refine VCE.mk _ hc ?_
      simp -dsimp [maxLen]
      simp [restR, h1, h3, facts, Fact.cells]
    · have h3 : ¬ p.t < f.p.t := by simpa using h2
      simp -dsimp
      simp [restR, h1, h3, facts, Fact.cells]
  · have h1 : ¬ f.p.f < p.f := by simpa using h
    simp -dsimp
    refine VIf.mk (fun h2 => ?_) (fun h2 => ?_)
    · have h3 : p.t < f.p.t := by simpa using h2
      simp -dsimp
      refine VL.draw (by kernel_rfl) [(0, false), (0, false), (2, false), (6, false), (0, false), (16, false), (0, false), (64, false), (192, false), (496, false), (1022, false), (2046, false), (4095, true), (8191, true)] (by kernel_rfl) ?_
      simp -dsimp
      refine VCE.mk _ hc ?_
      simp -dsimp [maxLen]
      simp [restR, h1, h3, facts, Fact.cells]
    · have h3 : ¬ p.t < f.p.t := by simpa using h2
      simp -dsimp
      simp [restR, h1, h3, facts, Fact.cells]

set_option maxRecDepth 4000 in
set_option maxHeartbeats 16000000 in
theorem within_spec (f : Fact) (p : Per) : Con Try.prog 49 [.agg f.cells, .agg p.cells] [.ag (lapP f.p p).cells] := by
  refine spec_of Try.func49 rfl (by kernel_rfl) (by simp [Try.f49]) (fun w0 K0 => vc_ok _ _ _ (by kernel_rfl) ?_)
  simp only [Try.f49]
  simp -dsimp [Fact.cells, Per.cells]
  refine VIf.mk (fun h => ?_) (fun h => ?_)
  · have h1 : f.p.f < p.f := by simpa using h
    simp -dsimp
    refine VIf.mk (fun h2 => ?_) (fun h2 => ?_)
    · have h3 : p.t < f.p.t := by simpa using h2
      simp -dsimp
      simp [lapP, Per.cells]; omega
    · have h3 : ¬ p.t < f.p.t := by simpa using h2
      simp -dsimp
      simp [lapP, Per.cells]; omega
  · have h1 : ¬ f.p.f < p.f := by simpa using h
    simp -dsimp
    refine VIf.mk (fun h2 => ?_) (fun h2 => ?_)
    · have h3 : p.t < f.p.t := by simpa using h2
      simp -dsimp
      simp [lapP, Per.cells]; omega
    · have h3 : ¬ p.t < f.p.t := by simpa using h2
      simp -dsimp
      simp [lapP, Per.cells]; omega
end Go.Proofs.Ytkfiiomdkljjnaa
/- Contracts of the document's package 20: deleting within a period, where conditions hold. -/
set_option linter.unusedSimpArgs false
set_option linter.unusedVariables false
namespace Go.Proofs.Ytkfiiomdkljjnaa
open Go.VL Go.RowKit

def partR (i : Nat) (f : Fact) (p : Per) : Part := ⟨i, lapP f.p p, restR f p⟩
def partsR (ts : List Tm) (l : List Fact) (p : Per) : Nat → List Part
  | 0 => []
  | k + 1 => partsR ts l p k ++ (match l[k]? with | some f => if okP ts p f then [partR k f p] else [] | none => [])
theorem partsR_yes {ts : List Tm} {l : List Fact} {p : Per} {k : Nat} (h : k < l.length) (hg : okP ts p l[k] = true) : partsR ts l p (k + 1) = partsR ts l p k ++ [partR k l[k] p] := by
  rw [partsR, List.getElem?_eq_getElem h]; simp [hg]
theorem partsR_no {ts : List Tm} {l : List Fact} {p : Per} {k : Nat} (h : k < l.length) (hg : okP ts p l[k] = false) : partsR ts l p (k + 1) = partsR ts l p k := by
  rw [partsR, List.getElem?_eq_getElem h]; simp [hg]
theorem partsR_len (ts : List Tm) (l : List Fact) (p : Per) : ∀ k, (partsR ts l p k).length ≤ k
  | 0 => by simp [partsR]
  | k + 1 => by
    have := partsR_len ts l p k
    rw [partsR, List.length_append]
    split
    · split <;> simp <;> omega
    · simp; omega
theorem restR_len (f : Fact) (p : Per) : (restR f p).length ≤ 2 := by
  unfold restR; split <;> split <;> simp
theorem partsR_rests (ts : List Tm) (l : List Fact) (p : Per) : ∀ k, ∀ x ∈ partsR ts l p k, x.rests.length ≤ 2
  | 0, x, h => by simp [partsR] at h
  | k + 1, x, h => by
    rw [partsR, List.mem_append] at h
    rcases h with h | h
    · exact partsR_rests ts l p k x h
    · split at h
      · split at h
        · simp at h; subst h; exact restR_len _ _
        · simp at h
      · simp at h
def pE (L : List Part) : List Int := L.map fun x => (x.at_ : Int)
def pA (L : List Part) : List Fact := L.flatMap Part.rests
theorem pA_len (L : List Part) (h : ∀ x ∈ L, x.rests.length ≤ 2) : (pA L).length ≤ 2 * L.length := flat_len L h
def UO.Dl (ts : List Tm) (l : List Fact) (p : Per) (i : UO) : Prop :=
  i.k ≤ l.length ∧ i.E = pE (partsR ts l p i.k) ∧ i.A = pA (partsR ts l p i.k) ∧ i.n1 = i.E.isEmpty ∧ (i.n1 = false → i.s1 = 1) ∧ i.n2 = i.A.isEmpty ∧ (i.n2 = false → i.s2 = 3)

set_option maxRecDepth 4000 in
set_option maxHeartbeats 32000000 in
theorem refDelete_spec (nl ne sn : Bool) (sc : List SCol) (hsc : sc.length ≤ 1000000000000) (l : List Fact) (p : Per) (es : List Ex) (ts : List Tm) (hb : Bound sc es ts) (hrow : ∀ f ∈ l, VFit f.row) (hr : Rows1 l) (hl : l.length ≤ 1000000000) (hel : es.length ≤ 1000000000) :
    Con Try.prog 23 [.c (.sl nl (facts l)), .agg p.cells, .c (.sl ne (exprs es)), .c (.sl sn (scols sc))] [.ag (urC (.ok (pE (partsR ts l p l.length)) (pA (partsR ts l p l.length))))] := by
  refine spec_of Try.func23 rfl (by kernel_rfl) (by simp [Try.f23]) (fun w0 K0 => vc_ok _ _ _ (by kernel_rfl) ?_)
  simp only [Try.f23]
  simp -dsimp [Per.cells]
  refine VL.nilcell 576 0 10001 (by decide) ?_
  simp -dsimp
  refine VL.nilcell 576 1 10002 (by decide) ?_
  simp -dsimp
  refine VL.loop (fun i : UO => ⟨[(10, .c (i64 i.k)), (9, .ptr 576 0), (8, .ptr 512 0), (5, .ptr 320 0), (0, .c (.sl nl (facts l))), (2, .c (.sl ne (exprs es))), (3, .c (.sl sn (scols sc)))],
      [(576, some (.box false [.own 10001 i.E.length, .own 10002 i.A.length])), (10001, some (.arr i.n1 i.s1 (i.E.map icell) 0)), (10002, some (.arr i.n2 i.s2 (facts i.A) 0)),
        (512, some (.box false [.own 513 0, .own 514 0])), (514, some (.arr true 0 [] 0)), (513, some (.arr true 0 [] 0)), (320, some (.box false [.c (i64 p.f), .c (i64 p.t)]))]⟩)
    (UO.Dl ts l p) (fun i => l.length - i.k) ⟨0, true, 0, true, 0, [], []⟩ (by kernel_rfl) ⟨Nat.zero_le _, rfl, rfl, rfl, by simp, rfl, by simp⟩ (by simp [St.le, facts]) ?_
  intro ⟨k, n1, s1, n2, s2, E, A⟩ ⟨hk, hE, hA, hn1, hs1, hn2, hs2⟩
  simp only at hk hE hA hn1 hs1 hn2 hs2
  have hpl := partsR_len ts l p k
  have hEl : E.length ≤ k := by rw [hE]; unfold pE; rw [List.length_map]; exact hpl
  have hAl : A.length ≤ 2 * k := by rw [hA]; exact Nat.le_trans (pA_len _ (partsR_rests ts l p k)) (by omega)
  simp -dsimp
  refine VIf.mk (fun h => ?_) (fun h => ?_)
  · have h1 : k < l.length := by simpa using h
    have hw : IntKind.i64.wrap ((k : Int) + 1) = (k : Int) + 1 := IntWalk.i64_in _ (by omega)
    have hT := touched_spec ne sn sc hsc l[k] p es ts hb (hrow _ (List.getElem_mem h1)) hel
    have hR := rests_spec l[k] p (by have := hr l[k] (List.getElem_mem h1); omega)
    have hrl := restR_len l[k] p
    simp -dsimp
    refine VL.draw (by kernel_rfl) [(0, false), (0, false), (3, false), (7, false), (0, false), (0, false), (0, false), (127, true)] (by kernel_rfl) ?_
    simp -dsimp [h1, Fact.cells]
    refine VC.mk _ hT ?_
    simp -dsimp
    refine VIf.mk (fun h2 => ?_) (fun h2 => ?_)
    · have e1 : pE (partsR ts l p (k + 1)) = E ++ [(k : Int)] := by rw [partsR_yes h1 h2, hE]; simp [pE, partR]
      have e2 : pA (partsR ts l p (k + 1)) = A ++ restR l[k] p := by rw [partsR_yes h1 h2, hA]; simp [pA, partR]
      simp -dsimp
      refine ⟨by decide, hs1, by omega, ?_⟩
      refine VL.draw (by kernel_rfl) [(0, false), (1, false), (0, false), (0, false), (12, false), (28, false), (0, false), (124, false), (255, true), (511, true), (1023, true)] (by kernel_rfl) ?_
      simp -dsimp [h1, Fact.cells]
      refine VCE.mk _ hR ?_
      simp -dsimp [hw]
      refine ⟨hs2, by omega, ⟨k + 1, false, 1, n2 && (restR l[k] p).isEmpty, 3, E ++ [(k : Int)], A ++ restR l[k] p⟩, ⟨by simp only; omega, e1.symm, e2.symm, by simp, fun _ => rfl, ?_, fun _ => rfl⟩, ?_, by simp only; omega⟩
      · simp only; rw [hn2]; cases A <;> simp
      · simp [St.le, facts]
        rfl
    · simp -dsimp [hw]
      refine ⟨⟨k + 1, n1, s1, n2, s2, E, A⟩, ⟨by simp only; omega, by rw [partsR_no h1 h2]; exact hE, by rw [partsR_no h1 h2]; exact hA, hn1, hs1, hn2, hs2⟩, ?_, by simp only; omega⟩
      simp [St.le]
  · simp at h
    obtain rfl : k = l.length := by omega
    rw [← hE, ← hA]
    simp -dsimp [urC]
    exact ⟨hn1, hn2⟩
end Go.Proofs.Ytkfiiomdkljjnaa
/- Contract of the document's package 20: columns get other values within a period. -/
set_option linter.unusedSimpArgs false
set_option linter.unusedVariables false
namespace Go.Proofs.Ytkfiiomdkljjnaa
open Go.VL Go.RowKit

structure RSet where
  place : Int
  e : Ex
def RSet.cells (s : RSet) : List C := i64 s.place :: s.e.cells
@[simp] theorem RSet.len (s : RSet) : s.cells.length = 6 := by simp [RSet.cells]
abbrev rsets (l : List RSet) : List (List C) := l.map RSet.cells
def BoundS (sc : List SCol) (rs : List RSet) (us : List USet) : Prop := rs.length = us.length ∧ ∀ i, (h : i < rs.length) → (h' : i < us.length) → rs[i].place = us[i].place ∧ rs[i].e.fit ∧ bindE sc rs[i].e = .ok us[i].t

def UO.Up (ts : List Tm) (sets : List USet) (l : List Fact) (p : Per) (i : UO) : Prop :=
  i.k ≤ l.length ∧ updR l sets (partsR ts l p i.k) [] [] = .ok i.E i.A ∧ i.n1 = i.E.isEmpty ∧ (i.n1 = false → i.s1 = 1) ∧ i.n2 = i.A.isEmpty ∧ (i.n2 = false → i.s2 = 3)

theorem partsR_pre (ts : List Tm) (l : List Fact) (p : Per) (k : Nat) : ∀ n, k ≤ n → ∃ m, partsR ts l p n = partsR ts l p k ++ m
  | 0, h => ⟨[], by have : k = 0 := by omega
                    subst this; simp⟩
  | n + 1, h => by
    by_cases e : k = n + 1
    · subst e; exact ⟨[], by simp⟩
    · obtain ⟨m, hm⟩ := partsR_pre ts l p k n (by omega)
      rw [partsR, hm]
      exact ⟨_, List.append_assoc _ _ _⟩

set_option maxRecDepth 4000 in
set_option maxHeartbeats 64000000 in
theorem refUpdate_spec (nl ne sn ns : Bool) (sc : List SCol) (hsc : sc.length ≤ 1000000000000) (l : List Fact) (p : Per) (es : List Ex) (ts : List Tm) (hb : Bound sc es ts) (hrow : ∀ f ∈ l, VFit f.row) (hr : Rows1 l) (hl : l.length ≤ 1000000000) (hel : es.length ≤ 1000000000)
    (rs : List RSet) (sets : List USet) (hbs : BoundS sc rs sets) (hrl0 : rs.length ≤ 1000000000) :
    Con Try.prog 20 [.c (.sl nl (facts l)), .agg p.cells, .c (.sl ns (rsets rs)), .c (.sl ne (exprs es)), .c (.sl sn (scols sc))] [.ag (urC (updR l sets (partsR ts l p l.length) [] [])), .c (i64 (urE (updR l sets (partsR ts l p l.length) [] [])))] := by
  refine spec_of Try.func20 rfl (by kernel_rfl) (by simp [Try.f20]) (fun w0 K0 => vc_ok _ _ _ (by kernel_rfl) ?_)
  simp only [Try.f20]
  simp -dsimp [Per.cells]
  refine VL.nilcell 768 0 10001 (by decide) ?_
  simp -dsimp
  refine VL.nilcell 768 1 10002 (by decide) ?_
  simp -dsimp
  refine VL.loop (fun i : UO => ⟨[(13, .c (i64 i.k)), (12, .ptr 768 0), (10, .ptr 640 0), (6, .ptr 384 0), (0, .c (.sl nl (facts l))), (2, .c (.sl ns (rsets rs))), (3, .c (.sl ne (exprs es))), (4, .c (.sl sn (scols sc)))],
      [(768, some (.box false [.own 10001 i.E.length, .own 10002 i.A.length])), (10001, some (.arr i.n1 i.s1 (i.E.map icell) 0)), (10002, some (.arr i.n2 i.s2 (facts i.A) 0)),
        (640, some (.box false [.own 641 0, .own 642 0])), (642, some (.arr true 0 [] 0)), (641, some (.arr true 0 [] 0)), (384, some (.box false [.c (i64 p.f), .c (i64 p.t)]))]⟩)
    (UO.Up ts sets l p) (fun i => l.length - i.k) ⟨0, true, 0, true, 0, [], []⟩ (by kernel_rfl) ⟨Nat.zero_le _, rfl, rfl, by simp, rfl, by simp⟩ (by simp [St.le, facts]) ?_
  intro ⟨k, n1, s1, n2, s2, E, A⟩ ⟨hk, hu, hn1, hs1, hn2, hs2⟩
  simp only at hk hu hn1 hs1 hn2 hs2
  have hpl := partsR_len ts l p k
  have hlen := updR_len l sets (partsR ts l p k) [] E [] A (partsR_rests ts l p k) hu
  simp at hlen
  simp -dsimp
  refine VIf.mk (fun h => ?_) (fun h => ?_)
  · have h1 : k < l.length := by simpa using h
    have hw : IntKind.i64.wrap ((k : Int) + 1) = (k : Int) + 1 := IntWalk.i64_in _ (by omega)
    have hT := touched_spec ne sn sc hsc l[k] p es ts hb (hrow _ (List.getElem_mem h1)) hel
    have hR := rests_spec l[k] p (by have := hr l[k] (List.getElem_mem h1); omega)
    have hrl := restR_len l[k] p
    have hrr := hr l[k] (List.getElem_mem h1)
    have hrf := hrow l[k] (List.getElem_mem h1)
    simp -dsimp
    refine VL.draw (by kernel_rfl) [(0, false), (0, false), (3, false), (7, false), (0, false), (0, false), (0, false), (127, true), (255, true)] (by kernel_rfl) ?_
    simp -dsimp [h1, Fact.cells]
    refine VC.mk _ hT ?_
    simp -dsimp
    refine VIf.mk (fun h2 => ?_) (fun h2 => ?_)
    · have hg : okP ts p l[k] = false := by simpa using h2
      simp -dsimp [hw]
      refine ⟨⟨k + 1, n1, s1, n2, s2, E, A⟩, ⟨by simp only; omega, by rw [partsR_no h1 hg]; exact hu, hn1, hs1, hn2, hs2⟩, ?_, by simp only; omega⟩
      simp [St.le]
    · have hg : okP ts p l[k] = true := by simpa using h2
      have hra : rowAt l k = l[k].row := by simp [rowAt, List.getD, h1]
      have hstep : ∀ m, updR l sets (partsR ts l p (k + 1) ++ m) [] [] = match setRow l[k].row sets l[k].row with
          | .no c => .no c
          | .ok row => updR l sets m (E ++ [(k : Int)]) (A ++ restR l[k] p ++ [⟨false, row, lapP l[k].p p⟩]) := fun m => by
        rw [partsR_yes h1 hg, List.append_assoc, updR_app l sets _ _ _ _ _ _ hu]
        show updR l sets (partR k l[k] p :: m) E A = _
        rw [updR, show (partR k l[k] p).at_ = k from rfl, hra]
        rfl
      obtain ⟨mL, hmL⟩ := partsR_pre ts l p (k + 1) l.length (by omega)
      have huL := hstep mL
      rw [← hmL] at huL
      have hu1 := hstep []
      rw [List.append_nil] at hu1
      simp -dsimp [h1, Fact.cells]
      generalize hR0 : l[k].row = R0 at hrr hrf huL hu1 ⊢
      refine VC.mk _ (copy_spec _ R0 (by omega)) ?_
      simp -dsimp
      refine VL.loop (fun i : UJ => ⟨[(15, .c (i64 i.k)), (14, .own 2496 R0.length), (13, .c (i64 k)), (12, .ptr 768 0), (10, .ptr 640 0), (6, .ptr 384 0), (0, .c (.sl nl (facts l))), (2, .c (.sl ns (rsets rs))), (3, .c (.sl ne (exprs es))), (4, .c (.sl sn (scols sc)))],
        [(2496, some (.arr false 3 (vals i.row) 0)), (768, some (.box false [.own 10001 E.length, .own 10002 A.length])), (10001, some (.arr n1 s1 (E.map icell) 0)), (10002, some (.arr n2 s2 (facts A) 0)),
          (640, some (.box false [.own 641 0, .own 642 0])), (642, some (.arr true 0 [] 0)), (641, some (.arr true 0 [] 0)), (384, some (.box false [.c (i64 p.f), .c (i64 p.t)]))]⟩)
        (fun i => i.k ≤ rs.length ∧ i.row.length = R0.length ∧ setRow R0 (sets.take i.k) R0 = .ok i.row) (fun i => rs.length - i.k) ⟨0, R0⟩ (by kernel_rfl) ⟨by simp, rfl, rfl⟩ (by simp [St.le]) ?_
      intro ⟨j, row⟩ ⟨hj, hjl, hjr⟩
      simp only at hj hjl hjr
      simp -dsimp
      refine VIf.mk (fun h3 => ?_) (fun h3 => ?_)
      · have h4 : j < rs.length := by simpa using h3
        have h4u : j < sets.length := by rw [← hbs.1]; exact h4
        have hw2 : IntKind.i64.wrap ((j : Int) + 1) = (j : Int) + 1 := IntWalk.i64_in _ (by omega)
        obtain ⟨hpl2, hfit, hbe⟩ := hbs.2 j h4 h4u
        have hcat2 : sets = sets.take j ++ sets[j] :: sets.drop (j + 1) := by rw [← List.drop_eq_getElem_cons h4u, List.take_append_drop]
        have hsr : setRow R0 sets R0 = setRow R0 (sets[j] :: sets.drop (j + 1)) row := by
          conv => lhs; rw [hcat2]
          exact setRow_app R0 _ _ _ _ hjr
        have hsr1 : setRow R0 (sets.take (j + 1)) R0 = setRow R0 [sets[j]] row := by
          rw [take_snoc h4u]; exact setRow_app R0 _ _ _ _ hjr
        have hE := refEval_spec sn sc hsc l[k].nl R0 hrf rs[j].e sets[j].t hfit hbe
        unfold RefCon at hE
        rw [setRow] at hsr
        rw [setRow] at hsr1
        have hone : setOne R0 sets[j] row = if evC (evalT R0 sets[j].t) ≠ 0 then .no (evC (evalT R0 sets[j].t)) else if sets[j].place < 0 ∨ (row.length : Int) ≤ sets[j].place then .no 161 else if (evV (evalT R0 sets[j].t)).kind ≠ (row.getD sets[j].place.toNat default).kind then .no 170 else .ok (row.set sets[j].place.toNat (evV (evalT R0 sets[j].t))) := rfl
        have hstop : ∀ c, setOne R0 sets[j] row = .no c → updR l sets (partsR ts l p l.length) [] [] = .no c := fun c hc => by
          rw [huL, hsr, hc]
        have hnext : ∀ row', setOne R0 sets[j] row = .ok row' → setRow R0 (sets.take (j + 1)) R0 = .ok row' := fun row' hc => by
          rw [hsr1, hc]; rfl
        generalize evC (evalT R0 sets[j].t) = ec at hE hone
        generalize evV (evalT R0 sets[j].t) = ev at hE hone
        rw [← hpl2] at hone
        obtain ⟨pc, op, int, text, of, nl2, args, hsj⟩ : ∃ pc op int text of nl2 args, rs[j] = ⟨pc, Ex.mk op int text of nl2 args⟩ := by
          rcases hq : rs[j] with ⟨pc, tt⟩
          cases tt; exact ⟨_, _, _, _, _, _, _, rfl⟩
        rw [hsj] at hE hone
        simp only at hE hone
        rw [Ex.cells_mk] at hE
        simp -dsimp
        refine VL.draw (by kernel_rfl) [(0, false), (0, false), (3, false), (7, false), (15, false), (0, false), (0, false), (0, false), (192, false), (448, false), (960, false), (2047, false), (4095, false), (8191, false), (8191, false), (0, false), (49151, false), (131071, true)] (by kernel_rfl) ?_
        simp -dsimp [h1, h4, hsj, RSet.cells, Ex.cells_mk, Fact.cells, hR0]
        refine VCE.mk _ hE ?_
        simp -dsimp [Val.cells]
        refine ⟨by kernel_rfl, ?_⟩
        refine VIf.mk (fun h5 => ?_) (fun h5 => ?_)
        · have h6 : ec ≠ 0 := by simpa using h5
          rw [if_pos h6] at hone
          rw [hstop _ hone]
          simp -dsimp [urC, urE]
        · have h6 : ec = 0 := by simpa using h5
          rw [if_neg (by simpa using h6)] at hone
          simp -dsimp [h4, hsj, RSet.cells, Ex.cells_mk]
          refine ⟨fun _ => hjl, ?_⟩
          refine VIf.mk (fun h7 => ?_) (fun h7 => ?_)
          · have h8 : pc < 0 ∨ (row.length : Int) ≤ pc := by rw [hjl]; simpa using h7
            rw [if_pos h8] at hone
            rw [hstop _ hone]
            simp -dsimp [urC, urE]
          · have h8 : ¬ (pc < 0 ∨ (row.length : Int) ≤ pc) := by rw [hjl]; simpa using h7
            rw [if_neg h8] at hone
            obtain ⟨q, rfl⟩ : ∃ q : Nat, pc = q := ⟨pc.toNat, by omega⟩
            have hq : q < row.length := by omega
            have hqR : q < R0.length := by omega
            have hqd : row.getD ((q : Int).toNat) default = row[q] := by simp [List.getD, hq]
            rw [hqd] at hone
            simp -dsimp
            refine VL.draw (by kernel_rfl) [(0, false), (1, false), (0, false), (0, false), (0, false), (24, false), (56, false), (120, false), (252, false), (508, false), (1020, false), (2047, true)] (by kernel_rfl) ?_
            simp -dsimp [h4, hsj, RSet.cells, Ex.cells_mk, hq, hqR, hjl, Val.cells]
            refine VIf.mk (fun h9 => ?_) (fun h9 => ?_)
            · have h10 : ev.kind ≠ row[q].kind := by simpa using h9
              rw [if_pos h10] at hone
              rw [hstop _ hone]
              simp -dsimp [urC, urE]
            · have h10 : ev.kind = row[q].kind := by simpa using h9
              rw [if_neg (by simpa using h10)] at hone
              simp -dsimp
              refine VL.draw (by kernel_rfl) [(0, false), (0, false), (0, false), (6, false), (14, false), (30, false), (0, false), (127, true), (255, true)] (by kernel_rfl) ?_
              simp -dsimp [h4, hsj, RSet.cells, Ex.cells_mk, hq, hqR, hjl]
              refine ⟨⟨j + 1, row.set q ev⟩, ⟨by simp only; omega, by simp [hjl], hnext _ (by simpa using hone)⟩, ?_, by simp only; omega⟩
              have hset : vals (row.set q ev) = (vals row).set q ev.cells := by simp [vals]
              simp only [hset]
              simp [St.le, hw2, Val.cells]
      · simp at h3
        obtain rfl : j = rs.length := by omega
        have e0 : sets.take rs.length = sets := by rw [hbs.1, List.take_length]
        rw [e0] at hjr
        rw [hjr] at hu1
        simp only [updR] at hu1
        simp -dsimp
        refine ⟨by decide, hs1, by omega, ?_⟩
        refine VL.draw (by kernel_rfl) [(0, false), (1, false), (0, false), (0, false), (12, false), (28, false), (0, false), (124, false), (255, true), (511, true), (1023, true)] (by kernel_rfl) ?_
        simp -dsimp [h1, Fact.cells, hR0]
        have hR' : Con Try.prog 48 [.agg [.sl l[k].nl (vals R0), i64 l[k].p.f, i64 l[k].p.t], .agg p.cells] [.c (.sl (restR l[k] p).isEmpty (facts (restR l[k] p)))] := by rw [← hR0]; exact hR
        have hW' : Con Try.prog 49 [.agg [.sl l[k].nl (vals R0), i64 l[k].p.f, i64 l[k].p.t], .agg p.cells] [.ag (lapP l[k].p p).cells] := by rw [← hR0]; exact within_spec l[k] p
        refine VCE.mk _ hR' ?_
        simp -dsimp
        refine ⟨hs2, by omega, VL.snap 14 ?_⟩
        simp -dsimp [hjl]
        refine VL.draw (by kernel_rfl) [(0, false), (1, false), (0, false), (0, false), (0, false), (24, false), (56, false), (0, false), (248, false), (508, false), (1020, false), (2047, true), (4095, true), (8191, true)] (by kernel_rfl) ?_
        simp -dsimp [h1, Fact.cells, hR0]
        refine VCE.mk _ hW' ?_
        simp -dsimp [hw, maxLen, Per.cells]
        refine ⟨by omega, ?_⟩
        simp -dsimp [Nat.add_assoc, hw]
        refine ⟨⟨k + 1, false, 1, false, 3, E ++ [(k : Int)], A ++ restR l[k] p ++ [⟨false, row, lapP l[k].p p⟩]⟩, ⟨by simp only; omega, hu1, by simp, fun _ => rfl, by simp, fun _ => rfl⟩, ?_, by simp only; omega⟩
        simp [St.le, facts, Fact.cells, Nat.add_assoc]
        rfl
  · simp at h
    obtain rfl : k = l.length := by omega
    rw [hu]
    simp -dsimp [urC, urE]
    exact ⟨hn1, hn2⟩
end Go.Proofs.Ytkfiiomdkljjnaa
