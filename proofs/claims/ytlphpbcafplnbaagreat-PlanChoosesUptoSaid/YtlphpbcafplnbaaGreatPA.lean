/- Contracts of functions of the seat, proved in a logic on data over the model (part PA). -/
import Derived.Test.YtlphpbcafplnbaaGreatOA
set_option linter.unusedSimpArgs false
set_option linter.unusedVariables false
namespace Go.Proofs.YtlphpbcafplnbaaGreat
open Go.VL Go.RowKit
structure Src where
  nl : Bool
  fs : List Fact
  cols : Int
  ix : Bool
instance : Inhabited Src := ⟨⟨true, [], 0, false⟩⟩
def Src.cells (s : Src) : List C := [.sl s.nl (facts s.fs), i64 s.cols, bln s.ix]
abbrev srcs (l : List Src) : List (List C) := l.map Src.cells
structure Qry where
  sn : Bool
  src : List Src
  tn : Bool
  ts : List Tm
  dn : Bool
  du : List Per
def Qry.cells (q : Qry) : List C := [.sl q.sn (srcs q.src), .sl q.tn (terms q.ts), .sl q.dn (q.du.map Per.cells)]
structure Pln where
  swap : Bool
  way : Int
  push : Bool
  early : Bool
  deriving DecidableEq
instance : Inhabited Pln := ⟨⟨false, 0, false, false⟩⟩
def Pln.cells (p : Pln) : List C := [bln p.swap, i64 p.way, bln p.push, bln p.early]
def rowBad (s : Src) (f : Fact) : Bool := (f.row.length : Int) != s.cols
def colBad (s : Src) : Bool := decide (s.cols < 0) || decide (8 < s.cols)
def chkS (s : Src) : Int := if colBad s then 1 else if s.fs.any (rowBad s) then 161 else 0
def chkL : List Src → Int
  | [] => 0
  | s :: r => if chkS s = 0 then chkL r else chkS s
def sizeBad (q : Qry) : Bool := decide ((q.src.length : Int) < 1) || decide (2 < (q.src.length : Int)) || decide (1 < (q.du.length : Int))
def checkQ (q : Qry) : Int := if sizeBad q then 1 else chkL q.src
theorem chkL_at : ∀ (l : List Src) (k : Nat) (h : k < l.length), chkL (l.take k) = 0 → chkS l[k] ≠ 0 → chkL l = chkS l[k]
  | [], k, h, _, _ => by simp at h
  | s :: r, 0, h, _, h2 => by simp at h2 ⊢; simp [chkL, h2]
  | s :: r, k + 1, h, h1, h2 => by
    rw [List.take_succ_cons, chkL] at h1
    by_cases e : chkS s = 0
    · rw [if_pos e] at h1
      rw [chkL, if_pos e]
      exact chkL_at r k (by simpa using h) h1 h2
    · rw [if_neg e] at h1; exact absurd h1 e
theorem chkL_snoc : ∀ (l : List Src) (k : Nat) (h : k < l.length), chkL (l.take k) = 0 → chkS l[k] = 0 → chkL (l.take (k + 1)) = 0
  | [], k, h, _, _ => by simp at h
  | s :: r, 0, h, _, h2 => by simp at h2 ⊢; simp [chkL, h2]
  | s :: r, k + 1, h, h1, h2 => by
    rw [List.take_succ_cons, chkL] at h1 ⊢
    by_cases e : chkS s = 0
    · rw [if_pos e] at h1 ⊢
      exact chkL_snoc r k (by simpa using h) h1 h2
    · rw [if_neg e] at h1; exact absurd h1 e
theorem any_at {α : Type} {p : α → Bool} {l : List α} {k : Nat} (h : k < l.length) (hp : p l[k] = true) : l.any p = true := List.any_eq_true.2 ⟨_, List.getElem_mem h, hp⟩
theorem any_next {α : Type} {p : α → Bool} {l : List α} {k : Nat} (h : k < l.length) (h1 : (l.take k).any p = false) (hp : p l[k] = false) : (l.take (k + 1)).any p = false := by
  rw [take_snoc h, List.any_append, h1]; simp [hp]
set_option maxRecDepth 4000 in
set_option maxHeartbeats 4000000 in
theorem flags_spec (b : Bool) : Con Tryz.prog 71 [.c (bln b)] [.fr false 1 (bif b then [[bln false], [bln true]] else [[bln false]]) 0] := by
  refine spec_of Tryz.func71 rfl (by kernel_rfl) (by simp [Tryz.f71]) (fun w0 K0 => vc_ok _ _ _ (by kernel_rfl) ?_)
  simp only [Tryz.f71]
  cases b <;> simp -dsimp [maxLen]
structure Qry.Fit (q : Qry) : Prop where
  s : q.src.length ≤ 1000000
  f : ∀ s ∈ q.src, s.fs.length ≤ 3518437208883
  t : q.ts.length ≤ 1000000000
  d : q.du.length ≤ 1000000000000
  r : ∀ s ∈ q.src, ∀ f ∈ s.fs, f.row.length ≤ 4398046511104
set_option maxRecDepth 4000 in
set_option maxHeartbeats 8000000 in
theorem checkP_spec (q : Qry) (hq : q.Fit) : Con Tryz.prog 43 [.agg q.cells] [.c (i64 (checkQ q))] := by
  refine spec_of Tryz.func43 rfl (by kernel_rfl) (by simp [Tryz.f43]) (fun w0 K0 => vc_ok _ _ _ (by kernel_rfl) ?_)
  simp only [Tryz.f43]
  simp -dsimp [Qry.cells]
  have hs := hq.s
  have hcq : checkQ q = if sizeBad q then 1 else chkL q.src := rfl
  refine VIf.mk (fun h => ?_) (fun h => ?_)
  · have h0 : sizeBad q = true := h
    rw [if_pos h0] at hcq
    rw [hcq]
    simp -dsimp
  have h0 : sizeBad q = false := h
  rw [if_neg (by simp [h0])] at hcq
  rw [hcq]
  simp -dsimp
  have hf := hq.f
  have hr := hq.r
  generalize q.src = l at *
  refine VL.loop (fun k : Nat => ⟨[(26, .c (i64 k)), (25, .c (i64 l.length)), (24, .c (.sl q.sn (srcs l)))], []⟩)
    (fun k => k ≤ l.length ∧ chkL (l.take k) = 0) (fun k => l.length - k) 0 (by kernel_rfl) (by simp [chkL]) (by simp [St.le]) ?_
  intro k ⟨hk, hc⟩
  by_cases h1 : k < l.length
  · have hw : IntKind.i64.wrap ((k : Int) + 1) = (k : Int) + 1 := IntWalk.i64_in _ (by omega)
    have hat := chkL_at l k h1 hc
    have hsn := chkL_snoc l k h1 hc
    have hfk := hf _ (List.getElem_mem h1)
    have hrk := hr _ (List.getElem_mem h1)
    have hcs : l[k].cells = [.sl l[k].nl (facts l[k].fs), i64 l[k].cols, bln l[k].ix] := rfl
    have hch : chkS l[k] = if colBad l[k] then 1 else if l[k].fs.any (rowBad l[k]) then 161 else 0 := rfl
    simp -dsimp [h1, hcs]
    generalize l[k] = s at *
    refine VIf.mk (fun h => ?_) (fun h => ?_)
    · have h2 : colBad s = true := h
      rw [if_pos h2] at hch
      rw [hat (by rw [hch]; decide), hch]
      simp -dsimp
    · have h2 : colBad s = false := h
      rw [if_neg (by simp [h2])] at hch
      simp -dsimp
      refine VL.loop (fun j : Nat => ⟨[(41, .c (i64 j)), (40, .c (i64 s.fs.length)), (39, .c (.sl s.nl (facts s.fs))), (4, .ptr 256 0), (26, .c (i64 k)), (25, .c (i64 l.length)), (24, .c (.sl q.sn (srcs l)))], [(256, some (.box false [.c (.sl s.nl (facts s.fs)), .c (i64 s.cols), .c (bln s.ix)]))]⟩)
        (fun j => j ≤ s.fs.length ∧ (s.fs.take j).any (rowBad s) = false) (fun j => s.fs.length - j) 0 (by kernel_rfl) (by simp) (by simp [St.le]) ?_
      intro j ⟨hj, hb⟩
      by_cases h3 : j < s.fs.length
      · have hw2 : IntKind.i64.wrap ((j : Int) + 1) = (j : Int) + 1 := IntWalk.i64_in _ (by omega)
        have hrj := hrk _ (List.getElem_mem h3)
        have hcf : s.fs[j].cells = [.sl s.fs[j].nl (vals s.fs[j].row), i64 s.fs[j].p.f, i64 s.fs[j].p.t] := rfl
        simp -dsimp [h3, hcf]
        refine VIf.mk (fun h4 => ?_) (fun h4 => ?_)
        · have h5 : s.fs.any (rowBad s) = true := any_at h3 h4
          rw [h5, if_pos rfl] at hch
          rw [hat (by rw [hch]; decide), hch]
          simp -dsimp
        · simp -dsimp [hw2]
          refine ⟨j + 1, ⟨by omega, by simpa using any_next h3 hb h4⟩, ?_, by omega⟩
          simp [St.le]
      · obtain rfl : j = s.fs.length := by omega
        rw [List.take_length] at hb
        rw [hb, if_neg (by simp)] at hch
        simp -dsimp [hw]
        refine ⟨k + 1, ⟨by omega, hsn hch⟩, ?_, by omega⟩
        simp [St.le]
  · obtain rfl : k = l.length := by omega
    rw [List.take_length] at hc
    rw [hc]
    simp -dsimp
def innerB (q : Qry) (p : Pln) : Bool := p.swap || decide ((q.src.length : Int) = 1)
def inner (q : Qry) (p : Pln) : Src := if innerB q p then q.src[0]! else q.src[1]!
set_option maxRecDepth 4000 in
set_option maxHeartbeats 8000000 in
theorem inner_spec (q : Qry) (p : Pln) (hq : q.src.length = 2) : Con Tryz.prog 72 [.agg q.cells, .agg p.cells] [.ag (inner q p).cells] := by
  refine spec_of Tryz.func72 rfl (by kernel_rfl) (by simp [Tryz.f72]) (fun w0 K0 => vc_ok _ _ _ (by kernel_rfl) ?_)
  simp only [Tryz.f72]
  have hi : inner q p = if innerB q p then q.src[0]! else q.src[1]! := rfl
  have hb : innerB q p = (p.swap || decide ((q.src.length : Int) = 1)) := rfl
  simp -dsimp [Qry.cells, Pln.cells]
  generalize q.src = l at *
  match l, hq with
  | [s0, s1], _ =>
    have e0 : [s0, s1][0]! = s0 := rfl
    have e1 : [s0, s1][1]! = s1 := rfl
    rw [e0, e1] at hi
    simp -dsimp [Src.cells]
    refine VIf.mk (fun h => ?_) (fun h => ?_)
    · have h2 : innerB q p = true := by rw [hb]; simpa using h
      rw [if_pos h2] at hi
      rw [hi]
      simp -dsimp [Src.cells]
    · have h2 : innerB q p = false := by rw [hb]; simpa using h
      rw [if_neg (by simp [h2])] at hi
      rw [hi]
      simp -dsimp [Src.cells]
end Go.Proofs.YtlphpbcafplnbaaGreat
set_option linter.unusedSimpArgs false
set_option linter.unusedVariables false
namespace Go.Proofs.YtlphpbcafplnbaaGreat
open Go.VL Go.RowKit
def flagsL (b : Bool) : List Bool := bif b then [false, true] else [false]
abbrev blns (l : List Bool) : List (List C) := l.map fun x => [bln x]
abbrev plns (l : List Pln) : List (List C) := l.map Pln.cells
theorem flags_at (b : Bool) : Con Tryz.prog 71 [.c (bln b)] [.c (.sl false (blns (flagsL b)))] := by
  have e : blns (flagsL b) = bif b then [[bln false], [bln true]] else [[bln false]] := by cases b <;> rfl
  rw [e]
  exact Con.frz (rs := [.fr false 1 (bif b then [[bln false], [bln true]] else [[bln false]]) 0]) (flags_spec b) 0 rfl
theorem flagsL_len (b : Bool) : (flagsL b).length ≤ 2 := by cases b <;> decide
def twoQ (q : Qry) : Bool := (q.src.length : Int) == 2
def skipQ (q : Qry) (p : Pln) : Bool := (twoQ q == (p.way == 0)) || (decide (3 ≤ p.way) && !(inner q p).ix)
def L4 (hd sw : Bool) (w : Int) (pu : Bool) (k : Nat) : List Pln := ((flagsL hd).take k).map (Pln.mk sw w pu)
def L3 (ht hd sw : Bool) (w : Int) (k : Nat) : List Pln := ((flagsL ht).take k).flatMap fun pu => (flagsL hd).map (Pln.mk sw w pu)
def hasT (q : Qry) : Bool := decide (0 < q.ts.length)
def hasD (q : Qry) : Bool := decide (0 < q.du.length)
def wayK (q : Qry) (sw : Bool) (w : Nat) : List Pln := if skipQ q ⟨sw, w, false, false⟩ then [] else L3 (hasT q) (hasD q) sw w (flagsL (hasT q)).length
def L2 (q : Qry) (sw : Bool) (k : Nat) : List Pln := (List.range k).flatMap (wayK q sw)
def L1 (q : Qry) (k : Nat) : List Pln := ((flagsL (twoQ q)).take k).flatMap fun sw => L2 q sw 5
def plansL (q : Qry) : List Pln := L1 q (flagsL (twoQ q)).length
theorem flatMap_le {α β : Type} (f : α → List β) (c : Nat) : ∀ (l : List α), (∀ x ∈ l, (f x).length ≤ c) → (l.flatMap f).length ≤ l.length * c
  | [], _ => by simp
  | x :: r, h => by
    have h1 := h x (by simp)
    have h2 := flatMap_le f c r (fun y hy => h y (by simp [hy]))
    rw [List.flatMap_cons, List.length_append, List.length_cons, Nat.add_mul]
    omega
theorem L4_le (hd sw : Bool) (w : Int) (pu : Bool) (k : Nat) : (L4 hd sw w pu k).length ≤ 2 := by
  unfold L4; rw [List.length_map, List.length_take]; have := flagsL_len hd; omega
theorem L3_le (ht hd sw : Bool) (w : Int) (k : Nat) : (L3 ht hd sw w k).length ≤ 4 := by
  have h := flatMap_le (fun pu => (flagsL hd).map (Pln.mk sw w pu)) 2 ((flagsL ht).take k) (fun x _ => by rw [List.length_map]; exact flagsL_len hd)
  have h2 : ((flagsL ht).take k).length ≤ 2 := by rw [List.length_take]; have := flagsL_len ht; omega
  unfold L3
  omega
theorem wayK_le (q : Qry) (sw : Bool) (w : Nat) : (wayK q sw w).length ≤ 4 := by
  unfold wayK
  split
  · simp
  · exact L3_le _ _ _ _ _
theorem L2_le (q : Qry) (sw : Bool) (k : Nat) (hk : k ≤ 5) : (L2 q sw k).length ≤ 20 := by
  have h := flatMap_le (wayK q sw) 4 (List.range k) (fun x _ => wayK_le q sw x)
  unfold L2
  rw [List.length_range] at h
  omega
theorem L1_le (q : Qry) (k : Nat) : (L1 q k).length ≤ 40 := by
  have h := flatMap_le (fun sw => L2 q sw 5) 20 ((flagsL (twoQ q)).take k) (fun x _ => L2_le q x 5 (Nat.le_refl _))
  have h2 : ((flagsL (twoQ q)).take k).length ≤ 2 := by rw [List.length_take]; have := flagsL_len (twoQ q); omega
  unfold L1
  omega
theorem L4_snoc (hd sw : Bool) (w : Int) (pu : Bool) {k : Nat} (h : k < (flagsL hd).length) : L4 hd sw w pu (k + 1) = L4 hd sw w pu k ++ [⟨sw, w, pu, (flagsL hd)[k]⟩] := by
  unfold L4; rw [take_snoc h, List.map_append]; rfl
theorem L4_end (hd sw : Bool) (w : Int) (pu : Bool) : L4 hd sw w pu (flagsL hd).length = (flagsL hd).map (Pln.mk sw w pu) := by unfold L4; rw [List.take_length]
theorem L3_snoc (ht hd sw : Bool) (w : Int) {k : Nat} (h : k < (flagsL ht).length) : L3 ht hd sw w (k + 1) = L3 ht hd sw w k ++ L4 hd sw w (flagsL ht)[k] (flagsL hd).length := by
  unfold L3; rw [take_snoc h, List.flatMap_append, L4_end]; simp
theorem L2_snoc (q : Qry) (sw : Bool) (k : Nat) : L2 q sw (k + 1) = L2 q sw k ++ wayK q sw k := by
  unfold L2; rw [List.range_succ, List.flatMap_append]; simp
theorem L1_snoc (q : Qry) {k : Nat} (h : k < (flagsL (twoQ q)).length) : L1 q (k + 1) = L1 q k ++ L2 q (flagsL (twoQ q))[k] 5 := by
  unfold L1; rw [take_snoc h, List.flatMap_append]; simp
structure PLI where
  k : Nat
  nl : Bool
  sz : Nat
  x : Bool
  y : Bool
def GoodR (i : PLI) (l : List Pln) : Prop := i.nl = l.isEmpty ∧ i.sz = if i.nl then 0 else 4
set_option maxRecDepth 4000 in
set_option maxHeartbeats 16000000 in
theorem plans_spec (q : Qry) (hq : q.Fit) (h0 : checkQ q = 0) : Con Tryz.prog 37 [.agg q.cells] [.fr (plansL q).isEmpty (if (plansL q).isEmpty then 0 else 4) (plns (plansL q)) 0, .c (i64 0)] := by
  refine spec_of Tryz.func37 rfl (by kernel_rfl) (by simp [Tryz.f37]) (fun w0 K0 => vc_ok _ _ _ (by kernel_rfl) ?_)
  simp only [Tryz.f37]
  have hch := checkP_spec q hq
  rw [h0] at hch
  have hin := fun (p : Pln) h => inner_spec q p h
  have hcq : q.cells = [.sl q.sn (srcs q.src), .sl q.tn (terms q.ts), .sl q.dn (q.du.map Per.cells)] := rfl
  rw [hcq] at hch hin
  simp -dsimp [hcq]
  refine VC.mk _ hch ?_
  simp -dsimp
  refine VC.mk _ (flags_at (twoQ q)) ?_
  have hl1 := flagsL_len (twoQ q)
  simp -dsimp
  refine VL.loop (fun i : PLI => ⟨[(27, .c (i64 i.k)), (26, .c (i64 (flagsL (twoQ q)).length)), (25, .c (.sl false (blns (flagsL (twoQ q))))), (5, .c (bln (twoQ q))), (1, .ptr 64 0), (6, .own 384 (L1 q i.k).length)],
      [(64, some (.box false [.c (.sl q.sn (srcs q.src)), .c (.sl q.tn (terms q.ts)), .c (.sl q.dn (q.du.map Per.cells))])), (384, some (.arr i.nl i.sz (plns (L1 q i.k)) 0))]⟩)
    (fun i => i.k ≤ (flagsL (twoQ q)).length ∧ GoodR i (L1 q i.k)) (fun i => (flagsL (twoQ q)).length - i.k) ⟨0, true, 0, false, false⟩ (by kernel_rfl) ⟨by simp, rfl, rfl⟩ (by simp [St.le, twoQ, L1]) ?_
  intro ⟨k, z, sz, x, y⟩ ⟨hk, hg⟩
  simp only at hk hg
  by_cases h1 : k < (flagsL (twoQ q)).length
  · have hw1 : IntKind.i64.wrap ((k : Int) + 1) = (k : Int) + 1 := IntWalk.i64_in _ (by omega)
    have hs1 := L1_snoc q h1
    have hA := L1_le q k
    simp -dsimp [h1]
    generalize (flagsL (twoQ q))[k] = sw at *
    generalize L1 q k = A at *
    refine VL.loop (fun i : PLI => ⟨[(31, .c (i64 i.k)), (8, .c (bln sw)), (27, .c (i64 k)), (26, .c (i64 (flagsL (twoQ q)).length)), (25, .c (.sl false (blns (flagsL (twoQ q))))), (5, .c (bln (twoQ q))), (1, .ptr 64 0), (6, .own 384 (A ++ L2 q sw i.k).length)],
        [(64, some (.box false [.c (.sl q.sn (srcs q.src)), .c (.sl q.tn (terms q.ts)), .c (.sl q.dn (q.du.map Per.cells))])), (384, some (.arr i.nl i.sz (plns (A ++ L2 q sw i.k)) 0))]⟩)
      (fun i => i.k ≤ 5 ∧ GoodR i (A ++ L2 q sw i.k)) (fun i => 5 - i.k) ⟨0, z, sz, false, false⟩ (by kernel_rfl) ⟨by simp, by simpa [L2, GoodR] using hg⟩ (by simp [St.le, L2]) ?_
    intro ⟨w, z2, sz2, x2, y2⟩ ⟨hk2, hg2⟩
    simp only at hk2 hg2
    by_cases h2 : w < 5
    · have hw2 : IntKind.i64.wrap ((w : Int) + 1) = (w : Int) + 1 := IntWalk.i64_in _ (by omega)
      have hlt : (w : Int) < 5 := by omega
      have hs2 := L2_snoc q sw w
      have hB := L2_le q sw w (by omega)
      have hwk : wayK q sw w = if skipQ q ⟨sw, w, false, false⟩ then [] else L3 (hasT q) (hasD q) sw w (flagsL (hasT q)).length := rfl
      have hin2 := hin ⟨sw, w, false, false⟩
      simp only [Pln.cells] at hin2
      simp -dsimp [h2, hlt]
      refine VG.mk _ _ (fun h => hin2 (by
        simp only [Bool.and_eq_true, Bool.not_eq_true', decide_eq_true_eq] at h
        obtain ⟨ha, hb⟩ := h
        have hw0 : ((w : Int) == 0) = false := by simp; omega
        rw [hw0] at ha
        have : twoQ q = true := by simpa using ha
        unfold twoQ at this
        have := eq_of_beq this
        omega)) rfl ?_
      simp -dsimp [Src.cells]
      refine ⟨fun a => ⟨a, fun b => ⟨a, b⟩⟩, ?_⟩
      have hsk : skipQ q ⟨sw, w, false, false⟩ = (twoQ q == ((w : Int) == 0) || decide (3 ≤ (w : Int)) && !(inner q ⟨sw, w, false, false⟩).ix) := rfl
      rw [hsk] at hwk
      generalize (inner q ⟨sw, w, false, false⟩).ix = ii at *
      refine VIf.mk (fun h => ?_) (fun h => ?_)
      · rw [if_pos h] at hwk
        rw [hwk, List.append_nil] at hs2
        simp -dsimp [hw2]
        refine ⟨⟨w + 1, z2, sz2, false, false⟩, ⟨by simp only; omega, by simp only; rw [hs2]; exact hg2⟩, ?_, by simp only; omega⟩
        simp [St.le, hs2]
      · rw [if_neg (by rw [h]; decide)] at hwk
        rw [hwk] at hs2
        simp -dsimp
        refine VC.mk _ (flags_at (hasT q)) ?_
        have hl3 := flagsL_len (hasT q)
        simp -dsimp
        generalize L2 q sw w = B at *
        refine VL.loop (fun i : PLI => ⟨[(58, .c (i64 i.k)), (57, .c (i64 (flagsL (hasT q)).length)), (56, .c (.sl false (blns (flagsL (hasT q))))), (31, .c (i64 w)), (9, .c (i64 w)), (8, .c (bln sw)), (10, .ptr 640 0), (27, .c (i64 k)), (26, .c (i64 (flagsL (twoQ q)).length)), (25, .c (.sl false (blns (flagsL (twoQ q))))), (5, .c (bln (twoQ q))), (1, .ptr 64 0), (6, .own 384 (A ++ B ++ L3 (hasT q) (hasD q) sw w i.k).length)],
            [(64, some (.box false [.c (.sl q.sn (srcs q.src)), .c (.sl q.tn (terms q.ts)), .c (.sl q.dn (q.du.map Per.cells))])), (640, some (.box false [.c (bln sw), .c (i64 w), .c (bln i.x), .c (bln i.y)])), (384, some (.arr i.nl i.sz (plns (A ++ B ++ L3 (hasT q) (hasD q) sw w i.k)) 0))]⟩)
          (fun i => i.k ≤ (flagsL (hasT q)).length ∧ GoodR i (A ++ B ++ L3 (hasT q) (hasD q) sw w i.k)) (fun i => (flagsL (hasT q)).length - i.k) ⟨0, z2, sz2, false, false⟩ (by kernel_rfl) ⟨by simp, by simpa [L3, GoodR] using hg2⟩ (by simp [St.le, L3, hasT]) ?_
        intro ⟨k3, z3, sz3, x3, y3⟩ ⟨hk3, hg3⟩
        simp only at hk3 hg3
        have hC := L3_le (hasT q) (hasD q) sw w k3
        by_cases h3 : k3 < (flagsL (hasT q)).length
        · have hw3 : IntKind.i64.wrap ((k3 : Int) + 1) = (k3 : Int) + 1 := IntWalk.i64_in _ (by omega)
          have hs3 := L3_snoc (hasT q) (hasD q) sw w h3
          simp -dsimp [h3]
          refine VC.mk _ (flags_at (hasD q)) ?_
          have hl4 := flagsL_len (hasD q)
          simp -dsimp
          generalize (flagsL (hasT q))[k3] = pu at *
          generalize L3 (hasT q) (hasD q) sw w k3 = CC at *
          refine VL.loop (fun i : PLI => ⟨[(68, .c (i64 i.k)), (67, .c (i64 (flagsL (hasD q)).length)), (66, .c (.sl false (blns (flagsL (hasD q))))), (58, .c (i64 k3)), (57, .c (i64 (flagsL (hasT q)).length)), (56, .c (.sl false (blns (flagsL (hasT q))))), (12, .c (bln pu)), (31, .c (i64 w)), (9, .c (i64 w)), (8, .c (bln sw)), (10, .ptr 640 0), (27, .c (i64 k)), (26, .c (i64 (flagsL (twoQ q)).length)), (25, .c (.sl false (blns (flagsL (twoQ q))))), (5, .c (bln (twoQ q))), (1, .ptr 64 0), (6, .own 384 (A ++ B ++ CC ++ L4 (hasD q) sw w pu i.k).length)],
              [(64, some (.box false [.c (.sl q.sn (srcs q.src)), .c (.sl q.tn (terms q.ts)), .c (.sl q.dn (q.du.map Per.cells))])), (640, some (.box false [.c (bln sw), .c (i64 w), .c (bln i.x), .c (bln i.y)])), (384, some (.arr i.nl i.sz (plns (A ++ B ++ CC ++ L4 (hasD q) sw w pu i.k)) 0))]⟩)
            (fun i => i.k ≤ (flagsL (hasD q)).length ∧ GoodR i (A ++ B ++ CC ++ L4 (hasD q) sw w pu i.k)) (fun i => (flagsL (hasD q)).length - i.k) ⟨0, z3, sz3, x3, y3⟩ (by kernel_rfl) ⟨by simp, by simpa [L4, GoodR] using hg3⟩ (by simp [St.le, L4, hasD]) ?_
          intro ⟨k4, z4, sz4, x4, y4⟩ ⟨hk4, hg4⟩
          simp only at hk4 hg4
          have hD := L4_le (hasD q) sw w pu k4
          by_cases h4 : k4 < (flagsL (hasD q)).length
          · have hw4 : IntKind.i64.wrap ((k4 : Int) + 1) = (k4 : Int) + 1 := IntWalk.i64_in _ (by omega)
            have hs4 := L4_snoc (hasD q) sw w pu h4
            simp -dsimp [h4]
            generalize (flagsL (hasD q))[k4] = ea at *
            generalize L4 (hasD q) sw w pu k4 = D at *
            obtain ⟨g1, g2⟩ := hg4
            simp only at g1 g2
            simp -dsimp [hw4, maxLen]
            refine ⟨fun e => by rw [g2, e]; rfl, by omega, ⟨k4 + 1, false, 4, pu, ea⟩, ⟨by simp only; omega, ?_, ?_⟩, ?_, by simp only; omega⟩
            · simp [hs4]
            · rfl
            · simp [St.le, hs4, Pln.cells] <;> omega
          · obtain rfl : k4 = (flagsL (hasD q)).length := by omega
            simp -dsimp [hw3]
            refine ⟨⟨k3 + 1, z4, sz4, x4, y4⟩, ⟨by simp only; omega, by simp only [hs3, List.append_assoc] at hg4 ⊢; exact hg4⟩, ?_, by simp only; omega⟩
            simp [St.le, hs3] <;> omega
        · obtain rfl : k3 = (flagsL (hasT q)).length := by omega
          simp -dsimp [hw2]
          refine ⟨⟨w + 1, z3, sz3, false, false⟩, ⟨by simp only; omega, by simp only [hs2, List.append_assoc] at hg3 ⊢; exact hg3⟩, ?_, by simp only; omega⟩
          simp [St.le, hs2] <;> omega
    · obtain rfl : w = 5 := by omega
      simp -dsimp [hw1]
      refine ⟨⟨k + 1, z2, sz2, false, false⟩, ⟨by simp only; omega, by simp only; rw [hs1]; exact hg2⟩, ?_, by simp only; omega⟩
      simp [St.le, hs1]
  · obtain rfl : k = (flagsL (twoQ q)).length := by omega
    have e : plansL q = L1 q (flagsL (twoQ q)).length := rfl
    rw [e]
    generalize L1 q (flagsL (twoQ q)).length = out at *
    simp -dsimp
    obtain ⟨g1, g2⟩ := hg
    simp only at g1 g2
    refine ⟨g1, ?_⟩
    rw [g2, g1]
    cases out <;> simp
end Go.Proofs.YtlphpbcafplnbaaGreat
