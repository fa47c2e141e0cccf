/- Contracts of functions of the seat, proved in a logic on data over the model (part PC). -/
import Derived.Test.YtlphpbcafplnbaaGreatPB
import Derived.Test.YtlphpbcafplnbaaGreatGB
set_option linter.unusedSimpArgs false
set_option linter.unusedVariables false
namespace Go.Proofs.YtlphpbcafplnbaaGreat
open Go.VL Go.RowKit
def halfI (n : Int) : Int := (n + 1).tdiv 2
theorem halfI_in {n B : Int} (h0 : 0 ≤ n) (h1 : n ≤ B) : 0 ≤ halfI n ∧ halfI n ≤ B := by
  unfold halfI
  rw [Int.tdiv_eq_ediv_of_nonneg (by omega)]
  omega
def lenQ (q : Qry) (i : Nat) : Int := ((q.src[i]!).fs.length : Int)
def pushQ (q : Qry) (i : Nat) (p : Pln) : Bool := p.push && decide (0 < (ownL q i).length)
def size1 (q : Qry) (i : Nat) (p : Pln) : Int := if pushQ q i p then halfI (lenQ q i) else lenQ q i
def sizeQ (q : Qry) (i : Nat) (p : Pln) : Int := if p.early then halfI (size1 q i p) else size1 q i p
theorem size1_in (q : Qry) (i : Nat) (p : Pln) (h : (q.src[i]!).fs.length ≤ 134217728) : 0 ≤ size1 q i p ∧ size1 q i p ≤ 134217728 := by
  unfold size1 lenQ
  split
  · exact halfI_in (by omega) (by omega)
  · omega
theorem sizeQ_in (q : Qry) (i : Nat) (p : Pln) (h : (q.src[i]!).fs.length ≤ 134217728) : 0 ≤ sizeQ q i p ∧ sizeQ q i p ≤ 134217728 := by
  have := size1_in q i p h
  unfold sizeQ
  split
  · exact halfI_in this.1 this.2
  · exact this
structure Qry.Good (q : Qry) (m : Nat) : Prop where
  fit : q.Fit
  cols : ∀ s ∈ q.src, 0 ≤ s.cols ∧ s.cols ≤ 8
  bd : ∀ t ∈ q.ts, t.Bd m
  sm : ∀ s ∈ q.src, s.fs.length ≤ 134217728
  m : m ≤ 1000000
set_option maxRecDepth 4000 in
set_option maxHeartbeats 16000000 in
theorem size_spec (hi : SortsJ) (m : Nat) (q : Qry) (hq : q.Good m) (i : Nat) (hil : i < q.src.length) (p : Pln) :
    Con Tryz.prog 74 [.agg q.cells, .c (i64 i), .agg p.cells] [.c (i64 (sizeQ q i p))] := by
  refine spec_of Tryz.func74 rfl (by kernel_rfl) (by simp [Tryz.f74]) (fun w0 K0 => vc_ok _ _ _ (by kernel_rfl) ?_)
  simp only [Tryz.f74]
  have hs := hq.fit.s
  have hsm := hq.sm _ (List.getElem_mem hil)
  have how := own_spec hi m hq.m q hq.fit hq.cols hq.bd i hil
  have h1 : size1 q i p = if pushQ q i p then halfI (lenQ q i) else lenQ q i := rfl
  have h2 : sizeQ q i p = if p.early then halfI (size1 q i p) else size1 q i p := rfl
  have hsi : q.src[i] = q.src[i]! := by simp [hil]
  have hln : lenQ q i = (q.src[i].fs.length : Int) := by unfold lenQ; rw [hsi]
  have hcs : q.src[i].cells = [.sl q.src[i].nl (facts q.src[i].fs), i64 q.src[i].cols, bln q.src[i].ix] := rfl
  have hqc : q.cells = [.sl q.sn (srcs q.src), .sl q.tn (terms q.ts), .sl q.dn (q.du.map Per.cells)] := rfl
  have hpu : pushQ q i p = (p.push && decide (0 < (ownL q i).length)) := rfl
  have hin := size1_in q i p (by rw [← hsi]; exact hsm)
  rw [hqc] at how
  simp -dsimp [hqc, Pln.cells, hil, hcs]
  refine VG.mk _ _ (fun _ => how) rfl ?_
  simp -dsimp
  rw [hln] at h1
  have hl0 : 0 ≤ (q.src[i].fs.length : Int) ∧ (q.src[i].fs.length : Int) ≤ 134217728 := by omega
  generalize (q.src[i].fs.length : Int) = n at *
  have hstep : ∀ n : Int, 0 ≤ n ∧ n ≤ 134217728 → IntKind.i64.wrap (n + 1) = n + 1 ∧ IntKind.i64.wrap ((n + 1).tdiv 2) = halfI n := by
    intro n hn
    have := halfI_in hn.1 hn.2
    unfold halfI at this ⊢
    exact ⟨IntWalk.i64_in _ (by omega), IntWalk.i64_in _ (by omega)⟩
  refine VIf.mk (fun g => ?_) (fun g => ?_)
  all_goals
    rw [← hpu] at g
    rw [g] at h1
    simp only [if_true, Bool.false_eq_true, if_false] at h1
    obtain ⟨e1, e2⟩ := hstep n hl0
    simp -dsimp [e1, e2]
    rw [← h1]
    obtain ⟨e3, e4⟩ := hstep _ hin
    refine VIf.mk (fun g2 => ?_) (fun g2 => ?_)
    all_goals
      rw [g2] at h2
      simp only [if_true, Bool.false_eq_true, if_false] at h2
      simp -dsimp [e3, e4, h2]
end Go.Proofs.YtlphpbcafplnbaaGreat
set_option linter.unusedSimpArgs false
set_option linter.unusedVariables false
namespace Go.Proofs.YtlphpbcafplnbaaGreat
open Go.VL Go.RowKit
def totK (l : List Src) (k : Nat) : Int := ((l.take k).map fun s => (s.fs.length : Int)).sum
theorem totK_snoc (l : List Src) {k : Nat} (h : k < l.length) : totK l (k + 1) = totK l k + (l[k].fs.length : Int) := by
  unfold totK; rw [take_snoc h, List.map_append, List.sum_append]; simp
theorem totK_in (l : List Src) (hc : ∀ s ∈ l, s.fs.length ≤ 134217728) : ∀ k, k ≤ l.length → 0 ≤ totK l k ∧ totK l k ≤ 134217728 * k
  | 0, _ => by simp [totK]
  | k + 1, h => by
    have h1 := totK_in l hc k (by omega)
    have h2 := hc _ (List.getElem_mem (show k < l.length by omega))
    rw [totK_snoc l (by omega)]
    omega
def totQ (q : Qry) : Int := totK q.src q.src.length
def dgI (n : Int) : Int := (dig n.toNat : Int)
def wayC (t n m w : Int) : Int × Int :=
  if w = 1 then (t + n * m, 0) else if w = 2 then (t + (n + m) * (1 + dgI (n + m)), 0) else if w = 3 ∨ w = 4 then (t + (n + m) * (2 + dgI m), 0) else (0, 21)
def costQ (q : Qry) (p : Pln) : Int × Int :=
  if checkQ q ≠ 0 then (0, checkQ q)
  else if q.src.length = 1 then (totQ q + sizeQ q 0 p, 0)
  else if p.swap then wayC (totQ q) (sizeQ q 1 p) (sizeQ q 0 p) p.way else wayC (totQ q) (sizeQ q 0 p) (sizeQ q 1 p) p.way
theorem check_len {q : Qry} (h : checkQ q = 0) : q.src.length = 1 ∨ q.src.length = 2 := by
  unfold checkQ at h
  by_cases hb : sizeBad q = true
  · rw [if_pos hb] at h; omega
  · unfold sizeBad at hb
    simp only [Bool.or_eq_true, decide_eq_true_eq, not_or] at hb
    omega
theorem mul_in {a b A B : Int} (h0 : 0 ≤ a) (h1 : a ≤ A) (h2 : 0 ≤ b) (h3 : b ≤ B) : 0 ≤ a * b ∧ a * b ≤ A * B :=
  ⟨Int.mul_nonneg h0 h2, Int.mul_le_mul h1 h3 h2 (Int.le_trans h0 h1)⟩
theorem dgI_in {n : Int} (h0 : 0 ≤ n) (h1 : n ≤ 268435456) : 0 ≤ dgI n ∧ dgI n ≤ 32 := by
  have := dig_le n.toNat (by omega)
  unfold dgI
  omega
theorem len64_at {n : Int} (h0 : 0 ≤ n) (h1 : n ≤ 268435456) : Con Tryz.prog 75 [.c (.v (.int .u64 n))] [.c (i64 (dgI n))] := by
  have := len64_spec n.toNat (by omega)
  rw [Int.toNat_of_nonneg h0] at this
  exact this
theorem u64_in {n : Int} (h0 : 0 ≤ n) (h1 : n ≤ 268435456) : IntKind.u64.wrap n = n := by
  have e : IntKind.u64.wrap n = n % 18446744073709551616 := by first | rfl | simp [IntKind.wrap, IntKind.signed, IntKind.bits]
  rw [e]; omega
set_option maxRecDepth 4000 in
set_option maxHeartbeats 16000000 in
theorem cost_err (q : Qry) (hq : q.Fit) (hc : checkQ q ≠ 0) (p : Pln) : Con Tryz.prog 41 [.agg q.cells, .agg p.cells] [.c (i64 0), .c (i64 (checkQ q))] := by
  refine spec_of Tryz.func41 rfl (by kernel_rfl) (by simp [Tryz.f41]) (fun w0 K0 => vc_ok _ _ _ (by kernel_rfl) ?_)
  simp only [Tryz.f41]
  have hch := checkP_spec q hq
  have hqc : q.cells = [.sl q.sn (srcs q.src), .sl q.tn (terms q.ts), .sl q.dn (q.du.map Per.cells)] := rfl
  have hne : (checkQ q != 0) = true := by simpa using hc
  rw [hqc] at hch
  simp -dsimp [hqc, Pln.cells]
  refine VC.mk _ hch ?_
  simp -dsimp [hne]
set_option maxRecDepth 4000 in
set_option maxHeartbeats 16000000 in
theorem cost_ok (hi : SortsJ) (m : Nat) (q : Qry) (hq : q.Good m) (hc : checkQ q = 0) (p : Pln) : Con Tryz.prog 41 [.agg q.cells, .agg p.cells] [.c (i64 (costQ q p).1), .c (i64 (costQ q p).2)] := by
  refine spec_of Tryz.func41 rfl (by kernel_rfl) (by simp [Tryz.f41]) (fun w0 K0 => vc_ok _ _ _ (by kernel_rfl) ?_)
  simp only [Tryz.f41]
  have hch := checkP_spec q hq.fit
  have hqc : q.cells = [.sl q.sn (srcs q.src), .sl q.tn (terms q.ts), .sl q.dn (q.du.map Per.cells)] := rfl
  have hpc : p.cells = [bln p.swap, i64 p.way, bln p.push, bln p.early] := rfl
  have hl := check_len hc
  have hti := totK_in q.src hq.sm
  have hs0 := size_spec hi m q hq 0 (by omega) p
  have hs1 := fun h => size_spec hi m q hq 1 h p
  have hi0 := sizeQ_in q 0 p (by have := hq.sm _ (List.getElem_mem (show 0 < q.src.length by omega)); rwa [show q.src[0]! = q.src[0] from by simp [show 0 < q.src.length by omega]])
  have hi1 : 1 < q.src.length → 0 ≤ sizeQ q 1 p ∧ sizeQ q 1 p ≤ 134217728 := fun h => sizeQ_in q 1 p (by have := hq.sm _ (List.getElem_mem h); rwa [show q.src[1]! = q.src[1] from by simp [h]])
  have hcq : costQ q p = if q.src.length = 1 then (totQ q + sizeQ q 0 p, 0) else if p.swap then wayC (totQ q) (sizeQ q 1 p) (sizeQ q 0 p) p.way else wayC (totQ q) (sizeQ q 0 p) (sizeQ q 1 p) p.way := by unfold costQ; rw [if_neg (by simp [hc])]
  rw [hc] at hch
  rw [hqc] at hch hs0 hs1
  rw [hpc] at hs0 hs1
  simp -dsimp [hqc, hpc]
  refine VC.mk _ hch ?_
  simp -dsimp
  refine VL.loop (fun k : Nat => ⟨[(20, .c (i64 k)), (19, .c (i64 q.src.length)), (18, .c (.sl q.sn (srcs q.src))), (7, .c (i64 (totK q.src k))), (2, .ptr 128 0), (3, .ptr 192 0)],
      [(128, some (.box false [.c (.sl q.sn (srcs q.src)), .c (.sl q.tn (terms q.ts)), .c (.sl q.dn (q.du.map Per.cells))])), (192, some (.box false [.c (bln p.swap), .c (i64 p.way), .c (bln p.push), .c (bln p.early)]))]⟩)
    (fun k => k ≤ q.src.length) (fun k => q.src.length - k) 0 (by kernel_rfl) (by simp) (by simp [St.le, totK]) ?_
  intro k hk
  have htk := hti k hk
  by_cases h1 : k < q.src.length
  · have hw : IntKind.i64.wrap ((k : Int) + 1) = (k : Int) + 1 := IntWalk.i64_in _ (by omega)
    have hsn := totK_snoc q.src h1
    have htk2 := hti (k + 1) (by omega)
    have hw2 : IntKind.i64.wrap (totK q.src k + (q.src[k].fs.length : Int)) = totK q.src (k + 1) := by rw [hsn]; exact IntWalk.i64_in _ (by omega)
    have hcs : q.src[k].cells = [.sl q.src[k].nl (facts q.src[k].fs), i64 q.src[k].cols, bln q.src[k].ix] := rfl
    simp -dsimp [h1, hcs, hw, hw2]
    refine ⟨k + 1, by omega, ?_, by omega⟩
    simp [St.le]
  · obtain rfl : k = q.src.length := by omega
    have htq : totQ q = totK q.src q.src.length := rfl
    rw [← htq] at htk
    rw [← htq]
    rw [show ((0 : Nat) : Int) = 0 from rfl] at hs0
    simp only [show ((1 : Nat) : Int) = 1 from rfl] at hs1
    clear hti htq hk h1
    generalize sizeQ q 0 p = n at *
    generalize sizeQ q 1 p = m1 at *
    generalize totQ q = tt at *
    simp -dsimp
    refine VC.mk _ hs0 ?_
    have htb : 0 ≤ tt ∧ tt ≤ 268435456 := by omega
    by_cases hl1 : q.src.length = 1
    · rw [if_pos hl1] at hcq
      have hw : IntKind.i64.wrap (tt + n) = tt + n := IntWalk.i64_in _ (by omega)
      simp -dsimp [hl1, hw, hcq]
    · rw [if_neg hl1] at hcq
      have hl2 : q.src.length = 2 := by omega
      have hm1 := hi1 (by omega)
      have hs1' := hs1 (by omega)
      have hwm := mul_in hi0.1 hi0.2 hm1.1 hm1.2
      have hwm2 := mul_in hm1.1 hm1.2 hi0.1 hi0.2
      simp -dsimp [hl2]
      refine VC.mk _ hs1' ?_
      simp -dsimp
      have key : ∀ a b : Int, 0 ≤ a ∧ a ≤ 134217728 → 0 ≤ b ∧ b ≤ 134217728 →
          (IntKind.i64.wrap (a * b) = a * b ∧ IntKind.i64.wrap (tt + a * b) = tt + a * b) ∧ (IntKind.i64.wrap (a + b) = a + b ∧ IntKind.u64.wrap (a + b) = a + b ∧ IntKind.u64.wrap b = b) ∧
          (IntKind.i64.wrap (1 + dgI (a + b)) = 1 + dgI (a + b) ∧ IntKind.i64.wrap ((a + b) * (1 + dgI (a + b))) = (a + b) * (1 + dgI (a + b)) ∧ IntKind.i64.wrap (tt + (a + b) * (1 + dgI (a + b))) = tt + (a + b) * (1 + dgI (a + b))) ∧
          (IntKind.i64.wrap (2 + dgI b) = 2 + dgI b ∧ IntKind.i64.wrap ((a + b) * (2 + dgI b)) = (a + b) * (2 + dgI b) ∧ IntKind.i64.wrap (tt + (a + b) * (2 + dgI b)) = tt + (a + b) * (2 + dgI b)) := by
        intro a b ha hb
        have d1 := dgI_in (n := a + b) (by omega) (by omega)
        have d2 := dgI_in (n := b) (by omega) (by omega)
        have p1 := mul_in ha.1 ha.2 hb.1 hb.2
        have p2 := mul_in (a := a + b) (A := 268435456) (b := 1 + dgI (a + b)) (B := 40) (by omega) (by omega) (by omega) (by omega)
        have p3 := mul_in (a := a + b) (A := 268435456) (b := 2 + dgI b) (B := 40) (by omega) (by omega) (by omega) (by omega)
        exact ⟨⟨IntWalk.i64_in _ (by omega), IntWalk.i64_in _ (by omega)⟩, ⟨IntWalk.i64_in _ (by omega), u64_in (by omega) (by omega), u64_in (by omega) (by omega)⟩, ⟨IntWalk.i64_in _ (by omega), IntWalk.i64_in _ (by omega), IntWalk.i64_in _ (by omega)⟩, ⟨IntWalk.i64_in _ (by omega), IntWalk.i64_in _ (by omega), IntWalk.i64_in _ (by omega)⟩⟩
      have kd : ∀ a b : Int, 0 ≤ a ∧ a ≤ 134217728 → 0 ≤ b ∧ b ≤ 134217728 → Con Tryz.prog 75 [.c (.v (.int .u64 (a + b)))] [.c (i64 (dgI (a + b)))] ∧ Con Tryz.prog 75 [.c (.v (.int .u64 b))] [.c (i64 (dgI b))] :=
        fun a b ha hb => ⟨len64_at (by omega) (by omega), len64_at (by omega) (by omega)⟩
      refine VIf.mk (fun g => ?_) (fun g => ?_)
      · rw [g, if_pos rfl] at hcq
        obtain ⟨⟨k1, k2⟩, ⟨k3, k4, k5⟩, ⟨k6, k7, k8⟩, ⟨k9, k10, k11⟩⟩ := key m1 n hm1 hi0
        obtain ⟨d1, d2⟩ := kd m1 n hm1 hi0
        have hwc : ∀ w : Int, wayC tt m1 n w = if w = 1 then (tt + m1 * n, 0) else if w = 2 then (tt + (m1 + n) * (1 + dgI (m1 + n)), 0) else if w = 3 ∨ w = 4 then (tt + (m1 + n) * (2 + dgI n), 0) else (0, 21) := fun _ => rfl
        rw [hcq, hwc]
        simp -dsimp
        refine VIf.mk (fun c1 => ?_) (fun c1 => ?_)
        · rw [if_pos (by simpa using c1)]
          simp -dsimp [k1, k2]
        have c1' : ¬ p.way = 1 := by simpa using c1
        rw [if_neg c1']
        simp -dsimp
        refine VIf.mk (fun c2 => ?_) (fun c2 => ?_)
        · rw [if_pos (by simpa using c2)]
          simp -dsimp [k3, k4]
          refine VC.mk _ d1 ?_
          simp -dsimp [k6, k7, k8]
        have c2' : ¬ p.way = 2 := by simpa using c2
        rw [if_neg c2']
        simp -dsimp
        refine VIf.mk (fun c3 => ?_) (fun c3 => ?_)
        · rw [if_pos (.inl (by simpa using c3))]
          simp -dsimp [k3, k5, c3]
          refine VC.mk _ d2 ?_
          simp -dsimp [k9, k10, k11]
        have c3' : ¬ p.way = 3 := by simpa using c3
        simp -dsimp
        refine VIf.mk (fun c4 => ?_) (fun c4 => ?_)
        · rw [if_pos (.inr (by simpa using c4))]
          simp -dsimp [k3, k5]
          refine VC.mk _ d2 ?_
          simp -dsimp [k9, k10, k11]
        have c4' : ¬ p.way = 4 := by simpa using c4
        rw [if_neg (by rintro (h | h); exact c3' h; exact c4' h)]
        simp -dsimp
      · rw [g, if_neg (by simp)] at hcq
        obtain ⟨⟨k1, k2⟩, ⟨k3, k4, k5⟩, ⟨k6, k7, k8⟩, ⟨k9, k10, k11⟩⟩ := key n m1 hi0 hm1
        obtain ⟨d1, d2⟩ := kd n m1 hi0 hm1
        have hwc : ∀ w : Int, wayC tt n m1 w = if w = 1 then (tt + n * m1, 0) else if w = 2 then (tt + (n + m1) * (1 + dgI (n + m1)), 0) else if w = 3 ∨ w = 4 then (tt + (n + m1) * (2 + dgI m1), 0) else (0, 21) := fun _ => rfl
        rw [hcq, hwc]
        simp -dsimp
        refine VIf.mk (fun c1 => ?_) (fun c1 => ?_)
        · rw [if_pos (by simpa using c1)]
          simp -dsimp [k1, k2]
        have c1' : ¬ p.way = 1 := by simpa using c1
        rw [if_neg c1']
        simp -dsimp
        refine VIf.mk (fun c2 => ?_) (fun c2 => ?_)
        · rw [if_pos (by simpa using c2)]
          simp -dsimp [k3, k4]
          refine VC.mk _ d1 ?_
          simp -dsimp [k6, k7, k8]
        have c2' : ¬ p.way = 2 := by simpa using c2
        rw [if_neg c2']
        simp -dsimp
        refine VIf.mk (fun c3 => ?_) (fun c3 => ?_)
        · rw [if_pos (.inl (by simpa using c3))]
          simp -dsimp [k3, k5, c3]
          refine VC.mk _ d2 ?_
          simp -dsimp [k9, k10, k11]
        have c3' : ¬ p.way = 3 := by simpa using c3
        simp -dsimp
        refine VIf.mk (fun c4 => ?_) (fun c4 => ?_)
        · rw [if_pos (.inr (by simpa using c4))]
          simp -dsimp [k3, k5]
          refine VC.mk _ d2 ?_
          simp -dsimp [k9, k10, k11]
        have c4' : ¬ p.way = 4 := by simpa using c4
        rw [if_neg (by rintro (h | h); exact c3' h; exact c4' h)]
        simp -dsimp
end Go.Proofs.YtlphpbcafplnbaaGreat
set_option linter.unusedSimpArgs false
set_option linter.unusedVariables false
namespace Go.Proofs.YtlphpbcafplnbaaGreat
open Go.VL Go.RowKit
theorem plans_at (q : Qry) (hq : q.Fit) (h0 : checkQ q = 0) : Con Tryz.prog 37 [.agg q.cells] [.c (.sl (plansL q).isEmpty (plns (plansL q))), .c (i64 0)] :=
  Con.frz (rs := [.fr (plansL q).isEmpty (if (plansL q).isEmpty then 0 else 4) (plns (plansL q)) 0, .c (i64 0)]) (plans_spec q hq h0) 0 rfl
theorem mem_flags (b : Bool) : false ∈ flagsL b := by cases b <;> simp [flagsL]
theorem plansL_ne {q : Qry} (_ : checkQ q = 0) : plansL q ≠ [] := by
  have h : (⟨false, if twoQ q then 1 else 0, false, false⟩ : Pln) ∈ plansL q := by
    unfold plansL L1
    rw [List.take_length]
    refine List.mem_flatMap.2 ⟨false, mem_flags _, ?_⟩
    unfold L2
    refine List.mem_flatMap.2 ⟨if twoQ q then 1 else 0, by split <;> simp, ?_⟩
    unfold wayK
    cases ht : twoQ q with
    | true =>
      rw [if_neg (by unfold skipQ; simp [ht])]
      unfold L3
      rw [List.take_length]
      exact List.mem_flatMap.2 ⟨false, mem_flags _, List.mem_map.2 ⟨false, mem_flags _, rfl⟩⟩
    | false =>
      rw [if_neg (by unfold skipQ; simp [ht])]
      unfold L3
      rw [List.take_length]
      exact List.mem_flatMap.2 ⟨false, mem_flags _, List.mem_map.2 ⟨false, mem_flags _, rfl⟩⟩
  intro e
  rw [e] at h
  cases h
theorem plansL_le (q : Qry) : (plansL q).length ≤ 40 := L1_le q _
def bestF (c : Pln → Int) : Pln → List Pln → Pln
  | b, [] => b
  | b, p :: r => if c p < c b then bestF c p r else bestF c b r
theorem bestF_snoc (c : Pln → Int) : ∀ (l : List Pln) (b p : Pln), bestF c b (l ++ [p]) = if c p < c (bestF c b l) then p else bestF c b l
  | [], b, p => rfl
  | x :: r, b, p => by
    rw [List.cons_append, bestF, bestF]
    split
    · exact bestF_snoc c r x p
    · exact bestF_snoc c r b p
def costV (q : Qry) (p : Pln) : Int := (costQ q p).1
def chooseQ (q : Qry) (o : Int) : Pln := if 0 ≤ o then (plansL q)[(o.tmod (plansL q).length).toNat]! else bestF (costV q) (plansL q)[0]! ((plansL q).drop 1)
set_option maxRecDepth 4000 in
set_option maxHeartbeats 16000000 in
theorem choose_ok (hi : SortsJ) (m : Nat) (q : Qry) (hq : q.Good m) (hc : checkQ q = 0) (o : Int) : Con Tryz.prog 42 [.agg q.cells, .c (i64 o)] [.ag (chooseQ q o).cells, .c (i64 0)] := by
  refine spec_of Tryz.func42 rfl (by kernel_rfl) (by simp [Tryz.f42]) (fun w0 K0 => vc_ok _ _ _ (by kernel_rfl) ?_)
  simp only [Tryz.f42]
  have hpl := plans_at q hq.fit hc
  have hne := plansL_ne hc
  have hle := plansL_le q
  have hcost := cost_ok hi m q hq hc
  have hch : chooseQ q o = if 0 ≤ o then (plansL q)[(o.tmod (plansL q).length).toNat]! else bestF (costV q) (plansL q)[0]! ((plansL q).drop 1) := rfl
  have hcv : ∀ p, costV q p = (costQ q p).1 := fun _ => rfl
  have hqc : q.cells = [.sl q.sn (srcs q.src), .sl q.tn (terms q.ts), .sl q.dn (q.du.map Per.cells)] := rfl
  have hpc : ∀ p : Pln, p.cells = [bln p.swap, i64 p.way, bln p.push, bln p.early] := fun _ => rfl
  rw [hqc] at hpl hcost
  generalize plansL q = l at *
  have hl0 : 0 < l.length := List.length_pos_iff.2 hne
  have hie : l.isEmpty = false := List.isEmpty_eq_false_iff.2 hne
  rw [hie] at hpl
  simp -dsimp [hqc]
  refine VC.mk _ hpl ?_
  simp -dsimp
  refine VIf.mk (fun g => ?_) (fun g => ?_)
  · have ho : 0 ≤ o := by simpa using g
    rw [if_pos ho] at hch
    have hm1 : 0 ≤ o.tmod l.length := Int.tmod_nonneg _ ho
    have hm2 : o.tmod l.length < l.length := Int.tmod_lt_of_pos _ (by omega)
    have hj : (o.tmod l.length).toNat < l.length := by omega
    have hge : l[(o.tmod l.length).toNat]! = l[(o.tmod l.length).toNat] := by simp [hj]
    have hlz : ¬ (l.length : Int) = 0 := by omega
    rw [hch, hge]
    simp -dsimp [hm1, hm2, hj, hpc, hlz]
    exact hne
  · have ho : ¬ 0 ≤ o := by simpa using g
    rw [if_neg ho] at hch
    have hg0 : l[0]! = l[0] := by simp [hl0]
    have hc0 := hcost l[0]
    rw [hpc] at hc0
    rw [hch, hg0]
    simp -dsimp [hl0, hpc]
    refine VC.mk _ hc0 ?_
    rw [← hcv]
    simp -dsimp
    have hdl : (l.drop 1).length = l.length - 1 := List.length_drop
    refine ⟨⟨by omega, fun a _ => rfl⟩, ?_⟩
    generalize l[0] = b0 at *
    obtain ⟨r, hr⟩ : ∃ r, l.drop 1 = r := ⟨_, rfl⟩
    have hrl : l.length - 1 = r.length := by rw [← hr]; exact hdl.symm
    have htl : (List.take l.length (plns l)).tail = plns r := by rw [List.take_of_length_le (by simp), ← hr, List.drop_one]; cases l <;> rfl
    rw [hr]
    refine VL.loop (fun k : Nat => ⟨[(45, .c (i64 k)), (44, .c (i64 r.length)), (43, .c (.sl false (plns r))), (9, .c (i64 (costV q (bestF (costV q) b0 (r.take k))))), (8, .ptr 512 0), (2, .ptr 128 0), (4, .ptr 256 0)],
        [(128, some (.box false [.c (.sl q.sn (srcs q.src)), .c (.sl q.tn (terms q.ts)), .c (.sl q.dn (q.du.map Per.cells))])), (512, some (.box false [.c (bln (bestF (costV q) b0 (r.take k)).swap), .c (i64 (bestF (costV q) b0 (r.take k)).way), .c (bln (bestF (costV q) b0 (r.take k)).push), .c (bln (bestF (costV q) b0 (r.take k)).early)])),
          (256, some (.box false [.c (bln false), .c (i64 0), .c (bln false), .c (bln false)]))]⟩)
      (fun k => k ≤ r.length) (fun k => r.length - k) 0 (by kernel_rfl) (by simp) (by simp [St.le, bestF, hrl, htl]) ?_
    intro k hk
    by_cases h1 : k < r.length
    · have hw : IntKind.i64.wrap ((k : Int) + 1) = (k : Int) + 1 := IntWalk.i64_in _ (by omega)
      have hsn : bestF (costV q) b0 (r.take (k + 1)) = if costV q r[k] < costV q (bestF (costV q) b0 (r.take k)) then r[k] else bestF (costV q) b0 (r.take k) := by rw [take_snoc h1, bestF_snoc]
      have hck := hcost r[k]
      rw [hpc, ← hcv] at hck
      simp -dsimp [h1, hpc]
      generalize bestF (costV q) b0 (r.take k) = b at *
      refine VC.mk _ hck ?_
      simp -dsimp
      refine VIf.mk (fun g2 => ?_) (fun g2 => ?_)
      · rw [if_pos (by simpa using g2)] at hsn
        simp -dsimp [hw]
        refine ⟨k + 1, by omega, ?_, by omega⟩
        simp [St.le, hsn]
      · rw [if_neg (by simpa using g2)] at hsn
        simp -dsimp [hw]
        refine ⟨k + 1, by omega, ?_, by omega⟩
        simp [St.le, hsn]
    · obtain rfl : k = r.length := by omega
      rw [List.take_length]
      simp -dsimp [hpc]
set_option maxRecDepth 4000 in
set_option maxHeartbeats 16000000 in
theorem plans_err (q : Qry) (hq : q.Fit) (hc : checkQ q ≠ 0) : Con Tryz.prog 37 [.agg q.cells] [.c (.sl true []), .c (i64 (checkQ q))] := by
  refine Con.frz (rs := [.fr true 0 [] 0, .c (i64 (checkQ q))]) ?_ 0 rfl
  refine spec_of Tryz.func37 rfl (by kernel_rfl) (by simp [Tryz.f37]) (fun w0 K0 => vc_ok _ _ _ (by kernel_rfl) ?_)
  simp only [Tryz.f37]
  have hch := checkP_spec q hq
  have hqc : q.cells = [.sl q.sn (srcs q.src), .sl q.tn (terms q.ts), .sl q.dn (q.du.map Per.cells)] := rfl
  have hne : (checkQ q != 0) = true := by simpa using hc
  rw [hqc] at hch
  simp -dsimp [hqc]
  refine VC.mk _ hch ?_
  simp -dsimp [hne]
set_option maxRecDepth 4000 in
set_option maxHeartbeats 16000000 in
theorem choose_err (q : Qry) (hq : q.Fit) (hc : checkQ q ≠ 0) (o : Int) : Con Tryz.prog 42 [.agg q.cells, .c (i64 o)] [.ag (⟨false, 0, false, false⟩ : Pln).cells, .c (i64 (checkQ q))] := by
  refine spec_of Tryz.func42 rfl (by kernel_rfl) (by simp [Tryz.f42]) (fun w0 K0 => vc_ok _ _ _ (by kernel_rfl) ?_)
  simp only [Tryz.f42]
  have hpl := plans_err q hq hc
  have hqc : q.cells = [.sl q.sn (srcs q.src), .sl q.tn (terms q.ts), .sl q.dn (q.du.map Per.cells)] := rfl
  have hne : (checkQ q != 0) = true := by simpa using hc
  rw [hqc] at hpl
  simp -dsimp [hqc]
  refine VC.mk _ hpl ?_
  simp -dsimp [hne, Pln.cells]
end Go.Proofs.YtlphpbcafplnbaaGreat
set_option linter.unusedSimpArgs false
set_option linter.unusedVariables false
namespace Go.Proofs.YtlphpbcafplnbaaGreat
open Go.VL Go.RowKit
def way1 : Pln := ⟨false, 1, false, false⟩
set_option maxRecDepth 4000 in
set_option maxHeartbeats 16000000 in
theorem source_spec (q : Qry) (i : Nat) (hil : i < q.src.length) (ho : FOk q.src[i].fs) (hl : q.src[i].fs.length ≤ 3518437208883) (hs : q.src.length ≤ 1000000) :
    Con Tryz.prog 73 [.agg q.cells, .c (i64 i), .agg way1.cells] [.c (Opt.scan q.src[i].fs.isEmpty q.src[i].fs).c] := by
  refine spec_of Tryz.func73 rfl (by kernel_rfl) (by simp [Tryz.f73]) (fun w0 K0 => vc_ok _ _ _ (by kernel_rfl) ?_)
  simp only [Tryz.f73]
  have hsc := scan_spec q.src[i].nl q.src[i].fs ho hl
  have hcs : q.src[i].cells = [.sl q.src[i].nl (facts q.src[i].fs), i64 q.src[i].cols, bln q.src[i].ix] := rfl
  simp -dsimp [Qry.cells, Pln.cells, way1, hil, hcs]
  refine VC.mk _ hsc ?_
  simp -dsimp
set_option maxRecDepth 4000 in
set_option maxHeartbeats 16000000 in
theorem build_spec (q : Qry) (s0 s1 : Src) (hsr : q.src = [s0, s1]) (hq : q.Fit) (hc : checkQ q = 0) (hdu : q.du = []) (h0 : FOk s0.fs) (h1 : FOk s1.fs) (hn : q.tn = true → q.ts = []) :
    Con Tryz.prog 38 [.agg q.cells, .agg way1.cells] [.c (Opt.filter (.nested (.scan s0.fs.isEmpty s0.fs) (.scan s1.fs.isEmpty s1.fs)) q.tn q.ts).c, .c (i64 0)] := by
  refine spec_of Tryz.func38 rfl (by kernel_rfl) (by simp [Tryz.f38]) (fun w0 K0 => vc_ok _ _ _ (by kernel_rfl) ?_)
  simp only [Tryz.f38]
  have hch := checkP_spec q hq
  have hf := hq.f
  have hS0 := source_spec q 0 (by rw [hsr]; simp) (by simpa [hsr] using h0) (hf _ (by simp [hsr])) hq.s
  have hS1 := source_spec q 1 (by rw [hsr]; simp) (by simpa [hsr] using h1) (hf _ (by simp [hsr])) hq.s
  have hj := join_nested (.scan s0.fs.isEmpty s0.fs) (.scan s1.fs.isEmpty s1.fs)
  have hfl := filterOp_spec (.nested (.scan s0.fs.isEmpty s0.fs) (.scan s1.fs.isEmpty s1.fs)) q.tn q.ts hn hq.t
  simp only [hsr, List.getElem_cons_zero, List.getElem_cons_succ] at hS0 hS1
  rw [show ((0 : Nat) : Int) = 0 from rfl] at hS0
  rw [show ((1 : Nat) : Int) = 1 from rfl] at hS1
  have hqc : q.cells = [.sl q.sn [s0.cells, s1.cells], .sl q.tn (terms q.ts), .sl q.dn []] := by unfold Qry.cells; rw [hsr, hdu]; rfl
  have hwc : way1.cells = [bln false, i64 1, bln false, bln false] := rfl
  have hcs : s1.cells = [.sl s1.nl (facts s1.fs), i64 s1.cols, bln s1.ix] := rfl
  rw [hc] at hch
  rw [hqc] at hch hS0 hS1 ⊢
  rw [hwc] at hS0 hS1 ⊢
  generalize (Opt.filter (.nested (.scan s0.fs.isEmpty s0.fs) (.scan s1.fs.isEmpty s1.fs)) q.tn q.ts).c = oF at *
  generalize (Opt.nested (.scan s0.fs.isEmpty s0.fs) (.scan s1.fs.isEmpty s1.fs)).c = oN at *
  generalize (Opt.scan s0.fs.isEmpty s0.fs).c = o0 at *
  generalize (Opt.scan s1.fs.isEmpty s1.fs).c = o1 at *
  simp -dsimp
  refine VC.mk _ hch ?_
  simp -dsimp
  refine VC.mk _ hS0 ?_
  simp -dsimp
  refine VC.mk _ hS1 ?_
  simp -dsimp [hcs]
  refine VC.mk _ hj ?_
  simp -dsimp
  refine VC.mk _ hfl ?_
  simp -dsimp
  refine VL.loop (fun _ : Unit => ⟨[(62, .c (i64 0)), (61, .c (i64 0)), (7, .c oF)], []⟩) (fun _ => True) (fun _ => 0) () (by kernel_rfl) trivial (by simp [St.le]) ?_
  intro _ _
  simp -dsimp
end Go.Proofs.YtlphpbcafplnbaaGreat
set_option linter.unusedSimpArgs false
set_option linter.unusedVariables false
namespace Go.Proofs.YtlphpbcafplnbaaGreat
open Go.VL Go.RowKit
theorem catG_leq {sortP : List Per → List Per} (hs : Sorts sortP) (l : List Fact) : (catG (gN sortP) (groupsL (rightL l))).length ≤ l.length := by
  have := normal_len hs l
  rw [normalL_eq, sortF_len] at this
  exact this
set_option maxRecDepth 4000 in
set_option maxHeartbeats 4000000 in
theorem result_spec {sortP : List Per → List Per} (hs : Sorts sortP) (hi : SortsI) (hf : SortsF) (o : Opt) (ho : o.Ok) (hl : o.out.length ≤ 3518437208883) (hr : Rows1 o.out) :
    Con Tryz.prog 20 [.c o.c] [.c (.sl (normalL sortP o.out).isEmpty (facts (normalL sortP o.out)))] := by
  refine spec_of Tryz.func20 rfl (by kernel_rfl) (by simp [Tryz.f20]) (fun w0 K0 => vc_ok _ _ _ (by kernel_rfl) ?_)
  simp only [Tryz.f20]
  simp -dsimp [Opt.c]
  refine VI.mk0 (.agg o.tc.2) o.tc.1 o.fn _ rfl o.meth (run_spec o ho) ?_
  simp -dsimp
  have hcg := catG_leq hs o.out
  refine ⟨by decide, VCL.snap ?_⟩
  simp -dsimp
  refine VC.mk _ (normal_one hs hi hf false o.nl _ o.out rfl hl hr (by omega)) ?_
  simp -dsimp
theorem normal_single {sortP : List Per → List Per} (hs : Sorts sortP) (f : Fact) (h : right f.p = true) : ∃ g, normalL sortP [f] = [g] ∧ g.row = f.row := by
  have h1 := normal_len hs [f]
  have h2 := normal_cnt hs [f] f.row f.p.f
  match hn : normalL sortP [f] with
  | [] =>
    rw [hn] at h2
    exfalso
    have hb := (right_iff f.p).1 h
    have hv : validAt f f.p.f = true := by
      unfold validAt
      rw [h, Bool.true_and]
      unfold has
      simp
      omega
    have h3 : cnt [f] f.row f.p.f = 1 := by unfold cnt; simp [hv]
    rw [h3] at h2
    cases h2
  | [g] =>
    refine ⟨g, rfl, ?_⟩
    obtain ⟨g', hg, e⟩ := normal_rows (sortP := sortP) (l := [f]) (f := g) (by rw [hn]; simp)
    simp at hg
    rw [← e, hg]
  | g :: g2 :: r => rw [hn] at h1; simp at h1
end Go.Proofs.YtlphpbcafplnbaaGreat
