/- Contracts of functions of the seat, proved in a logic on data over the model (part RC). -/
import Derived.Test.YtlphpbcafplnbaaGreatRA
import Derived.Test.YtlphpbcafplnbaaGreatRB
set_option linter.unusedSimpArgs false
set_option linter.unusedVariables false
namespace Go.Proofs.YtlphpbcafplnbaaGreat
open Go.VL Go.RowKit
def plansD (d : Dry) (k : Nat) : List Pln := plansR (twoQ d.q) (decide (0 < d.es.length)) (hasD d.q) (d.q.src[0]!).ix (d.q.src[1]!).ix k
theorem plansD_end {d : Dry} {m : Nat} (h : d.Good m) : plansD d 40 = plansL d.q := by
  rw [plans_ref]
  unfold plansD hasT
  rw [h.len]
set_option maxRecDepth 4000 in
set_option maxHeartbeats 16000000 in
theorem refPlans_spec (d : Dry) (m : Nat) (hd : d.Good m) : Con Tryz.prog 44 [.agg d.cells] [.c (.sl (plansL d.q).isEmpty (plns (plansL d.q)))] := by
  rw [← plansD_end hd]
  refine Con.frz (rs := [.fr (plansD d 40).isEmpty (if (plansD d 40).isEmpty then 0 else 4) (plns (plansD d 40)) 0]) ?_ 0 rfl
  refine spec_of Tryz.func44 rfl (by kernel_rfl) (by simp [Tryz.f44]) (fun w0 K0 => vc_ok _ _ _ (by kernel_rfl) ?_)
  simp only [Tryz.f44]
  have hsn := fun k => plansR_snoc (twoQ d.q) (decide (0 < d.es.length)) (hasD d.q) (d.q.src[0]!).ix (d.q.src[1]!).ix k
  have hle := fun k => plansR_le (twoQ d.q) (decide (0 < d.es.length)) (hasD d.q) (d.q.src[0]!).ix (d.q.src[1]!).ix k
  have hpd : ∀ k, plansD d k = plansR (twoQ d.q) (decide (0 < d.es.length)) (hasD d.q) (d.q.src[0]!).ix (d.q.src[1]!).ix k := fun _ => rfl
  simp only [← hpd] at hsn hle
  have htw : twoQ d.q = ((d.q.src.length : Int) == 2) := rfl
  have hl2 := check_len hd.chk
  have h0 : 0 < d.q.src.length := by omega
  have hs0 : d.q.src[0]! = d.q.src[0] := by simp [h0]
  have hcs0 : d.q.src[0].cells = [.sl d.q.src[0].nl (facts d.q.src[0].fs), i64 d.q.src[0].cols, bln d.q.src[0].ix] := rfl
  simp -dsimp [Dry.cells]
  rw [← htw]
  refine VL.loop (fun i : KI => ⟨[(5, .c (i64 i.k)), (4, .c (bln (twoQ d.q))), (1, .ptr 64 0), (3, .own 192 (plansD d i.k).length)],
      [(64, some (.box false [.c (.sl d.q.sn (srcs d.q.src)), .c (.sl d.en (exprs d.es)), .c (.sl false (scols d.sc)), .c (.sl d.q.dn (d.q.du.map Per.cells))])), (192, some (.arr i.nl i.sz (plns (plansD d i.k)) 0))]⟩)
    (fun i => i.k ≤ 40 ∧ RJ 4 i.nl i.sz (plansD d i.k)) (fun i => 40 - i.k) ⟨0, true, 0⟩ (by kernel_rfl) ⟨by simp, rfl, rfl⟩ (by simp [St.le, plansD, plansR]) ?_
  intro ⟨k, z, sz⟩ ⟨hk, hz, hsz⟩
  simp only at hk hz hsz
  have hlk := hle k
  by_cases h1 : k < 40
  · have hw : IntKind.i64.wrap ((k : Int) + 1) = (k : Int) + 1 := IntWalk.i64_in _ (by omega)
    have hlt : (k : Int) < 40 := by omega
    have hsk := hsn k
    have e1 : IntKind.i64.wrap ((k : Int) / 4) = (k : Int) / 4 := IntWalk.i64_in _ (by omega)
    have e3 : IntKind.i64.wrap ((k : Int) / 2) = (k : Int) / 2 := IntWalk.i64_in _ (by omega)
    have e5 : IntKind.i64.wrap ((k : Int).tmod 2) = (k : Int).tmod 2 := by rw [Int.tmod_eq_emod_of_nonneg (by omega)]; exact IntWalk.i64_in _ (by omega)
    have hpn : planN k = ⟨decide (20 ≤ (k : Int)), ((k : Int) / 4).tmod 5, ((k : Int) / 2).tmod 2 == 1, (k : Int).tmod 2 == 1⟩ := by
      unfold planN
      rw [Int.tmod_eq_emod_of_nonneg (by omega), Int.tmod_eq_emod_of_nonneg (by omega), Int.tmod_eq_emod_of_nonneg (by omega)]
    have hwb : 0 ≤ ((k : Int) / 4).tmod 5 ∧ ((k : Int) / 4).tmod 5 ≤ 4 := by rw [Int.tmod_eq_emod_of_nonneg (by omega)]; omega
    have e4 : IntKind.i64.wrap (((k : Int) / 2).tmod 2) = ((k : Int) / 2).tmod 2 := by rw [Int.tmod_eq_emod_of_nonneg (by omega)]; exact IntWalk.i64_in _ (by omega)
    have e2 : IntKind.i64.wrap (((k : Int) / 4).tmod 5) = ((k : Int) / 4).tmod 5 := IntWalk.i64_in _ (by omega)
    obtain ⟨sw, hsw⟩ : ∃ b, decide (20 ≤ (k : Int)) = b := ⟨_, rfl⟩
    obtain ⟨wv, hwv⟩ : ∃ b, ((k : Int) / 4).tmod 5 = b := ⟨_, rfl⟩
    obtain ⟨pu, hpu⟩ : ∃ b, (((k : Int) / 2).tmod 2 == 1) = b := ⟨_, rfl⟩
    obtain ⟨ea, hea⟩ : ∃ b, ((k : Int).tmod 2 == 1) = b := ⟨_, rfl⟩
    rw [hsw, hwv, hpu, hea] at hpn
    rw [hwv] at hwb e2
    rw [hpn] at hsk
    obtain ⟨r2, hr2⟩ : ∃ o, plansD d (k + 1) = o := ⟨_, rfl⟩
    rw [hr2] at hsk
    have hln : (decide (0 < d.es.length)) = !((d.es.length : Int) == 0) := by rw [Bool.eq_iff_iff, decide_eq_true_eq, Bool.not_eq_true', beq_eq_false_iff_ne]; omega
    have hld : hasD d.q = !((d.q.du.length : Int) == 0) := by unfold hasD; rw [Bool.eq_iff_iff, decide_eq_true_eq, Bool.not_eq_true', beq_eq_false_iff_ne]; omega
    rw [hln, hld] at hsk
    clear hsn hle hpn hln hld hpd
    generalize twoQ d.q = tw at *
    simp -dsimp [hlt, e1, e2, e3, e4, e5, hwv, hsw, hpu, hea]
    have hN : noN tw (!((d.es.length : Int) == 0)) (!((d.q.du.length : Int) == 0)) ⟨sw, wv, pu, ea⟩ = (!tw && (sw || wv != 0) || tw && wv == 0 || pu && (d.es.length : Int) == 0 || ea && (d.q.du.length : Int) == 0) := by
      unfold noN
      rw [Bool.not_not, Bool.not_not]
    rw [hN] at hsk
    iterate 7 (refine ⟨by cases tw <;> cases sw <;> cases pu <;> cases ea <;> by_cases a : wv = 0 <;> by_cases b : d.es = [] <;> simp [a, b], ?_⟩)
    refine VIf.mk (fun h => ?_) (fun h => ?_)
    · rw [h, Bool.not_true, Bool.false_and, if_neg (by simp), List.append_nil] at hsk
      simp -dsimp [hw]
      refine ⟨⟨k + 1, z, sz⟩, ⟨by simp only; omega, by simp only; rw [hr2, hsk]; exact ⟨hz, hsz⟩⟩, ?_, by simp only; omega⟩
      simp [St.le, hr2, hsk]
    · have h2 : 3 ≤ wv → d.q.src.length = 2 := by
        intro h3
        cases htt : tw with
        | true => rw [htt] at htw; have := eq_of_beq htw.symm; omega
        | false =>
          rw [htt] at h
          have : wv = 0 := by simp at h; exact h.1.1.2
          omega
      rw [h, Bool.not_false, Bool.true_and] at hsk
      have hX : noX d.q.src[0]!.ix d.q.src[1]!.ix ⟨sw, wv, pu, ea⟩ = (decide (3 ≤ wv) && (sw && !d.q.src[0]!.ix || !sw && !d.q.src[1]!.ix)) := rfl
      rw [hX, hs0] at hsk
      by_cases h3 : 3 ≤ wv
      · have hl1 : 1 < d.q.src.length := by have := h2 h3; omega
        have hs1 : d.q.src[1]! = d.q.src[1] := by simp [hl1]
        have hcs1 : d.q.src[1].cells = [.sl d.q.src[1].nl (facts d.q.src[1].fs), i64 d.q.src[1].cols, bln d.q.src[1].ix] := rfl
        rw [hs1, decide_eq_true h3, Bool.true_and] at hsk
        generalize d.q.src[0].ix = i0 at *
        generalize d.q.src[1].ix = i1 at *
        have hcn : ∀ b : Bool, ∀ r : List Pln, (if (!b) = true then r else []) = if b = true then [] else r := by intro b r; cases b <;> rfl
        rw [hcn] at hsk
        simp -dsimp [h3, h0, hl1, hcs0, hcs1]
        iterate 2 (refine ⟨by cases sw <;> cases i0 <;> simp, ?_⟩)
        refine VIf.mk (fun g => ?_) (fun g => ?_)
        · rw [if_pos g, List.append_nil] at hsk
          simp -dsimp [hw]
          refine ⟨⟨k + 1, z, sz⟩, ⟨by simp only; omega, by simp only; rw [hr2, hsk]; exact ⟨hz, hsz⟩⟩, ?_, by simp only; omega⟩
          simp [St.le, hr2, hsk]
        · rw [if_neg (by rw [g]; decide)] at hsk
          simp -dsimp [hw, maxLen]
          refine ⟨fun e => by rw [hsz, e]; rfl, by omega, ⟨k + 1, false, 4⟩, ⟨by simp only; omega, by simp only; rw [hr2, hsk]; exact RJ.next⟩, ?_, by simp only; omega⟩
          simp [St.le, hr2, hsk, Pln.cells]
      · rw [decide_eq_false h3, Bool.false_and, Bool.not_false, if_pos rfl] at hsk
        by_cases hl1 : 1 < d.q.src.length
        · have hcs1 : d.q.src[1].cells = [.sl d.q.src[1].nl (facts d.q.src[1].fs), i64 d.q.src[1].cols, bln d.q.src[1].ix] := rfl
          simp -dsimp [h3, h0, hl1, hcs0, hcs1, hw, maxLen]
          refine ⟨fun e => by rw [hsz, e]; rfl, by omega, ⟨k + 1, false, 4⟩, ⟨by simp only; omega, by simp only; rw [hr2, hsk]; exact RJ.next⟩, ?_, by simp only; omega⟩
          simp [St.le, hr2, hsk, Pln.cells]
        · have hn1 : d.q.src[1]? = none := by simp; omega
          simp -dsimp [h3, h0, hn1, hcs0, hw, maxLen]
          refine ⟨fun e => by rw [hsz, e]; rfl, by omega, ⟨k + 1, false, 4⟩, ⟨by simp only; omega, by simp only; rw [hr2, hsk]; exact RJ.next⟩, ?_, by simp only; omega⟩
          simp [St.le, hr2, hsk, Pln.cells]
  · obtain rfl : k = 40 := by omega
    generalize plansD d 40 = out at *
    simp -dsimp
    refine ⟨hz, ?_⟩
    rw [hsz, hz]
    cases out <;> simp
end Go.Proofs.YtlphpbcafplnbaaGreat
set_option linter.unusedSimpArgs false
set_option linter.unusedVariables false
namespace Go.Proofs.YtlphpbcafplnbaaGreat
open Go.VL Go.RowKit
theorem costQ_two {q : Qry} (hc : checkQ q = 0) (hl : q.src.length = 2) (p : Pln) : costQ q p =
    if p.way = 1 then (totQ q + sizeQ q 0 p * sizeQ q 1 p, 0)
    else if p.way = 2 then (totQ q + (sizeQ q 0 p + sizeQ q 1 p) * (1 + dgI (sizeQ q 0 p + sizeQ q 1 p)), 0)
    else if p.way = 3 ∨ p.way = 4 then (totQ q + (sizeQ q 0 p + sizeQ q 1 p) * (2 + dgI (if p.swap then sizeQ q 0 p else sizeQ q 1 p)), 0) else (0, 21) := by
  unfold costQ wayC
  rw [if_neg (by simp [hc]), if_neg (by omega)]
  cases p.swap with
  | false => simp
  | true =>
    rw [Int.mul_comm (sizeQ q 1 p), Int.add_comm (sizeQ q 1 p)]
    simp
def nK (q : Qry) (p : Pln) (k j : Nat) : Int := if j < k then sizeQ q j p else 0
theorem half2 {n : Int} (h0 : 0 ≤ n) (h1 : n ≤ 134217728) : IntKind.i64.wrap (n.tdiv 2) = n.tdiv 2 ∧ IntKind.i64.wrap (n.tmod 2) = n.tmod 2 ∧ IntKind.i64.wrap (n.tdiv 2 + n.tmod 2) = halfI n := by
  unfold halfI
  rw [Int.tdiv_eq_ediv_of_nonneg h0, Int.tmod_eq_emod_of_nonneg h0, Int.tdiv_eq_ediv_of_nonneg (by omega)]
  refine ⟨IntWalk.i64_in _ (by omega), IntWalk.i64_in _ (by omega), ?_⟩
  rw [IntWalk.i64_in _ (by omega)]
  omega
theorem cost_key {tt a b i : Int} (ht : 0 ≤ tt ∧ tt ≤ 268435456) (ha : 0 ≤ a ∧ a ≤ 134217728) (hb : 0 ≤ b ∧ b ≤ 134217728) (hi : 0 ≤ i ∧ i ≤ 134217728) :
    (IntKind.i64.wrap (a * b) = a * b ∧ IntKind.i64.wrap (tt + a * b) = tt + a * b) ∧ IntKind.i64.wrap (a + b) = a + b ∧
    (IntKind.i64.wrap (1 + dgI (a + b)) = 1 + dgI (a + b) ∧ IntKind.i64.wrap ((a + b) * (1 + dgI (a + b))) = (a + b) * (1 + dgI (a + b)) ∧ IntKind.i64.wrap (tt + (a + b) * (1 + dgI (a + b))) = tt + (a + b) * (1 + dgI (a + b))) ∧
    (IntKind.i64.wrap (2 + dgI i) = 2 + dgI i ∧ IntKind.i64.wrap ((a + b) * (2 + dgI i)) = (a + b) * (2 + dgI i) ∧ IntKind.i64.wrap (tt + (a + b) * (2 + dgI i)) = tt + (a + b) * (2 + dgI i)) := by
  have d1 := dgI_in (n := a + b) (by omega) (by omega)
  have d2 := dgI_in (n := i) (by omega) (by omega)
  have p1 := mul_in ha.1 ha.2 hb.1 hb.2
  have p2 := mul_in (a := a + b) (A := 268435456) (b := 1 + dgI (a + b)) (B := 40) (by omega) (by omega) (by omega) (by omega)
  have p3 := mul_in (a := a + b) (A := 268435456) (b := 2 + dgI i) (B := 40) (by omega) (by omega) (by omega) (by omega)
  exact ⟨⟨IntWalk.i64_in _ (by omega), IntWalk.i64_in _ (by omega)⟩, IntWalk.i64_in _ (by omega), ⟨IntWalk.i64_in _ (by omega), IntWalk.i64_in _ (by omega), IntWalk.i64_in _ (by omega)⟩, ⟨IntWalk.i64_in _ (by omega), IntWalk.i64_in _ (by omega), IntWalk.i64_in _ (by omega)⟩⟩
set_option maxRecDepth 4000 in
set_option maxHeartbeats 32000000 in
theorem refCost_spec (d : Dry) (m : Nat) (hd : d.Good m) (p : Pln) : Con Tryz.prog 46 [.agg d.cells, .agg p.cells] [.c (i64 (costQ d.q p).1), .c (i64 (costQ d.q p).2)] := by
  refine spec_of Tryz.func46 rfl (by kernel_rfl) (by simp [Tryz.f46]) (fun w0 K0 => vc_ok _ _ _ (by kernel_rfl) ?_)
  simp only [Tryz.f46]
  have hl := check_len hd.chk
  have hti := totK_in d.q.src hd.good.sm
  have h00 : 0 < d.q.src.length := by omega
  have hdc : d.cells = [.sl d.q.sn (srcs d.q.src), .sl d.en (exprs d.es), .sl false (scols d.sc), .sl d.q.dn (d.q.du.map Per.cells)] := rfl
  have hpc : p.cells = [bln p.swap, i64 p.way, bln p.push, bln p.early] := rfl
  have how0 := refOwn_spec d m hd 0 h00
  have how1 := fun h => refOwn_spec d m hd 1 h
  have hi0 := sizeQ_in d.q 0 p (by have := hd.good.sm _ (List.getElem_mem h00); rwa [show d.q.src[0]! = d.q.src[0] from by simp [h00]])
  have hi1 : 1 < d.q.src.length → 0 ≤ sizeQ d.q 1 p ∧ sizeQ d.q 1 p ≤ 134217728 := fun h => sizeQ_in d.q 1 p (by have := hd.good.sm _ (List.getElem_mem h); rwa [show d.q.src[1]! = d.q.src[1] from by simp [h]])
  rw [hdc] at how0 how1
  rw [show ((0 : Nat) : Int) = 0 from rfl] at how0
  simp only [show ((1 : Nat) : Int) = 1 from rfl] at how1
  simp -dsimp [hdc, hpc]
  refine VL.loop (fun k : Nat => ⟨[(8, .c (i64 k)), (7, .ptr 448 0), (6, .c (i64 (totK d.q.src k))), (2, .ptr 128 0), (3, .ptr 192 0)],
      [(128, some (.box false [.c (.sl d.q.sn (srcs d.q.src)), .c (.sl d.en (exprs d.es)), .c (.sl false (scols d.sc)), .c (.sl d.q.dn (d.q.du.map Per.cells))])), (192, some (.box false [.c (bln p.swap), .c (i64 p.way), .c (bln p.push), .c (bln p.early)])),
        (448, some (.box false [.c (i64 (nK d.q p k 0)), .c (i64 (nK d.q p k 1))]))]⟩)
    (fun k => k ≤ d.q.src.length) (fun k => d.q.src.length - k) 0 (by kernel_rfl) (by simp) (by simp [St.le, totK, nK]) ?_
  intro k hk
  by_cases h1 : k < d.q.src.length
  · rcases (by omega : k = 0 ∨ k = 1) with rfl | rfl
    · have hsk : d.q.src[0]! = d.q.src[0] := by simp [h1]
      have hcs : d.q.src[0].cells = [.sl d.q.src[0].nl (facts d.q.src[0].fs), i64 d.q.src[0].cols, bln d.q.src[0].ix] := rfl
      have hsm := hd.good.sm _ (List.getElem_mem h1)
      have hod := ownD_has hd 0 h1
      have hln : lenQ d.q 0 = (d.q.src[0].fs.length : Int) := by unfold lenQ; rw [hsk]
      have s1 : size1 d.q 0 p = if pushQ d.q 0 p then halfI (lenQ d.q 0) else lenQ d.q 0 := rfl
      have s2 : sizeQ d.q 0 p = if p.early then halfI (size1 d.q 0 p) else size1 d.q 0 p := rfl
      have hpu : pushQ d.q 0 p = (p.push && ownD d 0) := by rw [hod]; rfl
      have hin := size1_in d.q 0 p (by rw [hsk]; exact hsm)
      have hsn := totK_snoc d.q.src h1
      have ht1 := hti 0 (by omega)
      have ht2 := hti (0 + 1) (by omega)
      have hw : IntKind.i64.wrap (totK d.q.src 0 + (d.q.src[0].fs.length : Int)) = totK d.q.src (0 + 1) := by rw [hsn]; exact IntWalk.i64_in _ (by omega)
      have hw1 : IntKind.i64.wrap 1 = 1 := by decide
      have h1i : (0 : Int) < (d.q.src.length : Int) := by omega
      have ha0 : nK d.q p 0 0 = 0 := rfl
      have ha1 : nK d.q p 0 1 = 0 := rfl
      have hb0 : nK d.q p (0 + 1) 0 = sizeQ d.q 0 p := rfl
      have hb1 : nK d.q p (0 + 1) 1 = 0 := rfl
      rw [hln] at s1
      rw [ha0, ha1]
      simp -dsimp [h1, h1i, hcs, hw]
      refine VG.mk _ _ (fun _ => how0) rfl ?_
      simp -dsimp
      have hl0 : 0 ≤ (d.q.src[0].fs.length : Int) ∧ (d.q.src[0].fs.length : Int) ≤ 134217728 := by omega
      generalize (d.q.src[0].fs.length : Int) = n at *
      refine VIf.mk (fun g => ?_) (fun g => ?_)
      all_goals
        rw [← hpu] at g
        rw [g] at s1
        simp only [if_true, Bool.false_eq_true, if_false] at s1
        obtain ⟨e1, e2, e3⟩ := half2 hl0.1 hl0.2
        simp -dsimp
        first
          | (refine VL.draw (by kernel_rfl) [(0, false), (0, false), (2, false), (6, false), (14, false), (0, false), (32, false), (96, false), (224, false), (510, false), (1023, true), (2047, true)] (by kernel_rfl) ?_; simp -dsimp [e1, e2, e3])
          | skip
        rw [← s1]
        obtain ⟨e4, e5, e6⟩ := half2 hin.1 hin.2
        refine VIf.mk (fun g2 => ?_) (fun g2 => ?_)
        all_goals
          rw [g2] at s2
          simp only [if_true, Bool.false_eq_true, if_false] at s2
          simp -dsimp
          first
            | (refine VL.draw (by kernel_rfl) [(0, false), (0, false), (2, false), (6, false), (14, false), (0, false), (32, false), (96, false), (224, false), (510, false), (1023, true), (2047, true)] (by kernel_rfl) ?_; simp -dsimp [e4, e5, e6])
            | skip
          refine ⟨0 + 1, by omega, ?_, by omega⟩
          simp [St.le, hb0, hb1, s2, hw1]
    · have hsk : d.q.src[1]! = d.q.src[1] := by simp [h1]
      have hcs : d.q.src[1].cells = [.sl d.q.src[1].nl (facts d.q.src[1].fs), i64 d.q.src[1].cols, bln d.q.src[1].ix] := rfl
      have hsm := hd.good.sm _ (List.getElem_mem h1)
      have hod := ownD_has hd 1 h1
      have hln : lenQ d.q 1 = (d.q.src[1].fs.length : Int) := by unfold lenQ; rw [hsk]
      have s1 : size1 d.q 1 p = if pushQ d.q 1 p then halfI (lenQ d.q 1) else lenQ d.q 1 := rfl
      have s2 : sizeQ d.q 1 p = if p.early then halfI (size1 d.q 1 p) else size1 d.q 1 p := rfl
      have hpu : pushQ d.q 1 p = (p.push && ownD d 1) := by rw [hod]; rfl
      have hin := size1_in d.q 1 p (by rw [hsk]; exact hsm)
      have hsn := totK_snoc d.q.src h1
      have ht1 := hti 1 (by omega)
      have ht2 := hti (1 + 1) (by omega)
      have hw : IntKind.i64.wrap (totK d.q.src 1 + (d.q.src[1].fs.length : Int)) = totK d.q.src (1 + 1) := by rw [hsn]; exact IntWalk.i64_in _ (by omega)
      have hw1 : IntKind.i64.wrap 2 = 2 := by decide
      have h1i : (1 : Int) < (d.q.src.length : Int) := by omega
      have ha0 : nK d.q p 1 0 = sizeQ d.q 0 p := rfl
      have ha1 : nK d.q p 1 1 = 0 := rfl
      have hb0 : nK d.q p (1 + 1) 0 = sizeQ d.q 0 p := rfl
      have hb1 : nK d.q p (1 + 1) 1 = sizeQ d.q 1 p := rfl
      rw [hln] at s1
      rw [ha0, ha1]
      simp -dsimp [h1, h1i, hcs, hw]
      refine VG.mk _ _ (fun _ => how1 h1) rfl ?_
      simp -dsimp
      have hl0 : 0 ≤ (d.q.src[1].fs.length : Int) ∧ (d.q.src[1].fs.length : Int) ≤ 134217728 := by omega
      generalize (d.q.src[1].fs.length : Int) = n at *
      refine VIf.mk (fun g => ?_) (fun g => ?_)
      all_goals
        rw [← hpu] at g
        rw [g] at s1
        simp only [if_true, Bool.false_eq_true, if_false] at s1
        obtain ⟨e1, e2, e3⟩ := half2 hl0.1 hl0.2
        simp -dsimp
        first
          | (refine VL.draw (by kernel_rfl) [(0, false), (0, false), (2, false), (6, false), (14, false), (0, false), (32, false), (96, false), (224, false), (510, false), (1023, true), (2047, true)] (by kernel_rfl) ?_; simp -dsimp [e1, e2, e3])
          | skip
        rw [← s1]
        obtain ⟨e4, e5, e6⟩ := half2 hin.1 hin.2
        refine VIf.mk (fun g2 => ?_) (fun g2 => ?_)
        all_goals
          rw [g2] at s2
          simp only [if_true, Bool.false_eq_true, if_false] at s2
          simp -dsimp
          first
            | (refine VL.draw (by kernel_rfl) [(0, false), (0, false), (2, false), (6, false), (14, false), (0, false), (32, false), (96, false), (224, false), (510, false), (1023, true), (2047, true)] (by kernel_rfl) ?_; simp -dsimp [e4, e5, e6])
            | skip
          refine ⟨1 + 1, by omega, ?_, by omega⟩
          simp [St.le, hb0, hb1, s2, hw1]
  · obtain rfl : k = d.q.src.length := by omega
    have htq : totQ d.q = totK d.q.src d.q.src.length := rfl
    have htk := hti _ (Nat.le_refl _)
    rw [← htq] at htk
    rw [← htq]
    have htb : 0 ≤ totQ d.q ∧ totQ d.q ≤ 268435456 := by omega
    by_cases hl1 : d.q.src.length = 1
    · have hcq : costQ d.q p = (totQ d.q + sizeQ d.q 0 p, 0) := by unfold costQ; rw [if_neg (by simp [hd.chk]), if_pos hl1]
      have ha0 : nK d.q p d.q.src.length 0 = sizeQ d.q 0 p := by unfold nK; rw [if_pos h00]
      rw [ha0, hcq]
      generalize sizeQ d.q 0 p = a at *
      generalize totQ d.q = tt at *
      have hw : IntKind.i64.wrap (tt + a) = tt + a := IntWalk.i64_in _ (by omega)
      simp -dsimp [hl1, hw]
    · have hl2 : d.q.src.length = 2 := by omega
      have hcq := costQ_two hd.chk hl2 p
      have ha0 : nK d.q p d.q.src.length 0 = sizeQ d.q 0 p := by unfold nK; rw [if_pos h00]
      have ha1 : nK d.q p d.q.src.length 1 = sizeQ d.q 1 p := by unfold nK; rw [if_pos (by omega)]
      rw [ha0, ha1]
      have hi1' := hi1 (by omega)
      clear hti htq htk hi1 how0 how1 h1 hk ha0 ha1
      generalize sizeQ d.q 0 p = a at *
      generalize sizeQ d.q 1 p = b at *
      generalize totQ d.q = tt at *
      simp -dsimp [hl2]
      refine VIf.mk (fun g => ?_) (fun g => ?_)
      · simp only [g, if_true, Bool.false_eq_true, if_false] at hcq
        obtain ⟨⟨k1, k2⟩, k3, ⟨k6, k7, k8⟩, ⟨k9, k10, k11⟩⟩ := cost_key htb hi0 hi1' hi0
        have d1 := digits_spec (a + b) (by omega) (by omega)
        have d2 := digits_spec a (by omega) (by omega)
        simp -dsimp
        refine VIf.mk (fun c1 => ?_) (fun c1 => ?_)
        · rw [if_pos (by simpa using c1)] at hcq
          rw [hcq]
          simp -dsimp [k1, k2]
        rw [if_neg (by simpa using c1)] at hcq
        simp -dsimp
        refine VIf.mk (fun c2 => ?_) (fun c2 => ?_)
        · rw [if_pos (by simpa using c2)] at hcq
          rw [hcq]
          simp -dsimp
          refine VL.draw (by kernel_rfl) [(0, false), (0, false), (2, false), (0, false), (8, false), (30, false), (0, false), (64, false), (0, false), (256, false), (960, false), (1984, false), (4032, false), (8190, false), (16383, true), (32767, true), (65535, true)] (by kernel_rfl) ?_
          simp -dsimp [k3]
          refine VCE.mk _ d1 ?_
          simp -dsimp [k6, k7, k8]
        rw [if_neg (by simpa using c2)] at hcq
        simp -dsimp
        refine VIf.mk (fun c3 => ?_) (fun c3 => ?_)
        · rw [if_pos (by simpa using c3)] at hcq
          rw [hcq]
          simp -dsimp
          refine VL.draw (by kernel_rfl) [(0, false), (0, false), (2, false), (0, false), (8, false), (30, false), (0, false), (64, false), (192, false), (510, false), (1023, true), (2047, true), (4095, true)] (by kernel_rfl) ?_
          simp -dsimp [k3]
          refine VCE.mk _ d2 ?_
          simp -dsimp [k9, k10, k11]
        · rw [if_neg (by simpa using c3)] at hcq
          rw [hcq]
          simp -dsimp
      · simp only [g, if_true, Bool.false_eq_true, if_false] at hcq
        obtain ⟨⟨k1, k2⟩, k3, ⟨k6, k7, k8⟩, ⟨k9, k10, k11⟩⟩ := cost_key htb hi0 hi1' hi1'
        have d1 := digits_spec (a + b) (by omega) (by omega)
        have d2 := digits_spec b (by omega) (by omega)
        simp -dsimp
        refine VIf.mk (fun c1 => ?_) (fun c1 => ?_)
        · rw [if_pos (by simpa using c1)] at hcq
          rw [hcq]
          simp -dsimp [k1, k2]
        rw [if_neg (by simpa using c1)] at hcq
        simp -dsimp
        refine VIf.mk (fun c2 => ?_) (fun c2 => ?_)
        · rw [if_pos (by simpa using c2)] at hcq
          rw [hcq]
          simp -dsimp
          refine VL.draw (by kernel_rfl) [(0, false), (0, false), (2, false), (0, false), (8, false), (30, false), (0, false), (64, false), (0, false), (256, false), (960, false), (1984, false), (4032, false), (8190, false), (16383, true), (32767, true), (65535, true)] (by kernel_rfl) ?_
          simp -dsimp [k3]
          refine VCE.mk _ d1 ?_
          simp -dsimp [k6, k7, k8]
        rw [if_neg (by simpa using c2)] at hcq
        simp -dsimp
        refine VIf.mk (fun c3 => ?_) (fun c3 => ?_)
        · rw [if_pos (by simpa using c3)] at hcq
          rw [hcq]
          simp -dsimp
          refine VL.draw (by kernel_rfl) [(0, false), (0, false), (2, false), (0, false), (8, false), (30, false), (0, false), (64, false), (192, false), (510, false), (1023, true), (2047, true), (4095, true)] (by kernel_rfl) ?_
          simp -dsimp [k3]
          refine VCE.mk _ d2 ?_
          simp -dsimp [k9, k10, k11]
        · rw [if_neg (by simpa using c3)] at hcq
          rw [hcq]
          simp -dsimp
end Go.Proofs.YtlphpbcafplnbaaGreat
set_option linter.unusedSimpArgs false
set_option linter.unusedVariables false
namespace Go.Proofs.YtlphpbcafplnbaaGreat
open Go.VL Go.RowKit
def bestI (c : Pln → Int) (l : List Pln) : Nat → Nat
  | 0 => 0
  | k + 1 => if h : k < l.length then (if c l[k] < c l[bestI c l k]! then k else bestI c l k) else bestI c l k
theorem bestI_lt (c : Pln → Int) (l : List Pln) (hl : 0 < l.length) : ∀ k, bestI c l k < l.length
  | 0 => hl
  | k + 1 => by
    rw [bestI]
    split
    · split
      · assumption
      · exact bestI_lt c l hl k
    · exact bestI_lt c l hl k
theorem bestI_snoc (c : Pln → Int) (l : List Pln) {k : Nat} (h : k < l.length) : bestI c l (k + 1) = if c l[k] < c l[bestI c l k]! then k else bestI c l k := by
  rw [bestI, dif_pos h]
theorem bestI_one (c : Pln → Int) (l : List Pln) : bestI c l 1 = 0 := by
  rw [bestI]
  split
  · split
    · rfl
    · rfl
  · rfl
theorem bestI_is (c : Pln → Int) (x : Pln) (r : List Pln) : ∀ k, k ≤ r.length → (x :: r)[bestI c (x :: r) (k + 1)]! = bestF c x (r.take k)
  | 0, _ => by rw [bestI_one]; rfl
  | k + 1, h => by
    have ih := bestI_is c x r k (by omega)
    rw [bestI_snoc c (x :: r) (k := k + 1) (by simp; omega), take_snoc (show k < r.length by omega), bestF_snoc, ih, List.getElem_cons_succ]
    by_cases g : c r[k] < c (bestF c x (r.take k))
    · rw [if_pos g, if_pos g, getElem!_pos (x :: r) (k + 1) (by simp; omega)]
      rfl
    · rw [if_neg g, if_neg g, ih]
theorem bestI_end (c : Pln → Int) (l : List Pln) (hl : 0 < l.length) : l[bestI c l l.length]! = bestF c l[0]! (l.drop 1) := by
  match l, hl with
  | x :: r, _ =>
    have := bestI_is c x r r.length (Nat.le_refl _)
    rw [List.take_length] at this
    exact this
set_option maxRecDepth 4000 in
set_option maxHeartbeats 16000000 in
theorem refChoose_spec (d : Dry) (m : Nat) (hd : d.Good m) (o : Int) : Con Tryz.prog 47 [.agg d.cells, .c (i64 o)] [.ag (chooseQ d.q o).cells] := by
  refine spec_of Tryz.func47 rfl (by kernel_rfl) (by simp [Tryz.f47]) (fun w0 K0 => vc_ok _ _ _ (by kernel_rfl) ?_)
  simp only [Tryz.f47]
  have hpl := refPlans_spec d m hd
  have hcost := refCost_spec d m hd
  have hne := plansL_ne hd.chk
  have hle := plansL_le d.q
  have hch : chooseQ d.q o = if 0 ≤ o then (plansL d.q)[(o.tmod (plansL d.q).length).toNat]! else bestF (costV d.q) (plansL d.q)[0]! ((plansL d.q).drop 1) := rfl
  have hcv : ∀ p, costV d.q p = (costQ d.q p).1 := fun _ => rfl
  have hdc : d.cells = [.sl d.q.sn (srcs d.q.src), .sl d.en (exprs d.es), .sl false (scols d.sc), .sl d.q.dn (d.q.du.map Per.cells)] := rfl
  have hpc : ∀ p : Pln, p.cells = [bln p.swap, i64 p.way, bln p.push, bln p.early] := fun _ => rfl
  rw [hdc] at hpl hcost
  generalize plansL d.q = l at *
  have hl0 : 0 < l.length := List.length_pos_iff.2 hne
  have hie : l.isEmpty = false := List.isEmpty_eq_false_iff.2 hne
  rw [hie] at hpl
  simp -dsimp [hdc]
  refine VC.mk _ hpl ?_
  simp -dsimp
  refine VIf.mk (fun g => ?_) (fun g => ?_)
  · have ho : 0 ≤ o := by simpa using g
    rw [if_pos ho] at hch
    have hm1 : 0 ≤ o.tmod l.length := Int.tmod_nonneg _ ho
    have hm2 : o.tmod l.length < l.length := Int.tmod_lt_of_pos _ (by omega)
    have hj : (o.tmod l.length).toNat < l.length := by omega
    have hge : l[(o.tmod l.length).toNat]! = l[(o.tmod l.length).toNat] := by simp [hj]
    have hlz : ¬ (l.length : Int) = 0 := by omega
    rw [hch, hge]
    simp -dsimp [hm1, hm2, hj, hpc, hlz]
    exact hne
  · have ho : ¬ 0 ≤ o := by simpa using g
    rw [if_neg ho] at hch
    rw [← bestI_end _ _ hl0] at hch
    rw [hch]
    simp -dsimp
    refine VL.loop (fun k : Nat => ⟨[(7, .c (i64 k)), (6, .c (i64 (bestI (costV d.q) l k))), (5, .c (.sl false (plns l))), (2, .ptr 128 0), (4, .ptr 256 0)],
        [(128, some (.box false [.c (.sl d.q.sn (srcs d.q.src)), .c (.sl d.en (exprs d.es)), .c (.sl false (scols d.sc)), .c (.sl d.q.dn (d.q.du.map Per.cells))])), (256, some (.box false [.c (bln false), .c (i64 0), .c (bln false), .c (bln false)]))]⟩)
      (fun k => 1 ≤ k ∧ k ≤ l.length) (fun k => l.length - k) 1 (by kernel_rfl) ⟨Nat.le_refl _, hl0⟩ (by simp [St.le, bestI_one]) ?_
    intro k ⟨hk1, hk⟩
    have hbl := bestI_lt (costV d.q) l hl0 k
    by_cases h1 : k < l.length
    · have hw : IntKind.i64.wrap ((k : Int) + 1) = (k : Int) + 1 := IntWalk.i64_in _ (by omega)
      have hsn := bestI_snoc (costV d.q) l h1
      have hck := hcost l[k]
      have hgb : l[bestI (costV d.q) l k]! = l[bestI (costV d.q) l k] := by simp [hbl]
      rw [hgb] at hsn
      have hcb := hcost l[bestI (costV d.q) l k]
      rw [hpc, ← hcv] at hck hcb
      obtain ⟨b2, hb2⟩ : ∃ o, bestI (costV d.q) l (k + 1) = o := ⟨_, rfl⟩
      rw [hb2] at hsn
      generalize bestI (costV d.q) l k = b at *
      simp -dsimp [h1, hpc]
      refine VL.draw (by kernel_rfl) [(0, false), (0, false), (0, false), (6, false), (14, false), (31, true), (63, true), (127, false), (127, false), (255, false), (1023, true)] (by kernel_rfl) ?_
      simp -dsimp [h1, hpc]
      refine VC.mk _ hck ?_
      simp -dsimp [hbl, hpc]
      refine VL.draw (by kernel_rfl) [(0, false), (0, false), (0, false), (6, false), (14, false), (31, true), (63, true), (127, false), (127, false), (255, false), (1023, true)] (by kernel_rfl) ?_
      simp -dsimp [hbl, hpc]
      refine VC.mk _ hcb ?_
      simp -dsimp
      refine VIf.mk (fun g2 => ?_) (fun g2 => ?_)
      · rw [if_pos (by simpa using g2)] at hsn
        simp -dsimp [hw]
        refine ⟨k + 1, ⟨by omega, by omega⟩, ?_, by omega⟩
        simp [St.le, hb2, hsn]
      · rw [if_neg (by simpa using g2)] at hsn
        simp -dsimp [hw]
        refine ⟨k + 1, ⟨by omega, by omega⟩, ?_, by omega⟩
        simp [St.le, hb2, hsn]
    · obtain rfl : k = l.length := by omega
      have hgb : l[bestI (costV d.q) l l.length]! = l[bestI (costV d.q) l l.length] := by simp [hbl]
      rw [hgb]
      generalize bestI (costV d.q) l l.length = b at *
      simp -dsimp [hbl, hpc]
end Go.Proofs.YtlphpbcafplnbaaGreat
set_option linter.unusedSimpArgs false
set_option linter.unusedVariables false
namespace Go.Proofs.YtlphpbcafplnbaaGreat
open Go.VL Go.RowKit
def dryQ (w : Qn) : Dry := ⟨askQ w, takenK w w.cs.length, (takenK w w.cs.length).isEmpty, scQ w⟩
theorem dryQ_cells (w : Qn) : askD w = (dryQ w).cells := rfl
theorem plain_at (b : Pln) : Con Tryz.prog 45 [.agg [bln b.swap, i64 b.way, bln b.push, bln b.early]] [.ag [bln b.swap, i64 b.way, bln b.push, bln b.early]] := plain_spec b
set_option maxRecDepth 4000 in
set_option maxHeartbeats 32000000 in
theorem chooses_spec {sortP : List Per → List Per} (hs : Sorts sortP) (hi : SortsI) (hf : SortsF) (hj : SortsJ) (w : Qn) (m : Nat) (o : Int) (p : Pln) (hcs : w.cs.length ≤ 1000000000) (hfit : ∀ e ∈ w.cs, e.fit) (hq : (askQ w).Fit) (hg : checkQ (askQ w) = 0 → (dryQ w).Good m) :
    Con Tryz.prog 10 [.agg w.cells, .c (i64 o), .agg p.cells] [.c (bln true)] := by
  refine spec_of Tryz.func10 rfl (by kernel_rfl) (by simp [Tryz.f10]) (fun w0 K0 => vc_ok _ _ _ (by kernel_rfl) ?_)
  simp only [Tryz.f10]
  have hask := asked_spec w hcs hfit
  have hdq : (dryQ w).q = askQ w := rfl
  rw [dryQ_cells] at hask
  have hrc := refCheck_spec (dryQ w) hq
  have hqc : (askQ w).cells = [.sl (askQ w).sn (srcs (askQ w).src), .sl (askQ w).tn (terms (askQ w).ts), .sl (askQ w).dn ((askQ w).du.map Per.cells)] := rfl
  have hdc : (dryQ w).cells = [.sl (dryQ w).q.sn (srcs (dryQ w).q.src), .sl (dryQ w).en (exprs (dryQ w).es), .sl false (scols (dryQ w).sc), .sl (dryQ w).q.dn ((dryQ w).q.du.map Per.cells)] := rfl
  have hwc : w.cells = [.sl w.na (facts w.A), .sl w.nb (facts w.B), bln w.two, bln w.i0, bln w.i1, .sl w.nc (exprs w.cs), .sl w.nd (w.du.map Per.cells), i64 w.cols, bln w.s3] := rfl
  have hpc : ∀ p : Pln, p.cells = [bln p.swap, i64 p.way, bln p.push, bln p.early] := fun _ => rfl
  rw [hwc] at hask
  rw [hwc, hpc]
  have hck := checkP_spec (askQ w) hq
  generalize dryQ w = d at *
  rw [← hdq] at hqc hask hq hg hck
  rw [hdq] at hqc
  simp only [← hdq] at hqc
  simp -dsimp
  refine VC.mk _ (awakeP_spec hs hi hf) ?_
  simp -dsimp
  rw [hqc, hdc] at hask
  rw [hqc] at hck
  rw [hdc] at hrc
  refine VC.mk _ hask ?_
  by_cases hc : checkQ d.q = 0
  · have hgd := hg hc
    have hq2 := hgd.good
    have hpl := plans_at d.q hq hc
    have hcost := cost_ok hj m d.q hq2 hc p
    have hcho := choose_ok hj m d.q hq2 hc o
    have hrp := refPlans_spec d m hgd
    have hrk := refCost_spec d m hgd p
    have hrh := refChoose_spec d m hgd o
    have hle := plansL_le d.q
    obtain ⟨best, hbe⟩ : ∃ b, chooseQ d.q o = b := ⟨_, rfl⟩
    rw [hqc] at hpl hcost hcho
    rw [hdc] at hrp hrk hrh
    rw [hpc] at hcost hrk
    rw [hbe, hpc] at hcho hrh
    rw [hc] at hrc hck
    simp -dsimp
    refine VC.mk _ hrc ?_
    simp -dsimp
    refine VC.mk _ hpl ?_
    simp -dsimp
    refine VC.mk _ hcost ?_
    simp -dsimp
    refine VC.mk _ hcho ?_
    simp -dsimp
    refine VG.mk _ _ (fun _ => hck) rfl ?_
    simp -dsimp
    refine VC.mk _ hrp ?_
    simp -dsimp
    generalize plansL d.q = l at *
    refine VL.loop (fun k : Nat => ⟨[(88, .c (i64 k)), (87, .c (i64 l.length)), (10, .c (.sl l.isEmpty (plns l))), (16, .c (.sl l.isEmpty (plns l))), (7, .ptr 448 0), (8, .ptr 512 0), (5, .ptr 320 0), (14, .ptr 896 0), (12, .c (i64 (costQ d.q p).1)), (13, .c (i64 (costQ d.q p).2)), (1, .c (i64 o))],
        [(448, some (.box false [.c (.sl d.q.sn (srcs d.q.src)), .c (.sl d.q.tn (terms d.q.ts)), .c (.sl d.q.dn (d.q.du.map Per.cells))])), (512, some (.box false [.c (.sl d.q.sn (srcs d.q.src)), .c (.sl d.en (exprs d.es)), .c (.sl false (scols d.sc)), .c (.sl d.q.dn (d.q.du.map Per.cells))])),
          (320, some (.box false [.c (bln p.swap), .c (i64 p.way), .c (bln p.push), .c (bln p.early)])), (896, some (.box false [.c (bln best.swap), .c (i64 best.way), .c (bln best.push), .c (bln best.early)]))]⟩)
      (fun k => k ≤ l.length) (fun k => l.length - k) 0 (by kernel_rfl) (by simp) (by simp [St.le]) ?_
    intro k hk
    by_cases h1 : k < l.length
    · have hw : IntKind.i64.wrap ((k : Int) + 1) = (k : Int) + 1 := IntWalk.i64_in _ (by omega)
      simp -dsimp [h1, hpc]
      refine VL.draw (by kernel_rfl) [(0, false), (0, false), (3, false), (7, false), (15, false), (0, false), (0, false), (96, false), (224, false), (511, true)] (by kernel_rfl) ?_
      simp -dsimp [h1, hpc]
      refine VCE.mk _ (plain_at l[k]) ?_
      simp -dsimp [h1, hpc, hw]
      refine ⟨k + 1, by omega, ?_, by omega⟩
      simp [St.le]
    · obtain rfl : k = l.length := by omega
      simp -dsimp
      refine VL.draw (by kernel_rfl) [(0, false), (0, false), (2, false), (7, true), (15, true), (31, false), (31, false), (63, false), (255, true)] (by kernel_rfl) ?_
      simp -dsimp
      refine VCE.mk _ (plain_at p) ?_
      simp -dsimp
      refine VC.mk _ hrk ?_
      simp -dsimp
      refine VL.draw (by kernel_rfl) [(0, false), (0, false), (3, true), (7, true), (15, false), (15, false), (63, true), (127, true), (255, true), (511, false), (1023, false), (511, false), (511, false), (8191, true), (16383, true), (32767, true), (65535, true)] (by kernel_rfl) ?_
      simp -dsimp
      refine VG.mk _ _ (fun _ => plain_at best) rfl ?_
      simp -dsimp
      refine VG.mk _ _ (fun _ => hrh) rfl ?_
      simp -dsimp
  · have hpl := plans_err d.q hq hc
    have hcost := cost_err d.q hq hc p
    have hcho := choose_err d.q hq hc o
    have hne : (checkQ d.q != 0) = true := by simpa using hc
    rw [hqc] at hpl hcost hcho
    rw [hpc] at hcost hcho
    simp -dsimp
    refine VC.mk _ hrc ?_
    simp -dsimp
    refine VC.mk _ hpl ?_
    simp -dsimp
    refine VC.mk _ hcost ?_
    simp -dsimp
    refine VC.mk _ hcho ?_
    simp -dsimp
    refine VG.mk _ _ (fun _ => hck) rfl ?_
    simp -dsimp [hne]
end Go.Proofs.YtlphpbcafplnbaaGreat
