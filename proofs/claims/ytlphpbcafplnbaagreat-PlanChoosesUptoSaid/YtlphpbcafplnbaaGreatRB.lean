/- Contracts of functions of the seat, proved in a logic on data over the model (part RB). -/
import Derived.Test.YtlphpbcafplnbaaGreatRA
set_option linter.unusedSimpArgs false
set_option linter.unusedVariables false
namespace Go.Proofs.YtlphpbcafplnbaaGreat
open Go.VL Go.RowKit
def refAt (sc : List SCol) (of name : List UInt8) (k : Nat) : Int := if hitsN sc of name k = 0 then 0 else hitAt sc of name k
def refTab (sc : List SCol) (of : List UInt8) (k : Nat) : Bool := decide (of = []) || decide (tabsN sc of k ≠ 0)
set_option maxRecDepth 4000 in
set_option maxHeartbeats 16000000 in
theorem refFind_spec (nl : Bool) (sc : List SCol) (of name : List UInt8) (hl : sc.length ≤ 1000000000000) :
    Con Tryz.prog 122 [.c (.sl nl (scols sc)), .c (str of), .c (str name)] [.c (i64 (fdI (findC sc of name))), .c (i64 (fdC (findC sc of name)))] := by
  refine spec_of Tryz.func122 rfl (by kernel_rfl) (by simp [Tryz.f122]) (fun w0 K0 => vc_ok _ _ _ (by kernel_rfl) ?_)
  simp only [Tryz.f122]
  simp -dsimp
  refine VL.loop (fun k : Nat => ⟨[(11, .c (i64 k)), (0, .c (.sl nl (scols sc))), (1, .c (str of)), (2, .c (str name)), (8, .c (bln (refTab sc of k))), (9, .c (i64 (hitsN sc of name k))), (10, .c (i64 (refAt sc of name k)))], []⟩)
    (fun k => k ≤ sc.length) (fun k => sc.length - k) 0 (by kernel_rfl) (by simp) (by simp [St.le, refTab, refAt, hitsN, tabsN]) ?_
  intro k hk
  have hhl : hitsN sc of name k ≤ k := by
    unfold hitsN; refine Nat.le_trans List.countP_le_length ?_; rw [List.length_take]; omega
  simp -dsimp
  refine VIf.mk (fun h => ?_) (fun h => ?_)
  · have hlt : k < sc.length := by simpa using h
    have hw : IntKind.i64.wrap ((k : Int) + 1) = (k : Int) + 1 := IntWalk.i64_in _ (by omega)
    have hw2 : IntKind.i64.wrap ((hitsN sc of name k : Int) + 1) = (hitsN sc of name k : Int) + 1 := IntWalk.i64_in _ (by omega)
    have s1 : tabsN sc of (k + 1) = tabsN sc of k + (if tabOk of sc[k] = true then 1 else 0) := countP_step hlt
    have s2 : hitsN sc of name (k + 1) = hitsN sc of name k + (if hit of name sc[k] = true then 1 else 0) := countP_step hlt
    simp -dsimp [hlt, SCol.cells]
    refine VIf.mk (fun h2 => ?_) (fun h2 => ?_)
    · have ht : tabOk of sc[k] = true := by simp at h2; simp [tabOk, h2]
      have t1 : refTab sc of (k + 1) = true := by simp [refTab, s1, ht]
      simp -dsimp [hlt, SCol.cells]
      refine VIf.mk (fun h3 => ?_) (fun h3 => ?_)
      · have hh : hit of name sc[k] = true := by simp at h3; simp [hit, ht, h3]
        simp -dsimp
        refine VIf.mk (fun h4 => ?_) (fun h4 => ?_)
        · have h5 : hitsN sc of name k = 0 := by simp at h4; omega
          have h6 : refAt sc of name (k + 1) = k := by
            unfold refAt hitAt
            rw [if_neg (by rw [s2, if_pos hh]; omega)]
            exact idxI_snoc hlt h5 hh
          simp -dsimp [hw, hw2]
          refine ⟨k + 1, by omega, ?_, by omega⟩
          simp [St.le, t1, h6, s2, hh]
        · have h5 : ¬ hitsN sc of name k = 0 := by simp at h4; omega
          have h6 : refAt sc of name (k + 1) = refAt sc of name k := by
            unfold refAt hitAt
            rw [if_neg (by rw [s2, if_pos hh]; omega), if_neg h5]
            rw [take_snoc hlt]
            unfold idxI
            rw [List.findIdx?_append]
            have hne : (sc.take k).findIdx? (hit of name) ≠ none := by
              intro e
              rw [List.findIdx?_eq_none_iff] at e
              exact h5 (by unfold hitsN; rw [List.countP_eq_zero]; intro x hx; simp [e x hx])
            cases hf : (sc.take k).findIdx? (hit of name) with
            | none => exact absurd hf hne
            | some i => rfl
          simp -dsimp [hw, hw2]
          refine ⟨k + 1, by omega, ?_, by omega⟩
          simp [St.le, t1, h6, s2, hh]
      · have hh : hit of name sc[k] = false := by simp at h3; simp [hit, h3]
        have h6 : refAt sc of name (k + 1) = refAt sc of name k := by
          unfold refAt hitAt
          rw [idxI_snoc_no hlt hh, s2, hh]; simp
        simp -dsimp [hw]
        refine ⟨k + 1, by omega, ?_, by omega⟩
        simp [St.le, t1, h6, s2, hh]
    · have ht : tabOk of sc[k] = false := by simp at h2; simp [tabOk, h2]
      have hh : hit of name sc[k] = false := by simp [hit, ht]
      have t1 : refTab sc of (k + 1) = refTab sc of k := by simp [refTab, s1, ht]
      have h6 : refAt sc of name (k + 1) = refAt sc of name k := by
        unfold refAt hitAt
        rw [idxI_snoc_no hlt hh, s2, hh]; simp
      simp -dsimp [hw]
      refine ⟨k + 1, by omega, ?_, by omega⟩
      simp [St.le, t1, h6, s2, hh]
  · simp at h
    obtain rfl : k = sc.length := by omega
    have e1 : tabsN sc of sc.length = sc.countP (tabOk of) := by simp [tabsN]
    have e2 : hitsN sc of name sc.length = sc.countP (hit of name) := by simp [hitsN]
    simp -dsimp
    refine VIf.mk (fun h2 => ?_) (fun h2 => ?_)
    · have h3 : 2 ≤ sc.countP (hit of name) := by have h2' := of_decide_eq_true h2; rw [e2] at h2'; omega
      rw [findC_twice h3]
      simp -dsimp
      simp [fdI, fdC]
    · have h3 : sc.countP (hit of name) ≤ 1 := by have h2' := of_decide_eq_false h2; rw [e2] at h2'; omega
      rw [findC_end h3]
      simp -dsimp
      refine VIf.mk (fun h4 => ?_) (fun h4 => ?_)
      · have h5 : of ≠ [] ∧ sc.countP (tabOk of) = 0 := by simpa [refTab, e1] using h4
        rw [if_pos h5]
        simp -dsimp
        simp [fdI, fdC]
      · have h5 : ¬ (of ≠ [] ∧ sc.countP (tabOk of) = 0) := by
          intro e; simp [refTab, e1, e.1, e.2] at h4
        rw [if_neg h5]
        simp -dsimp
        refine VIf.mk (fun h6 => ?_) (fun h6 => ?_)
        · have h7 : sc.countP (hit of name) = 0 := by have h6' := beq_iff_eq.1 h6; rw [e2] at h6'; omega
          rw [if_pos h7]
          simp -dsimp
          simp [fdI, fdC]
        · have h7 : ¬ sc.countP (hit of name) = 0 := by have h6' := beq_eq_false_iff_ne.1 h6; rw [e2] at h6'; omega
          rw [if_neg h7]
          have h8 : ¬ idxI (hit of name) sc < 0 := fun e => h7 (idxI_lt.1 e)
          have h9 : refAt sc of name sc.length = idxI (hit of name) sc := by unfold refAt hitAt; rw [e2, if_neg h7, List.take_length]
          simp -dsimp [h9]
          simp [fdI, fdC]
          omega
def HasCon (nl : Bool) (sc : List SCol) (k : Nat) (e : Ex) : Prop := Con Tryz.prog 127 [.agg e.cells, .c (.sl nl (scols sc)), .c (i64 k)] [.c (bln (hasE sc k e))]
theorem findC_is (sc : List SCol) (of name : List UInt8) (k : Nat) : decide (findC sc of name = .ok k) = ((fdC (findC sc of name) == 0) && (fdI (findC sc of name) == (k : Int))) := by
  cases h : findC sc of name with
  | ok i => simp [fdC, fdI]; rw [Bool.eq_iff_iff, decide_eq_true_eq, beq_iff_eq]; omega
  | no c =>
    have := findC_ne h
    simp [fdC, this]
set_option maxRecDepth 4000 in
set_option maxHeartbeats 16000000 in
theorem has_step (nl : Bool) (sc : List SCol) (hl : sc.length ≤ 1000000000000) (k : Nat) (op : List UInt8) (int : Int) (text of : List UInt8) (an : Bool) (args : List Ex) (hf : (Ex.mk op int text of an args).fit) (ih : ∀ a ∈ args, HasCon nl sc k a) :
    HasCon nl sc k (.mk op int text of an args) := by
  unfold HasCon
  refine spec_of Tryz.func127 rfl (by kernel_rfl) (by simp [Tryz.f127]) (fun w0 K0 => vc_ok _ _ _ (by kernel_rfl) ?_)
  simp only [Tryz.f127]
  rw [Ex.fit] at hf
  have hal := hf.2.1
  have hh : hasE sc k (.mk op int text of an args) = if op = wName then decide (findC sc of text = .ok k) else if op = wNumber ∨ op = wText then false else hasEs sc k args := by rw [hasE]
  rw [hh]
  simp -dsimp [Ex.cells_mk]
  refine VIf.mk (fun g => ?_) (fun g => ?_)
  · have g' : op = wName := by simpa using g
    rw [if_pos g', findC_is]
    simp -dsimp
    refine VC.mk _ (refFind_spec nl sc of text hl) ?_
    simp -dsimp
  have g' : ¬ op = wName := by simpa using g
  rw [if_neg g']
  simp -dsimp
  refine VIf.mk (fun g2 => ?_) (fun g2 => ?_)
  · have g2' : op = wNumber ∨ op = wText := by simpa using g2
    rw [if_pos g2']
    simp -dsimp
  have g2' : ¬ (op = wNumber ∨ op = wText) := by simpa using g2
  rw [if_neg g2', hasEs_any]
  simp -dsimp
  refine VL.loop (fun j : Nat => ⟨[(9, .c (i64 j)), (1, .c (.sl nl (scols sc))), (2, .c (i64 k)), (3, .ptr 192 0)], [(192, some (.box false [.c (str op), .c (i64 int), .c (str text), .c (str of), .c (.sl an (args.map Ex.cells))]))]⟩)
    (fun j => j ≤ args.length ∧ (args.take j).any (hasE sc k) = false) (fun j => args.length - j) 0 (by kernel_rfl) (by simp) (by simp [St.le]) ?_
  intro j ⟨hj, hb⟩
  by_cases h1 : j < args.length
  · have hw : IntKind.i64.wrap ((j : Int) + 1) = (j : Int) + 1 := IntWalk.i64_in _ (by omega)
    have hik := ih _ (List.getElem_mem h1)
    have hat := fun h => any_at (p := hasE sc k) h1 h
    have hnx := fun h => any_next (p := hasE sc k) h1 hb h
    unfold HasCon at hik
    obtain ⟨op', int', text', of', nl', args', hex⟩ : ∃ op' int' text' of' nl' args', args[j] = Ex.mk op' int' text' of' nl' args' := by
      cases args[j]; exact ⟨_, _, _, _, _, _, rfl⟩
    have hcell : (args.map Ex.cells)[j]'(by simpa using h1) = [str op', i64 int', str text', str of', .sl nl' (args'.map Ex.cells)] := by
      simp [hex, Ex.cells_mk]
    rw [show args[j].cells = [str op', i64 int', str text', str of', .sl nl' (args'.map Ex.cells)] from by rw [hex, Ex.cells_mk]] at hik
    generalize hasE sc k args[j] = b at *
    simp -dsimp [h1, hcell]
    refine VC.mk _ hik ?_
    simp -dsimp
    refine VIf.mk (fun h2 => ?_) (fun h2 => ?_)
    · rw [hat h2]
      simp -dsimp
    · simp -dsimp [hw]
      refine ⟨j + 1, ⟨by omega, by simpa using hnx h2⟩, ?_, by omega⟩
      simp [St.le]
  · obtain rfl : j = args.length := by omega
    rw [List.take_length] at hb
    rw [hb]
    simp -dsimp
mutual
theorem has_all (nl : Bool) (sc : List SCol) (hl : sc.length ≤ 1000000000000) (k : Nat) : ∀ (e : Ex), e.fit → HasCon nl sc k e
  | .mk op int text of an args, hf => has_step nl sc hl k op int text of an args hf (has_alls nl sc hl k args (by rw [Ex.fit] at hf; exact hf.2.2))
theorem has_alls (nl : Bool) (sc : List SCol) (hl : sc.length ≤ 1000000000000) (k : Nat) : ∀ (l : List Ex), Ex.fits l → ∀ a ∈ l, HasCon nl sc k a
  | [], _, a, h => by cases h
  | e :: r, hf, a, h => by
    rw [Ex.fits] at hf
    rcases List.mem_cons.1 h with e | h
    · rw [e]; exact has_all nl sc hl k _ hf.1
    · exact has_alls nl sc hl k r hf.2 a h
end
set_option maxRecDepth 4000 in
set_option maxHeartbeats 16000000 in
theorem names_spec (nl : Bool) (sc : List SCol) (hl : sc.length ≤ 1000) (e : Ex) (hf : e.fit) : Con Tryz.prog 103 [.agg e.cells, .c (.sl nl (scols sc))] [.c (.sl (namesE sc e).isEmpty (ints (namesE sc e)))] := by
  refine Con.frz (rs := [.fr (namesE sc e).isEmpty (if (namesE sc e).isEmpty then 0 else 1) (ints (namesE sc e)) 0]) ?_ 0 rfl
  refine spec_of Tryz.func103 rfl (by kernel_rfl) (by simp [Tryz.f103]) (fun w0 K0 => vc_ok _ _ _ (by kernel_rfl) ?_)
  simp only [Tryz.f103]
  have hha := fun k => has_all nl sc (by omega) k e hf
  unfold HasCon at hha
  have hne : namesE sc e = namesK sc e sc.length := rfl
  have hsn := namesK_snoc sc e
  have hle := namesK_le sc e
  rw [hne]
  obtain ⟨op', int', text', of', nl', args', hex⟩ : ∃ op' int' text' of' nl' args', e = Ex.mk op' int' text' of' nl' args' := by
    cases e; exact ⟨_, _, _, _, _, _, rfl⟩
  have hec : e.cells = [str op', i64 int', str text', str of', .sl nl' (args'.map Ex.cells)] := by rw [hex, Ex.cells_mk]
  rw [hec] at hha
  rw [hec]
  clear hex hec hne
  generalize hn : (fun k => namesK sc e k) = N at *
  simp -dsimp
  refine VL.loop (fun i : KI => ⟨[(6, .c (i64 i.k)), (1, .c (.sl nl (scols sc))), (2, .ptr 128 0), (5, .own 320 (namesK sc e i.k).length)], [(128, some (.box false [.c (str op'), .c (i64 int'), .c (str text'), .c (str of'), .c (.sl nl' (args'.map Ex.cells))])), (320, some (.arr i.nl i.sz (ints (namesK sc e i.k)) 0))]⟩)
    (fun i => i.k ≤ sc.length ∧ RJ 1 i.nl i.sz (namesK sc e i.k)) (fun i => sc.length - i.k) ⟨0, true, 0⟩ (by kernel_rfl) ⟨by simp, rfl, rfl⟩ (by simp [St.le, namesK]) ?_
  intro ⟨k, z, sz⟩ ⟨hk, hz, hsz⟩
  simp only at hk hz hsz
  have hlk := hle k
  by_cases h1 : k < sc.length
  · have hw : IntKind.i64.wrap ((k : Int) + 1) = (k : Int) + 1 := IntWalk.i64_in _ (by omega)
    have hs := hsn k
    simp -dsimp [h1]
    refine VC.mk _ (hha k) ?_
    generalize hasE sc k e = b at *
    obtain ⟨n2, hn2⟩ : ∃ o, namesK sc e (k + 1) = o := ⟨_, rfl⟩
    rw [hn2] at hs
    generalize namesK sc e k = n1 at *
    simp -dsimp
    refine VIf.mk (fun h2 => ?_) (fun h2 => ?_)
    · rw [if_pos h2] at hs
      simp -dsimp [hw, maxLen]
      refine ⟨fun e => by rw [hsz, e]; rfl, by omega, ⟨k + 1, false, 1⟩, ⟨by simp only; omega, by simp only; rw [hn2, hs]; exact RJ.next⟩, ?_, by simp only; omega⟩
      simp [St.le, hn2, hs, ints]
    · rw [if_neg (by simp [h2]), List.append_nil] at hs
      simp -dsimp [hw]
      refine ⟨⟨k + 1, z, sz⟩, ⟨by simp only; omega, by simp only; rw [hn2, hs]; exact ⟨hz, hsz⟩⟩, ?_, by simp only; omega⟩
      simp [St.le, hn2, hs, ints]
  · obtain rfl : k = sc.length := by omega
    generalize namesK sc e sc.length = out at *
    simp -dsimp
    refine ⟨hz, ?_⟩
    rw [hsz, hz]
    cases out <;> simp
end Go.Proofs.YtlphpbcafplnbaaGreat
set_option linter.unusedSimpArgs false
set_option linter.unusedVariables false
namespace Go.Proofs.YtlphpbcafplnbaaGreat
open Go.VL Go.RowKit
theorem dgI_step {n : Int} (h : 0 < n) : dgI n = 1 + dgI (n.tdiv 2) := by
  unfold dgI
  rw [dig_half n.toNat (by omega), Int.tdiv_eq_ediv_of_nonneg (by omega)]
  have : (n / 2).toNat = n.toNat / 2 := by omega
  rw [this]
  omega
set_option maxRecDepth 4000 in
set_option maxHeartbeats 4000000 in
theorem digits_spec (n : Int) (h0 : 0 ≤ n) (h1 : n ≤ 268435456) : Con Tryz.prog 77 [.c (i64 n)] [.c (i64 (dgI n))] := by
  refine spec_of Tryz.func77 rfl (by kernel_rfl) (by simp [Tryz.f77]) (fun w0 K0 => vc_ok _ _ _ (by kernel_rfl) ?_)
  simp only [Tryz.f77]
  simp -dsimp
  refine VL.loop (fun q : Int × Int => ⟨[(0, .c (i64 q.1)), (3, .c (i64 q.2))], []⟩) (fun q => 0 ≤ q.1 ∧ q.1 ≤ n ∧ 0 ≤ q.2 ∧ q.2 + dgI q.1 = dgI n) (fun q => q.1.toNat) (n, 0) (by kernel_rfl) ⟨h0, Int.le_refl _, Int.le_refl _, by simp⟩ (by simp [St.le]) ?_
  rintro ⟨x, d⟩ ⟨a1, a2, a3, a4⟩
  simp only at a1 a2 a3 a4
  have hdn := dgI_in h0 h1
  simp -dsimp
  refine VIf.mk (fun g => ?_) (fun g => ?_)
  · have g' : 0 < x := by simpa using g
    have hs := dgI_step g'
    have hx2 : x.tdiv 2 = x / 2 := Int.tdiv_eq_ediv_of_nonneg (by omega)
    have hdx := dgI_in (n := x.tdiv 2) (by omega) (by omega)
    have hw : IntKind.i64.wrap (d + 1) = d + 1 := IntWalk.i64_in _ (by omega)
    have hw2 : IntKind.i64.wrap (x.tdiv 2) = x.tdiv 2 := IntWalk.i64_in _ (by omega)
    simp -dsimp [hw, hw2]
    refine ⟨x.tdiv 2, d + 1, ⟨by omega, by omega, by omega, by omega⟩, ?_, by omega⟩
    simp [St.le]
  · have g' : ¬ 0 < x := by simpa using g
    obtain rfl : x = 0 := by omega
    have hz : dgI 0 = 0 := rfl
    obtain rfl : d = dgI n := by omega
    simp -dsimp
set_option maxRecDepth 4000 in
set_option maxHeartbeats 4000000 in
theorem plain_spec (p : Pln) : Con Tryz.prog 45 [.agg p.cells] [.ag p.cells] := by
  refine spec_of Tryz.func45 rfl (by kernel_rfl) (by simp [Tryz.f45]) (fun w0 K0 => vc_ok _ _ _ (by kernel_rfl) ?_)
  simp only [Tryz.f45]
  simp -dsimp [Pln.cells]
set_option maxRecDepth 4000 in
set_option maxHeartbeats 8000000 in
theorem refCheck_spec (d : Dry) (hq : d.q.Fit) : Con Tryz.prog 40 [.agg d.cells] [.c (i64 (checkQ d.q))] := by
  refine spec_of Tryz.func40 rfl (by kernel_rfl) (by simp [Tryz.f40]) (fun w0 K0 => vc_ok _ _ _ (by kernel_rfl) ?_)
  simp only [Tryz.f40]
  have hs := hq.s
  have hf := hq.f
  have hr := hq.r
  have hcq : checkQ d.q = if sizeBad d.q then 1 else chkL d.q.src := rfl
  have hsb : sizeBad d.q = ((d.q.src.length : Int) != 1 && (d.q.src.length : Int) != 2 || decide (1 < (d.q.du.length : Int))) := by
    unfold sizeBad
    congr 1
    rw [Bool.eq_iff_iff]
    simp
    omega
  simp -dsimp [Dry.cells]
  refine ⟨by omega, ?_⟩
  refine VIf.mk (fun h => ?_) (fun h => ?_)
  · rw [← hsb] at h
    rw [if_pos h] at hcq
    rw [hcq]
    simp -dsimp
  rw [← hsb] at h
  rw [if_neg (by simp [h])] at hcq
  rw [hcq]
  simp -dsimp
  generalize d.q.src = l at *
  refine VL.loop (fun k : Nat => ⟨[(4, .c (i64 k)), (3, .c (i64 l.length)), (1, .ptr 64 0)], [(64, some (.box false [.c (.sl d.q.sn (srcs l)), .c (.sl d.en (exprs d.es)), .c (.sl false (scols d.sc)), .c (.sl d.q.dn (d.q.du.map Per.cells))]))]⟩)
    (fun k => k ≤ l.length ∧ chkL (l.take k) = 0) (fun k => l.length - k) 0 (by kernel_rfl) (by simp [chkL]) (by simp [St.le]) ?_
  intro k ⟨hk, hc⟩
  by_cases h1 : k < l.length
  · have hw : IntKind.i64.wrap ((k : Int) + 1) = (k : Int) + 1 := IntWalk.i64_in _ (by omega)
    have hat := chkL_at l k h1 hc
    have hsn := chkL_snoc l k h1 hc
    have hfk := hf _ (List.getElem_mem h1)
    have hrk := hr _ (List.getElem_mem h1)
    have hcs : l[k].cells = [.sl l[k].nl (facts l[k].fs), i64 l[k].cols, bln l[k].ix] := rfl
    have hch : chkS l[k] = if colBad l[k] then 1 else if l[k].fs.any (rowBad l[k]) then 161 else 0 := rfl
    simp -dsimp [h1, hcs]
    refine VIf.mk (fun h => ?_) (fun h => ?_)
    · have h2 : colBad l[k] = true := h
      rw [if_pos h2] at hch
      rw [hat (by rw [hch]; decide), hch]
      simp -dsimp
    · have h2 : colBad l[k] = false := h
      rw [if_neg (by simp [h2])] at hch
      simp -dsimp
      refine VL.loop (fun j : Nat => ⟨[(5, .c (i64 j)), (4, .c (i64 k)), (3, .c (i64 l.length)), (1, .ptr 64 0)], [(64, some (.box false [.c (.sl d.q.sn (srcs l)), .c (.sl d.en (exprs d.es)), .c (.sl false (scols d.sc)), .c (.sl d.q.dn (d.q.du.map Per.cells))]))]⟩)
        (fun j => j ≤ l[k].fs.length ∧ (l[k].fs.take j).any (rowBad l[k]) = false) (fun j => l[k].fs.length - j) 0 (by kernel_rfl) (by simp) (by simp [St.le]) ?_
      intro j ⟨hj, hb⟩
      by_cases h3 : j < l[k].fs.length
      · have hw2 : IntKind.i64.wrap ((j : Int) + 1) = (j : Int) + 1 := IntWalk.i64_in _ (by omega)
        have hrj := hrk _ (List.getElem_mem h3)
        have hcf : l[k].fs[j].cells = [.sl l[k].fs[j].nl (vals l[k].fs[j].row), i64 l[k].fs[j].p.f, i64 l[k].fs[j].p.t] := rfl
        simp -dsimp [h1, hcs, h3]
        refine VL.draw (by kernel_rfl) [(0, false), (1, false), (0, false), (7, false), (15, false), (31, false), (0, false), (127, false), (255, false), (511, false), (1023, false), (0, false), (2048, false), (0, false), (14336, false), (30720, false), (63488, false), (131071, true)] (by kernel_rfl) ?_
        simp -dsimp [h1, hcs, h3, hcf]
        refine VIf.mk (fun h4 => ?_) (fun h4 => ?_)
        · have h5 : l[k].fs.any (rowBad l[k]) = true := any_at h3 h4
          rw [h5, if_pos rfl] at hch
          rw [hat (by rw [hch]; decide), hch]
          simp -dsimp
        · simp -dsimp [hw2]
          refine ⟨j + 1, ⟨by omega, by simpa using any_next h3 hb h4⟩, ?_, by omega⟩
          simp [St.le]
      · obtain rfl : j = l[k].fs.length := by omega
        rw [List.take_length] at hb
        rw [hb, if_neg (by simp)] at hch
        simp -dsimp [hw, h1, hcs]
        refine ⟨k + 1, ⟨by omega, hsn hch⟩, ?_, by omega⟩
        simp [St.le]
  · obtain rfl : k = l.length := by omega
    rw [List.take_length] at hc
    rw [hc]
    simp -dsimp
end Go.Proofs.YtlphpbcafplnbaaGreat
set_option linter.unusedSimpArgs false
set_option linter.unusedVariables false
namespace Go.Proofs.YtlphpbcafplnbaaGreat
open Go.VL Go.RowKit
def allN (fr n : Int) (ns : List Int) (x : Nat) : Bool := decide (0 < (ns.length : Int)) && (ns.take x).all fun y => decide (fr ≤ y) && decide (y < fr + n)
theorem allN_snoc (fr n : Int) (ns : List Int) {x : Nat} (h : x < ns.length) : allN fr n ns (x + 1) = (allN fr n ns x && (decide (fr ≤ ns[x]) && decide (ns[x] < fr + n))) := by
  unfold allN
  rw [take_snoc h, List.all_append]
  simp [Bool.and_assoc]
theorem allN_end (fr n : Int) (ns : List Int) : allN fr n ns ns.length = allB fr n ns := by
  unfold allN allB
  rw [List.take_length]
  congr 1
  rw [Bool.eq_iff_iff]
  simp
theorem ownK2_snoc (d : Dry) (i : Nat) {k : Nat} (h : k < d.es.length) : ownK2 d i (k + 1) = (ownK2 d i k || allB (fromD d i) (d.q.src[i]!).cols (namesE d.sc d.es[k])) := by
  unfold ownK2
  rw [take_snoc h, List.any_append]
  simp
theorem ownK2_at {d : Dry} {i k : Nat} (h : k < d.es.length) (hp : allB (fromD d i) (d.q.src[i]!).cols (namesE d.sc d.es[k]) = true) : ownD d i = true := by
  unfold ownD ownK2
  rw [List.take_length]
  exact any_at h hp
set_option maxRecDepth 4000 in
set_option maxHeartbeats 16000000 in
theorem refOwn_spec (d : Dry) (m : Nat) (hd : d.Good m) (i : Nat) (hil : i < d.q.src.length) : Con Tryz.prog 76 [.agg d.cells, .c (i64 i)] [.c (bln (ownD d i))] := by
  refine spec_of Tryz.func76 rfl (by kernel_rfl) (by simp [Tryz.f76]) (fun w0 K0 => vc_ok _ _ _ (by kernel_rfl) ?_)
  simp only [Tryz.f76]
  have hl2 := check_len hd.chk
  have h0 : 0 < d.q.src.length := by omega
  have hel : d.es.length ≤ 1000000000 := by rw [← hd.len]; exact hd.good.fit.t
  have hc0 := hd.good.cols _ (List.getElem_mem h0)
  have hci := hd.good.cols _ (List.getElem_mem hil)
  have hs0 : d.q.src[0]! = d.q.src[0] := by simp [h0]
  have hsi : d.q.src[i]! = d.q.src[i] := by simp [hil]
  have hcs0 : d.q.src[0].cells = [.sl d.q.src[0].nl (facts d.q.src[0].fs), i64 d.q.src[0].cols, bln d.q.src[0].ix] := rfl
  have hcsi : d.q.src[i].cells = [.sl d.q.src[i].nl (facts d.q.src[i].fs), i64 d.q.src[i].cols, bln d.q.src[i].ix] := rfl
  have hfr : fromD d i = if i = 1 then d.q.src[0].cols else 0 := by unfold fromD; rw [hs0]
  have hfi : 0 ≤ fromD d i ∧ fromD d i ≤ 8 := by rw [hfr]; split <;> omega
  have hks := fun k => @ownK2_snoc d i k
  have hka := fun k => @ownK2_at d i k
  have hke : ownD d i = ownK2 d i d.es.length := rfl
  have hfit := hd.fit
  have hnm := fun e h => names_spec false d.sc hd.sc e (hfit e h)
  simp only [hsi] at hks hka
  simp -dsimp [Dry.cells]
  refine VIf.mk (fun g => ?_) (fun g => ?_)
  all_goals
    have g' := g
    simp at g'
    first
      | rw [if_pos (by omega)] at hfr
      | rw [if_neg (by omega)] at hfr
    simp -dsimp [h0, hcs0]
    refine VL.loop (fun k : Nat => ⟨[(6, .c (i64 k)), (5, .c (i64 (fromD d i))), (1, .c (i64 i)), (2, .ptr 128 0)],
        [(128, some (.box false [.c (.sl d.q.sn (srcs d.q.src)), .c (.sl d.en (exprs d.es)), .c (.sl false (scols d.sc)), .c (.sl d.q.dn (d.q.du.map Per.cells))]))]⟩)
      (fun k => k ≤ d.es.length ∧ ownK2 d i k = false) (fun k => d.es.length - k) 0 (by kernel_rfl) (by simp [ownK2]) (by simp [St.le, hfr]) ?_
    intro k ⟨hk, hb⟩
    clear hfr g g'
    by_cases h1 : k < d.es.length
    · have hw : IntKind.i64.wrap ((k : Int) + 1) = (k : Int) + 1 := IntWalk.i64_in _ (by omega)
      have hsk := hks k h1
      have hak := hka k h1
      have hnk := hnm _ (List.getElem_mem h1)
      have hnl : (namesE d.sc d.es[k]).length ≤ d.sc.length := namesK_le d.sc _ _
      have hsl := hd.sc
      rw [hb, Bool.false_or] at hsk
      obtain ⟨op', int', text', of', nl', args', hex⟩ : ∃ op' int' text' of' nl' args', d.es[k] = Ex.mk op' int' text' of' nl' args' := by
        cases d.es[k]; exact ⟨_, _, _, _, _, _, rfl⟩
      have hcell : (exprs d.es)[k]'(by simpa using h1) = [str op', i64 int', str text', str of', .sl nl' (args'.map Ex.cells)] := by
        simp [hex, Ex.cells_mk]
      rw [show d.es[k].cells = [str op', i64 int', str text', str of', .sl nl' (args'.map Ex.cells)] from by rw [hex, Ex.cells_mk]] at hnk
      generalize namesE d.sc d.es[k] = ns at *
      simp -dsimp [h1, hcell]
      refine VL.draw (by kernel_rfl) [(0, false), (1, false), (0, false), (7, false), (15, false), (0, false), (32, false), (127, true), (255, true)] (by kernel_rfl) ?_
      simp -dsimp [h1, hcell]
      refine VC.mk _ hnk ?_
      simp -dsimp
      refine VL.loop (fun x : Nat => ⟨[(9, .c (i64 x)), (8, .c (bln (allN (fromD d i) d.q.src[i].cols ns x))), (7, .c (.sl ns.isEmpty (ints ns))), (6, .c (i64 k)), (5, .c (i64 (fromD d i))), (1, .c (i64 i)), (2, .ptr 128 0)],
          [(128, some (.box false [.c (.sl d.q.sn (srcs d.q.src)), .c (.sl d.en (exprs d.es)), .c (.sl false (scols d.sc)), .c (.sl d.q.dn (d.q.du.map Per.cells))]))]⟩)
        (fun x => x ≤ ns.length) (fun x => ns.length - x) 0 (by kernel_rfl) (by simp) (by simp [St.le, allN]) ?_
      intro x hx
      by_cases h2 : x < ns.length
      · have hw2 : IntKind.i64.wrap ((x : Int) + 1) = (x : Int) + 1 := IntWalk.i64_in _ (by omega)
        have hsx := allN_snoc (fromD d i) d.q.src[i].cols ns h2
        have hwf : IntKind.i64.wrap (fromD d i + d.q.src[i].cols) = fromD d i + d.q.src[i].cols := IntWalk.i64_in _ (by omega)
        generalize allN (fromD d i) d.q.src[i].cols ns x = b at *
        simp -dsimp [h2]
        refine VL.draw (by kernel_rfl) [(0, true), (1, true), (3, false), (3, false), (15, false), (31, false), (3, false), (127, true), (255, true), (511, true), (1023, false), (1023, false), (4095, false), (8191, false), (1023, false), (1023, false), (33791, false), (1023, false), (230399, false), (492543, false), (1016831, false), (2081791, false), (4194303, true), (8388607, true), (16777215, true)] (by kernel_rfl) ?_
        cases b with
        | false =>
          simp -dsimp [h2, hil, hcsi, hwf, hw2]
          refine ⟨x + 1, by omega, ?_, by omega⟩
          simp [St.le, hsx]
        | true =>
          by_cases h3 : fromD d i ≤ ns[x]
          · simp -dsimp [h2, h3, hil, hcsi, hwf, hw2]
            refine ⟨x + 1, by omega, ?_, by omega⟩
            simp [St.le, hsx, h3]
          · simp -dsimp [h2, h3, hil, hcsi, hwf, hw2]
            refine ⟨x + 1, by omega, ?_, by omega⟩
            simp [St.le, hsx, h3]
      · obtain rfl : x = ns.length := by omega
        rw [allN_end]
        generalize allB (fromD d i) d.q.src[i].cols ns = b at *
        simp -dsimp
        refine VIf.mk (fun h3 => ?_) (fun h3 => ?_)
        · rw [hak h3]
          simp -dsimp
        · simp -dsimp [hw]
          refine ⟨k + 1, ⟨by omega, by rw [hsk]; exact h3⟩, ?_, by omega⟩
          simp [St.le]
    · obtain rfl : k = d.es.length := by omega
      rw [hke, hb]
      simp -dsimp
end Go.Proofs.YtlphpbcafplnbaaGreat
