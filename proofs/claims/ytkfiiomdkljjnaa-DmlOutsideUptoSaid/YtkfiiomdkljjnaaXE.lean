/- Contracts of the document's package 17, part 3: what an expression comes to. -/
import Derived.Test.YtkfiiomdkljjnaaXD
import Derived.Test.YtkfiiomdkljjnaaDA
set_option linter.unusedSimpArgs false
set_option linter.unusedVariables false
namespace Go.Proofs.Ytkfiiomdkljjnaa
open Go.VL Go.RowKit

theorem cmpV_ord {a b : Val} (h : a.kind = b.kind) : cmpV a b = ordV a b := by
  obtain ⟨ak, ai, at_⟩ := a
  obtain ⟨bk, bi, bt⟩ := b
  simp only at h
  subst h
  unfold cmpV ltV ordV cmpB cmpI
  simp only [Int.lt_irrefl, decide_false, decide_true, Bool.false_or, Bool.true_and, Val.mk.injEq, true_and]
  by_cases h1 : ai < bi
  · simp [h1]
  · by_cases h2 : ai = bi
    · subst h2
      simp
    · have h3 : bi < ai := by omega
      simp [h1, h2, h3, show ¬ ai ≤ bi by omega]

theorem evalT_ne (row : List Val) : ∀ (t : Tm), t.Ok → ∀ c, evalT row t = .no c → c ≠ 0 := by
  have ar : ∀ op a b c, arithV op a b = .no c → c ≠ 0 := by
    intro op a b c h
    unfold arithV at h
    split at h
    · cases h
    · cases h; decide
  have rk : ∀ op a b c, reckonV op a b = .no c → c ≠ 0 := by
    intro op a b c h
    unfold reckonV at h
    repeat' split at h
    all_goals first | (cases h; done) | exact ar _ _ _ _ h
  intro t h
  induction h with
  | value kind v place nl args hv => intro c hc; rw [evalT, if_pos rfl] at hc; cases hc
  | column kind v place nl args =>
    intro c hc
    rw [evalT, if_neg (by decide), if_pos rfl] at hc
    unfold colV at hc
    split at hc
    · cases hc
    · cases hc; decide
  | one op kind v place nl x hop hx ih =>
    intro c hc
    have n1 : op ≠ wValue := by rcases hop with rfl | rfl <;> decide
    have n2 : op ≠ wColumn := by rcases hop with rfl | rfl <;> decide
    rw [evalT, if_neg n1, if_neg n2, evalTs_map] at hc
    simp only [List.map_cons, List.map_nil] at hc
    cases hxe : evalT row x with
    | no c' => rw [hxe] at hc; simp only [opV] at hc; cases hc; exact ih _ hxe
    | ok a =>
      rw [hxe] at hc
      simp only [opV, oneV] at hc
      split at hc
      · cases hc
      · exact ar _ _ _ _ hc
  | two op kind v place nl x y hop hx hy ih1 ih2 =>
    intro c hc
    obtain ⟨e1, e2, e3⟩ := two2_ne hop
    rw [evalT, if_neg (by rw [e1]; exact id), if_neg (by rw [e2]; exact id), evalTs_map] at hc
    simp only [List.map_cons, List.map_nil] at hc
    cases hxe : evalT row x with
    | no c' => rw [hxe] at hc; simp only [opV] at hc; cases hc; exact ih1 _ hxe
    | ok a =>
      rw [hxe] at hc
      cases hye : evalT row y with
      | no c' =>
        rw [hye] at hc; simp only [opV] at hc
        rw [if_neg (by rw [e3]; exact id)] at hc
        cases hc; exact ih2 _ hye
      | ok b =>
        rw [hye] at hc; simp only [opV] at hc
        rw [if_neg (by rw [e3]; exact id)] at hc
        exact rk _ _ _ _ hc

def RefCon (sn : Bool) (sc : List SCol) (rn : Bool) (row : List Val) (e : Ex) (r : Ev) : Prop :=
  Con Try.prog 47 [.agg e.cells, .c (.sl sn (scols sc)), .c (.sl rn (vals row))] [.ag (evV r).cells, .c (i64 (evC r))]

section
variable (sn : Bool) (sc : List SCol) (rn : Bool) (row : List Val)
set_option maxRecDepth 4000 in
set_option maxHeartbeats 4000000 in
theorem refEval_number (int : Int) (text of : List UInt8) (nl : Bool) (args : List Ex) : RefCon sn sc rn row (.mk wNumber int text of nl args) (.ok ⟨1, int, []⟩) := by
  unfold RefCon
  rw [Ex.cells_mk]
  refine spec_of Try.func47 rfl (by kernel_rfl) (by simp [Try.f47]) (fun w0 K0 => vc_ok _ _ _ (by kernel_rfl) ?_)
  simp only [Try.f47]
  simp -dsimp [evV, evC, Val.cells]

set_option maxRecDepth 4000 in
set_option maxHeartbeats 4000000 in
theorem refEval_text (int : Int) (text of : List UInt8) (nl : Bool) (args : List Ex) : RefCon sn sc rn row (.mk wText int text of nl args) (.ok ⟨2, 0, text⟩) := by
  unfold RefCon
  rw [Ex.cells_mk]
  refine spec_of Try.func47 rfl (by kernel_rfl) (by simp [Try.f47]) (fun w0 K0 => vc_ok _ _ _ (by kernel_rfl) ?_)
  simp only [Try.f47]
  simp -dsimp [evV, evC, Val.cells]

set_option maxRecDepth 4000 in
set_option maxHeartbeats 8000000 in
theorem refEval_name (hsc : sc.length ≤ 1000000000000) (int : Int) (text of : List UInt8) (nl : Bool) (args : List Ex) (i : Nat) (hi : findC sc of text = .ok i) :
    RefCon sn sc rn row (.mk wName int text of nl args) (colV (sc.getD i default).kind i row) := by
  have hil := findC_lt hi
  have e : sc.getD i default = sc[i] := by simp [List.getD, hil]
  have hf := refFind_spec sn sc of text hsc
  rw [hi] at hf
  simp only [fdI, fdC] at hf
  rw [e]
  unfold RefCon
  rw [Ex.cells_mk]
  refine spec_of Try.func47 rfl (by kernel_rfl) (by simp [Try.f47]) (fun w0 K0 => vc_ok _ _ _ (by kernel_rfl) ?_)
  simp only [Try.f47]
  simp -dsimp
  refine VC.mk _ hf ?_
  simp -dsimp
  refine VL.draw (by kernel_rfl) [(0, false), (0, false), (2, false), (7, true), (15, true), (31, false), (31, false), (127, false), (255, false), (511, false), (31, false), (31, false), (3103, false), (7199, false), (15391, false), (32767, true), (65535, true)] (by kernel_rfl) ?_
  by_cases h1 : i < row.length
  · have j1 : (row.length ≤ i) = False := by simp [h1]
    have er : row.getD ((i : Int).toNat) default = row[i] := by simp [List.getD, h1]
    simp -dsimp [j1, h1, hil, Val.cells, SCol.cells]
    refine VIf.mk (fun h2 => ?_) (fun h2 => ?_)
    · have h3 : ¬ row[i].kind = sc[i].kind := by simpa using h2
      have hc : colV sc[i].kind i row = .no 161 := by
        unfold colV; rw [er, if_neg (fun e => h3 e.2.2)]
      rw [hc]
      simp -dsimp [evV, evC, Val.cells]
    · have h3 : row[i].kind = sc[i].kind := by simpa using h2
      have hc : colV sc[i].kind i row = .ok row[i] := by
        unfold colV; rw [er, if_pos ⟨by omega, by omega, h3⟩]
      rw [hc]
      simp -dsimp [h1, evV, evC, Val.cells]
  · have j1 : (row.length ≤ i) = True := by simp; omega
    have j2 : row[i]? = none := by simp; omega
    have hc : colV sc[i].kind i row = .no 161 := by
      unfold colV; rw [if_neg (fun e => h1 (by omega))]
    rw [hc]
    simp -dsimp [j1, j2, hil, SCol.cells]
    simp -dsimp [evV, evC, Val.cells]

set_option maxRecDepth 4000 in
set_option maxHeartbeats 8000000 in
theorem refEval_bad (op : List UInt8) (h1 : op ≠ wNumber) (h2 : op ≠ wText) (h3 : op ≠ wName) (int : Int) (text of : List UInt8) (nl : Bool) (x : Ex) (rest : List Ex) (c : Int) (hc : c ≠ 0) (hx : RefCon sn sc rn row x (.no c)) :
    RefCon sn sc rn row (.mk op int text of nl (x :: rest)) (.no c) := by
  have e1 : (op = wNumber) = False := by simp [h1]
  have e2 : (op = wText) = False := by simp [h2]
  have e3 : (op = wName) = False := by simp [h3]
  have hc0 : (c != 0) = true := by simpa using hc
  unfold RefCon at hx ⊢
  rw [Ex.cells_mk]
  refine spec_of Try.func47 rfl (by kernel_rfl) (by simp [Try.f47]) (fun w0 K0 => vc_ok _ _ _ (by kernel_rfl) ?_)
  simp only [Try.f47]
  simp -dsimp [e1, e2, e3]
  refine VC.mk _ hx ?_
  simp -dsimp [evV, evC, Val.cells, hc0]

set_option maxRecDepth 4000 in
set_option maxHeartbeats 8000000 in
theorem refEval_not (int : Int) (text of : List UInt8) (nl : Bool) (x : Ex) (a : Val) (hx : RefCon sn sc rn row x (.ok a)) :
    RefCon sn sc rn row (.mk wNOT int text of nl [x]) (.ok (truthV (decide (a.int = 0)))) := by
  have hbe : ∀ x y : Int, (x == y) = decide (x = y) := fun x y => by rw [Bool.eq_iff_iff]; simp
  unfold RefCon at hx ⊢
  rw [Ex.cells_mk]
  refine spec_of Try.func47 rfl (by kernel_rfl) (by simp [Try.f47]) (fun w0 K0 => vc_ok _ _ _ (by kernel_rfl) ?_)
  simp only [Try.f47]
  simp -dsimp
  refine VC.mk _ hx ?_
  simp -dsimp [evV, evC, Val.cells]
  refine VC.mk _ (refTruth_spec _) ?_
  simp -dsimp [truthV, Val.cells, hbe, evV, evC]

set_option maxRecDepth 4000 in
set_option maxHeartbeats 8000000 in
theorem refEval_neg (int : Int) (text of : List UInt8) (nl : Bool) (x : Ex) (a : Val) (ha : fits64 a.int = true) (hx : RefCon sn sc rn row x (.ok a)) :
    RefCon sn sc rn row (.mk wSUB int text of nl [x]) (arithV wSUB 0 a.int) := by
  unfold RefCon at hx ⊢
  rw [Ex.cells_mk]
  refine spec_of Try.func47 rfl (by kernel_rfl) (by simp [Try.f47]) (fun w0 K0 => vc_ok _ _ _ (by kernel_rfl) ?_)
  simp only [Try.f47]
  simp -dsimp
  refine VC.mk _ hx ?_
  simp -dsimp [evV, evC, Val.cells]
  refine VC.mk _ (refNumber_spec wSUB (by simp) 0 a.int (by decide) ha) ?_
  simp -dsimp [evV, evC, Val.cells]
end
end Go.Proofs.Ytkfiiomdkljjnaa
/- Contracts of the document's package 17, part 4: what an expression comes to, in full; whether it holds. -/
set_option linter.unusedSimpArgs false
set_option linter.unusedVariables false
namespace Go.Proofs.Ytkfiiomdkljjnaa
open Go.VL Go.RowKit

theorem two2_ne3 {op : List UInt8} (h : op ∈ two2) : (op = wNumber) = False ∧ (op = wText) = False ∧ (op = wName) = False ∧ (op = wNOT) = False := by
  simp [two2] at h
  rcases h with rfl | rfl | rfl | rfl | rfl | rfl | rfl | rfl | rfl | rfl | rfl <;> simp

section
variable (sn : Bool) (sc : List SCol) (rn : Bool) (row : List Val)
set_option maxRecDepth 4000 in
set_option maxHeartbeats 8000000 in
theorem refEval_bad2 (op : List UInt8) (hop : op ∈ two2) (int : Int) (text of : List UInt8) (nl : Bool) (x y : Ex) (a : Val) (c : Int) (hc : c ≠ 0) (hx : RefCon sn sc rn row x (.ok a)) (hy : RefCon sn sc rn row y (.no c)) :
    RefCon sn sc rn row (.mk op int text of nl [x, y]) (.no c) := by
  obtain ⟨e1, e2, e3, e4⟩ := two2_ne3 hop
  have hc0 : (c != 0) = true := by simpa using hc
  unfold RefCon at hx hy ⊢
  rw [Ex.cells_mk]
  refine spec_of Try.func47 rfl (by kernel_rfl) (by simp [Try.f47]) (fun w0 K0 => vc_ok _ _ _ (by kernel_rfl) ?_)
  simp only [Try.f47]
  simp -dsimp [e1, e2, e3, e4]
  refine VC.mk _ hx ?_
  simp -dsimp [evV, evC, Val.cells, e1, e2, e3, e4]
  refine VC.mk _ hy ?_
  simp -dsimp [evV, evC, Val.cells, hc0]

set_option maxRecDepth 4000 in
set_option maxHeartbeats 32000000 in
theorem refEval_two (op : List UInt8) (hop : op ∈ two2) (int : Int) (text of : List UInt8) (nl : Bool) (x y : Ex) (a b : Val) (ha : fits64 a.int = true) (hb : fits64 b.int = true) (hk : a.kind = b.kind) (hx : RefCon sn sc rn row x (.ok a)) (hy : RefCon sn sc rn row y (.ok b)) :
    RefCon sn sc rn row (.mk op int text of nl [x, y]) (reckonV op a b) := by
  obtain ⟨e1, e2, e3, e4⟩ := two2_ne3 hop
  have hbe : ∀ x y : Int, (x == y) = decide (x = y) := fun x y => by rw [Bool.eq_iff_iff]; simp
  have ho := refOne_spec a b
  rw [cmpV_ord hk] at ho
  unfold RefCon at hx hy ⊢
  rw [Ex.cells_mk]
  refine spec_of Try.func47 rfl (by kernel_rfl) (by simp [Try.f47]) (fun w0 K0 => vc_ok _ _ _ (by kernel_rfl) ?_)
  simp only [Try.f47]
  simp -dsimp [e1, e2, e3, e4]
  refine VC.mk _ hx ?_
  simp -dsimp [evV, evC, Val.cells, e1, e2, e3, e4]
  refine VC.mk _ hy ?_
  simp -dsimp [evV, evC, Val.cells]
  refine VC.mk _ ho ?_
  simp [two2] at hop
  rcases hop with rfl | rfl | rfl | rfl | rfl | rfl | rfl | rfl | hop
  · simp -dsimp
    refine VC.mk _ (refTruth_spec _) ?_
    simp -dsimp [reckonV, truthV, Val.cells]
    simp [evV, evC, hbe, bne, Int.not_lt, Int.not_le]
  · simp -dsimp
    refine VC.mk _ (refTruth_spec _) ?_
    simp -dsimp [reckonV, truthV, Val.cells]
    simp [evV, evC, hbe, bne, Int.not_lt, Int.not_le]
  · simp -dsimp
    refine VC.mk _ (refTruth_spec _) ?_
    simp -dsimp [reckonV, truthV, Val.cells]
    simp [evV, evC, hbe, bne, Int.not_lt, Int.not_le]
  · simp -dsimp
    refine VC.mk _ (refTruth_spec _) ?_
    simp -dsimp [reckonV, truthV, Val.cells]
    simp [evV, evC, hbe, bne, Int.not_lt, Int.not_le]
  · simp -dsimp
    refine VC.mk _ (refTruth_spec _) ?_
    simp -dsimp [reckonV, truthV, Val.cells]
    simp [evV, evC, hbe, bne, Int.not_lt, Int.not_le]
  · simp -dsimp
    refine VC.mk _ (refTruth_spec _) ?_
    simp -dsimp [reckonV, truthV, Val.cells]
    simp [evV, evC, hbe, bne, Int.not_lt, Int.not_le]
  · simp -dsimp
    refine VC.mk _ (refTruth_spec _) ?_
    simp -dsimp [reckonV, truthV, Val.cells]
    simp [evV, evC, hbe, bne, Int.not_lt, Int.not_le]
  · simp -dsimp
    refine VC.mk _ (refTruth_spec _) ?_
    simp -dsimp [reckonV, truthV, Val.cells]
    simp [evV, evC, hbe, bne, Int.not_lt, Int.not_le]
  · have hr : reckonV op a b = arithV op a.int b.int := by rcases hop with rfl | rfl | rfl <;> simp [reckonV]
    rw [hr]
    have hn := refNumber_spec op hop a.int b.int ha hb
    rcases hop with rfl | rfl | rfl
    · simp -dsimp
      refine VC.mk _ hn ?_
      simp -dsimp [Val.cells]
    · simp -dsimp
      refine VC.mk _ hn ?_
      simp -dsimp [Val.cells]
    · simp -dsimp
      refine VC.mk _ hn ?_
      simp -dsimp [Val.cells]
end
end Go.Proofs.Ytkfiiomdkljjnaa
/- Contracts of the document's package 17, part 5: an expression that was bound comes to what its term comes to. -/
set_option linter.unusedSimpArgs false
set_option linter.unusedVariables false
namespace Go.Proofs.Ytkfiiomdkljjnaa
open Go.VL Go.RowKit

theorem kindK_two {op : List UInt8} {x y : Int} (h : (kindK op [x, y]).2 = true) : x = y := by
  unfold kindK at h
  repeat' split at h
  all_goals (simp [allK] at h; try omega)
theorem arithV_kind {op : List UInt8} {a b : Int} {v : Val} (h : arithV op a b = .ok v) : v.kind = 1 := by
  unfold arithV at h
  split at h
  · cases h; rfl
  · cases h
theorem truthV_kind (b : Bool) : (truthV b).kind = 3 := rfl

theorem eval_kind (sc : List SCol) (row : List Val) : ∀ (e : Ex) (t : Tm) (v : Val), bindE sc e = .ok t → evalT row t = .ok v → v.kind = t.kind
  | .mk op int text of nl args, t, v, h, hv => by
    rw [bindE] at h
    split at h
    · cases h; rw [evalT, if_pos rfl] at hv; cases hv; rfl
    · split at h
      · split at h
        · cases h
        · cases h; rw [evalT, if_pos rfl] at hv; cases hv; rfl
      · split at h
        · split at h
          · cases h
            rw [evalT, if_neg (by decide), if_pos rfl] at hv
            unfold colV at hv
            split at hv
            · rename_i hc; cases hv; exact hc.2.2
            · cases hv
          · cases h
        · split at h
          · cases h
          · rename_i ts hts
            split at h
            · rename_i hk
              cases h
              have hkl := kindK_len hk
              rw [List.length_map] at hkl
              show v.kind = (kindK op (ts.map Tm.kind)).1
              match ts, hkl with
              | [], hkl => simp at hkl
              | [x], hkl =>
                have hop : op = wNOT ∨ op = wSUB := by simpa using hkl
                have n1 : op ≠ wValue := by rcases hop with rfl | rfl <;> decide
                have n2 : op ≠ wColumn := by rcases hop with rfl | rfl <;> decide
                rw [evalT, if_neg n1, if_neg n2, evalTs_map] at hv
                simp only [List.map_cons, List.map_nil] at hv
                cases hxe : evalT row x with
                | no c => rw [hxe] at hv; simp only [opV] at hv; cases hv
                | ok a =>
                  rw [hxe] at hv
                  simp only [opV, oneV] at hv
                  rcases hop with rfl | rfl
                  · rw [if_pos rfl] at hv; cases hv; rfl
                  · rw [if_neg (by decide)] at hv; rw [arithV_kind hv]; rfl
              | [x, y], hkl =>
                have hop : op ∈ two2 := by simpa using hkl
                obtain ⟨e1, e2, e3⟩ := two2_ne hop
                rw [evalT, if_neg (by rw [e1]; exact id), if_neg (by rw [e2]; exact id), evalTs_map] at hv
                simp only [List.map_cons, List.map_nil] at hv
                cases hxe : evalT row x with
                | no c => rw [hxe] at hv; simp only [opV] at hv; cases hv
                | ok a =>
                  rw [hxe] at hv
                  cases hye : evalT row y with
                  | no c => rw [hye] at hv; simp only [opV] at hv; rw [if_neg (by rw [e3]; exact id)] at hv; cases hv
                  | ok b =>
                    rw [hye] at hv; simp only [opV] at hv; rw [if_neg (by rw [e3]; exact id)] at hv
                    simp [two2] at hop
                    rcases hop with rfl | rfl | rfl | rfl | rfl | rfl | rfl | rfl | hop
                    · simp [reckonV] at hv; rw [← hv]; rfl
                    · simp [reckonV] at hv; rw [← hv]; rfl
                    · simp [reckonV] at hv; rw [← hv]; rfl
                    · simp [reckonV] at hv; rw [← hv]; rfl
                    · simp [reckonV] at hv; rw [← hv]; rfl
                    · simp [reckonV] at hv; rw [← hv]; rfl
                    · simp [reckonV] at hv; rw [← hv]; rfl
                    · simp [reckonV] at hv; rw [← hv]; rfl
                    · have hr : reckonV op a b = arithV op a.int b.int := by rcases hop with rfl | rfl | rfl <;> simp [reckonV]
                      rw [hr] at hv
                      rw [arithV_kind hv]
                      rcases hop with rfl | rfl | rfl <;> rfl
              | _ :: _ :: _ :: _, hkl => simp at hkl
            · cases h

mutual
theorem refEval_spec (sn : Bool) (sc : List SCol) (hsc : sc.length ≤ 1000000000000) (rn : Bool) (row : List Val) (hrow : VFit row) : ∀ (e : Ex) (t : Tm), e.fit → bindE sc e = .ok t → RefCon sn sc rn row e (evalT row t)
  | .mk op int text of nl args, t, hf, h => by
    have hok := bindE_ok sc (.mk op int text of nl args) t hf h
    rw [Ex.fit] at hf
    have ih := refEval_specs sn sc hsc rn row hrow args
    rw [bindE] at h
    split at h
    · rename_i h1; subst h1; cases h; rw [evalT, if_pos rfl]; exact refEval_number sn sc rn row int text of nl args
    · rename_i h1
      split at h
      · rename_i h2; subst h2
        split at h
        · cases h
        · cases h; rw [evalT, if_pos rfl]; exact refEval_text sn sc rn row int text of nl args
      · rename_i h2
        split at h
        · rename_i h3; subst h3
          split at h
          · rename_i i hi
            cases h
            rw [evalT, if_neg (by decide), if_pos rfl]
            exact refEval_name sn sc rn row hsc int text of nl args i hi
          · cases h
        · rename_i h3
          split at h
          · cases h
          · rename_i ts hts
            split at h
            · rename_i hk
              cases h
              have hkl := kindK_len hk
              rw [List.length_map] at hkl
              have hoks := bindEs_ok sc args ts hf.2.2 hts
              have ih := ih ts hf.2.2 hts
              match args, ts, hts, ih with
              | [], ts, hts, _ => rw [bindEs] at hts; cases hts; simp at hkl
              | [x], ts, hts, ih =>
                obtain ⟨tx, rfl, hbx⟩ : ∃ tx, ts = [tx] ∧ bindE sc x = .ok tx := by
                  rw [bindEs_cons] at hts
                  cases hb : bindE sc x with
                  | no c => rw [hb] at hts; cases hts
                  | ok tx => rw [hb, bindEs] at hts; cases hts; exact ⟨tx, rfl, rfl⟩
                have hop : op = wNOT ∨ op = wSUB := by simpa using hkl
                have n1 : op ≠ wValue := by rcases hop with rfl | rfl <;> decide
                have n2 : op ≠ wColumn := by rcases hop with rfl | rfl <;> decide
                rw [evalT, if_neg n1, if_neg n2, evalTs_map]
                simp only [List.map_cons, List.map_nil]
                have hx := ih.1 x tx rfl hbx
                have hes := eval_spec rn row hrow tx (hoks tx (by simp))
                cases hxe : evalT row tx with
                | no c =>
                  rw [hxe] at hx
                  exact refEval_bad sn sc rn row op h1 h2 h3 int text of nl x [] c (evalT_ne row tx (hoks tx (by simp)) c hxe) hx
                | ok a =>
                  rw [hxe] at hx hes
                  simp only [opV, oneV]
                  rcases hop with rfl | rfl
                  · rw [if_pos rfl]; exact refEval_not sn sc rn row int text of nl x a hx
                  · rw [if_neg (by decide)]; exact refEval_neg sn sc rn row int text of nl x a hes.1 hx
              | [x, y], ts, hts, ih =>
                obtain ⟨tx, ty, rfl, hbx, hby⟩ : ∃ tx ty, ts = [tx, ty] ∧ bindE sc x = .ok tx ∧ bindE sc y = .ok ty := by
                  rw [bindEs_cons] at hts
                  cases hb : bindE sc x with
                  | no c => rw [hb] at hts; cases hts
                  | ok tx =>
                    rw [hb, bindEs_cons] at hts
                    cases hb2 : bindE sc y with
                    | no c => rw [hb2] at hts; cases hts
                    | ok ty => rw [hb2, bindEs] at hts; cases hts; exact ⟨tx, ty, rfl, rfl, rfl⟩
                have hop : op ∈ two2 := by simpa using hkl
                obtain ⟨e1, e2, e3⟩ := two2_ne hop
                rw [evalT, if_neg (by rw [e1]; exact id), if_neg (by rw [e2]; exact id), evalTs_map]
                simp only [List.map_cons, List.map_nil]
                have hx := ih.1 x tx rfl hbx
                have hy := ih.2 y ty rfl hby
                have hox := hoks tx (by simp)
                have hoy := hoks ty (by simp)
                have hesx := eval_spec rn row hrow tx hox
                have hesy := eval_spec rn row hrow ty hoy
                cases hxe : evalT row tx with
                | no c =>
                  rw [hxe] at hx
                  exact refEval_bad sn sc rn row op h1 h2 h3 int text of nl x [y] c (evalT_ne row tx hox c hxe) hx
                | ok a =>
                  rw [hxe] at hx hesx
                  cases hye : evalT row ty with
                  | no c =>
                    rw [hye] at hy
                    simp only [opV]
                    rw [if_neg (by rw [e3]; exact id)]
                    exact refEval_bad2 sn sc rn row op hop int text of nl x y a c (evalT_ne row ty hoy c hye) hx hy
                  | ok b =>
                    rw [hye] at hy hesy
                    simp only [opV]
                    rw [if_neg (by rw [e3]; exact id)]
                    have hkk : tx.kind = ty.kind := kindK_two hk
                    have k1 := eval_kind sc row x tx a hbx hxe
                    have k2 := eval_kind sc row y ty b hby hye
                    exact refEval_two sn sc rn row op hop int text of nl x y a b hesx.1 hesy.1 (by rw [k1, k2, hkk]) hx hy
              | x :: y :: z :: r, ts, hts, _ =>
                exfalso
                rw [bindEs_cons] at hts
                cases hb : bindE sc x with
                | no c => rw [hb] at hts; cases hts
                | ok tx =>
                  rw [hb, bindEs_cons] at hts
                  cases hb2 : bindE sc y with
                  | no c => rw [hb2] at hts; cases hts
                  | ok ty =>
                    rw [hb2, bindEs_cons] at hts
                    cases hb3 : bindE sc z with
                    | no c => rw [hb3] at hts; cases hts
                    | ok tz =>
                      rw [hb3] at hts
                      cases hb4 : bindEs sc r with
                      | no c => rw [hb4] at hts; cases hts
                      | ok tr => rw [hb4] at hts; cases hts; simp at hkl
            · cases h
theorem refEval_specs (sn : Bool) (sc : List SCol) (hsc : sc.length ≤ 1000000000000) (rn : Bool) (row : List Val) (hrow : VFit row) : ∀ (es : List Ex) (ts : List Tm), Ex.fits es → bindEs sc es = .ok ts →
    (match es with
      | x :: y :: _ => (∀ x' t, x' = x → bindE sc x = .ok t → RefCon sn sc rn row x' (evalT row t)) ∧ (∀ y' t, y' = y → bindE sc y = .ok t → RefCon sn sc rn row y' (evalT row t))
      | [x] => (∀ x' t, x' = x → bindE sc x = .ok t → RefCon sn sc rn row x' (evalT row t)) ∧ True
      | [] => True)
  | [], _, _, _ => trivial
  | [x], _, hf, _ => by
    rw [Ex.fits] at hf
    exact ⟨fun x' t e hb => by rw [e]; exact refEval_spec sn sc hsc rn row hrow x t hf.1 hb, trivial⟩
  | x :: y :: r, _, hf, _ => by
    rw [Ex.fits, Ex.fits] at hf
    exact ⟨fun x' t e hb => by rw [e]; exact refEval_spec sn sc hsc rn row hrow x t hf.1 hb, fun x' t e hb => by rw [e]; exact refEval_spec sn sc hsc rn row hrow y t hf.2.1 hb⟩
end

set_option maxRecDepth 4000 in
set_option maxHeartbeats 8000000 in
theorem refHolds_spec (sn : Bool) (sc : List SCol) (hsc : sc.length ≤ 1000000000000) (rn : Bool) (row : List Val) (hrow : VFit row) (e : Ex) (t : Tm) (hf : e.fit) (h : bindE sc e = .ok t) :
    Con Try.prog 61 [.agg e.cells, .c (.sl sn (scols sc)), .c (.sl rn (vals row))] [.c (bln (holds1 row t))] := by
  have hE := refEval_spec sn sc hsc rn row hrow e t hf h
  unfold RefCon at hE
  unfold holds1
  generalize evV (evalT row t) = ev at hE ⊢
  generalize evC (evalT row t) = ec at hE ⊢
  obtain ⟨op, int, text, of, nl, args⟩ := e
  rw [Ex.cells_mk] at hE ⊢
  refine spec_of Try.func61 rfl (by kernel_rfl) (by simp [Try.f61]) (fun w0 K0 => vc_ok _ _ _ (by kernel_rfl) ?_)
  simp only [Try.f61]
  simp -dsimp
  refine VC.mk _ hE ?_
  simp -dsimp [Val.cells]
end Go.Proofs.Ytkfiiomdkljjnaa
