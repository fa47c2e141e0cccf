/- Contracts of functions of the seat, proved in a logic on data over the model (part XB). -/
import Derived.Test.YtlphpbcafplnbaaGreatXA
import Derived.Test.YtlphpbcafplnbaaGreatVF
import Derived.Test.YtlphpbcafplnbaaGreatVH
set_option linter.unusedSimpArgs false
set_option linter.unusedVariables false
namespace Go.Proofs.YtlphpbcafplnbaaGreat
open Go.VL Go.RowKit
set_option maxRecDepth 4000 in
set_option maxHeartbeats 4000000 in
theorem eval_col_out (k : Int) (v : Val) (p : Int) (nl : Bool) (args : List Tm) (rn : Bool) (row : List Val) (hp : ¬ (0 ≤ p ∧ p < row.length)) : ConP Tryz.prog 288 [.agg (Tm.mk wColumn k v p nl args).cells, .c (.sl rn (vals row))] (noneV 161) := by
  rw [Tm.cells_mk]
  refine spec_ofP Tryz.func288 rfl (by kernel_rfl) (by simp [Tryz.f288]) (fun w0 K0 => vx_ok (H := fun n => n == 5) _ _ _ (by kernel_rfl) ?_)
  simp only [Tryz.f288]
  simp -dsimp [Val.cells]
  refine VL.draw (by kernel_rfl) [(0, true), (1, true), (3, true), (7, true), (15, false), (31, false), (15, false), (79, false), (255, true), (511, true), (1023, true), (2047, false), (2047, false), (6143, false), (16383, false), (32767, false), (65535, false), (2047, false), (133119, false), (524287, true), (1048575, true)] (by kernel_rfl) ?_
  by_cases h0 : p < 0
  · have j0 : (p < 0) = True := by simp [h0]
    have j2 : p.toNat = 0 := by omega
    rcases row with _ | ⟨r0, row⟩
    all_goals
      simp -dsimp [j0, j2, Val.cells]
      refine VL.panicAt 1 (by kernel_rfl) ?_
      simp -dsimp
      refine VPN.raise (us := [Value.int .i64 161]) rfl rfl isIface_138 ?_
      simp -dsimp [noneV]
  · have j0 : (p < 0) = False := by simp [h0]
    have j1 : ((row.length : Int) ≤ p) = True := by simp; omega
    have j2 : row[p.toNat]? = none := by simp; omega
    simp -dsimp [j0, j1, j2]
    refine VL.panicAt 1 (by kernel_rfl) ?_
    simp -dsimp
    refine VPN.raise (us := [Value.int .i64 161]) rfl rfl isIface_138 ?_
    simp -dsimp [noneV]
set_option maxRecDepth 4000 in
set_option maxHeartbeats 4000000 in
theorem eval_not (k : Int) (v : Val) (p : Int) (nl : Bool) (x : Tm) (rn : Bool) (row : List Val) (a : Val) (hx : Con Tryz.prog 288 [.agg x.cells, .c (.sl rn (vals row))] [.ag a.cells]) :
    Con Tryz.prog 288 [.agg (Tm.mk wNOT k v p nl [x]).cells, .c (.sl rn (vals row))] [.ag (truthV (decide (a.int = 0))).cells] := by
  have hbe : ∀ x y : Int, (x == y) = decide (x = y) := fun x y => by rw [Bool.eq_iff_iff]; simp
  rw [Tm.cells_mk]
  refine spec_of Tryz.func288 rfl (by kernel_rfl) (by simp [Tryz.f288]) (fun w0 K0 => vc_ok _ _ _ (by kernel_rfl) ?_)
  simp only [Tryz.f288]
  simp -dsimp [Val.cells]
  refine VC.mk _ hx ?_
  simp -dsimp [Val.cells]
  refine VC.mk _ (truth_spec _) ?_
  simp -dsimp [Val.cells, hbe, truthV]
set_option maxRecDepth 4000 in
set_option maxHeartbeats 4000000 in
theorem eval_neg (k : Int) (v : Val) (p : Int) (nl : Bool) (x : Tm) (rn : Bool) (row : List Val) (a : Val) (ha : fits64 a.int = true) (hx : Con Tryz.prog 288 [.agg x.cells, .c (.sl rn (vals row))] [.ag a.cells])
    (b : Val) (hb : arithV wSUB 0 a.int = .ok b) :
    Con Tryz.prog 288 [.agg (Tm.mk wSUB k v p nl [x]).cells, .c (.sl rn (vals row))] [.ag b.cells] := by
  rw [Tm.cells_mk]
  refine spec_of Tryz.func288 rfl (by kernel_rfl) (by simp [Tryz.f288]) (fun w0 K0 => vc_ok _ _ _ (by kernel_rfl) ?_)
  simp only [Tryz.f288]
  simp -dsimp [Val.cells]
  refine VC.mk _ hx ?_
  simp -dsimp [Val.cells]
  refine VC.mk _ (arith_ok wSUB 0 a.int (by decide) ha (by simp) hb) ?_
  simp -dsimp [Val.cells]
set_option maxRecDepth 4000 in
set_option maxHeartbeats 4000000 in
theorem eval_neg_no (k : Int) (v : Val) (p : Int) (nl : Bool) (x : Tm) (rn : Bool) (row : List Val) (a : Val) (ha : fits64 a.int = true) (hx : Con Tryz.prog 288 [.agg x.cells, .c (.sl rn (vals row))] [.ag a.cells])
    (c : Int) (hb : arithV wSUB 0 a.int = .no c) :
    ConP Tryz.prog 288 [.agg (Tm.mk wSUB k v p nl [x]).cells, .c (.sl rn (vals row))] (noneV c) := by
  rw [Tm.cells_mk]
  refine spec_ofP Tryz.func288 rfl (by kernel_rfl) (by simp [Tryz.f288]) (fun w0 K0 => vx_ok (H := fun n => n == 10) _ _ _ (by kernel_rfl) ?_)
  simp only [Tryz.f288]
  simp -dsimp [Val.cells]
  refine VL.panicAt 7 (by kernel_rfl) ?_
  simp -dsimp
  refine VC.mk _ hx ?_
  simp -dsimp [Val.cells]
  refine VPN.call rfl rfl ⟨_, ⟨trivial, trivial, trivial, trivial⟩, arith_no wSUB 0 a.int (by decide) ha (by simp) hb, ?_⟩
  simp -dsimp
set_option maxRecDepth 4000 in
set_option maxHeartbeats 4000000 in
theorem eval_one_no (op : List UInt8) (hop : op = wNOT ∨ op = wSUB) (k : Int) (v : Val) (p : Int) (nl : Bool) (x : Tm) (rn : Bool) (row : List Val) (c : Int) (hx : ConP Tryz.prog 288 [.agg x.cells, .c (.sl rn (vals row))] (noneV c)) :
    ConP Tryz.prog 288 [.agg (Tm.mk op k v p nl [x]).cells, .c (.sl rn (vals row))] (noneV c) := by
  rw [Tm.cells_mk]
  refine spec_ofP Tryz.func288 rfl (by kernel_rfl) (by simp [Tryz.f288]) (fun w0 K0 => vx_ok (H := fun n => n == 8 || n == 10) _ _ _ (by kernel_rfl) ?_)
  simp only [Tryz.f288]
  rcases hop with rfl | rfl
  · simp -dsimp [Val.cells]
    refine VL.panicAt 5 (by kernel_rfl) ?_
    simp -dsimp
    refine VPN.call rfl rfl ⟨_, ⟨trivial, trivial, trivial⟩, hx, ?_⟩
    simp -dsimp
  · simp -dsimp [Val.cells]
    refine VL.panicAt 5 (by kernel_rfl) ?_
    simp -dsimp
    refine VPN.call rfl rfl ⟨_, ⟨trivial, trivial, trivial⟩, hx, ?_⟩
    simp -dsimp
theorem two2_ne {op : List UInt8} (h : op ∈ two2) : (op = wValue) = False ∧ (op = wColumn) = False ∧ (op = wNOT) = False := by
  simp [two2] at h
  rcases h with rfl | rfl | rfl | rfl | rfl | rfl | rfl | rfl | rfl | rfl | rfl <;> simp
set_option maxRecDepth 4000 in
set_option maxHeartbeats 4000000 in
theorem eval_two_no1 (op : List UInt8) (hop : op ∈ two2) (k : Int) (v : Val) (p : Int) (nl : Bool) (x y : Tm) (rn : Bool) (row : List Val) (c : Int) (hx : ConP Tryz.prog 288 [.agg x.cells, .c (.sl rn (vals row))] (noneV c)) :
    ConP Tryz.prog 288 [.agg (Tm.mk op k v p nl [x, y]).cells, .c (.sl rn (vals row))] (noneV c) := by
  obtain ⟨e1, e2, e3⟩ := two2_ne hop
  rw [Tm.cells_mk]
  refine spec_ofP Tryz.func288 rfl (by kernel_rfl) (by simp [Tryz.f288]) (fun w0 K0 => vx_ok (H := fun n => n == 11) _ _ _ (by kernel_rfl) ?_)
  simp only [Tryz.f288]
  simp -dsimp [Val.cells, e1, e2, e3]
  refine VL.panicAt 5 (by kernel_rfl) ?_
  simp -dsimp
  refine VPN.call rfl rfl ⟨_, ⟨trivial, trivial, trivial⟩, hx, ?_⟩
  simp -dsimp
set_option maxRecDepth 4000 in
set_option maxHeartbeats 4000000 in
theorem eval_two_no2 (op : List UInt8) (hop : op ∈ two2) (k : Int) (v : Val) (p : Int) (nl : Bool) (x y : Tm) (rn : Bool) (row : List Val) (a : Val) (c : Int) (hx : Con Tryz.prog 288 [.agg x.cells, .c (.sl rn (vals row))] [.ag a.cells])
    (hy : ConP Tryz.prog 288 [.agg y.cells, .c (.sl rn (vals row))] (noneV c)) :
    ConP Tryz.prog 288 [.agg (Tm.mk op k v p nl [x, y]).cells, .c (.sl rn (vals row))] (noneV c) := by
  obtain ⟨e1, e2, e3⟩ := two2_ne hop
  rw [Tm.cells_mk]
  refine spec_ofP Tryz.func288 rfl (by kernel_rfl) (by simp [Tryz.f288]) (fun w0 K0 => vx_ok (H := fun n => n == 5) _ _ _ (by kernel_rfl) ?_)
  simp only [Tryz.f288]
  simp -dsimp [Val.cells, e1, e2, e3]
  refine VC.mk _ hx ?_
  simp -dsimp [Val.cells]
  refine VL.drawP 8 (by kernel_rfl) [(0, false), (1, false), (0, false), (0, false), (8, false), (24, false), (56, false), (0, false), (248, false), (511, true), (1023, true)] (by kernel_rfl) ?_
  simp -dsimp
  refine VPC.mk rfl rfl rfl hy ?_
  simp -dsimp
set_option maxRecDepth 4000 in
set_option maxHeartbeats 4000000 in
theorem eval_two_no3 (op : List UInt8) (hop : op ∈ two2) (k : Int) (v : Val) (p : Int) (nl : Bool) (x y : Tm) (rn : Bool) (row : List Val) (a b : Val) (c : Int) (ha : fits64 a.int = true) (hb : fits64 b.int = true) (hx : Con Tryz.prog 288 [.agg x.cells, .c (.sl rn (vals row))] [.ag a.cells])
    (hy : Con Tryz.prog 288 [.agg y.cells, .c (.sl rn (vals row))] [.ag b.cells]) (hr : reckonV op a b = .no c) :
    ConP Tryz.prog 288 [.agg (Tm.mk op k v p nl [x, y]).cells, .c (.sl rn (vals row))] (noneV c) := by
  obtain ⟨e1, e2, e3⟩ := two2_ne hop
  rw [Tm.cells_mk]
  refine spec_ofP Tryz.func288 rfl (by kernel_rfl) (by simp [Tryz.f288]) (fun w0 K0 => vx_ok (H := fun n => n == 5) _ _ _ (by kernel_rfl) ?_)
  simp only [Tryz.f288]
  simp -dsimp [Val.cells, e1, e2, e3]
  refine VC.mk _ hx ?_
  simp -dsimp [Val.cells]
  refine VL.drawP 9 (by kernel_rfl) [(0, false), (1, false), (0, false), (0, false), (8, false), (24, false), (56, false), (0, false), (248, false), (511, true), (1023, true)] (by kernel_rfl) ?_
  simp -dsimp
  refine VCE.mk _ hy ?_
  simp -dsimp
  refine VPC.mk rfl rfl rfl (reckon_no op a b c ha hb hop hr) ?_
  simp -dsimp
set_option maxRecDepth 4000 in
set_option maxHeartbeats 4000000 in
theorem eval_two_ok (op : List UInt8) (hop : op ∈ two2) (k : Int) (v : Val) (p : Int) (nl : Bool) (x y : Tm) (rn : Bool) (row : List Val) (a b r : Val) (ha : fits64 a.int = true) (hb : fits64 b.int = true) (hx : Con Tryz.prog 288 [.agg x.cells, .c (.sl rn (vals row))] [.ag a.cells])
    (hy : Con Tryz.prog 288 [.agg y.cells, .c (.sl rn (vals row))] [.ag b.cells]) (hr : reckonV op a b = .ok r) :
    Con Tryz.prog 288 [.agg (Tm.mk op k v p nl [x, y]).cells, .c (.sl rn (vals row))] [.ag r.cells] := by
  obtain ⟨e1, e2, e3⟩ := two2_ne hop
  rw [Tm.cells_mk]
  refine spec_of Tryz.func288 rfl (by kernel_rfl) (by simp [Tryz.f288]) (fun w0 K0 => vc_ok _ _ _ (by kernel_rfl) ?_)
  simp only [Tryz.f288]
  simp -dsimp [Val.cells, e1, e2, e3]
  refine VC.mk _ hx ?_
  simp -dsimp [Val.cells]
  refine VL.draw (by kernel_rfl) [(0, false), (1, false), (0, false), (0, false), (8, false), (24, false), (56, false), (0, false), (248, false), (511, true), (1023, true)] (by kernel_rfl) ?_
  simp -dsimp
  refine VCE.mk _ hy ?_
  simp -dsimp
  refine VC.mk _ (reckon_ok op a b r ha hb hop hr) ?_
  simp -dsimp [Val.cells]
theorem truthV_fits (b : Bool) : fits64 (truthV b).int = true := by cases b <;> rfl
theorem arithV_fits {op : List UInt8} {a b : Int} {v : Val} (h : arithV op a b = .ok v) : fits64 v.int = true := by
  unfold arithV at h
  split at h
  · rename_i e; cases h; exact e
  · cases h
theorem reckonV_fits {op : List UInt8} {a b v : Val} (h : reckonV op a b = .ok v) : fits64 v.int = true := by
  unfold reckonV at h
  repeat' split at h
  all_goals first | (cases h; exact truthV_fits _) | exact arithV_fits h
theorem eval_spec (rn : Bool) (row : List Val) (hrow : ∀ v ∈ row, fits64 v.int = true) : ∀ (t : Tm), t.Ok →
    match evalT row t with
    | .ok v => fits64 v.int = true ∧ Con Tryz.prog 288 [.agg t.cells, .c (.sl rn (vals row))] [.ag v.cells]
    | .no c => ConP Tryz.prog 288 [.agg t.cells, .c (.sl rn (vals row))] (noneV c) := by
  intro t h
  induction h with
  | value kind v place nl args hv =>
    rw [evalT, if_pos rfl]
    exact ⟨hv, eval_value kind v place nl args rn row⟩
  | column kind v place nl args =>
    rw [evalT, if_neg (by decide), if_pos rfl]
    unfold colV
    by_cases h1 : 0 ≤ place ∧ place < row.length
    · by_cases h2 : (row.getD place.toNat default).kind = kind
      · rw [if_pos ⟨h1.1, h1.2, h2⟩]
        refine ⟨?_, eval_col_ok kind v place nl args rn row h1 h2⟩
        have hl : place.toNat < row.length := by omega
        have : row.getD place.toNat default = row[place.toNat] := by simp [List.getD, hl]
        rw [this]
        exact hrow _ (List.getElem_mem hl)
      · rw [if_neg (fun e => h2 e.2.2)]
        exact eval_col_kind kind v place nl args rn row h1 h2
    · rw [if_neg (fun e => h1 ⟨e.1, e.2.1⟩)]
      exact eval_col_out kind v place nl args rn row h1
  | one op kind v place nl x hop hx ih =>
    have n1 : op ≠ wValue := by rcases hop with rfl | rfl <;> decide
    have n2 : op ≠ wColumn := by rcases hop with rfl | rfl <;> decide
    rw [evalT, if_neg n1, if_neg n2, evalTs_map]
    simp only [List.map_cons, List.map_nil]
    cases hxe : evalT row x with
    | no c =>
      rw [hxe] at ih
      exact eval_one_no op hop kind v place nl x rn row c ih
    | ok a =>
      rw [hxe] at ih
      obtain ⟨ha, hc⟩ := ih
      simp only [opV]
      rcases hop with rfl | rfl
      · simp only [oneV, if_pos]
        exact ⟨truthV_fits _, eval_not kind v place nl x rn row a hc⟩
      · rw [oneV, if_neg (by decide)]
        cases hr : arithV wSUB 0 a.int with
        | ok b => exact ⟨arithV_fits hr, eval_neg kind v place nl x rn row a ha hc b hr⟩
        | no c => exact eval_neg_no kind v place nl x rn row a ha hc c hr
  | two op kind v place nl x y hop hx hy ih1 ih2 =>
    obtain ⟨e1, e2, e3⟩ := two2_ne hop
    rw [evalT, if_neg (by rw [e1]; exact id), if_neg (by rw [e2]; exact id), evalTs_map]
    simp only [List.map_cons, List.map_nil]
    cases hxe : evalT row x with
    | no c =>
      rw [hxe] at ih1
      exact eval_two_no1 op hop kind v place nl x y rn row c ih1
    | ok a =>
      rw [hxe] at ih1
      cases hye : evalT row y with
      | no c =>
        rw [hye] at ih2
        simp only [opV]
        rw [if_neg (by rw [e3]; exact id)]
        exact eval_two_no2 op hop kind v place nl x y rn row a c ih1.2 ih2
      | ok b =>
        rw [hye] at ih2
        simp only [opV]
        rw [if_neg (by rw [e3]; exact id)]
        cases hr : reckonV op a b with
        | ok r => exact ⟨reckonV_fits hr, eval_two_ok op hop kind v place nl x y rn row a b r ih1.1 ih2.1 ih1.2 ih2.2 hr⟩
        | no c => exact eval_two_no3 op hop kind v place nl x y rn row a b c ih1.1 ih2.1 ih1.2 ih2.2 hr
end Go.Proofs.YtlphpbcafplnbaaGreat
set_option linter.unusedSimpArgs false
set_option linter.unusedVariables false
namespace Go.Proofs.YtlphpbcafplnbaaGreat
open Go.VL Go.RowKit
def evB (v : Val) (c : Int) : List (Nat × Res) := [(1, .box false [.c (i64 v.kind), .c (i64 v.int), .c (str v.text)]), (2, .box false [.c (i64 c)])]
theorem assert_nil (w : World) : ∃ u6, (Instr.typeAssert .nilIface 20 395 true).run Tryz.prog w = .ok u6 w ∧ ∀ (g : G) R, SR g w R (.tup [.agg [i64 0], .c (bln false)]) u6 := by
  refine ⟨.tuple #[.agg #[.int .i64 0], .bool false], ?_, fun g R => ?_⟩
  · kernel_rfl
  · simp only [SR, SRs]
    refine ⟨_, rfl, _, _, rfl, ⟨_, rfl, ?_⟩, _, _, rfl, ?_, rfl⟩
    · simp only [VR]
      exact ⟨_, _, rfl, by rw [CR]; exact ⟨rfl, rfl⟩, rfl⟩
    · rw [CR]; exact ⟨rfl, rfl⟩
theorem assert_none (c : Int) (w : World) : ∃ u6, (Instr.typeAssert (noneV c) 20 395 true).run Tryz.prog w = .ok u6 w ∧ ∀ (g : G) R, SR g w R (.tup [.agg [i64 c], .c (bln true)]) u6 := by
  refine ⟨.tuple #[.agg #[.int .i64 c], .bool true], ?_, fun g R => ?_⟩
  · kernel_rfl
  · simp only [SR, SRs]
    refine ⟨_, rfl, _, _, rfl, ⟨_, rfl, ?_⟩, _, _, rfl, ?_, rfl⟩
    · simp only [VR]
      exact ⟨_, _, rfl, by rw [CR]; exact ⟨rfl, rfl⟩, rfl⟩
    · rw [CR]; exact ⟨rfl, rfl⟩
set_option maxRecDepth 4000 in
set_option maxHeartbeats 4000000 in
theorem evalD_idle (v : Val) (c : Int) : ConD Tryz.prog 287 [.ptr 1 0, .ptr 2 0] (evB v c) .returning .returning [.ptr 1 0, .ptr 2 0] (evB v c) := by
  refine spec_ofRec 1000 (fn := Tryz.f287) (s6 := .tup [.agg [i64 0], .c (bln false)]) Tryz.func287 rfl rfl (by simp [Tryz.f287]) (by simp [Tryz.f287]) (by simp [Tryz.f287]) (by kernel_rfl) (by simp [evB]) rfl .idle rfl assert_nil (fun w0 K0 uf => ?_)
  simp only [Tryz.f287]
  simp -dsimp [evB]
  refine vc_ok _ _ _ (by kernel_rfl) ?_
  simp -dsimp [endD]
set_option maxRecDepth 4000 in
set_option maxHeartbeats 4000000 in
theorem evalD_panic (v : Val) (c0 c : Int) : ConD Tryz.prog 287 [.ptr 1 0, .ptr 2 0] (evB v c0) (.panicking (chainOf (noneV c))) (.panicking [{ v := noneV c, recovered := true }]) [.ptr 1 0, .ptr 2 0] (evB ⟨0, 0, []⟩ c) := by
  refine spec_ofRec 1000 (fn := Tryz.f287) (s6 := .tup [.agg [i64 c], .c (bln true)]) Tryz.func287 rfl rfl (by simp [Tryz.f287]) (by simp [Tryz.f287]) (by simp [Tryz.f287]) (by kernel_rfl) (by simp [evB]) rfl (.panic _) rfl (assert_none c) (fun w0 K0 uf => ?_)
  simp only [Tryz.f287]
  simp -dsimp [evB]
  refine vc_ok _ _ _ (by kernel_rfl) ?_
  simp -dsimp [endD]
  refine VL.draw (by kernel_rfl) [(0, false), (0, false), (2, false), (1, false), (15, true)] (by kernel_rfl) ?_
  simp -dsimp [endD]
end Go.Proofs.YtlphpbcafplnbaaGreat
set_option linter.unusedSimpArgs false
set_option linter.unusedVariables false
namespace Go.Proofs.YtlphpbcafplnbaaGreat
open Go.VL Go.RowKit
def evV : Ev → Val
  | .ok v => v
  | .no _ => ⟨0, 0, []⟩
def evC : Ev → Int
  | .ok _ => 0
  | .no c => c
set_option maxRecDepth 4000 in
set_option maxHeartbeats 4000000 in
theorem Eval_ok (t : Tm) (rn : Bool) (row : List Val) (v : Val) (h : Con Tryz.prog 288 [.agg t.cells, .c (.sl rn (vals row))] [.ag v.cells]) :
    Con Tryz.prog 286 [.agg t.cells, .c (.sl rn (vals row))] [.ag v.cells, .c (i64 0)] := by
  obtain ⟨op, kind, tv, place, nl, args⟩ := t
  rw [Tm.cells_mk] at h ⊢
  refine spec_ofDefer 1000 (fn := Tryz.f286) (fc := 287) (x := 6) (caps := [.tmp 4, .tmp 5]) Tryz.func286 rfl (by kernel_rfl) (by kernel_rfl) (by simp [Tryz.f286]) (by simp [Tryz.f286]) (fun w0 K0 => vc_ok _ _ _ (by kernel_rfl) ?_)
  simp only [Tryz.f286]
  simp -dsimp
  simp only [deferQ]
  refine ⟨by simp, fun w0 K0 uf => vc_ok _ _ _ (by kernel_rfl) ?_⟩
  simp -dsimp
  refine VC.mk _ h ?_
  simp -dsimp [Val.cells]
  simp only [leaveQ]
  refine ⟨[.ptr 256 0, .ptr 320 0], evB v 0, evB v 0, [.ptr 1 0, .ptr 2 0], [.ptr 1 0, .ptr 2 0], fun i => if i = 1 then 256 else 320, [], .returning, rfl, by simp, ⟨evalD_idle v 0, by simp, by simp [evB], by simp [evB], by simp [evB], by simp [evB, Res.nam, S.nams, S.nam], ?_⟩, settle_idle, ?_⟩
  · simp [evB, lk, vlook, keptP]
  · simp -dsimp [evB]
set_option maxRecDepth 4000 in
set_option maxHeartbeats 4000000 in
theorem Eval_no (t : Tm) (rn : Bool) (row : List Val) (c : Int) (h : ConP Tryz.prog 288 [.agg t.cells, .c (.sl rn (vals row))] (noneV c)) :
    Con Tryz.prog 286 [.agg t.cells, .c (.sl rn (vals row))] [.ag (⟨0, 0, []⟩ : Val).cells, .c (i64 c)] := by
  obtain ⟨op, kind, tv, place, nl, args⟩ := t
  rw [Tm.cells_mk] at h ⊢
  refine spec_ofDefer 1000 (fn := Tryz.f286) (fc := 287) (x := 6) (caps := [.tmp 4, .tmp 5]) Tryz.func286 rfl (by kernel_rfl) (by kernel_rfl) (by simp [Tryz.f286]) (by simp [Tryz.f286]) (fun w0 K0 => vc_ok _ _ _ (by kernel_rfl) ?_)
  simp only [Tryz.f286]
  simp -dsimp
  simp only [deferQ]
  refine ⟨by simp, fun w0 K0 uf => vx_ok (H := fun n => n == 2) _ _ _ (by kernel_rfl) ?_⟩
  simp -dsimp
  refine VL.panicAt 2 (by kernel_rfl) ?_
  simp -dsimp
  refine VPN.call rfl rfl ⟨_, ⟨trivial, trivial, trivial⟩, h, ?_⟩
  simp -dsimp
  simp only [leaveQ]
  refine ⟨[.ptr 256 0, .ptr 320 0], evB ⟨0, 0, []⟩ 0, evB ⟨0, 0, []⟩ c, [.ptr 1 0, .ptr 2 0], [.ptr 1 0, .ptr 2 0], fun i => if i = 1 then 256 else 320, [], .panicking [{ v := noneV c, recovered := true }], rfl, by simp, ⟨evalD_panic ⟨0, 0, []⟩ 0 c, by simp, by simp [evB], by simp [evB], by simp [evB], by simp [evB, Res.nam, S.nams, S.nam], ?_⟩, settle_panic _, ?_⟩
  · simp [evB, lk, vlook, keptP]
  · simp -dsimp [evB, Val.cells]
theorem Eval_spec (t : Tm) (ht : t.Ok) (rn : Bool) (row : List Val) (hrow : ∀ v ∈ row, fits64 v.int = true) :
    Con Tryz.prog 286 [.agg t.cells, .c (.sl rn (vals row))] [.ag (evV (evalT row t)).cells, .c (i64 (evC (evalT row t)))] := by
  have h := eval_spec rn row hrow t ht
  cases e : evalT row t with
  | ok v => rw [e] at h; exact Eval_ok t rn row v h.2
  | no c => rw [e] at h; exact Eval_no t rn row c h
end Go.Proofs.YtlphpbcafplnbaaGreat
