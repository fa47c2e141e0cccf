/- Contracts of functions of the seat, proved in a logic on data over the model (part PB). -/
import Derived.Test.YtlphpbcafplnbaaGreatPA
import Derived.Test.YtlphpbcafplnbaaGreatGA
set_option linter.unusedSimpArgs false
set_option linter.unusedVariables false
namespace Go.Proofs.YtlphpbcafplnbaaGreat
open Go.VL Go.RowKit
structure SortsJ : Prop where
  con : ∀ l : List Int, l.length ≤ 140737488355328 → ConB Tryz.prog 146 [.own 1 l.length] (rowI 1 l) [] [.own 1 l.length] (rowI 1 (sortI l))
  nil : Con Tryz.prog 146 [.c (.sl true [])] []
  cmp : ∀ l : List Int, l.length ≤ 140737488355328 → ConB Tryz.prog 147 [.own 1 l.length] (rowI 1 l) [.own 1 (Go.Lib.compact l).length] [if (Go.Lib.compact l).length = l.length then .own 1 l.length else .un] (rowI 1 (Go.Lib.compact l))
  cnil : Con Tryz.prog 147 [.c (.sl true [])] [.c (.sl true [])]
mutual
def colsT : Tm → List Int
  | .mk op _ _ place _ args => Go.Lib.compact (sortI ((if op = wColumn then [place] else []) ++ colsTs args))
def colsTs : List Tm → List Int
  | [] => []
  | t :: r => colsT t ++ colsTs r
end
mutual
def Tm.Bd (m : Nat) : Tm → Prop
  | .mk op _ _ place nl args => (op = wColumn → 0 ≤ place ∧ place < m) ∧ args.length ≤ 2 ∧ (nl = true → args = []) ∧ Tm.Bds m args
def Tm.Bds (m : Nat) : List Tm → Prop
  | [] => True
  | t :: r => Tm.Bd m t ∧ Tm.Bds m r
end
theorem Tm.Bds_mem (m : Nat) : ∀ (l : List Tm), Tm.Bds m l → ∀ t ∈ l, t.Bd m
  | [], _, t, h => by cases h
  | x :: r, h, t, ht => by
    rw [Tm.Bds] at h
    rcases List.mem_cons.1 ht with rfl | ht
    · exact h.1
    · exact Tm.Bds_mem m r h.2 t ht
theorem colsTs_snoc : ∀ (l : List Tm) (t : Tm), colsTs (l ++ [t]) = colsTs l ++ colsT t
  | [], t => by simp [colsTs]
  | x :: r, t => by rw [List.cons_append, colsTs, colsTs, colsTs_snoc r t, List.append_assoc]
theorem Rise.le : ∀ (l : List Int) (a b : Int), Rise l → (∀ x ∈ l, a ≤ x ∧ x < b) → l.length ≤ (b - a).toNat
  | [], _, _, _, _ => by simp
  | x :: r, a, b, h, hx => by
    obtain ⟨h1, h2⟩ := List.pairwise_cons.1 h
    have := Rise.le r (x + 1) b h2 (fun y hy => ⟨by have := h1 y hy; omega, (hx y (by simp [hy])).2⟩)
    have := hx x (by simp)
    rw [List.length_cons]
    omega
mutual
theorem colsT_in (m : Nat) : ∀ (t : Tm), t.Bd m → Rise (colsT t) ∧ ∀ x ∈ colsT t, 0 ≤ x ∧ x < m
  | .mk op k v place nl args, h => by
    rw [Tm.Bd] at h
    rw [colsT]
    obtain ⟨c1, c2⟩ := compact_ok (sortI ((if op = wColumn then [place] else []) ++ colsTs args)) (sortI_sorted _)
    refine ⟨c1, fun x hx => ?_⟩
    have hx := (sortI_perm _).mem_iff.1 ((c2 x).1 hx)
    rcases List.mem_append.1 hx with hx | hx
    · by_cases e : op = wColumn
      · rw [if_pos e] at hx
        simp at hx
        rw [hx]
        exact h.1 e
      · rw [if_neg e] at hx; cases hx
    · exact colsTs_in m args h.2.2.2 x hx
theorem colsTs_in (m : Nat) : ∀ (l : List Tm), Tm.Bds m l → ∀ x ∈ colsTs l, 0 ≤ x ∧ x < m
  | [], _, x, h => by rw [colsTs] at h; cases h
  | t :: r, h, x, hx => by
    rw [Tm.Bds] at h
    rw [colsTs] at hx
    rcases List.mem_append.1 hx with hx | hx
    · exact (colsT_in m t h.1).2 x hx
    · exact colsTs_in m r h.2 x hx
end
theorem colsT_le (m : Nat) (t : Tm) (h : t.Bd m) : (colsT t).length ≤ m := by
  obtain ⟨h1, h2⟩ := colsT_in m t h
  have := Rise.le _ 0 m h1 h2
  omega
theorem colsTs_le (m : Nat) : ∀ (l : List Tm), Tm.Bds m l → (colsTs l).length ≤ l.length * m
  | [], _ => by simp [colsTs]
  | t :: r, h => by
    rw [Tm.Bds] at h
    have h1 := colsT_le m t h.1
    have h2 := colsTs_le m r h.2
    rw [colsTs, List.length_append, List.length_cons, Nat.add_mul]
    omega
def ColsCon (t : Tm) : Prop := Con Tryz.prog 125 [.agg t.cells] [.c (.sl (colsT t).isEmpty (ints (colsT t)))]
def outC (op : List UInt8) (place : Int) (args : List Tm) (k : Nat) : List Int := (if op = wColumn then [place] else []) ++ colsTs (args.take k)
theorem outC_snoc (op : List UInt8) (place : Int) (args : List Tm) {k : Nat} (h : k < args.length) : outC op place args (k + 1) = outC op place args k ++ colsT args[k] := by
  unfold outC
  rw [take_snoc h, colsTs_snoc, List.append_assoc]
set_option maxRecDepth 4000 in
set_option maxHeartbeats 16000000 in
theorem cols_step (hi : SortsJ) (m : Nat) (hm : m ≤ 1000000) (op : List UInt8) (kd : Int) (v : Val) (place : Int) (nl : Bool) (args : List Tm) (h : (Tm.mk op kd v place nl args).Bd m) (ih : ∀ a ∈ args, ColsCon a) : ColsCon (.mk op kd v place nl args) := by
  unfold ColsCon
  refine Con.frz (rs := [.fr (colsT (Tm.mk op kd v place nl args)).isEmpty (ez (colsT (Tm.mk op kd v place nl args))) (ints (colsT (Tm.mk op kd v place nl args))) 0]) ?_ 0 rfl
  refine spec_of Tryz.func125 rfl (by kernel_rfl) (by simp [Tryz.f125]) (fun w0 K0 => vc_ok _ _ _ (by kernel_rfl) ?_)
  simp only [Tryz.f125]
  rw [Tm.Bd] at h
  obtain ⟨_, hal, _, hbs⟩ := h
  have hle : ∀ k, (outC op place args k).length ≤ 1 + 2 * m := by
    intro k
    have hbt : Tm.Bds m (args.take k) := by
      have : ∀ (l : List Tm) (k : Nat), Tm.Bds m l → Tm.Bds m (l.take k) := by
        intro l
        induction l with
        | nil => intro k h; simpa using h
        | cons t r ih2 =>
          intro k h
          cases k with
          | zero => simp [Tm.Bds]
          | succ k =>
            rw [Tm.Bds] at h
            rw [List.take_succ_cons, Tm.Bds]
            exact ⟨h.1, ih2 k h.2⟩
      exact this args k hbs
    have h1 := colsTs_le m _ hbt
    have h2 : (args.take k).length ≤ 2 := by rw [List.length_take]; omega
    have h3 : (args.take k).length * m ≤ 2 * m := Nat.mul_le_mul_right _ h2
    unfold outC
    rw [List.length_append]
    split <;> simp <;> omega
  have hce : colsT (Tm.mk op kd v place nl args) = Go.Lib.compact (sortI (outC op place args args.length)) := by
    rw [colsT]; unfold outC; rw [List.take_length]
  rw [hce]
  simp -dsimp [Tm.cells_mk]
  refine VIf.mk (fun g => ?_) (fun g => ?_)
  all_goals
    simp -dsimp [maxLen]
    refine VL.loop (fun i : LI => ⟨[(17, .c (i64 i.k)), (16, .c (i64 args.length)), (15, .c (.sl nl (terms args))), (3, .own 192 (outC op place args i.k).length)],
        [(192, some (.arr i.nl i.sz (ints (outC op place args i.k)) 0))]⟩)
      (fun i => i.k ≤ args.length ∧ i.nl = (outC op place args i.k).isEmpty ∧ (i.nl = false → i.sz = 1)) (fun i => args.length - i.k) ⟨0, (outC op place args 0).isEmpty, ez (outC op place args 0)⟩ (by kernel_rfl) ⟨by simp, rfl, fun e => by simp only at e; unfold ez; rw [e]; rfl⟩ (by simp at g; simp [St.le, outC, g, colsTs, ez, ints]) ?_
    intro ⟨k, z, sz⟩ ⟨hk, hz, hsz⟩
    simp only at hk hz hsz
    have hlk := hle k
    by_cases h1 : k < args.length
    · have hw : IntKind.i64.wrap ((k : Int) + 1) = (k : Int) + 1 := IntWalk.i64_in _ (by omega)
      have hsn := outC_snoc op place args h1
      have hik := ih _ (List.getElem_mem h1)
      have hck := colsT_le m _ (Tm.Bds_mem m args hbs _ (List.getElem_mem h1))
      unfold ColsCon at hik
      obtain ⟨op', kd', v', pl', nl', args', ht⟩ : ∃ op kd v pl nl az, args[k] = Tm.mk op kd v pl nl az := by
        cases args[k]; exact ⟨_, _, _, _, _, _, rfl⟩
      have hcell : (terms args)[k]'(by simpa using h1) = [str op', i64 kd', i64 v'.kind, i64 v'.int, str v'.text, i64 pl', .sl nl' (args'.map Tm.cells)] := by
        simp [ht, Tm.cells_mk]
      rw [show args[k].cells = [str op', i64 kd', i64 v'.kind, i64 v'.int, str v'.text, i64 pl', .sl nl' (args'.map Tm.cells)] from by rw [ht, Tm.cells_mk]] at hik
      generalize colsT args[k] = ck at *
      generalize outC op place args k = out at *
      simp -dsimp [h1, hcell]
      refine VC.mk _ hik ?_
      simp -dsimp [hw]
      refine ⟨hsz, by simp [ints], by omega, ⟨k + 1, z && ck.isEmpty, 1⟩, ⟨by simp only; omega, by simp only; rw [hsn, hz]; cases out <;> simp, fun _ => rfl⟩, ?_, by simp only; omega⟩
      have hie : (ints ck).isEmpty = ck.isEmpty := by cases ck <;> rfl
      simp [St.le, hsn, hz, hie]
    · obtain rfl : k = args.length := by omega
      generalize outC op place args args.length = out at *
      rcases List.eq_nil_or_concat out with rfl | ⟨ini, q, hq⟩
      · obtain rfl : z = true := hz
        have e : sortI [] = [] := by simp [sortI]
        have e2 : Go.Lib.compact (sortI []) = [] := by rw [e]; rfl
        rw [e2]
        simp -dsimp
        refine VCL.snap ?_
        simp -dsimp
        refine VC.mk _ hi.nil ?_
        simp -dsimp
        refine VCL.snap ?_
        simp -dsimp
        refine VC.mk _ hi.cnil ?_
        simp -dsimp [ez]
      · have hne : out.isEmpty = false := by rw [hq]; simp
        have hnl2 : z = false := by rw [hz, hne]
        have hsz2 : sz = 1 := hsz hnl2
        subst hnl2 hsz2
        have hcne : (Go.Lib.compact (sortI out)).isEmpty = false := by
          have hm := (compact_ok (sortI out) (sortI_sorted out)).2 q
          have : q ∈ Go.Lib.compact (sortI out) := hm.2 ((sortI_perm out).mem_iff.2 (by rw [hq]; simp))
          rw [List.isEmpty_eq_false_iff]
          intro e; rw [e] at this; simp at this
        clear hq hz hsz
        have hcs := hi.con out (by omega)
        have hlen := sortI_len out
        have hcc := hi.cmp (sortI out) (by omega)
        generalize sortI out = so at *
        have hcl := compact_len so
        generalize Go.Lib.compact so = co at *
        simp -dsimp
        refine VCL.lend (rowI 1 out) (rowI 1 so) [.own 1 out.length] _ _ (fun _ => 192) [] ⟨hcs, ?_, ?_, ?_, ?_, ?_, ?_, ?_⟩ ?_
        · simp [renSs, renS]
        · simp [rowI, renR]
        · simp [rowI]
        · simp [rowI]
        · simp [rowI, Res.nam]
        · simp [S.nams]
        · simp [rowI, lk, keptP]
          exact ⟨1, _, ⟨rfl, rfl⟩, _, ⟨rfl, rfl⟩, by simp, by simp [hlen]⟩
        simp -dsimp [rowI, retS, renSs]
        refine VCL.lend (rowI 1 so) (rowI 1 co) [.own 1 so.length] _ _ (fun _ => 192) [192] ⟨hcc, ?_, ?_, ?_, ?_, ?_, ?_, ?_⟩ ?_
        · simp [renSs, renS, hlen]
        · simp [rowI, renR]
        · simp [rowI]
        · simp [rowI]
        · simp [rowI, Res.nam]
        · simp [rowI, S.nams, S.nam]
        · simp [rowI]
        simp -dsimp [rowI, retS, renSs, renS]
        have hc2 : co ≠ [] := List.isEmpty_eq_false_iff.1 hcne
        simp [ez, hcne, hc2]
mutual
theorem cols_all (hi : SortsJ) (m : Nat) (hm : m ≤ 1000000) : ∀ (t : Tm), t.Bd m → ColsCon t
  | .mk op kd v place nl args, h => cols_step hi m hm op kd v place nl args h (cols_alls hi m hm args (by rw [Tm.Bd] at h; exact h.2.2.2))
theorem cols_alls (hi : SortsJ) (m : Nat) (hm : m ≤ 1000000) : ∀ (l : List Tm), Tm.Bds m l → ∀ a ∈ l, ColsCon a
  | [], _, a, h => by cases h
  | t :: r, hb, a, h => by
    rw [Tm.Bds] at hb
    rcases List.mem_cons.1 h with e | h
    · rw [e]; exact cols_all hi m hm t hb.1
    · exact cols_alls hi m hm r hb.2 a h
end
end Go.Proofs.YtlphpbcafplnbaaGreat
set_option linter.unusedSimpArgs false
set_option linter.unusedVariables false
namespace Go.Proofs.YtlphpbcafplnbaaGreat
open Go.VL Go.RowKit
mutual
def moveT (d : Int) : Tm → Tm
  | .mk op kd v place _ args => .mk op kd v (if op = wColumn then IntKind.i64.wrap (place + d) else place) args.isEmpty (moveTs d args)
def moveTs (d : Int) : List Tm → List Tm
  | [] => []
  | t :: r => moveT d t :: moveTs d r
end
theorem moveTs_map (d : Int) : ∀ l, moveTs d l = l.map (moveT d)
  | [] => by rw [moveTs]; rfl
  | t :: r => by rw [moveTs, moveTs_map d r]; rfl
def MoveCon (d : Int) (t : Tm) : Prop := Con Tryz.prog 126 [.agg t.cells, .c (i64 d)] [.ag (moveT d t).cells]
set_option maxRecDepth 4000 in
set_option maxHeartbeats 16000000 in
theorem move_step (d : Int) (op : List UInt8) (kd : Int) (v : Val) (place : Int) (nl : Bool) (args : List Tm) (hal : args.length ≤ 2) (ih : ∀ a ∈ args, MoveCon d a) : MoveCon d (.mk op kd v place nl args) := by
  unfold MoveCon
  rw [Tm.cells_mk, moveT, moveTs_map]
  refine spec_of Tryz.func126 rfl (by kernel_rfl) (by simp [Tryz.f126]) (fun w0 K0 => vc_ok _ _ _ (by kernel_rfl) ?_)
  simp only [Tryz.f126]
  obtain ⟨pl, hpl⟩ : ∃ pl, pl = if op = wColumn then IntKind.i64.wrap (place + d) else place := ⟨_, rfl⟩
  rw [← hpl]
  simp -dsimp
  refine VIf.mk (fun g => ?_) (fun g => ?_)
  all_goals
    simp -dsimp
    simp only [decide_eq_true_eq, decide_eq_false_iff_not] at g
    first | rw [if_pos g] at hpl | rw [if_neg g] at hpl
    rw [← hpl]
    refine VL.nilcell 320 6 10000 (by decide) ?_
    simp -dsimp
    refine VL.loop (fun i : BI => ⟨[(21, .c (i64 i.k)), (20, .c (i64 args.length)), (19, .c (.sl nl (terms args))), (5, .ptr 320 0), (4, .ptr 256 0), (1, .c (i64 d))],
        [(320, some (.box false [.c (str op), .c (i64 kd), .c (i64 v.kind), .c (i64 v.int), .c (str v.text), .c (i64 pl), .own 10000 i.ts.length])), (10000, some (.arr i.nl i.sz (terms i.ts) 0)),
          (256, some (.box false [.c (str []), .c (i64 0), .c (i64 0), .c (i64 0), .c (str []), .c (i64 0), .own 263 0])), (263, some (.arr true 0 [] 0))]⟩)
      (fun i => i.k ≤ args.length ∧ i.nl = (args.take i.k).isEmpty ∧ (i.nl = false → i.sz = 7) ∧ i.ts = (args.take i.k).map (moveT d) ∧ i.ts.length = i.k) (fun i => args.length - i.k) ⟨0, true, 0, []⟩ (by kernel_rfl) ⟨by simp, rfl, fun e => by (cases e), rfl, rfl⟩ (by simp [St.le]) ?_
    intro ⟨k, z, sz, ts⟩ ⟨hk, hz, hsz, hts, htl⟩
    simp only at hk hz hsz hts htl
    by_cases h1 : k < args.length
    · have hw : IntKind.i64.wrap ((k : Int) + 1) = (k : Int) + 1 := IntWalk.i64_in _ (by omega)
      have hik := ih _ (List.getElem_mem h1)
      have hsn : (args.take (k + 1)).map (moveT d) = (args.take k).map (moveT d) ++ [moveT d args[k]] := by rw [take_snoc h1, List.map_append]; rfl
      have hse : (args.take (k + 1)).isEmpty = false := by rw [take_snoc h1]; cases args.take k <;> rfl
      have hml : (args.take k).length = k := by rw [List.length_take]; omega
      unfold MoveCon at hik
      obtain ⟨op', kd', v', pl', nl', args', ht⟩ : ∃ op kd v pl nl az, args[k] = Tm.mk op kd v pl nl az := by
        cases args[k]; exact ⟨_, _, _, _, _, _, rfl⟩
      have hcell : (terms args)[k]'(by simpa using h1) = [str op', i64 kd', i64 v'.kind, i64 v'.int, str v'.text, i64 pl', .sl nl' (args'.map Tm.cells)] := by
        simp [ht, Tm.cells_mk]
      rw [show args[k].cells = [str op', i64 kd', i64 v'.kind, i64 v'.int, str v'.text, i64 pl', .sl nl' (args'.map Tm.cells)] from by rw [ht, Tm.cells_mk]] at hik
      obtain ⟨op2, kd2, v2, pl2, nl2, args2, ht2⟩ : ∃ op kd v pl nl az, moveT d args[k] = Tm.mk op kd v pl nl az := by
        cases moveT d args[k]; exact ⟨_, _, _, _, _, _, rfl⟩
      rw [ht2, Tm.cells_mk] at hik
      rw [ht2] at hsn
      simp -dsimp [h1, hcell]
      refine VL.draw (by kernel_rfl) [(0, false), (1, false), (0, false), (0, false), (12, false), (28, false), (63, true), (127, true), (255, true)] (by kernel_rfl) ?_
      simp -dsimp
      refine VCE.mk _ hik ?_
      simp -dsimp [hw, maxLen]
      refine ⟨hsz, by omega, ⟨k + 1, false, 7, ts ++ [.mk op2 kd2 v2 pl2 nl2 args2]⟩, ⟨by simp only; omega, hse.symm, fun _ => rfl, by simp only; rw [← List.map_take, hsn, hts], by simp [htl]⟩, ?_, by simp only; omega⟩
      simp [St.le, Tm.cells_mk]
    · obtain rfl : k = args.length := by omega
      rw [List.take_length] at *
      rw [← hts, ← hz]
      simp -dsimp [Tm.cells_mk]
mutual
theorem move_all (d : Int) (m : Nat) : ∀ (t : Tm), t.Bd m → MoveCon d t
  | .mk op kd v place nl args, h => move_step d op kd v place nl args (by rw [Tm.Bd] at h; exact h.2.1) (move_alls d m args (by rw [Tm.Bd] at h; exact h.2.2.2))
theorem move_alls (d : Int) (m : Nat) : ∀ (l : List Tm), Tm.Bds m l → ∀ a ∈ l, MoveCon d a
  | [], _, a, h => by cases h
  | t :: r, hb, a, h => by
    rw [Tm.Bds] at hb
    rcases List.mem_cons.1 h with e | h
    · rw [e]; exact move_all d m t hb.1
    · exact move_alls d m r hb.2 a h
end
end Go.Proofs.YtlphpbcafplnbaaGreat
set_option linter.unusedSimpArgs false
set_option linter.unusedVariables false
namespace Go.Proofs.YtlphpbcafplnbaaGreat
open Go.VL Go.RowKit
def fromK (l : List Src) (k : Nat) : Int := ((l.take k).map Src.cols).sum
theorem fromK_snoc (l : List Src) {k : Nat} (h : k < l.length) : fromK l (k + 1) = fromK l k + l[k].cols := by
  unfold fromK; rw [take_snoc h, List.map_append, List.sum_append]; simp
theorem fromK_in (l : List Src) (hc : ∀ s ∈ l, 0 ≤ s.cols ∧ s.cols ≤ 8) : ∀ k, k ≤ l.length → 0 ≤ fromK l k ∧ fromK l k ≤ 8 * k
  | 0, _ => by simp [fromK]
  | k + 1, h => by
    have h1 := fromK_in l hc k (by omega)
    have h2 := hc _ (List.getElem_mem (show k < l.length by omega))
    rw [fromK_snoc l (by omega)]
    omega
def ownB (cs : List Int) (fr n : Int) : Bool := match cs with
  | [] => false
  | x :: r => decide (fr ≤ x) && decide ((x :: r)[(x :: r).length - 1]! < fr + n)
def ownT (q : Qry) (i : Nat) (t : Tm) : Bool := ownB (colsT t) (fromK q.src i) (q.src[i]!).cols
def ownL (q : Qry) (i : Nat) : List Tm := (q.ts.filter (ownT q i)).map (moveT (-(fromK q.src i)))
def ownK (q : Qry) (i k : Nat) : List Tm := ((q.ts.take k).filter (ownT q i)).map (moveT (-(fromK q.src i)))
theorem ownK_snoc (q : Qry) (i : Nat) {k : Nat} (h : k < q.ts.length) : ownK q i (k + 1) = ownK q i k ++ if ownT q i q.ts[k] then [moveT (-(fromK q.src i)) q.ts[k]] else [] := by
  unfold ownK
  rw [filter_snoc h, List.map_append]
  by_cases e : ownT q i q.ts[k] = true <;> simp [e]
theorem ownK_end (q : Qry) (i : Nat) : ownK q i q.ts.length = ownL q i := by unfold ownK ownL; rw [List.take_length]
theorem ownK_le (q : Qry) (i k : Nat) : (ownK q i k).length ≤ q.ts.length := by
  unfold ownK
  rw [List.length_map]
  exact filter_take_le k
set_option maxRecDepth 4000 in
set_option maxHeartbeats 16000000 in
theorem own_spec (hi : SortsJ) (m : Nat) (hm : m ≤ 1000000) (q : Qry) (hq : q.Fit) (hc : ∀ s ∈ q.src, 0 ≤ s.cols ∧ s.cols ≤ 8) (hb : ∀ t ∈ q.ts, t.Bd m) (i : Nat) (hil : i < q.src.length) :
    Con Tryz.prog 102 [.agg q.cells, .c (i64 i)] [.c (.sl (ownL q i).isEmpty (terms (ownL q i)))] := by
  refine Con.frz (rs := [.fr (ownL q i).isEmpty (if (ownL q i).isEmpty then 0 else 7) (terms (ownL q i)) 0]) ?_ 0 rfl
  refine spec_of Tryz.func102 rfl (by kernel_rfl) (by simp [Tryz.f102]) (fun w0 K0 => vc_ok _ _ _ (by kernel_rfl) ?_)
  simp only [Tryz.f102]
  have hs := hq.s
  have htl := hq.t
  have hfi := fromK_in q.src hc
  simp -dsimp [Qry.cells]
  refine ⟨⟨by omega, fun a _ => rfl⟩, ?_⟩
  refine VL.loop (fun k : Nat => ⟨[(17, .c (i64 k)), (16, .c (i64 i)), (15, .c (.sl q.sn (srcs (q.src.take i)))), (5, .c (i64 (fromK q.src k))), (1, .c (i64 i)), (2, .ptr 128 0)], [(128, some (.box false [.c (.sl q.sn (srcs q.src)), .c (.sl q.tn (terms q.ts)), .c (.sl q.dn (q.du.map Per.cells))]))]⟩)
    (fun k => k ≤ i) (fun k => i - k) 0 (by kernel_rfl) (by simp) (by simp [St.le, fromK] <;> omega) ?_
  intro k hk
  have hfk := hfi k (by omega)
  have htk : (q.src.take i).length = i := by rw [List.length_take]; omega
  by_cases h1 : k < i
  · have hw : IntKind.i64.wrap ((k : Int) + 1) = (k : Int) + 1 := IntWalk.i64_in _ (by omega)
    have hkl : k < q.src.length := by omega
    have hsn := fromK_snoc q.src hkl
    have hfk2 := hfi (k + 1) (by omega)
    have hw2 : IntKind.i64.wrap (fromK q.src k + q.src[k].cols) = fromK q.src (k + 1) := by rw [hsn]; exact IntWalk.i64_in _ (by omega)
    have hcs : q.src[k].cells = [.sl q.src[k].nl (facts q.src[k].fs), i64 q.src[k].cols, bln q.src[k].ix] := rfl
    simp -dsimp [h1, htk, hkl, hcs, hw, hw2]
    refine ⟨by omega, k + 1, by omega, ?_, by omega⟩
    simp [St.le]
  · obtain rfl : k = i := by omega
    simp -dsimp
    have hsi : q.src[k] = q.src[k]! := by simp [hil]
    have hci := hc _ (List.getElem_mem hil)
    have hce : q.src[k].cells = [.sl q.src[k].nl (facts q.src[k].fs), i64 q.src[k].cols, bln q.src[k].ix] := rfl
    rw [← ownK_end]
    refine VL.loop (fun i : KI => ⟨[(29, .c (i64 i.k)), (28, .c (i64 q.ts.length)), (27, .c (.sl q.tn (terms q.ts))), (5, .c (i64 (fromK q.src k))), (1, .c (i64 k)), (2, .ptr 128 0), (8, .own 512 (ownK q k i.k).length)],
        [(128, some (.box false [.c (.sl q.sn (srcs q.src)), .c (.sl q.tn (terms q.ts)), .c (.sl q.dn (q.du.map Per.cells))])), (512, some (.arr i.nl i.sz (terms (ownK q k i.k)) 0))]⟩)
      (fun i => i.k ≤ q.ts.length ∧ i.nl = (ownK q k i.k).isEmpty ∧ i.sz = if i.nl then 0 else 7) (fun i => q.ts.length - i.k) ⟨0, true, 0⟩ (by kernel_rfl) ⟨by simp, rfl, rfl⟩ (by simp [St.le, ownK]) ?_
    intro ⟨j, z, sz⟩ ⟨hj, hz, hsz⟩
    simp only at hj hz hsz
    have hkl := ownK_le q k j
    by_cases h2 : j < q.ts.length
    · have hw : IntKind.i64.wrap ((j : Int) + 1) = (j : Int) + 1 := IntWalk.i64_in _ (by omega)
      have hsn := ownK_snoc q k h2
      have hbj := hb _ (List.getElem_mem h2)
      have hcol := cols_all hi m hm _ hbj
      have hmov := move_all (-(fromK q.src k)) m _ hbj
      have hot : ownT q k q.ts[j] = ownB (colsT q.ts[j]) (fromK q.src k) q.src[k].cols := by unfold ownT; rw [hsi]
      have hcle := colsT_le m _ hbj
      unfold ColsCon at hcol
      unfold MoveCon at hmov
      obtain ⟨op', kd', v', pl', nl', args', ht⟩ : ∃ op kd v pl nl az, q.ts[j] = Tm.mk op kd v pl nl az := by
        cases q.ts[j]; exact ⟨_, _, _, _, _, _, rfl⟩
      have hcell : (terms q.ts)[j]'(by simpa using h2) = [str op', i64 kd', i64 v'.kind, i64 v'.int, str v'.text, i64 pl', .sl nl' (args'.map Tm.cells)] := by
        simp [ht, Tm.cells_mk]
      have htc : q.ts[j].cells = [str op', i64 kd', i64 v'.kind, i64 v'.int, str v'.text, i64 pl', .sl nl' (args'.map Tm.cells)] := by rw [ht, Tm.cells_mk]
      rw [htc] at hcol hmov
      obtain ⟨op2, kd2, v2, pl2, nl2, args2, ht2⟩ : ∃ op kd v pl nl az, moveT (-(fromK q.src k)) q.ts[j] = Tm.mk op kd v pl nl az := by
        cases moveT (-(fromK q.src k)) q.ts[j]; exact ⟨_, _, _, _, _, _, rfl⟩
      rw [ht2, Tm.cells_mk] at hmov
      rw [ht2] at hsn
      rw [hot] at hsn
      clear hot ht ht2 htc hbj
      have hwf : IntKind.i64.wrap (fromK q.src k + q.src[k].cols) = fromK q.src k + q.src[k].cols := IntWalk.i64_in _ (by omega)
      have hwn : IntKind.i64.wrap (-(fromK q.src k)) = -(fromK q.src k) := IntWalk.i64_in _ (by omega)
      obtain ⟨out2, hout2⟩ : ∃ o, ownK q k (j + 1) = o := ⟨_, rfl⟩
      rw [hout2] at hsn
      generalize ownK q k j = out at *
      simp -dsimp [h2, hcell]
      refine VC.mk _ hcol ?_
      generalize colsT q.ts[j] = cs at *
      simp -dsimp
      refine VL.draw (by kernel_rfl) [(0, true), (1, true), (3, true), (7, true), (15, false), (31, false), (63, false), (15, false), (255, true), (511, true), (1023, true), (2047, false), (2047, false), (6143, false), (14335, false), (32767, false), (65535, false), (2047, false), (2047, false), (264191, false), (2047, false), (1837055, false), (3934207, false), (8128511, false), (16648191, false), (33554431, true), (67108863, true)] (by kernel_rfl) ?_
      cases cs with
      | nil =>
        have hob : ownB [] (fromK q.src k) q.src[k].cols = false := rfl
        rw [hob, if_neg (by simp), List.append_nil] at hsn
        simp -dsimp [hce, hil, hw]
        refine ⟨⟨j + 1, z, sz⟩, ⟨by simp only; omega, by simp only; rw [hout2, hsn]; exact hz, hsz⟩, ?_, by simp only; omega⟩
        simp [St.le, hout2, hsn]
      | cons x r =>
        obtain ⟨la, hla⟩ : ∃ la, (x :: r)[r.length]'(by simp) = la := ⟨_, rfl⟩
        have hlb : (x :: r)[(x :: r).length - 1]! = la := by rw [← hla, List.length_cons, Nat.add_sub_cancel, getElem!_pos (x :: r) r.length (by simp)]
        have hob : ownB (x :: r) (fromK q.src k) q.src[k].cols = (decide (fromK q.src k ≤ x) && decide (la < fromK q.src k + q.src[k].cols)) := by rw [← hlb]; rfl
        have hrl : (x :: r).length = r.length + 1 := rfl
        have hwl : IntKind.i64.wrap (r.length : Int) = (r.length : Int) := IntWalk.i64_in _ (by rw [hrl] at hcle; omega)
        have hget : (ints (x :: r))[r.length]?.getD [] = [i64 la] := by
          have : (x :: r)[r.length]? = some la := by
            rw [← hla]
            exact List.getElem?_eq_getElem (by simp)
          unfold ints
          rw [List.getElem?_map, this]
          rfl
        rw [hob] at hsn
        simp -dsimp [hce, hil, hw, hwl, hget, hwf, hla]
        refine VIf.mk (fun g => ?_) (fun g => ?_)
        · rw [if_pos g] at hsn
          have hlen := congrArg List.length hsn
          rw [List.length_append, ← hout2] at hlen
          simp only [List.length_cons, List.length_nil] at hlen
          have hko := ownK_le q k (j + 1)
          simp -dsimp [hwn]
          refine VC.mk _ hmov ?_
          simp -dsimp [hw, maxLen]
          refine ⟨fun e => by rw [hsz, e]; rfl, by omega, ⟨j + 1, false, 7⟩, ⟨by simp only; omega, by simp only; rw [hout2, hsn]; simp, rfl⟩, ?_, by simp only; omega⟩
          simp [St.le, hout2, hsn, Tm.cells_mk] <;> omega
        · rw [if_neg (by simp [g]), List.append_nil] at hsn
          simp -dsimp [hw]
          refine ⟨⟨j + 1, z, sz⟩, ⟨by simp only; omega, by simp only; rw [hout2, hsn]; exact hz, hsz⟩, ?_, by simp only; omega⟩
          simp [St.le, hout2, hsn]
    · obtain rfl : j = q.ts.length := by omega
      simp -dsimp
      generalize ownK q k q.ts.length = out at *
      refine ⟨hz, ?_⟩
      rw [hsz, hz]
      cases out <;> simp
end Go.Proofs.YtlphpbcafplnbaaGreat
set_option linter.unusedSimpArgs false
set_option linter.unusedVariables false
namespace Go.Proofs.YtlphpbcafplnbaaGreat
open Go.VL Go.RowKit
def dig (n : Nat) : Nat := if n = 0 then 0 else n.log2 + 1
theorem dig_half (n : Nat) (h : 1 ≤ n) : dig n = 1 + dig (n / 2) := by
  unfold dig
  rw [if_neg (by omega), Nat.log2_def]
  by_cases h2 : 2 ≤ n
  · rw [if_pos h2, if_neg (by omega)]; omega
  · rw [if_neg h2, if_pos (by omega)]
theorem dig_shift : ∀ (k n : Nat), 2 ^ k ≤ n → dig n = k + dig (n / 2 ^ k)
  | 0, n, _ => by simp
  | k + 1, n, h => by
    have h1 : 2 ^ k ≤ n / 2 := by
      rw [Nat.le_div_iff_mul_le (by omega)]; rw [Nat.pow_succ] at h; exact h
    have h0 : 1 ≤ n := Nat.le_trans (Nat.one_le_two_pow) h
    rw [dig_half n h0, dig_shift k (n / 2) h1, Nat.div_div_eq_div_mul, show 2 * 2 ^ k = 2 ^ (k + 1) from by rw [Nat.pow_succ]; omega]
    omega
theorem fd16 (a : Nat) : (a : Int).fdiv (2 ^ min 16 IntKind.u64.bits) = ((a / 65536 : Nat) : Int) := by
  have e : (2 : Int) ^ min 16 IntKind.u64.bits = 65536 := by decide
  rw [e, Int.fdiv_eq_ediv_of_nonneg _ (by decide)]
  rfl
theorem fd8 (a : Nat) : (a : Int).fdiv (2 ^ min 8 IntKind.u64.bits) = ((a / 256 : Nat) : Int) := by
  have e : (2 : Int) ^ min 8 IntKind.u64.bits = 256 := by decide
  rw [e, Int.fdiv_eq_ediv_of_nonneg _ (by decide)]
  rfl
def tab8 : List UInt8 := [0, 1, 2, 2, 3, 3, 3, 3, 4, 4, 4, 4, 4, 4, 4, 4, 5, 5, 5, 5, 5, 5, 5, 5, 5, 5, 5, 5, 5, 5, 5, 5, 6, 6, 6, 6, 6, 6, 6, 6, 6, 6, 6, 6, 6, 6, 6, 6, 6, 6, 6, 6, 6, 6, 6, 6, 6, 6, 6, 6, 6, 6, 6, 6, 7, 7, 7, 7, 7, 7, 7, 7, 7, 7, 7, 7, 7, 7, 7, 7, 7, 7, 7, 7, 7, 7, 7, 7, 7, 7, 7, 7, 7, 7, 7, 7, 7, 7, 7, 7, 7, 7, 7, 7, 7, 7, 7, 7, 7, 7, 7, 7, 7, 7, 7, 7, 7, 7, 7, 7, 7, 7, 7, 7, 7, 7, 7, 7, 8, 8, 8, 8, 8, 8, 8, 8, 8, 8, 8, 8, 8, 8, 8, 8, 8, 8, 8, 8, 8, 8, 8, 8, 8, 8, 8, 8, 8, 8, 8, 8, 8, 8, 8, 8, 8, 8, 8, 8, 8, 8, 8, 8, 8, 8, 8, 8, 8, 8, 8, 8, 8, 8, 8, 8, 8, 8, 8, 8, 8, 8, 8, 8, 8, 8, 8, 8, 8, 8, 8, 8, 8, 8, 8, 8, 8, 8, 8, 8, 8, 8, 8, 8, 8, 8, 8, 8, 8, 8, 8, 8, 8, 8, 8, 8, 8, 8, 8, 8, 8, 8, 8, 8, 8, 8, 8, 8, 8, 8, 8, 8, 8, 8, 8, 8, 8, 8, 8, 8, 8, 8, 8, 8, 8, 8, 8, 8]
set_option maxRecDepth 10000 in
theorem tab8_dig : ∀ x, x < 256 → (tab8[x]?.getD 0).toNat = dig x := by decide +kernel
theorem u8_in {x : Nat} (h : x < 256) : IntKind.u8.wrap (x : Int) = x := by
  have e : IntKind.u8.wrap (x : Int) = (x : Int) % 256 := by first | rfl | simp [IntKind.wrap, IntKind.signed, IntKind.bits]
  rw [e]; omega
theorem dig_le (n : Nat) (h : n < 4294967296) : dig n ≤ 32 := by
  unfold dig
  split
  · omega
  · have := (Nat.log2_lt (by omega : n ≠ 0)).2 (show n < 2 ^ 32 from h)
    omega
set_option maxRecDepth 10000 in
set_option maxHeartbeats 4000000 in
theorem len64_spec (n : Nat) (hn : n < 4294967296) : Con Tryz.prog 75 [.c (.v (.int .u64 n))] [.c (i64 (dig n))] := by
  refine spec_of Tryz.func75 rfl (by kernel_rfl) (by simp [Tryz.f75]) (fun w0 K0 => vc_ok _ _ _ (by kernel_rfl) ?_)
  simp only [Tryz.f75]
  have h0 : ¬ (4294967296 ≤ (n : Int)) := by omega
  simp -dsimp [h0]
  have hw8 : IntKind.i64.wrap 8 = 8 := by decide
  have hw16 : IntKind.i64.wrap 16 = 16 := by decide
  have hw24 : IntKind.i64.wrap (16 + 8) = 24 := by decide
  refine VIf.mk (fun g => ?_) (fun g => ?_)
  · have hf := fd16 n
    have hs := dig_shift 16 n (by simp at g; omega)
    have hx : n / 65536 < 65536 := by omega
    rw [show (2 : Nat) ^ 16 = 65536 from rfl] at hs
    generalize n / 65536 = x at *
    simp -dsimp [hf, hw16]
    refine VIf.mk (fun g2 => ?_) (fun g2 => ?_)
    · have hf2 := fd8 x
      have hs2 := dig_shift 8 x (by simp at g2; omega)
      have hx8 : x / 256 < 256 := by omega
      rw [show (2 : Nat) ^ 8 = 256 from rfl] at hs2
      generalize x / 256 = y at *
      simp -dsimp [hf2, hw16, hw24]
      have hu := u8_in hx8
      have ht := tab8_dig _ hx8
      unfold tab8 at ht
      have hdl := dig_le y (by omega)
      have hw24b : IntKind.i64.wrap 24 = 24 := by decide
      rw [hw24b, hu, Int.toNat_natCast, ht, IntWalk.i64_in (dig y : Int) (by omega), IntWalk.i64_in _ (by omega)]
      exact ⟨⟨by omega, by omega⟩, by omega⟩
    · have hx8 : x < 256 := by simp at g2; omega
      simp -dsimp [hw16]
      have hu := u8_in hx8
      have ht := tab8_dig _ hx8
      unfold tab8 at ht
      have hdl := dig_le x (by omega)
      rw [hu, Int.toNat_natCast, ht, IntWalk.i64_in (dig x : Int) (by omega), IntWalk.i64_in _ (by omega)]
      exact ⟨⟨by omega, by omega⟩, by omega⟩
  · simp -dsimp
    refine VIf.mk (fun g2 => ?_) (fun g2 => ?_)
    · have hf2 := fd8 n
      have hs2 := dig_shift 8 n (by simp at g2; omega)
      have hx8 : n / 256 < 256 := by simp at g; omega
      rw [show (2 : Nat) ^ 8 = 256 from rfl] at hs2
      generalize n / 256 = y at *
      simp -dsimp [hf2, hw8]
      have hu := u8_in hx8
      have ht := tab8_dig _ hx8
      unfold tab8 at ht
      have hdl := dig_le y (by omega)
      rw [hu, Int.toNat_natCast, ht, IntWalk.i64_in (dig y : Int) (by omega), IntWalk.i64_in _ (by omega)]
      exact ⟨⟨by omega, by omega⟩, by omega⟩
    · have hx8 : n < 256 := by simp at g2; omega
      simp -dsimp
      have hu := u8_in hx8
      have ht := tab8_dig _ hx8
      unfold tab8 at ht
      have hdl := dig_le n (by omega)
      rw [hu, Int.toNat_natCast, ht, IntWalk.i64_in (dig n : Int) (by omega), IntWalk.i64_in _ (by omega)]
      exact ⟨⟨by omega, by omega⟩, by omega⟩
end Go.Proofs.YtlphpbcafplnbaaGreat
