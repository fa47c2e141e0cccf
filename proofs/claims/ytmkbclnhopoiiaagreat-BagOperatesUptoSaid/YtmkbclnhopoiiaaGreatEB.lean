/- Contracts: the document's rows at an instant, in order. -/
import Derived.Test.YtmkbclnhopoiiaaGreatEA
import Derived.Test.YtmkbclnhopoiiaaGreatBRA
import Derived.Test.YtmkbclnhopoiiaaGreatBOA
set_option linter.unusedSimpArgs false
set_option linter.unusedVariables false
namespace Go.Proofs.YtmkbclnhopoiiaaGreat
open Go.VL Go.RowKit

def rowC (r : List Val) : List C := [.sl false (vals r)]
@[simp] theorem rowC_len (r : List Val) : (rowC r).length = 1 := rfl
def rowsC (rs : List (List Val)) : List (List C) := rs.map rowC
@[simp] theorem rowsC_len (rs : List (List Val)) : (rowsC rs).length = rs.length := by simp [rowsC]
@[simp] theorem rowsC_get (rs : List (List Val)) (k : Nat) (h : k < (rowsC rs).length) : (rowsC rs)[k] = [.sl false (vals (rs[k]'(by simpa using h)))] := by simp [rowsC, rowC]
theorem rowsC_snoc (rs : List (List Val)) (r : List Val) : rowsC (rs ++ [r]) = rowsC rs ++ [[.sl false (vals r)]] := by simp [rowsC, rowC]
def before (r x : List Val) : Bool := decide (cmpR r x < 0)
def insR (r : List Val) : List (List Val) → List (List Val)
  | [] => [r]
  | x :: l => if before r x then r :: x :: l else x :: insR r l
theorem insR_perm (r : List Val) : ∀ l, (insR r l).Perm (r :: l)
  | [] => List.Perm.refl _
  | x :: l => by
    rw [insR]
    split
    · exact List.Perm.refl _
    · exact ((insR_perm r l).cons x).trans (List.Perm.swap r x l)
theorem insR_len (r : List Val) (l : List (List Val)) : (insR r l).length = l.length + 1 := by rw [(insR_perm r l).length_eq]; rfl
theorem insR_no (r : List Val) : ∀ (l m : List (List Val)), l.any (before r) = false → insR r (l ++ m) = l ++ insR r m
  | [], m, _ => rfl
  | x :: l, m, h => by
    simp only [List.any_cons, Bool.or_eq_false_iff] at h
    rw [List.cons_append, insR, h.1, insR_no r l m h.2]; rfl
theorem insR_yes (r : List Val) : ∀ (l m : List (List Val)), l.any (before r) = true → insR r (l ++ m) = insR r l ++ m
  | [], m, h => by simp at h
  | x :: l, m, h => by
    rw [List.cons_append, insR, insR]
    by_cases h1 : before r x = true
    · rw [if_pos h1, if_pos h1]; rfl
    · rw [if_neg h1, if_neg h1]
      have h2 : l.any (before r) = true := by simpa [h1] using h
      rw [insR_yes r l m h2]; rfl
def insK (r : List Val) (rs : List (List Val)) (k : Nat) : List (List Val) := if (rs.take k).any (before r) then insR r (rs.take k) else rs.take k
theorem insK_done {r : List Val} {rs : List (List Val)} {k : Nat} (h : k < rs.length) (hd : (rs.take k).any (before r) = true) : (rs.take (k + 1)).any (before r) = true ∧ insK r rs (k + 1) = insK r rs k ++ [rs[k]] := by
  have e : (rs.take (k + 1)).any (before r) = true := by rw [take_snoc h, List.any_append, hd]; rfl
  refine ⟨e, ?_⟩
  unfold insK
  rw [if_pos e, if_pos hd, take_snoc h, insR_yes r _ _ hd]
theorem insK_now {r : List Val} {rs : List (List Val)} {k : Nat} (h : k < rs.length) (hd : (rs.take k).any (before r) = false) (hb : before r rs[k] = true) : (rs.take (k + 1)).any (before r) = true ∧ insK r rs (k + 1) = insK r rs k ++ [r] ++ [rs[k]] := by
  have e : (rs.take (k + 1)).any (before r) = true := by rw [take_snoc h, List.any_append]; simp [hb]
  refine ⟨e, ?_⟩
  unfold insK
  rw [if_pos e, if_neg (by simp [hd]), take_snoc h, insR_no r _ _ hd, insR, if_pos hb]
  simp
theorem insK_not {r : List Val} {rs : List (List Val)} {k : Nat} (h : k < rs.length) (hd : (rs.take k).any (before r) = false) (hb : before r rs[k] = false) : (rs.take (k + 1)).any (before r) = false ∧ insK r rs (k + 1) = insK r rs k ++ [rs[k]] := by
  have e : (rs.take (k + 1)).any (before r) = false := by rw [take_snoc h, List.any_append, hd]; simp [hb]
  refine ⟨e, ?_⟩
  unfold insK
  rw [if_neg (by simp [e]), if_neg (by simp [hd]), take_snoc h]
theorem insK_len (r : List Val) (rs : List (List Val)) (k : Nat) : (insK r rs k).length ≤ rs.length + 1 := by
  unfold insK; split
  · rw [insR_len, List.length_take]; omega
  · rw [List.length_take]; omega
def RI (i : KI) (row : List (List Val)) : Prop := i.nl = row.isEmpty ∧ i.sz = if i.nl then 0 else 1
theorem RI.next {k : Nat} {row : List (List Val)} {f : List Val} : RI ⟨k, false, 1⟩ (row ++ [f]) := ⟨by cases row <;> rfl, rfl⟩

theorem copy_frz (nl : Bool) (l : List Val) (hl : l.length ≤ 4398046511104) : Con Tryz.prog 29 [.c (.sl nl (vals l))] [.c (.sl false (vals l))] := Con.frz (copy_spec nl l hl) 0 rfl

set_option maxRecDepth 4000 in
set_option maxHeartbeats 16000000 in
theorem with_spec (nl nr : Bool) (rs : List (List Val)) (r : List Val) (hl : rs.length ≤ 1000000000) (hr : r.length ≤ 4398046511104) :
    Con Tryz.prog 57 [.c (.sl nl (rowsC rs)), .c (.sl nr (vals r))] [.fr false 1 (rowsC (insR r rs)) 0] := by
  refine spec_of Tryz.func57 rfl (by kernel_rfl) (by simp [Tryz.f57]) (fun w0 K0 => vc_ok _ _ _ (by kernel_rfl) ?_)
  simp only [Tryz.f57]
  simp -dsimp
  refine VL.loop (fun i : KI => ⟨[(7, .c (i64 i.k)), (6, .c (bln ((rs.take i.k).any (before r)))), (5, .own 320 (insK r rs i.k).length), (0, .c (.sl nl (rowsC rs))), (1, .c (.sl nr (vals r)))], [(320, some (.arr i.nl i.sz (rowsC (insK r rs i.k)) 0))]⟩)
    (fun i => i.k ≤ rs.length ∧ RI i (insK r rs i.k)) (fun i => rs.length - i.k) ⟨0, true, 0⟩ (by kernel_rfl) ⟨by simp, rfl, rfl⟩ (by simp [St.le, insK, rowsC]) ?_
  intro ⟨k, z, sz⟩ ⟨hk, hz, hsz⟩
  simp only at hk hz hsz
  have hkl := insK_len r rs k
  by_cases h1 : k < rs.length
  · have hw : IntKind.i64.wrap ((k : Int) + 1) = (k : Int) + 1 := IntWalk.i64_in _ (by omega)
    simp -dsimp [h1]
    by_cases hd : (rs.take k).any (before r) = true
    · obtain ⟨e1, e2⟩ := insK_done h1 hd
      rw [hd]
      simp -dsimp [h1]
      refine VG.mk [.c (i64 0)] _ (fun h => Bool.noConfusion h) rfl ?_
      simp -dsimp [h1, hw, maxLen]
      refine ⟨fun e => by rw [hsz, e]; rfl, by omega, ⟨k + 1, false, 1⟩, ⟨by simp only; omega, ?_⟩, ?_, by simp only; omega⟩
      · rw [e2]; exact RI.next
      · simp only [e1, e2, rowsC_snoc, List.length_append]
        simp [St.le]
    · have hd' : (rs.take k).any (before r) = false := by simpa using hd
      rw [hd']
      simp -dsimp [h1]
      refine VG.mk [.c (i64 (cmpR r rs[k]))] _ (fun _ => refCompare_spec _ _ r rs[k] (by omega)) rfl ?_
      simp -dsimp
      refine VIf.mk (fun h => ?_) (fun h => ?_)
      · obtain ⟨e1, e2⟩ := insK_now h1 hd' h
        simp -dsimp
        refine VC.mk _ (copy_frz nr r hr) ?_
        simp -dsimp [h1, hw, maxLen]
        refine ⟨fun e => by rw [hsz, e]; rfl, by omega, by omega, ⟨k + 1, false, 1⟩, ⟨by simp only; omega, ?_⟩, ?_, by simp only; omega⟩
        · rw [e2]; exact RI.next
        · simp only [e1, e2, rowsC_snoc, List.length_append]
          simp [St.le]
      · obtain ⟨e1, e2⟩ := insK_not h1 hd' h
        simp -dsimp [h1, hw, maxLen]
        refine ⟨fun e => by rw [hsz, e]; rfl, by omega, ⟨k + 1, false, 1⟩, ⟨by simp only; omega, ?_⟩, ?_, by simp only; omega⟩
        · rw [e2]; exact RI.next
        · simp only [e1, e2, rowsC_snoc, List.length_append]
          simp [St.le]
  · obtain rfl : k = rs.length := by omega
    simp -dsimp
    have e3 : insK r rs rs.length = if rs.any (before r) then insR r rs else rs := by unfold insK; rw [List.take_length]
    refine VIf.mk (fun h => ?_) (fun h => ?_)
    · have h' : rs.any (before r) = false := by simpa using h
      have e4 : insR r rs = rs ++ [r] := by have := insR_no r rs [] h'; rw [List.append_nil] at this; rw [this]; rfl
      rw [h', if_neg (by simp)] at e3
      rw [e3] at hz ⊢
      simp -dsimp
      refine VC.mk _ (copy_frz nr r hr) ?_
      simp -dsimp [maxLen]
      rw [e4, rowsC_snoc]
      exact ⟨fun e => by rw [hsz, e]; rfl, by omega, rfl, by simp⟩
    · have h' : rs.any (before r) = true := by simpa using h
      rw [h', if_pos rfl] at e3
      rw [e3] at hz ⊢
      simp -dsimp
      have hne : (insR r rs).isEmpty = false := by
        have := insR_len r rs
        cases hx : insR r rs with
        | nil => rw [hx] at this; simp at this
        | cons => rfl
      rw [hne] at hz
      exact ⟨hz, by rw [hsz, hz]; rfl⟩

theorem with_frz (nl nr : Bool) (rs : List (List Val)) (r : List Val) (hl : rs.length ≤ 1000000000) (hr : r.length ≤ 4398046511104) :
    Con Tryz.prog 57 [.c (.sl nl (rowsC rs)), .c (.sl nr (vals r))] [.c (.sl false (rowsC (insR r rs)))] := Con.frz (with_spec nl nr rs r hl hr) 0 rfl
theorem insR_ne (r : List Val) (rs : List (List Val)) : (insR r rs).isEmpty = false := by
  have := insR_len r rs
  cases hx : insR r rs with
  | nil => rw [hx] at this; simp at this
  | cons => rfl
theorem refHas_at (cs : List C) (p : Per) (t : Int) (h : cs = p.cells) : Con Tryz.prog 55 [.agg cs, .c (i64 t)] [.c (bln (has p t))] := by rw [h]; exact refHas_spec p t
def rowsAt (l : List Fact) (t : Int) : List (List Val) := l.foldl (fun acc f => if validAt f t then insR f.row acc else acc) []
theorem rowsAt_snoc (l : List Fact) (t : Int) {k : Nat} (h : k < l.length) : rowsAt (l.take (k + 1)) t = if validAt l[k] t then insR l[k].row (rowsAt (l.take k) t) else rowsAt (l.take k) t := by
  unfold rowsAt; rw [take_snoc h, List.foldl_append]; rfl
theorem rowsAt_perm (l : List Fact) (t : Int) : (rowsAt l t).Perm ((l.filter fun f => validAt f t).map Fact.row) := by
  refine rev_ind (p := fun l => (rowsAt l t).Perm ((l.filter fun f => validAt f t).map Fact.row)) ?_ ?_ l
  · exact List.Perm.refl _
  · intro l f ih
    unfold rowsAt at ih ⊢
    rw [List.foldl_append, List.filter_append, List.map_append]
    by_cases hv : validAt f t = true
    · simp only [List.foldl_cons, List.foldl_nil, hv, if_true, List.filter_cons, List.filter_nil, List.map_cons, List.map_nil]
      exact (insR_perm _ _).trans ((ih.cons _).trans (List.perm_append_singleton _ _).symm)
    · simp only [Bool.not_eq_true] at hv
      simp only [List.foldl_cons, List.foldl_nil, hv, List.filter_cons, List.filter_nil, List.map_nil, List.append_nil]
      simpa using ih
theorem rowsAt_len (l : List Fact) (t : Int) : (rowsAt l t).length ≤ l.length := by
  rw [(rowsAt_perm l t).length_eq, List.length_map]; exact List.length_filter_le _ _
theorem rowsAt_mem {l : List Fact} {t : Int} {r : List Val} (h : r ∈ rowsAt l t) : ∃ f ∈ l, validAt f t = true ∧ f.row = r := by
  have := (rowsAt_perm l t).mem_iff.1 h
  obtain ⟨f, hf, e⟩ := List.mem_map.1 this
  obtain ⟨h1, h2⟩ := List.mem_filter.1 hf
  exact ⟨f, h1, h2, e⟩

set_option maxRecDepth 4000 in
set_option maxHeartbeats 16000000 in
theorem rows_spec (nl : Bool) (l : List Fact) (t : Int) (hl : l.length ≤ 1000000000) (hr : Rows1 l) :
    Con Tryz.prog 27 [.c (.sl nl (facts l)), .c (i64 t)] [.c (.sl (rowsAt l t).isEmpty (rowsC (rowsAt l t)))] := by
  refine spec_of Tryz.func27 rfl (by kernel_rfl) (by simp [Tryz.f27]) (fun w0 K0 => vc_ok _ _ _ (by kernel_rfl) ?_)
  simp only [Tryz.f27]
  simp -dsimp
  refine VL.snap 5 ?_
  simp -dsimp
  refine VL.loop (fun k : Nat => ⟨[(6, .c (i64 k)), (5, .c (.sl (rowsAt (l.take k) t).isEmpty (rowsC (rowsAt (l.take k) t)))), (0, .c (.sl nl (facts l))), (1, .c (i64 t))], []⟩)
    (fun k => k ≤ l.length) (fun k => l.length - k) 0 (by kernel_rfl) (by simp) (by simp [St.le, rowsAt, rowsC]) ?_
  intro k hk
  have hkl := rowsAt_len (l.take k) t
  rw [List.length_take] at hkl
  by_cases h1 : k < l.length
  · have hw : IntKind.i64.wrap ((k : Int) + 1) = (k : Int) + 1 := IntWalk.i64_in _ (by omega)
    have hsn := rowsAt_snoc l t h1
    simp -dsimp [h1, Fact.cells]
    refine VC.mk _ (refRight_at _ l[k].p rfl) ?_
    simp -dsimp [h1, Fact.cells]
    refine VG.mk [.c (bln (has l[k].p t))] _ (fun _ => refHas_at _ l[k].p t rfl) rfl ?_
    simp -dsimp
    refine VIf.mk (fun h => ?_) (fun h => ?_)
    · rw [show validAt l[k] t = true from h, if_pos rfl] at hsn
      simp -dsimp [h1, Fact.cells]
      refine VC.mk _ (with_frz (rowsAt (l.take k) t).isEmpty l[k].nl (rowsAt (l.take k) t) l[k].row (by omega) (hr _ (List.getElem_mem h1))) ?_
      have hne : (insR l[k].row (rowsAt (l.take k) t)).isEmpty = false := insR_ne _ _
      simp -dsimp [hw]
      refine ⟨k + 1, by omega, ?_, by omega⟩
      simp [St.le, hsn, hne]
    · rw [show validAt l[k] t = false from h, if_neg (by simp)] at hsn
      simp -dsimp [hw]
      refine ⟨k + 1, by omega, ?_, by omega⟩
      simp [St.le, hsn]
  · obtain rfl : k = l.length := by omega
    rw [List.take_length]
    simp -dsimp
end Go.Proofs.YtmkbclnhopoiiaaGreat
/- Contracts: what facts say, from edge to edge. -/
set_option linter.unusedSimpArgs false
set_option linter.unusedVariables false
namespace Go.Proofs.YtmkbclnhopoiiaaGreat
open Go.VL Go.RowKit

abbrev pers (l : List Fact) : List Per := l.map Fact.p
def ge (E : List Int) (k : Nat) : Int := E[k]!
theorem ge_pos (E : List Int) (k : Nat) (h : k < E.length) : ge E k = E[k] := getElem!_pos E k h
def cellC (l : List Fact) (E : List Int) (i : Nat) : List C := [i64 (ge E i), i64 (ge E (i + 1)), .sl (rowsAt l (ge E i)).isEmpty (rowsC (rowsAt l (ge E i)))]
def cellsC (l : List Fact) (E : List Int) (k : Nat) : List (List C) := (List.range k).map (cellC l E)
@[simp] theorem cellsC_len (l : List Fact) (E : List Int) (k : Nat) : (cellsC l E k).length = k := by simp [cellsC]
@[simp] theorem cellsC_get (l : List Fact) (E : List Int) (k i : Nat) (h : i < (cellsC l E k).length) : (cellsC l E k)[i] = cellC l E i := by simp [cellsC]
theorem cellsC_snoc (l : List Fact) (E : List Int) (k : Nat) : cellsC l E (k + 1) = cellsC l E k ++ [cellC l E k] := by simp [cellsC, List.range_succ]

theorem refEdges_frz (nl : Bool) (l : List Per) (hl : l.length ≤ 8796093022207) :
    Con Tryz.prog 79 [.c (.sl nl (l.map Per.cells))] [.c (.sl (edgesL l).isEmpty (ints (edgesL l)))] := Con.frz (refEdges_spec nl l hl) 0 rfl

set_option maxRecDepth 4000 in
set_option maxHeartbeats 16000000 in
theorem edges13_spec (nl : Bool) (l : List Fact) (hl : l.length ≤ 1000000000) :
    Con Tryz.prog 62 [.c (.sl nl (facts l))] [.c (.sl (edgesL (pers l)).isEmpty (ints (edgesL (pers l))))] := by
  refine spec_of Tryz.func62 rfl (by kernel_rfl) (by simp [Tryz.f62]) (fun w0 K0 => vc_ok _ _ _ (by kernel_rfl) ?_)
  simp only [Tryz.f62]
  simp -dsimp
  refine VL.loop (fun i : KI => ⟨[(4, .c (i64 i.k)), (3, .own 192 i.k), (0, .c (.sl nl (facts l)))], [(192, some (.arr i.nl i.sz ((l.take i.k).map fun f => f.p.cells) 0))]⟩)
    (fun i => i.k ≤ l.length ∧ i.nl = (l.take i.k).isEmpty ∧ i.sz = if i.nl then 0 else 2) (fun i => l.length - i.k) ⟨0, true, 0⟩ (by kernel_rfl) ⟨by simp, rfl, rfl⟩ (by simp [St.le]) ?_
  intro ⟨k, z, sz⟩ ⟨hk, hz, hsz⟩
  simp only at hk hz hsz
  have hmin : min k l.length = k := by omega
  by_cases h1 : k < l.length
  · have hw : IntKind.i64.wrap ((k : Int) + 1) = (k : Int) + 1 := IntWalk.i64_in _ (by omega)
    simp -dsimp [h1, Fact.cells, hw, hmin, maxLen]
    have htk : List.take (k + 1) (List.map (fun f : Fact => f.p.cells) l) = List.take k (List.map (fun f : Fact => f.p.cells) l) ++ [l[k].p.cells] := by
      have := congrArg (List.map fun f : Fact => f.p.cells) (take_snoc h1); rw [List.map_append, List.map_take, List.map_take] at this; exact this
    have hne : (l.take (k + 1)).isEmpty = false := by rw [take_snoc h1]; cases l.take k <;> rfl
    refine ⟨fun e => by rw [hsz, e]; rfl, by omega, ⟨k + 1, false, 2⟩, ⟨by simp only; omega, hne.symm, rfl⟩, ?_, by simp only; omega⟩
    simp only [Per.cells] at htk
    simp [St.le, htk, Per.cells]
  · obtain rfl : k = l.length := by omega
    simp -dsimp
    refine VCL.snap ?_
    simp -dsimp
    have he := refEdges_frz z (pers l) (by simp; omega)
    rw [show (pers l).map Per.cells = l.map (fun f : Fact => f.p.cells) from List.map_map ..] at he
    refine VC.mk _ he ?_
    simp -dsimp

set_option maxRecDepth 4000 in
set_option maxHeartbeats 16000000 in
theorem cells_spec0 (nl : Bool) (l : List Fact) (hl : l.length ≤ 1000000000) (hr : Rows1 l) :
    Con Tryz.prog 34 [.c (.sl nl (facts l))] [.fr (decide ((edgesL (pers l)).length ≤ 1)) (if (edgesL (pers l)).length ≤ 1 then 0 else 3) (cellsC l (edgesL (pers l)) ((edgesL (pers l)).length - 1)) 0] := by
  refine spec_of Tryz.func34 rfl (by kernel_rfl) (by simp [Tryz.f34]) (fun w0 K0 => vc_ok _ _ _ (by kernel_rfl) ?_)
  simp only [Tryz.f34]
  simp -dsimp
  refine VC.mk _ (edges13_spec nl l hl) ?_
  have hE := edgesL_len (pers l)
  rw [List.length_map] at hE
  generalize edgesL (pers l) = E at hE ⊢
  simp -dsimp
  refine VL.loop (fun i : KI => ⟨[(5, .c (i64 i.k)), (4, .own 256 i.k), (3, .c (.sl E.isEmpty (ints E))), (0, .c (.sl nl (facts l)))], [(256, some (.arr i.nl i.sz (cellsC l E i.k) 0))]⟩)
    (fun i => i.k ≤ E.length - 1 ∧ i.nl = decide (i.k = 0) ∧ i.sz = if i.nl then 0 else 3) (fun i => E.length - i.k) ⟨0, true, 0⟩ (by kernel_rfl) ⟨by simp, rfl, rfl⟩ (by simp [St.le, cellsC]) ?_
  intro ⟨k, z, sz⟩ ⟨hk, hz, hsz⟩
  simp only at hk hz hsz
  have hw : IntKind.i64.wrap ((k : Int) + 1) = (k : Int) + 1 := IntWalk.i64_in _ (by omega)
  by_cases h1 : k + 1 < E.length
  · have h0 : k < E.length := by omega
    have hlt : ((k : Int) + 1 < (E.length : Int)) = True := by simp; omega
    simp -dsimp [hw, hlt, h0, h1]
    refine VL.draw (by kernel_rfl) [(0, false), (0, false), (0, false), (6, false), (14, false), (0, false), (0, false), (64, false), (224, false), (480, false), (0, false), (0, false), (0, false), (6144, false), (14336, false), (31744, false), (65534, false), (131070, false), (262143, true), (524287, true)] (by kernel_rfl) ?_
    simp -dsimp [hw, hlt, h0, h1]
    refine ⟨by omega, VCE.mk _ (rows_spec nl l E[k] hl hr) ?_⟩
    simp -dsimp [hw, maxLen]
    refine ⟨fun e => by rw [hsz, e]; rfl, by omega, ⟨k + 1, false, 3⟩, ⟨by simp only; omega, by simp, rfl⟩, ?_, by simp only; omega⟩
    have g1 := ge_pos E k h0
    have g2 := ge_pos E (k + 1) h1
    simp [St.le, cellsC_snoc, cellC, g1, g2]
  · have hlt : ((k : Int) + 1 < (E.length : Int)) = False := by simp; omega
    simp -dsimp [hw, hlt]
    obtain e : k = E.length - 1 := by omega
    refine ⟨⟨?_, ?_, by rw [e]⟩, e.symm⟩
    · rw [hz]; exact decide_eq_decide.2 (by omega)
    · rw [hsz, hz]
      by_cases h : E.length ≤ 1
      · rw [if_pos h, if_pos (by simp; omega)]
      · rw [if_neg h, if_neg (by simp; omega)]
theorem cells_spec (nl : Bool) (l : List Fact) (hl : l.length ≤ 1000000000) (hr : Rows1 l) :
    Con Tryz.prog 34 [.c (.sl nl (facts l))] [.c (.sl (decide ((edgesL (pers l)).length ≤ 1)) (cellsC l (edgesL (pers l)) ((edgesL (pers l)).length - 1)))] :=
  (cells_spec0 nl l hl hr).frz 0 rfl
end Go.Proofs.YtmkbclnhopoiiaaGreat
