/- Contract: Join. -/
import Derived.Test.YtmkbclnhopoiiaaGreatBPA
import Derived.Test.YtmkbclnhopoiiaaGreatBVA
set_option linter.unusedSimpArgs false
set_option linter.unusedVariables false
namespace Go.Proofs.YtmkbclnhopoiiaaGreat
open Go.VL Go.RowKit

/-- a fact with each of a list, where both are valid -/
def joinX (x : Fact) (b : List Fact) : List Fact := (b.filter fun y => lapOk x.p y.p).map fun y => mkF (x.row ++ y.row) (lap x.p y.p)
def joinP (a b : List Fact) : List Fact := a.flatMap fun x => joinX x b
def joinL (sortP : List Per → List Per) (a b : List Fact) : List Fact := normalL sortP (joinP a b)
theorem joinX_snoc (x : Fact) (b : List Fact) {k : Nat} (h : k < b.length) : joinX x (b.take (k + 1)) = joinX x (b.take k) ++ if lapOk x.p b[k].p then [mkF (x.row ++ b[k].row) (lap x.p b[k].p)] else [] := by
  unfold joinX
  rw [take_snoc h, List.filter_append, List.map_append]
  by_cases e : lapOk x.p b[k].p = true <;> simp [e]
theorem joinP_snoc (a b : List Fact) {k : Nat} (h : k < a.length) : joinP (a.take (k + 1)) b = joinP (a.take k) b ++ joinX a[k] b := by
  unfold joinP; rw [take_snoc h, List.flatMap_append]; simp
theorem joinX_mono (x : Fact) (b : List Fact) (k : Nat) : (joinX x (b.take k)).length ≤ (joinX x b).length := by
  unfold joinX
  rw [List.length_map, List.length_map]
  exact ((List.take_sublist k b).filter _).length_le
theorem joinP_mono (a b : List Fact) (k : Nat) : (joinP (a.take k) b).length ≤ (joinP a b).length := by
  conv => rhs; rw [← List.take_append_drop k a]
  unfold joinP
  rw [List.flatMap_append, List.length_append]
  omega
theorem joinX_len (x : Fact) (b : List Fact) : (joinX x b).length ≤ b.length := by unfold joinX; rw [List.length_map]; exact List.length_filter_le _ _
theorem joinP_len : ∀ (a b : List Fact), (joinP a b).length ≤ a.length * b.length
  | [], b => by simp [joinP]
  | x :: a, b => by
    have h1 := joinX_len x b
    have h2 := joinP_len a b
    unfold joinP at *
    rw [List.flatMap_cons, List.length_append, List.length_cons, Nat.add_mul]
    omega
theorem joinP_mem {a b : List Fact} {f : Fact} (h : f ∈ joinP a b) : ∃ x ∈ a, ∃ y ∈ b, f.row = x.row ++ y.row := by
  unfold joinP joinX at h
  obtain ⟨x, hx, h⟩ := List.mem_flatMap.1 h
  obtain ⟨y, hy, rfl⟩ := List.mem_map.1 h
  exact ⟨x, hx, y, (List.mem_filter.1 hy).1, rfl⟩
/-- rows that fit one behind the other -/
def Rows2 (a b : List Fact) : Prop := ∀ x ∈ a, ∀ y ∈ b, x.row.length + y.row.length ≤ 4398046511104
theorem join_rows1 {a b : List Fact} (h : Rows2 a b) : Rows1 (joinP a b) := by
  intro f hf
  obtain ⟨x, hx, y, hy, e⟩ := joinP_mem hf
  rw [e, List.length_append]; exact h x hx y hy
theorem copied_two (b : Bool) (xs : List (List C)) (nx ny : Bool) (r s : List Val) (h : xs = [[.sl nx (vals r)], [.sl ny (vals s)]]) (hR : r.length + s.length ≤ 4398046511104) : Con Tryz.prog 47 [.c (.sl b xs)] [.c (.sl (r ++ s).isEmpty (vals (r ++ s)))] := by
  have := copied_spec b [(nx, r), (ny, s)] (by simp) (by simpa [catR] using hR)
  rw [h]
  have e : catR [(nx, r), (ny, s)] = r ++ s := by simp [catR]
  rw [e] at this
  exact this

set_option maxRecDepth 4000 in
set_option maxHeartbeats 16000000 in
theorem join_spec {sortP : List Per → List Per} (hs : Sorts sortP) (hi : SortsI) (hf : SortsF) (na nb : Bool) (a b : List Fact) (la : a.length ≤ 3518437208883) (lb : b.length ≤ 3518437208883) (hl : (joinP a b).length ≤ 3518437208883) (hr : Rows2 a b) :
    Con Tryz.prog 19 [.c (.sl na (facts a)), .c (.sl nb (facts b))] [.c (.sl (joinL sortP a b).isEmpty (facts (joinL sortP a b)))] := by
  refine spec_of Tryz.func19 rfl (by kernel_rfl) (by simp [Tryz.f19]) (fun w0 K0 => vc_ok _ _ _ (by kernel_rfl) ?_)
  simp only [Tryz.f19]
  simp -dsimp
  refine VL.loop (fun i : KI => ⟨[(14, .c (i64 i.k)), (13, .c (i64 a.length)), (12, .c (.sl na (facts a))), (1, .c (.sl nb (facts b))), (5, .own 320 (joinP (a.take i.k) b).length)], [(320, some (.arr i.nl i.sz (facts (joinP (a.take i.k) b)) 0))]⟩)
    (fun i => i.k ≤ a.length ∧ i.nl = (joinP (a.take i.k) b).isEmpty ∧ i.sz = if i.nl then 0 else 3) (fun i => a.length - i.k) ⟨0, true, 0⟩ (by kernel_rfl) ⟨by simp, rfl, rfl⟩ (by simp [St.le, joinP]) ?_
  intro ⟨k, z, sz⟩ ⟨hk, hz, hsz⟩
  simp only at hk hz hsz
  by_cases h1 : k < a.length
  · have hw : IntKind.i64.wrap ((k : Int) + 1) = (k : Int) + 1 := IntWalk.i64_in _ (by omega)
    have hsn := joinP_snoc a b h1
    have hmo := joinP_mono a b (k + 1)
    have hra := hr _ (List.getElem_mem h1)
    simp -dsimp [h1, Fact.cells]
    generalize a[k] = x at *
    generalize hP : joinP (a.take k) b = P at *
    refine VL.loop (fun j : KI => ⟨[(20, .c (i64 j.k)), (19, .c (i64 b.length)), (18, .c (.sl nb (facts b))), (7, .ptr 448 0), (14, .c (i64 k)), (13, .c (i64 a.length)), (12, .c (.sl na (facts a))), (1, .c (.sl nb (facts b))), (5, .own 320 (P ++ joinX x (b.take j.k)).length)],
        [(448, some (.box false [.c (.sl x.nl (vals x.row)), .c (i64 x.p.f), .c (i64 x.p.t)])), (320, some (.arr j.nl j.sz (facts (P ++ joinX x (b.take j.k))) 0))]⟩)
      (fun j => j.k ≤ b.length ∧ j.nl = (P ++ joinX x (b.take j.k)).isEmpty ∧ j.sz = if j.nl then 0 else 3) (fun j => b.length - j.k) ⟨0, z, sz⟩ (by kernel_rfl) ⟨by simp, by simp [hz, joinX], hsz⟩ (by simp [St.le, joinX]) ?_
    intro ⟨j, y, sy⟩ ⟨hj, hy, hsy⟩
    simp only at hj hy hsy
    by_cases j1 : j < b.length
    · have hwj : IntKind.i64.wrap ((j : Int) + 1) = (j : Int) + 1 := IntWalk.i64_in _ (by omega)
      have hsj := joinX_snoc x b j1
      have hmj := joinX_mono x b (j + 1)
      have hrb := hra _ (List.getElem_mem j1)
      rw [hsn, List.length_append] at hmo
      simp -dsimp [j1, Fact.cells]
      refine VC.mk _ (overlap_at _ _ x.p b[j].p rfl rfl) ?_
      simp -dsimp [Per.cells]
      refine VIf.mk (fun h => ?_) (fun h => ?_)
      · rw [h, if_pos rfl] at hsj
        rw [hsj, List.length_append, List.length_singleton] at hmj
        simp -dsimp
        refine VL.draw (by kernel_rfl) [(0, false), (0, false), (2, false), (0, false), (8, false), (30, false), (62, false), (0, false), (254, false), (510, false), (1023, true), (2047, true)] (by kernel_rfl) ?_
        simp -dsimp
        refine ⟨by decide, VCE.mk _ (copied_two false _ x.nl b[j].nl x.row b[j].row rfl hrb) ?_⟩
        simp -dsimp [hwj, maxLen]
        refine ⟨fun e => by rw [hsy, e]; rfl, by omega, ⟨j + 1, false, 3⟩, ⟨by simp only; omega, by rw [hsj]; simp, rfl⟩, ?_, by simp only; omega⟩
        simp [St.le, hsj, mkF, Fact.cells]
        omega
      · rw [h, if_neg (by simp), List.append_nil] at hsj
        simp -dsimp [hwj]
        refine ⟨⟨j + 1, y, sy⟩, ⟨by simp only; omega, by rw [hsj]; exact hy, hsy⟩, ?_, by simp only; omega⟩
        simp [St.le, hsj]
    · obtain rfl : j = b.length := by omega
      rw [List.take_length, ← hsn] at *
      simp -dsimp [hw]
      refine ⟨⟨k + 1, y, sy⟩, ⟨by simp only; omega, hy, hsy⟩, ?_, by simp only; omega⟩
      simp [St.le]
  · obtain rfl : k = a.length := by omega
    rw [List.take_length] at *
    unfold joinL
    have hno := normal_con hs hi hf false z _ (joinP a b) rfl hl (join_rows1 hr)
    generalize joinP a b = c at *
    generalize normalL sortP c = d at *
    simp -dsimp
    refine ⟨by decide, VCL.snap ?_⟩
    simp -dsimp
    refine VC.mk _ hno ?_
    simp -dsimp
end Go.Proofs.YtmkbclnhopoiiaaGreat
/- Contract: Project. -/
set_option linter.unusedSimpArgs false
set_option linter.unusedVariables false
namespace Go.Proofs.YtmkbclnhopoiiaaGreat
open Go.VL Go.RowKit

def colIn (n : Nat) (c : Int) : Bool := !(decide (c < 0) || decide ((n : Int) ≤ c))
def colsIn (n : Nat) (cs : List Int) : Bool := cs.all (colIn n)
def pick (row : List Val) (cs : List Int) : List Val := cs.map fun c => row[c.toNat]!
def projF (cs : List Int) (f : Fact) : Fact := ⟨false, pick f.row cs, f.p⟩
def projOk (l : List Fact) (cs : List Int) : Bool := l.all fun f => colsIn f.row.length cs
def projL (sortP : List Per → List Per) (l : List Fact) (cs : List Int) : List Fact := normalL sortP (l.map (projF cs))
theorem colsIn_snoc (n : Nat) (cs : List Int) {k : Nat} (h : k < cs.length) : colsIn n (cs.take (k + 1)) = (colsIn n (cs.take k) && colIn n cs[k]) := by
  unfold colsIn; rw [take_snoc h, List.all_append]; simp
theorem projOk_snoc (l : List Fact) (cs : List Int) {k : Nat} (h : k < l.length) : projOk (l.take (k + 1)) cs = (projOk (l.take k) cs && colsIn l[k].row.length cs) := by
  unfold projOk; rw [take_snoc h, List.all_append]; simp
theorem pick_snoc (row : List Val) (cs : List Int) {k : Nat} (h : k < cs.length) : pick row (cs.take (k + 1)) = pick row (cs.take k) ++ [row[cs[k].toNat]!] := by
  unfold pick; rw [take_snoc h, List.map_append]; rfl
theorem projOk_not {l : List Fact} {cs : List Int} {k : Nat} (hk : k < l.length) {j : Nat} (hj : j < cs.length) (h : colIn l[k].row.length cs[j] = false) : projOk l cs = false := by
  unfold projOk
  rw [List.all_eq_false]
  refine ⟨l[k], List.getElem_mem hk, ?_⟩
  unfold colsIn
  rw [Bool.not_eq_true, List.all_eq_false]
  exact ⟨cs[j], List.getElem_mem hj, by rw [h]; simp⟩

set_option maxRecDepth 4000 in
set_option maxHeartbeats 16000000 in
theorem project_spec0 {sortP : List Per → List Per} (hs : Sorts sortP) (hi : SortsI) (hf : SortsF) (nl nc : Bool) (l : List Fact) (cs : List Int) (hl : l.length ≤ 3518437208883) (hc : cs.length ≤ 4398046511104) (hr : Rows1 l) :
    Con Tryz.prog 7 [.c (.sl nl (facts l)), .c (.sl nc (ints cs))] (if projOk l cs then [.c (.sl (projL sortP l cs).isEmpty (facts (projL sortP l cs))), .c (i64 0)] else [.fr true 0 [] 0, .c (i64 161)]) := by
  refine spec_of Tryz.func7 rfl (by kernel_rfl) (by simp [Tryz.f7]) (fun w0 K0 => vc_ok _ _ _ (by kernel_rfl) ?_)
  simp only [Tryz.f7]
  simp -dsimp
  refine VL.loop (fun i : KI => ⟨[(14, .c (i64 i.k)), (13, .c (i64 l.length)), (12, .c (.sl nl (facts l))), (1, .c (.sl nc (ints cs))), (6, .own 384 i.k)], [(384, some (.arr i.nl i.sz (facts ((l.take i.k).map (projF cs))) 0))]⟩)
    (fun i => i.k ≤ l.length ∧ projOk (l.take i.k) cs = true ∧ i.nl = decide (i.k = 0) ∧ i.sz = if i.nl then 0 else 3) (fun i => l.length - i.k) ⟨0, true, 0⟩ (by kernel_rfl) ⟨by simp, by simp [projOk], rfl, rfl⟩ (by simp [St.le]) ?_
  intro ⟨k, z, sz⟩ ⟨hk, hpo, hz, hsz⟩
  simp only at hk hpo hz hsz
  by_cases h1 : k < l.length
  · have hw : IntKind.i64.wrap ((k : Int) + 1) = (k : Int) + 1 := IntWalk.i64_in _ (by omega)
    have hsn : (l.take (k + 1)).map (projF cs) = (l.take k).map (projF cs) ++ [projF cs l[k]] := by rw [take_snoc h1, List.map_append]; rfl
    have hps := projOk_snoc l cs h1
    have hno := fun j hj => @projOk_not l cs k h1 j hj
    have hrk := hr _ (List.getElem_mem h1)
    simp -dsimp [h1, Fact.cells]
    generalize l[k] = f at *
    refine ⟨by omega, ?_⟩
    refine VL.loop (fun j : Nat => ⟨[(23, .c (i64 j)), (22, .c (i64 cs.length)), (21, .c (.sl nc (ints cs))), (9, .own 1280 j), (8, .ptr 512 0), (14, .c (i64 k)), (13, .c (i64 l.length)), (12, .c (.sl nl (facts l))), (1, .c (.sl nc (ints cs))), (6, .own 384 k)],
      [(1280, some (.arr false 3 (vals (pick f.row (cs.take j))) 0)), (512, some (.box false [.c (.sl f.nl (vals f.row)), .c (i64 f.p.f), .c (i64 f.p.t)])), (384, some (.arr z sz (facts ((l.take k).map (projF cs))) 0))]⟩)
      (fun j => j ≤ cs.length ∧ colsIn f.row.length (cs.take j) = true) (fun j => cs.length - j) 0 (by kernel_rfl) ⟨by simp, by simp [colsIn]⟩ (by simp [St.le, pick]) ?_
    intro j ⟨hj, hci⟩
    by_cases j1 : j < cs.length
    · have hwj : IntKind.i64.wrap ((j : Int) + 1) = (j : Int) + 1 := IntWalk.i64_in _ (by omega)
      have hcs := colsIn_snoc f.row.length cs j1
      have hpk := pick_snoc f.row cs j1
      have hnj := hno j j1
      simp -dsimp [j1, ints]
      refine VIf.mk (fun h => ?_) (fun h => ?_)
      · have hb : projOk l cs = false := hnj (by unfold colIn; rw [h]; rfl)
        simp -dsimp [hb]
      · have hcl : colIn f.row.length cs[j] = true := by unfold colIn; rw [h]; rfl
        rw [hcl, Bool.and_true] at hcs
        rw [Bool.or_eq_false_iff, decide_eq_false_iff_not, decide_eq_false_iff_not] at h
        generalize cs[j] = c at *
        have h2 : c.toNat < f.row.length := by omega
        have h3 : (c < f.row.length) = True := by simp; omega
        have h4 : (0 ≤ c) = True := by simp; omega
        simp -dsimp [h2, h3, h4]
        refine ⟨by decide, by simp [pick]; omega, by rw [show (pick f.row (cs.take j)).length = j by simp [pick]; omega]; omega, j + 1, ⟨by omega, by rw [hcs]; exact hci⟩, ?_, by omega⟩
        have e4 : f.row[c.toNat]! = f.row[c.toNat] := getElem!_pos f.row c.toNat h2
        rw [e4] at hpk
        simp [St.le, hwj, ints, hpk, Val.cells]
    · obtain rfl : j = cs.length := by omega
      rw [List.take_length] at hci
      rw [hci, hpo, Bool.true_and] at hps
      simp -dsimp
      refine ⟨by simp [pick], by decide, by omega, fun e => by rw [hsz, e]; rfl, by omega, ⟨k + 1, false, 3⟩, ⟨by simp only; omega, hps, by simp, rfl⟩, ?_, by simp only; omega⟩
      have hsc := congrArg facts hsn
      rw [facts, facts, List.map_append, List.map_map, List.map_map, List.map_take, List.map_take] at hsc
      simp [St.le, hw]
      exact hsc.symm
  · obtain rfl : k = l.length := by omega
    rw [List.take_length] at *
    unfold projL
    have hR : Rows1 (l.map (projF cs)) := fun f hf => by
      obtain ⟨g, _, rfl⟩ := List.mem_map.1 hf
      show (pick g.row cs).length ≤ _
      simpa [pick] using hc
    have hno := normal_con hs hi hf false z _ (l.map (projF cs)) rfl (by rw [List.length_map]; exact hl) hR
    rw [hpo, if_pos rfl]
    have hcl : (l.map (projF cs)).length = l.length := List.length_map ..
    generalize l.map (projF cs) = c at *
    generalize normalL sortP c = d at *
    simp -dsimp
    refine ⟨hcl, by decide, VCL.snap ?_⟩
    simp -dsimp
    refine VC.mk _ hno ?_
    simp -dsimp

theorem project_spec {sortP : List Per → List Per} (hs : Sorts sortP) (hi : SortsI) (hf : SortsF) (nl nc : Bool) (l : List Fact) (cs : List Int) (hl : l.length ≤ 3518437208883) (hc : cs.length ≤ 4398046511104) (hr : Rows1 l) :
    Con Tryz.prog 7 [.c (.sl nl (facts l)), .c (.sl nc (ints cs))] (if projOk l cs then [.c (.sl (projL sortP l cs).isEmpty (facts (projL sortP l cs))), .c (i64 0)] else [.c (.sl true []), .c (i64 161)]) := by
  have h := project_spec0 hs hi hf nl nc l cs hl hc hr
  by_cases hp : projOk l cs = true
  · rw [if_pos hp] at h ⊢; exact h
  · rw [if_neg hp] at h ⊢; exact h.frz 0 rfl
end Go.Proofs.YtmkbclnhopoiiaaGreat
/- Plain law: the rows of an instant; joining turned round, and of three. -/
set_option linter.unusedSimpArgs false
set_option linter.unusedVariables false
namespace Go.Proofs.YtmkbclnhopoiiaaGreat
open Go.VL Go.RowKit

/-- the rows that are valid at an instant -/
def atT (l : List Fact) (t : Int) : List (List Val) := (l.filter fun f => validAt f t).map Fact.row
theorem atT_append (l m : List Fact) (t : Int) : atT (l ++ m) t = atT l t ++ atT m t := by unfold atT; rw [List.filter_append, List.map_append]
theorem atT_cons (f : Fact) (l : List Fact) (t : Int) : atT (f :: l) t = (if validAt f t = true then [f.row] else []) ++ atT l t := by
  unfold atT
  rw [List.filter_cons]
  split <;> simp
theorem cnt_at (l : List Fact) (r : List Val) (t : Int) : cnt l r t = (atT l t).count r := by
  unfold cnt atT
  rw [List.count_eq_countP, List.countP_map, List.countP_eq_length_filter, List.filter_filter]
  congr 1
  refine List.filter_congr fun f _ => ?_
  rw [Bool.eq_iff_iff]
  simp
theorem atT_perm {l m : List Fact} {t : Int} (h : ∀ r, cnt l r t = cnt m r t) : (atT l t).Perm (atT m t) := List.perm_iff_count.2 fun r => by rw [← cnt_at, ← cnt_at, h]
theorem atT_mem {l : List Fact} {t : Int} {r : List Val} (h : r ∈ atT l t) : ∃ f ∈ l, f.row = r := by
  obtain ⟨f, hf, rfl⟩ := List.mem_map.1 h
  exact ⟨f, (List.mem_filter.1 hf).1, rfl⟩
theorem fm_congr {α β : Type} {f g : α → List β} : ∀ {l : List α}, (∀ x ∈ l, f x = g x) → l.flatMap f = l.flatMap g
  | [], _ => rfl
  | x :: l, h => by rw [List.flatMap_cons, List.flatMap_cons, h x (by simp), fm_congr fun y hy => h y (by simp [hy])]
theorem fm_perm {α β : Type} {f g : α → List β} : ∀ {l : List α}, (∀ x ∈ l, (f x).Perm (g x)) → (l.flatMap f).Perm (l.flatMap g)
  | [], _ => .refl _
  | x :: l, h => by
    rw [List.flatMap_cons, List.flatMap_cons]
    exact (h x (by simp)).append (fm_perm fun y hy => h y (by simp [hy]))
def pairsL (A B : List (List Val)) : List (List Val) := A.flatMap fun x => B.map fun y => x ++ y
theorem atT_joinX (x : Fact) (t : Int) : ∀ (b : List Fact), atT (joinX x b) t = if validAt x t = true then (atT b t).map fun y => x.row ++ y else []
  | [] => by simp [joinX, atT]
  | y :: b => by
    have ih := atT_joinX x t b
    have hl := lap_valid x y.p t
    have e : joinX x (y :: b) = (if lapOk x.p y.p = true then [mkF (x.row ++ y.row) (lap x.p y.p)] else []) ++ joinX x b := by
      unfold joinX
      rw [List.filter_cons]
      split <;> simp
    have e2 : validAt (mkF (x.row ++ y.row) (lap x.p y.p)) t = validAt (mkF x.row (lap x.p y.p)) t := rfl
    have e3 : (mkF (x.row ++ y.row) (lap x.p y.p)).row = x.row ++ y.row := rfl
    have hy : validAt y t = true ↔ right y.p = true ∧ has y.p t = true := by unfold validAt; rw [Bool.and_eq_true]
    rw [e, atT_append, ih, atT_cons]
    by_cases hv : validAt x t = true
    · rw [if_pos hv]
      by_cases hyv : validAt y t = true
      · obtain ⟨h1, h2⟩ := hl.2 ⟨hv, (hy.1 hyv).1, (hy.1 hyv).2⟩
        rw [if_pos h1, atT_cons, e2, if_pos h2, if_pos hyv, e3]
        simp [atT, hv]
      · by_cases h1 : lapOk x.p y.p = true
        · have h2 : ¬ validAt (mkF x.row (lap x.p y.p)) t = true := fun h2 => hyv (hy.2 ⟨(hl.1 ⟨h1, h2⟩).2.1, (hl.1 ⟨h1, h2⟩).2.2⟩)
          rw [if_pos h1, atT_cons, e2, if_neg h2, if_neg hyv]
          simp [atT, hv]
        · rw [if_neg h1, if_neg hyv]
          simp [atT, hv]
    · rw [if_neg hv]
      by_cases h1 : lapOk x.p y.p = true
      · have h2 : ¬ validAt (mkF x.row (lap x.p y.p)) t = true := fun h2 => hv (hl.1 ⟨h1, h2⟩).1
        rw [if_pos h1, atT_cons, e2, if_neg h2]
        simp [atT, hv]
      · rw [if_neg h1]
        simp [atT, hv]
theorem atT_join (b : List Fact) (t : Int) : ∀ (a : List Fact), atT (joinP a b) t = pairsL (atT a t) (atT b t)
  | [] => rfl
  | x :: a => by
    have ih := atT_join b t a
    unfold joinP pairsL at *
    rw [List.flatMap_cons, atT_append, ih, atT_joinX, atT_cons, List.flatMap_append]
    congr 1
    split <;> simp
theorem pairs_perm {A A' B B' : List (List Val)} (ha : A.Perm A') (hb : B.Perm B') : (pairsL A B).Perm (pairsL A' B') := by
  unfold pairsL
  refine (List.Perm.flatMap_right _ ha).trans (fm_perm fun x _ => ?_)
  exact hb.map _
theorem pairs_assoc (A B D : List (List Val)) : pairsL (pairsL A B) D = pairsL A (pairsL B D) := by
  unfold pairsL
  rw [List.flatMap_assoc]
  refine fm_congr fun x _ => ?_
  rw [List.flatMap_map, List.map_flatMap]
  refine fm_congr fun y _ => ?_
  rw [List.map_map]
  refine List.map_congr_left fun z _ => ?_
  simp
theorem flat_append {α β : Type} (g h : α → List β) : ∀ (B : List α), (B.flatMap fun y => g y ++ h y).Perm (B.flatMap g ++ B.flatMap h)
  | [] => .refl _
  | y :: B => by
    simp only [List.flatMap_cons]
    have ih := flat_append g h B
    refine ((List.Perm.append_left _ ih).trans ?_)
    rw [List.append_assoc, List.append_assoc]
    refine List.Perm.append_left _ ?_
    rw [← List.append_assoc, ← List.append_assoc]
    exact List.Perm.append_right _ List.perm_append_comm
theorem pairs_turn (f : List Val → List Val) (B : List (List Val)) : ∀ (A : List (List Val)), (∀ x ∈ A, ∀ y ∈ B, f (y ++ x) = x ++ y) → (pairsL A B).Perm ((pairsL B A).map f)
  | [], _ => by simp [pairsL]
  | x :: A, h => by
    have ih := pairs_turn f B A fun x hx => h x (by simp [hx])
    unfold pairsL at *
    rw [List.flatMap_cons, List.map_flatMap]
    have e : (B.flatMap fun y => ((x :: A).map fun z => y ++ z).map f) = B.flatMap fun y => [f (y ++ x)] ++ ((A.map fun z => y ++ z).map f) := by
      refine fm_congr fun y _ => ?_
      simp
    rw [e]
    refine List.Perm.trans ?_ (flat_append _ _ B).symm
    rw [List.map_flatMap] at ih
    refine List.Perm.append ?_ ih
    have e2 : (B.flatMap fun y => [f (y ++ x)]) = B.map fun y => x ++ y := by
      clear e ih
      induction B with
      | nil => rfl
      | cons y B ih2 =>
        rw [List.flatMap_cons, List.map_cons, h x (by simp) y (by simp), ih2 fun x hx y hy => h x hx y (by simp [hy])]
        rfl
    rw [e2]
theorem atT_proj (cs : List Int) (l : List Fact) (t : Int) : atT (l.map (projF cs)) t = (atT l t).map fun r => pick r cs := by
  unfold atT
  rw [List.filter_map, List.map_map, List.map_map]
  rfl
def Twos (l : List Fact) : Prop := ∀ f ∈ l, f.row.length = 2
theorem pick_two {x y : List Val} (hx : x.length = 2) (hy : y.length = 2) : pick (y ++ x) [2, 3, 0, 1] = x ++ y := by
  match x, y, hx, hy with
  | [a, b], [c, d], _, _ => rfl
section
variable {sortP : List Per → List Per}
theorem normal_at (hs : Sorts sortP) (l : List Fact) (t : Int) : (atT (normalL sortP l) t).Perm (atT l t) := atT_perm fun r => normal_cnt hs l r t
theorem normal_perm (hs : Sorts sortP) {l m : List Fact} (h : ∀ t, (atT l t).Perm (atT m t)) : normalL sortP l = normalL sortP m :=
  (normal_eq hs l m).2 fun r t => by rw [cnt_at, cnt_at]; exact List.perm_iff_count.1 (h t) r
theorem join_turn_ok {a b : List Fact} (ha : Twos a) (hb : Twos b) : projOk (joinL sortP b a) [2, 3, 0, 1] = true := by
  unfold projOk
  rw [List.all_eq_true]
  intro f hf
  obtain ⟨g, hg, e⟩ := normal_rows hf
  obtain ⟨x, hx, y, hy, e2⟩ := joinP_mem hg
  have : f.row.length = 4 := by rw [← e, e2, List.length_append, hb x hx, ha y hy]
  rw [this]; rfl
theorem join_turn (hs : Sorts sortP) {a b : List Fact} (ha : Twos a) (hb : Twos b) : projL sortP (joinL sortP b a) [2, 3, 0, 1] = joinL sortP a b := by
  refine normal_perm hs fun t => ?_
  rw [atT_proj, atT_join]
  refine ((normal_at hs _ t).map _).trans ?_
  rw [atT_join]
  refine (pairs_turn _ _ _ fun x hx y hy => ?_).symm
  obtain ⟨f, hf, rfl⟩ := atT_mem hx
  obtain ⟨g, hg, rfl⟩ := atT_mem hy
  exact pick_two (ha f hf) (hb g hg)
theorem join_three (hs : Sorts sortP) (a b c : List Fact) : joinL sortP (joinL sortP a b) c = joinL sortP a (joinL sortP b c) := by
  refine normal_perm hs fun t => ?_
  rw [atT_join, atT_join]
  refine (pairs_perm (normal_at hs _ t) (.refl _)).trans ?_
  refine List.Perm.trans ?_ (pairs_perm (.refl _) (normal_at hs _ t)).symm
  rw [atT_join, atT_join, pairs_assoc]
end
end Go.Proofs.YtmkbclnhopoiiaaGreat
