/- Contract: awake of the statements about plans. -/
import Derived.Test.YtlphpbcafplnbaaGreatP12
set_option linter.unusedSimpArgs false
set_option linter.unusedVariables false
namespace Go.Proofs.YtlphpbcafplnbaaGreat
open Go.VL Go.RowKit

def fA : Fact := ⟨false, [⟨1, 1, []⟩, ⟨2, 0, []⟩], ⟨0, 5⟩⟩
def fB : Fact := ⟨false, [⟨1, 2, []⟩, ⟨2, 0, []⟩], ⟨3, 9⟩⟩
def wA : Qn := ⟨false, [fA], false, [fB], true, false, false, true, [], true, [], 0, false⟩
def sA0 : Src := ⟨false, [fA], 2, false⟩
def sA1 : Src := ⟨false, [fB], 2, false⟩
def qA : Qry := ⟨false, [sA0, sA1], true, [], true, []⟩
theorem askA : askQ wA = qA := rfl
theorem fitA : qA.Fit := ⟨by decide, by intro s hs; simp [qA] at hs; rcases hs with rfl | rfl <;> decide, by decide, by decide, by
  intro s hs f hf
  simp [qA] at hs
  rcases hs with rfl | rfl
  · simp [sA0] at hf; subst hf; decide
  · simp [sA1] at hf; subst hf; decide⟩
theorem chkA : checkQ qA = 0 := by decide
def plA : List Pln := [⟨false, 1, false, false⟩, ⟨false, 2, false, false⟩, ⟨true, 1, false, false⟩, ⟨true, 2, false, false⟩]
theorem plansA : plansL qA = plA := by decide
def oA : Opt := .filter (.nested (.scan false [fA]) (.scan false [fB])) true []
def fAB : Fact := ⟨false, [⟨1, 1, []⟩, ⟨2, 0, []⟩, ⟨1, 2, []⟩, ⟨2, 0, []⟩], ⟨3, 5⟩⟩
theorem joinA : joinK [fA] [fB] = [fAB] := by decide
theorem outA : oA.out = [fAB] := by
  show (joinK [fA] [fB]).filter (fun x => holdsT x.row []) = [fAB]
  rw [joinA]; rfl
theorem okA : oA.Ok := by
  refine ⟨⟨by show 1 ≤ MaxF; decide, by show 1 ≤ MaxF; decide, by show 1 ≤ MaxF; decide, by show 1 ≤ MaxF; decide, ?_, ?_⟩, ?_, by decide, ?_, ?_⟩
  · show (joinK [fA] [fB]).length ≤ MaxF
    rw [joinA]; decide
  · intro x hx y hy
    have hx : x ∈ [fA] := hx
    have hy : y ∈ [fB] := hy
    simp at hx hy
    subst hx hy
    decide
  · intro t ht; cases ht
  · show (joinK [fA] [fB]).length ≤ MaxF
    rw [joinA]; decide
  · intro x hx
    have hx : x ∈ joinK [fA] [fB] := hx
    rw [joinA] at hx
    simp at hx
    subst hx
    intro v hv
    simp [fAB] at hv
    rcases hv with rfl | rfl | rfl | rfl <;> decide
theorem fokA (f : Fact) (h : f = fA ∨ f = fB) : FOk [f] := by
  intro g hg
  simp at hg
  subst hg
  rcases h with rfl | rfl <;> decide
set_option maxRecDepth 4000 in
set_option maxHeartbeats 16000000 in
theorem awakeP_spec {sortP : List Per → List Per} (hs : Sorts sortP) (hi : SortsI) (hf : SortsF) : Con Tryz.prog 35 [] [.c (bln true)] := by
  refine spec_of Tryz.func35 rfl (by kernel_rfl) (by simp [Tryz.f35]) (fun w0 K0 => vc_ok _ _ _ (by kernel_rfl) ?_)
  simp only [Tryz.f35]
  have hfa := fact_spec 1 0 5
  have hfb := fact_spec 2 3 9
  have hask := asked_spec wA (by decide) (by intro e he; cases he)
  rw [askA] at hask
  have hpl := plans_at qA fitA chkA
  rw [plansA] at hpl
  have hbu := build_spec qA sA0 sA1 rfl fitA chkA rfl (fokA _ (.inl rfl)) (fokA _ (.inr rfl)) (fun _ => rfl)
  have hre := result_spec hs hi hf oA okA (by rw [outA]; decide) (by rw [outA]; intro f hf; simp at hf; subst hf; decide)
  rw [outA] at hre
  obtain ⟨gg, hg1, hg2⟩ := normal_single hs fAB (by decide)
  rw [hg1] at hre
  have hgl : gg.row.length = 4 := by rw [hg2]; rfl
  have hgc : gg.cells = [.sl gg.nl (vals gg.row), i64 gg.p.f, i64 gg.p.t] := rfl
  have hqc : qA.cells = [.sl false (srcs [sA0, sA1]), .sl true [], .sl true []] := rfl
  have hdc : ∃ d1 d2 d3 d4, askD wA = [d1, d2, d3, d4] := ⟨_, _, _, _, rfl⟩
  obtain ⟨d1, d2, d3, d4, hd⟩ := hdc
  have hwc : wA.cells = [.sl false [[.sl false [[i64 1, i64 1, str []], [i64 2, i64 0, str []]], i64 0, i64 5]], .sl false [[.sl false [[i64 1, i64 2, str []], [i64 2, i64 0, str []]], i64 3, i64 9]], bln true, bln false, bln false, .sl true [], .sl true [], i64 0, bln false] := rfl
  have hfac : (⟨false, [⟨1, 1, []⟩, ⟨2, 0, []⟩], ⟨0, 5⟩⟩ : Fact).cells = [.sl false [[i64 1, i64 1, str []], [i64 2, i64 0, str []]], i64 0, i64 5] := rfl
  have hfbc : (⟨false, [⟨1, 2, []⟩, ⟨2, 0, []⟩], ⟨3, 9⟩⟩ : Fact).cells = [.sl false [[i64 1, i64 2, str []], [i64 2, i64 0, str []]], i64 3, i64 9] := rfl
  have hplc : plns plA = [[bln false, i64 1, bln false, bln false], [bln false, i64 2, bln false, bln false], [bln true, i64 1, bln false, bln false], [bln true, i64 2, bln false, bln false]] := rfl
  have hw1 : way1.cells = [bln false, i64 1, bln false, bln false] := rfl
  rw [hfac] at hfa
  rw [hfbc] at hfb
  rw [hwc, hd, hqc] at hask
  rw [hqc] at hpl hbu
  rw [hplc, show plA.isEmpty = false from rfl] at hpl
  rw [hw1] at hbu
  have hoc : (Opt.filter (.nested (.scan sA0.fs.isEmpty sA0.fs) (.scan sA1.fs.isEmpty sA1.fs)) qA.tn qA.ts).c = oA.c := rfl
  rw [hoc] at hbu
  have hoc2 : oA.c = .ifc oA.tc.1 oA.tc.2 := rfl
  rw [hoc2] at hbu hre
  simp -dsimp
  refine VC.mk _ hfa ?_
  simp -dsimp [maxLen]
  refine VC.mk _ hfb ?_
  simp -dsimp [maxLen]
  refine VC.mk _ hask ?_
  simp -dsimp
  refine VC.mk _ hpl ?_
  simp -dsimp
  refine VL.draw (by kernel_rfl) [(0, false), (0, false), (2, false), (6, false), (15, true), (31, true), (63, false), (63, false), (127, false), (511, true)] (by kernel_rfl) ?_
  simp -dsimp
  refine VC.mk _ hbu ?_
  simp -dsimp
  refine VC.mk _ hre ?_
  simp -dsimp [hgc, hgl]
end Go.Proofs.YtlphpbcafplnbaaGreat
/- PlanCheapest: the plain law and the walk. -/
set_option linter.unusedSimpArgs false
set_option linter.unusedVariables false
namespace Go.Proofs.YtlphpbcafplnbaaGreat
open Go.VL Go.RowKit

theorem bestF_le (c : Pln → Int) : ∀ (l : List Pln) (b : Pln), c (bestF c b l) ≤ c b ∧ ∀ p ∈ l, c (bestF c b l) ≤ c p
  | [], b => ⟨Int.le_refl _, fun p h => by cases h⟩
  | x :: r, b => by
    rw [bestF]
    split
    · rename_i h
      obtain ⟨h1, h2⟩ := bestF_le c r x
      exact ⟨by omega, fun p hp => by rcases List.mem_cons.1 hp with rfl | hp; exact h1; exact h2 p hp⟩
    · rename_i h
      obtain ⟨h1, h2⟩ := bestF_le c r b
      exact ⟨h1, fun p hp => by rcases List.mem_cons.1 hp with rfl | hp; omega; exact h2 p hp⟩
theorem bestF_mem (c : Pln → Int) : ∀ (l : List Pln) (b : Pln), bestF c b l ∈ b :: l
  | [], b => by simp [bestF]
  | x :: r, b => by
    rw [bestF]
    split
    · have := bestF_mem c r x
      exact List.mem_cons_of_mem _ this
    · have := bestF_mem c r b
      rcases List.mem_cons.1 this with h | h
      · rw [h]; simp
      · exact List.mem_cons_of_mem _ (List.mem_cons_of_mem _ h)
theorem plans_way {q : Qry} {p : Pln} (h : p ∈ plansL q) : (twoQ q = true ∧ (p.way = 1 ∨ p.way = 2 ∨ p.way = 3 ∨ p.way = 4)) ∨ (twoQ q = false ∧ p.way = 0) := by
  unfold plansL L1 at h
  obtain ⟨sw, _, h⟩ := List.mem_flatMap.1 h
  unfold L2 at h
  obtain ⟨w, hw, h⟩ := List.mem_flatMap.1 h
  have hw5 : w < 5 := List.mem_range.1 hw
  unfold wayK at h
  split at h
  · cases h
  · rename_i hs
    unfold L3 at h
    obtain ⟨pu, _, h⟩ := List.mem_flatMap.1 h
    obtain ⟨ea, _, rfl⟩ := List.mem_map.1 h
    have hs' : skipQ q ⟨sw, w, false, false⟩ = false := by simpa using hs
    unfold skipQ at hs'
    simp only [Bool.or_eq_false_iff] at hs'
    cases ht : twoQ q with
    | true =>
      left
      rw [ht] at hs'
      have : ¬ (w : Int) = 0 := by simpa using hs'.1
      refine ⟨rfl, ?_⟩
      show (w : Int) = 1 ∨ (w : Int) = 2 ∨ (w : Int) = 3 ∨ (w : Int) = 4
      omega
    | false =>
      right
      rw [ht] at hs'
      have : (w : Int) = 0 := by
        have := hs'.1
        simpa using this
      exact ⟨rfl, this⟩
theorem wayC_ok {t n m w : Int} (hw : w = 1 ∨ w = 2 ∨ w = 3 ∨ w = 4) (ht : 0 ≤ t) (hn : 0 ≤ n) (hm : 0 ≤ m) : (wayC t n m w).2 = 0 ∧ 0 ≤ (wayC t n m w).1 := by
  have hd : ∀ x, 0 ≤ dgI x := fun x => by unfold dgI; omega
  have h1 := Int.mul_nonneg hn hm
  have h2 := Int.mul_nonneg (show 0 ≤ n + m by omega) (show 0 ≤ 1 + dgI (n + m) by have := hd (n + m); omega)
  have h3 := Int.mul_nonneg (show 0 ≤ n + m by omega) (show 0 ≤ 2 + dgI m by have := hd m; omega)
  unfold wayC
  rcases hw with rfl | rfl | rfl | rfl
  · rw [if_pos rfl]; exact ⟨rfl, by show 0 ≤ t + n * m; omega⟩
  · rw [if_neg (by decide), if_pos rfl]; exact ⟨rfl, by show 0 ≤ t + (n + m) * (1 + dgI (n + m)); omega⟩
  · rw [if_neg (by decide), if_neg (by decide), if_pos (.inl rfl)]; exact ⟨rfl, by show 0 ≤ t + (n + m) * (2 + dgI m); omega⟩
  · rw [if_neg (by decide), if_neg (by decide), if_pos (.inr rfl)]; exact ⟨rfl, by show 0 ≤ t + (n + m) * (2 + dgI m); omega⟩
theorem cost_fine {q : Qry} {m : Nat} (hq : q.Good m) (hc : checkQ q = 0) {p : Pln} (h : p ∈ plansL q) : (costQ q p).2 = 0 ∧ 0 ≤ (costQ q p).1 := by
  have hl := check_len hc
  have hti := totK_in q.src hq.sm q.src.length (Nat.le_refl _)
  have htt : 0 ≤ totQ q := hti.1
  have hi0 := sizeQ_in q 0 p (by have := hq.sm _ (List.getElem_mem (show 0 < q.src.length by omega)); rwa [show q.src[0]! = q.src[0] from by simp [show 0 < q.src.length by omega]])
  unfold costQ
  rw [if_neg (by simp [hc])]
  by_cases h1 : q.src.length = 1
  · rw [if_pos h1]
    exact ⟨rfl, by show 0 ≤ totQ q + sizeQ q 0 p; omega⟩
  · rw [if_neg h1]
    have h2 : q.src.length = 2 := by omega
    have hi1 := sizeQ_in q 1 p (by have := hq.sm _ (List.getElem_mem (show 1 < q.src.length by omega)); rwa [show q.src[1]! = q.src[1] from by simp [show 1 < q.src.length by omega]])
    have htw : twoQ q = true := by unfold twoQ; rw [h2]; rfl
    have hw : p.way = 1 ∨ p.way = 2 ∨ p.way = 3 ∨ p.way = 4 := by
      rcases plans_way h with ⟨_, h⟩ | ⟨h, _⟩
      · exact h
      · rw [htw] at h; cases h
    split
    · exact wayC_ok hw htt hi1.1 hi0.1
    · exact wayC_ok hw htt hi0.1 hi1.1
theorem choose_nth {q : Qry} {k : Nat} (h : k < (plansL q).length) : chooseQ q k = (plansL q)[k] := by
  unfold chooseQ
  rw [if_pos (by omega), Int.tmod_eq_of_lt (by omega) (by omega)]
  simp [h]
theorem choose_best {q : Qry} (hc : checkQ q = 0) : chooseQ q (-1) ∈ plansL q ∧ ∀ p ∈ plansL q, costV q (chooseQ q (-1)) ≤ costV q p := by
  have hne := plansL_ne hc
  unfold chooseQ
  rw [if_neg (by omega)]
  generalize plansL q = l at *
  match l, hne with
  | x :: r, _ =>
    rw [show (x :: r)[0]! = x from rfl, List.drop_succ_cons, List.drop_zero]
    obtain ⟨h1, h2⟩ := bestF_le (costV q) r x
    refine ⟨bestF_mem _ _ _, fun p hp => ?_⟩
    rcases List.mem_cons.1 hp with rfl | hp
    · exact h1
    · exact h2 p hp
end Go.Proofs.YtlphpbcafplnbaaGreat
/- PlanCheapest: the walk. -/
set_option linter.unusedSimpArgs false
set_option linter.unusedVariables false
namespace Go.Proofs.YtlphpbcafplnbaaGreat
open Go.VL Go.RowKit

def eqP (p b : Pln) : Bool := eqCs p.cells b.cells
def fndK (b : Pln) (l : List Pln) (k : Nat) : Bool := (l.take k).any fun p => eqP p b
theorem fndK_snoc (b : Pln) (l : List Pln) {k : Nat} (h : k < l.length) : fndK b l (k + 1) = (fndK b l k || eqP l[k] b) := by
  unfold fndK; rw [take_snoc h, List.any_append]; simp
theorem fndK_end (b : Pln) (l : List Pln) (h : b ∈ l) : fndK b l l.length = true := by
  unfold fndK
  rw [List.take_length]
  exact List.any_eq_true.2 ⟨b, h, by unfold eqP; simp [Pln.cells]⟩
set_option maxRecDepth 4000 in
set_option maxHeartbeats 32000000 in
theorem cheapest_spec {sortP : List Per → List Per} (hs : Sorts sortP) (hi : SortsI) (hf : SortsF) (hj : SortsJ) (w : Qn) (m : Nat) (o : Int) (hcs : w.cs.length ≤ 1000000000) (hfit : ∀ e ∈ w.cs, e.fit) (hq : (askQ w).Fit) (hg : checkQ (askQ w) = 0 → (askQ w).Good m) :
    Con Tryz.prog 11 [.agg w.cells, .c (i64 o)] [.c (bln true)] := by
  refine spec_of Tryz.func11 rfl (by kernel_rfl) (by simp [Tryz.f11]) (fun w0 K0 => vc_ok _ _ _ (by kernel_rfl) ?_)
  simp only [Tryz.f11]
  have hask := asked_spec w hcs hfit
  have hdc : ∃ d1 d2 d3 d4, askD w = [d1, d2, d3, d4] := ⟨_, _, _, _, rfl⟩
  obtain ⟨d1, d2, d3, d4, hd⟩ := hdc
  rw [hd] at hask
  have hqc : (askQ w).cells = [.sl (askQ w).sn (srcs (askQ w).src), .sl (askQ w).tn (terms (askQ w).ts), .sl (askQ w).dn ((askQ w).du.map Per.cells)] := rfl
  have hwc : w.cells = [.sl w.na (facts w.A), .sl w.nb (facts w.B), bln w.two, bln w.i0, bln w.i1, .sl w.nc (exprs w.cs), .sl w.nd (w.du.map Per.cells), i64 w.cols, bln w.s3] := rfl
  rw [hwc] at hask
  rw [hwc]
  simp -dsimp
  refine VC.mk _ (awakeP_spec hs hi hf) ?_
  simp -dsimp
  rw [hqc] at hask
  refine VC.mk _ hask ?_
  generalize askQ w = q at *
  have hpc : ∀ p : Pln, p.cells = [bln p.swap, i64 p.way, bln p.push, bln p.early] := fun _ => rfl
  by_cases hc : checkQ q = 0
  · have hq2 := hg hc
    have hpl := plans_at q hq hc
    have hcost := cost_ok hj m q hq2 hc
    have hcho := choose_ok hj m q hq2 hc
    have hfine := fun p => @cost_fine q m hq2 hc p
    have hnth := fun k => @choose_nth q k
    obtain ⟨hbm, hbl⟩ := choose_best hc
    have hne := plansL_ne hc
    have hle := plansL_le q
    have hcv : ∀ p, costV q p = (costQ q p).1 := fun _ => rfl
    rw [hqc] at hpl hcost hcho
    obtain ⟨best, hbe⟩ : ∃ b, chooseQ q (-1) = b := ⟨_, rfl⟩
    have hcb := hcho (-1)
    rw [hbe] at hcb hbm hbl
    have hcc := hcost best
    have hfb := hfine best hbm
    rw [hpc] at hcb hcc
    rw [hfb.1] at hcc
    simp -dsimp
    refine VC.mk _ hpl ?_
    simp -dsimp
    refine VC.mk _ hcb ?_
    simp -dsimp
    refine VC.mk _ hcc ?_
    simp -dsimp
    generalize plansL q = l at *
    have hie : l.isEmpty = false := List.isEmpty_eq_false_iff.2 hne
    refine VL.loop (fun k : Nat => ⟨[(52, .c (i64 k)), (51, .c (i64 l.length)), (50, .c (.sl l.isEmpty (plns l))), (11, .c (i64 (costQ q best).1)), (13, .c (bln (fndK best l k))), (5, .ptr 320 0), (9, .ptr 576 0), (10, .c (i64 0)), (12, .c (i64 0)), (1, .c (i64 o))],
        [(320, some (.box false [.c (.sl q.sn (srcs q.src)), .c (.sl q.tn (terms q.ts)), .c (.sl q.dn (q.du.map Per.cells))])), (576, some (.box false [.c (bln best.swap), .c (i64 best.way), .c (bln best.push), .c (bln best.early)]))]⟩)
      (fun k => k ≤ l.length) (fun k => l.length - k) 0 (by kernel_rfl) (by simp) (by simp [St.le, fndK]) ?_
    intro k hk
    by_cases h1 : k < l.length
    · have hw : IntKind.i64.wrap ((k : Int) + 1) = (k : Int) + 1 := IntWalk.i64_in _ (by omega)
      have hck := hcost l[k]
      have hfk := hfine l[k] (List.getElem_mem h1)
      have hxk := hcho k
      rw [hnth k h1] at hxk
      have hlk := hbl l[k] (List.getElem_mem h1)
      rw [hcv, hcv] at hlk
      have hfs := fndK_snoc best l h1
      rw [hpc] at hck hxk
      rw [hfk.1] at hck
      have hpos := hfk.2
      simp -dsimp [h1, hpc]
      generalize l[k] = p at *
      generalize (costQ q p).1 = cp at *
      generalize (costQ q best).1 = cb at *
      refine VC.mk _ hck ?_
      simp -dsimp
      refine VC.mk _ hxk ?_
      have hn1 : ¬ cp < cb := by omega
      have hn2 : ¬ cp < 0 := by omega
      simp -dsimp [hn1, hn2, hw]
      have hep : eqP p best = (p.swap == best.swap && (p.way == best.way && (p.push == best.push && p.early == best.early))) := by unfold eqP; simp [Pln.cells]
      rw [hep] at hfs
      refine ⟨k + 1, by omega, ?_, by omega⟩
      simp [St.le, hfs]
    · obtain rfl : k = l.length := by omega
      simp -dsimp
      have hco := hcho o
      rw [hpc] at hco
      refine VC.mk _ hco ?_
      have hfe : fndK best l l.length = true := fndK_end best l hbm
      simp -dsimp [hfe]
  · have hpl := plans_err q hq hc
    have hne : (checkQ q != 0) = true := by simpa using hc
    rw [hqc] at hpl
    simp -dsimp
    refine VC.mk _ hpl ?_
    simp -dsimp [hne]
end Go.Proofs.YtlphpbcafplnbaaGreat
