/- Contracts of functions of the seat, proved in a logic on data over the model (part P12). -/
import Derived.Test.YtlphpbcafplnbaaGreatPC
import Derived.Test.YtlphpbcafplnbaaGreatXC
import Derived.Test.YtlphpbcafplnbaaGreatVA8
set_option linter.unusedSimpArgs false
set_option linter.unusedVariables false
namespace Go.VL
open Go.RowKit
section
variable {P : Program} {w0 : World} {K0 : K0T} {nt : Nat} {OPS : Array Oper}
theorem VL.anyTo {id : Nat} {ops : List Oper} {st : St} {Q : Exit → St → Prop} {m1 : Keep (Code.region id ops.toArray true)} {m2 : Keep Q} (stC : St) (hm : P.follows .mixedOrders = true)
    (h : VA P w0 K0 nt ops.toArray ops.length (Array.replicate ops.length false) st (fun st' => st'.le stC)) (hk : Q .normal stC) : VL P w0 K0 nt (.region id ops.toArray true) st Q m1 m2 := fun a w g hT => by
  refine wp_region_any hm ?_
  have hT' : T w0 K0 nt st a { w with drawn := w.drawn + 1 } g :=
    hT.world (w' := { w with drawn := w.drawn + 1 }) (K' := g.K) ⟨rfl, rfl, rfl, Nat.le_refl _, fun _ _ => rfl, Nat.le_succ _⟩ ⟨fun _ _ h => h, fun _ _ _ => rfl⟩ hT.kold hT.klt (fun _ _ _ _ _ => ⟨rfl, fun _ h => h⟩)
  exact h a _ g hT' _ fun st' a' w' g' h1 h2 => ⟨stC, g', hk, h2.weaken h1⟩
end
end Go.VL
namespace Go.Proofs.YtlphpbcafplnbaaGreat
open Go.VL Go.RowKit
set_option maxRecDepth 4000 in
set_option maxHeartbeats 16000000 in
theorem refScope_spec (nl : Bool) (l : List Tab) (hl : l.length ≤ 1000) (hc : ∀ t ∈ l, t.cols.length ≤ 1000000) :
    Con Tryz.prog 67 [.c (.sl nl (tabs l))] [.c (.sl (scopeOf l).isEmpty (scols (scopeOf l)))] := by
  refine Con.frz (rs := [.fr (scopeOf l).isEmpty (if (scopeOf l).isEmpty then 0 else 3) (scols (scopeOf l)) 0]) ?_ 0 rfl
  refine spec_of Tryz.func67 rfl (by kernel_rfl) (by simp [Tryz.f67]) (fun w0 K0 => vc_ok _ _ _ (by kernel_rfl) ?_)
  simp only [Tryz.f67]
  simp -dsimp
  refine VL.loop (fun i : KI => ⟨[(4, .c (i64 i.k)), (0, .c (.sl nl (tabs l))), (3, .own 192 (scopeK l i.k).length)],
      [(192, some (.arr i.nl i.sz (scols (scopeK l i.k)) 0))]⟩)
    (fun i => i.k ≤ l.length ∧ RJ 3 i.nl i.sz (scopeK l i.k)) (fun i => l.length - i.k) ⟨0, true, 0⟩ (by kernel_rfl) ⟨by simp, rfl, rfl⟩ (by simp [St.le, scopeK]) ?_
  intro ⟨k, z, sz⟩ ⟨hk, hz, hsz⟩
  simp only at hk hz hsz
  simp -dsimp
  refine VIf.mk (fun h => ?_) (fun h => ?_)
  · have hlt : k < l.length := by simpa using h
    have hw : IntKind.i64.wrap ((k : Int) + 1) = (k : Int) + 1 := IntWalk.i64_in _ (by omega)
    have hck := hc l[k] (List.getElem_mem hlt)
    have hkl := scopeK_len hc k (by omega)
    have hkl' : (scopeK l k).length ≤ 1000000000 := Nat.le_trans hkl (Nat.le_trans (Nat.mul_le_mul_right _ (by omega : k ≤ 1000)) (by decide))
    simp -dsimp
    generalize hL : scopeK l k = L at hkl' hz ⊢
    refine VL.loop (fun i : KI => ⟨[(5, .c (i64 i.k)), (4, .c (i64 k)), (0, .c (.sl nl (tabs l))), (3, .own 192 (L ++ colsOf l[k] i.k).length)],
        [(192, some (.arr i.nl i.sz (scols (L ++ colsOf l[k] i.k)) 0))]⟩)
      (fun i => i.k ≤ l[k].cols.length ∧ RJ 3 i.nl i.sz (L ++ colsOf l[k] i.k)) (fun i => l[k].cols.length - i.k) ⟨0, z, sz⟩ (by kernel_rfl) ⟨by simp, by simpa [colsOf] using hz, hsz⟩ (by simp [St.le, colsOf]) ?_
    intro ⟨j, z2, sz2⟩ ⟨hj, hz2, hsz2⟩
    simp only at hj hz2 hsz2
    have hcl := colsOf_len l[k] j
    simp -dsimp [hlt, Tab.cells]
    refine VIf.mk (fun h2 => ?_) (fun h2 => ?_)
    · have hlt2 : j < l[k].cols.length := by simpa using h2
      have hw2 : IntKind.i64.wrap ((j : Int) + 1) = (j : Int) + 1 := IntWalk.i64_in _ (by omega)
      have hcs := colsOf_step hlt2
      simp -dsimp [hlt, hlt2, Tab.cells, Col.cells]
      refine VL.draw (by kernel_rfl) [(0, false), (0, false), (0, false), (6, false), (14, false), (30, false), (0, false), (64, false), (0, false), (256, false), (1022, false), (2046, false), (4095, true), (8191, true)] (by kernel_rfl) ?_
      simp -dsimp [hlt, hlt2, Tab.cells, Col.cells, maxLen]
      refine ⟨fun e => by rw [hsz2, e]; rfl, by omega, ⟨j + 1, false, 3⟩, ⟨by simp only; omega, ?_⟩, ?_, by simp only; omega⟩
      · rw [hcs, ← List.append_assoc]; exact RJ.next
      · simp only [hcs]
        simp [St.le, hw2, SCol.cells, Nat.add_assoc]
    · simp at h2
      obtain rfl : j = l[k].cols.length := by omega
      simp -dsimp [hw]
      refine ⟨⟨k + 1, z2, sz2⟩, ⟨by simp only; omega, ?_⟩, ?_, by simp only; omega⟩
      · rw [scopeK_step hlt, hL]; exact ⟨hz2, hsz2⟩
      · simp only [scopeK_step hlt, hL]
        simp [St.le]
  · simp at h
    obtain rfl : k = l.length := by omega
    simp -dsimp
    exact ⟨⟨hz, by rw [hsz, hz]; simp [scopeOf]; rfl, rfl⟩, rfl⟩
def tabTq : Tab := ⟨0, [84], false, [⟨[65], 1⟩, ⟨[66], 2⟩], true, [], false⟩
def tabUq : Tab := ⟨0, [85], false, [⟨[67], 1⟩, ⟨[68], 2⟩], true, [], false⟩
def tabsQ (two : Bool) : List Tab := bif two then [tabTq, tabUq] else [tabTq]
set_option maxRecDepth 4000 in
set_option maxHeartbeats 4000000 in
theorem tables_spec (two : Bool) : Con Tryz.prog 70 [.c (bln two)] [.c (.sl false (tabs (tabsQ two)))] := by
  refine Con.frz (rs := [.fr false 5 (tabs (tabsQ two)) 0]) ?_ 0 rfl
  refine spec_of Tryz.func70 rfl (by kernel_rfl) (by simp [Tryz.f70]) (fun w0 K0 => vc_ok _ _ _ (by kernel_rfl) ?_)
  simp only [Tryz.f70]
  cases two <;> simp -dsimp [tabsQ, tabTq, tabUq, Tab.cells, Col.cells, maxLen]
set_option maxRecDepth 4000 in
set_option maxHeartbeats 4000000 in
theorem fact_spec (n f t : Int) : Con Tryz.prog 69 [.c (i64 n), .c (i64 f), .c (i64 t)] [.ag (⟨false, [⟨1, n, []⟩, ⟨2, 0, []⟩], ⟨f, t⟩⟩ : Fact).cells] := by
  refine spec_of Tryz.func69 rfl (by kernel_rfl) (by simp [Tryz.f69]) (fun w0 K0 => vc_ok _ _ _ (by kernel_rfl) ?_)
  simp only [Tryz.f69]
  simp -dsimp [Fact.cells, Val.cells, maxLen]
structure Qn where
  na : Bool
  A : List Fact
  nb : Bool
  B : List Fact
  two : Bool
  i0 : Bool
  i1 : Bool
  nc : Bool
  cs : List Ex
  nd : Bool
  du : List Per
  cols : Int
  s3 : Bool
def Qn.cells (w : Qn) : List C := [.sl w.na (facts w.A), .sl w.nb (facts w.B), bln w.two, bln w.i0, bln w.i1, .sl w.nc (exprs w.cs), .sl w.nd (w.du.map Per.cells), i64 w.cols, bln w.s3]
def Qn.n (w : Qn) : Int := if w.cols = 0 then 2 else w.cols
def src0 : Src := ⟨true, [], 0, false⟩
def srcQ (w : Qn) : List Src := [⟨w.na, w.A, w.n, w.i0⟩] ++ (bif w.two then [⟨w.nb, w.B, 2, w.i1⟩] else []) ++ (bif w.s3 then [src0, src0] else [])
def scQ (w : Qn) : List SCol := scopeOf (tabsQ w.two)
def okE (sc : List SCol) (e : Ex) : Bool := match bindE sc e with | .ok _ => true | .no _ => false
def termE (sc : List SCol) (e : Ex) : Option Tm := match bindE sc e with | .ok t => some t | .no _ => none
def termK (w : Qn) (k : Nat) : List Tm := (w.cs.take k).filterMap (termE (scQ w))
def takenK (w : Qn) (k : Nat) : List Ex := (w.cs.take k).filter (okE (scQ w))
def askQ (w : Qn) : Qry := ⟨false, srcQ w, (termK w w.cs.length).isEmpty, termK w w.cs.length, w.nd, w.du⟩
def askD (w : Qn) : List C := [.sl false (srcs (srcQ w)), .sl (takenK w w.cs.length).isEmpty (exprs (takenK w w.cs.length)), .sl false (scols (scQ w)), .sl w.nd (w.du.map Per.cells)]
theorem termK_snoc (w : Qn) {k : Nat} (h : k < w.cs.length) : termK w (k + 1) = termK w k ++ (termE (scQ w) w.cs[k]).toList := by
  unfold termK; rw [take_snoc h, List.filterMap_append]; cases he : termE (scQ w) w.cs[k] <;> simp [he]
theorem takenK_snoc (w : Qn) {k : Nat} (h : k < w.cs.length) : takenK w (k + 1) = takenK w k ++ if okE (scQ w) w.cs[k] then [w.cs[k]] else [] := filter_snoc h
theorem scQ_ne (w : Qn) : (scQ w).isEmpty = false := by unfold scQ; cases w.two <;> rfl
theorem tabsQ_cells (b : Bool) : ∀ t ∈ tabsQ b, t.cells = [i64 0, str t.name, .sl t.nc (t.cols.map Col.cells), .sl true [], bln false] := by cases b <;> simp [tabsQ, tabTq, tabUq, Tab.cells]
theorem tabsQ_len (b : Bool) : (tabsQ b).length ≤ 2 := by cases b <;> decide
theorem tabsQ_ok (b : Bool) : (tabsQ b).length ≤ 1000 ∧ ∀ t ∈ tabsQ b, t.cols.length ≤ 1000000 := by cases b <;> decide
structure QI where
  k : Nat
  n1 : Bool
  z1 : Nat
  n2 : Bool
  z2 : Nat
set_option maxRecDepth 4000 in
set_option maxHeartbeats 32000000 in
theorem asked_spec (w : Qn) (hcs : w.cs.length ≤ 1000000000) (hfit : ∀ e ∈ w.cs, e.fit) : Con Tryz.prog 36 [.agg w.cells] [.ag (askQ w).cells, .ag (askD w)] := by
  refine spec_of Tryz.func36 rfl (by kernel_rfl) (by simp [Tryz.f36]) (fun w0 K0 => vc_ok _ _ _ (by kernel_rfl) ?_)
  simp only [Tryz.f36]
  have htab := tables_spec w.two
  obtain ⟨ht1, ht2⟩ := tabsQ_ok w.two
  have hrs := refScope_spec false (tabsQ w.two) ht1 ht2
  have hbs := scope_spec false (tabsQ w.two) ht1 ht2
  have hsn := scQ_ne w
  have hscq : scopeOf (tabsQ w.two) = scQ w := rfl
  rw [hscq, hsn] at hrs hbs
  simp -dsimp [Qn.cells]
  refine VC.mk _ htab ?_
  simp -dsimp
  refine VL.loop (fun i : KI => ⟨[(19, .c (i64 i.k)), (18, .c (i64 (tabsQ w.two).length)), (17, .c (.sl false (tabs (tabsQ w.two)))), (4, .own 256 i.k), (1, .ptr 64 0), (2, .ptr 128 0), (3, .ptr 192 0)],
      [(64, some (.box false [.c (.sl w.na (facts w.A)), .c (.sl w.nb (facts w.B)), .c (bln w.two), .c (bln w.i0), .c (bln w.i1), .c (.sl w.nc (exprs w.cs)), .c (.sl w.nd (w.du.map Per.cells)), .c (i64 w.cols), .c (bln w.s3)])),
        (256, some (.arr i.nl i.sz (tabs ((tabsQ w.two).take i.k)) 0)), (128, some (.box false [.own 129 0, .own 130 0, .own 131 0])), (129, some (.arr true 0 [] 0)), (130, some (.arr true 0 [] 0)), (131, some (.arr true 0 [] 0)), (192, some (.box false [.own 193 0, .own 194 0, .own 195 0, .own 196 0])), (193, some (.arr true 0 [] 0)), (194, some (.arr true 0 [] 0)), (195, some (.arr true 0 [] 0)), (196, some (.arr true 0 [] 0))]⟩)
    (fun i => i.k ≤ (tabsQ w.two).length ∧ i.nl = decide (i.k = 0) ∧ (i.nl = false → i.sz = 5)) (fun i => (tabsQ w.two).length - i.k) ⟨0, true, 0⟩ (by kernel_rfl) ⟨by simp, rfl, fun e => by (cases e)⟩ (by simp [St.le]) ?_
  intro ⟨k, z, sz⟩ ⟨hk, hz, hsz⟩
  simp only at hk hz hsz
  have htl := tabsQ_len w.two
  by_cases h1 : k < (tabsQ w.two).length
  · have hw : IntKind.i64.wrap ((k : Int) + 1) = (k : Int) + 1 := IntWalk.i64_in _ (by omega)
    have htc := tabsQ_cells w.two _ (List.getElem_mem h1)
    have hsn2 := take_snoc h1
    have htk : ((tabsQ w.two).take k).length = k := by rw [List.length_take]; omega
    have hm : List.take (k + 1) (tabs (tabsQ w.two)) = List.take k (tabs (tabsQ w.two)) ++ [(tabsQ w.two)[k].cells] := by
      show List.take (k + 1) (List.map Tab.cells _) = List.take k (List.map Tab.cells _) ++ _
      rw [← List.map_take, hsn2, List.map_append, List.map_take]; rfl
    rw [htc] at hm
    simp -dsimp [h1, htc]
    refine ⟨by decide, by omega, hsz, by omega, ⟨k + 1, false, 5⟩, ⟨by simp only; omega, by simp, fun _ => rfl⟩, ?_, by simp only; omega⟩
    simp [St.le, hw, hm]
  · obtain rfl : k = (tabsQ w.two).length := by omega
    rw [List.take_length]
    have hz0 : z = false := by rw [hz]; cases w.two <;> rfl
    subst hz0
    obtain rfl : sz = 5 := hsz rfl
    simp -dsimp
    refine VL.snap 4 ?_
    simp -dsimp
    refine VL.draw (by kernel_rfl) [(0, false), (1, false), (0, false), (4, false), (15, false), (0, false), (63, true)] (by kernel_rfl) ?_
    simp -dsimp
    refine VCE.mk _ hrs ?_
    simp -dsimp
    refine ⟨by first | rfl | simp [Value.cells], ?_⟩
    have hn : w.n = if w.cols = 0 then 2 else w.cols := rfl
    refine VIf.mk (fun g => ?_) (fun g => ?_)
    all_goals
      have g' := g
      simp at g'
      first | rw [if_neg g'] at hn | rw [if_pos g'] at hn
      have hsr : srcQ w = [⟨w.na, w.A, w.n, w.i0⟩] ++ (bif w.two then [⟨w.nb, w.B, 2, w.i1⟩] else []) ++ (bif w.s3 then [src0, src0] else []) := rfl
      rw [hn] at hsr
      obtain ⟨two, htw⟩ : ∃ b, w.two = b := ⟨_, rfl⟩
      obtain ⟨s3, hs3⟩ : ∃ b, w.s3 = b := ⟨_, rfl⟩
      rw [htw, hs3] at hsr
      rw [htw] at htab hbs
      simp only [htw, hs3]
      clear hk hsz hz hrs htl
      have hscl : (scQ w).length ≤ 1000000000000 := by unfold scQ; cases w.two <;> decide
      cases two <;> cases s3
      all_goals
        simp -dsimp [maxLen]
        refine VC.mk _ htab ?_
        simp -dsimp
        refine VC.mk _ hbs ?_
        simp -dsimp
        refine VL.nilcell 448 1 10000 (by decide) ?_
        simp -dsimp
        refine VL.nilcell 512 1 10001 (by decide) ?_
        simp -dsimp
        refine VL.loop (fun i : QI => ⟨[(116, .c (i64 i.k)), (115, .c (i64 w.cs.length)), (114, .c (.sl w.nc (exprs w.cs))), (10, .c (.sl false (scols (scQ w)))), (7, .ptr 448 0), (8, .ptr 512 0), (2, .ptr 128 0), (3, .ptr 192 0)],
            [(448, some (.box false [.own 3520 (srcQ w).length, .own 10000 (termK w i.k).length, .c (.sl w.nd (w.du.map Per.cells))])), (512, some (.box false [.own 4288 (srcQ w).length, .own 10001 (takenK w i.k).length, .c (.sl false (scols (scQ w))), .c (.sl w.nd (w.du.map Per.cells))])),
              (3520, some (.arr false 3 (srcs (srcQ w)) 0)), (4288, some (.arr false 3 (srcs (srcQ w)) 0)), (10000, some (.arr i.n1 i.z1 (terms (termK w i.k)) 0)), (10001, some (.arr i.n2 i.z2 (exprs (takenK w i.k)) 0)),
              (128, some (.box false [.own 129 0, .own 130 0, .own 131 0])), (129, some (.arr true 0 [] 0)), (130, some (.arr true 0 [] 0)), (131, some (.arr true 0 [] 0)), (192, some (.box false [.own 193 0, .own 194 0, .own 195 0, .own 196 0])), (193, some (.arr true 0 [] 0)), (194, some (.arr true 0 [] 0)), (195, some (.arr true 0 [] 0)), (196, some (.arr true 0 [] 0))]⟩)
          (fun i => i.k ≤ w.cs.length ∧ (i.n1 = (termK w i.k).isEmpty ∧ (i.n1 = false → i.z1 = 7)) ∧ (i.n2 = (takenK w i.k).isEmpty ∧ (i.n2 = false → i.z2 = 5)) ∧ (termK w i.k).length ≤ i.k ∧ (takenK w i.k).length ≤ i.k) (fun i => w.cs.length - i.k) ⟨0, true, 0, true, 0⟩ (by kernel_rfl) ⟨by simp, ⟨rfl, fun e => by (cases e)⟩, ⟨rfl, fun e => by (cases e)⟩, by simp [termK], by simp [takenK]⟩ (by rw [hsr]; simp [St.le, termK, takenK, Src.cells, src0]) ?_
        intro ⟨k, n1, z1, n2, z2⟩ ⟨hk, ⟨ha1, ha2⟩, ⟨hb1, hb2⟩, hla, hlb⟩
        simp only at hk ha1 ha2 hb1 hb2 hla hlb
        by_cases h2 : k < w.cs.length
        · have hw : IntKind.i64.wrap ((k : Int) + 1) = (k : Int) + 1 := IntWalk.i64_in _ (by omega)
          have hsa := termK_snoc w h2
          have hsb := takenK_snoc w h2
          have hbd := bind_all false (scQ w) hscl w.cs[k] (hfit _ (List.getElem_mem h2))
          have hne := bindE_ne (scQ w) w.cs[k]
          unfold BindCon at hbd
          unfold termE at hsa
          unfold okE at hsb
          generalize bindE (scQ w) w.cs[k] = be at *
          obtain ⟨op', int', text', of', nl', args', hex⟩ : ∃ op' int' text' of' nl' args', w.cs[k] = Ex.mk op' int' text' of' nl' args' := by
            cases w.cs[k]; exact ⟨_, _, _, _, _, _, rfl⟩
          rw [hex, Ex.cells_mk] at hbd
          rw [hex] at hsb
          have hcell : (exprs w.cs)[k]'(by simpa using h2) = [str op', i64 int', str text', str of', .sl nl' (args'.map Ex.cells)] := by
            simp [hex, Ex.cells_mk]
          generalize termK w k = tk at *
          generalize takenK w k = ek at *
          generalize srcQ w = sq at *
          simp -dsimp [h2, hcell]
          refine VC.mk _ hbd ?_
          cases be with
          | no c =>
            have hc0 : (c == 0) = false := by simpa using hne c rfl
            simp only [Option.toList_none, List.append_nil, Bool.false_eq_true, if_false] at hsa hsb
            simp -dsimp [bdT, bdC, Tm.cells_mk, hc0, hw]
            refine ⟨⟨k + 1, n1, z1, n2, z2⟩, ⟨by simp only; omega, ⟨by simp only; rw [hsa]; exact ha1, ha2⟩, ⟨by simp only; rw [hsb]; exact hb1, hb2⟩, by simp only; rw [hsa]; omega, by simp only; rw [hsb]; omega⟩, ?_, by simp only; omega⟩
            simp [St.le, hsa, hsb]
          | ok t =>
            obtain ⟨o2, k2, v2, p2, nn2, a2⟩ := t
            simp only [Option.toList_some, if_true] at hsa hsb
            simp -dsimp [bdT, bdC, Tm.cells_mk, hw, maxLen]
            refine ⟨ha2, by omega, hb2, by omega, ⟨k + 1, false, 7, false, 5⟩, ⟨by simp only; omega, ⟨by simp only; rw [hsa]; simp, fun _ => rfl⟩, ⟨by simp only; rw [hsb]; simp, fun _ => rfl⟩, by simp only; rw [hsa]; simp; omega, by simp only; rw [hsb]; simp; omega⟩, ?_, by simp only; omega⟩
            simp [St.le, hsa, hsb, Tm.cells_mk, Ex.cells_mk]
        · obtain rfl : k = w.cs.length := by omega
          simp -dsimp
          have haq : (askQ w).cells = [.sl false (srcs (srcQ w)), .sl (termK w w.cs.length).isEmpty (terms (termK w w.cs.length)), .sl w.nd (w.du.map Per.cells)] := rfl
          have had : askD w = [.sl false (srcs (srcQ w)), .sl (takenK w w.cs.length).isEmpty (exprs (takenK w w.cs.length)), .sl false (scols (scQ w)), .sl w.nd (w.du.map Per.cells)] := rfl
          rw [haq, had]
          generalize termK w w.cs.length = tk at *
          generalize takenK w w.cs.length = ek at *
          generalize srcQ w = sq at *
          refine VL.anyTo ⟨[(2, .ptr 128 0), (3, .ptr 192 0)], [(128, some (.box false [.c (.sl false (srcs sq)), .c (.sl tk.isEmpty (terms tk)), .c (.sl w.nd (w.du.map Per.cells))])),
            (192, some (.box false [.c (.sl false (srcs sq)), .c (.sl ek.isEmpty (exprs ek)), .c (.sl false (scols (scQ w))), .c (.sl w.nd (w.du.map Per.cells))]))]⟩ (by kernel_rfl) ?_ ?_
          ·
            refine VA.node [0, 1] (by kernel_rfl) (by simp) ?_
            intro i hi
            simp at hi
            rcases hi with rfl | rfl
            · skip
              refine VOp.run rfl (by kernel_rfl) ?_
              simp -dsimp
              refine VA.node [1, 2] (by kernel_rfl) (by simp) ?_
              intro i hi
              simp at hi
              rcases hi with rfl | rfl
              · skip
                refine VOp.run rfl (by kernel_rfl) ?_
                simp -dsimp
                refine VA.node [2] (by kernel_rfl) (by simp) ?_
                intro i hi
                simp at hi
                subst hi
                refine VOp.run rfl (by kernel_rfl) ?_
                simp -dsimp
                refine VA.node [3] (by kernel_rfl) (by simp) ?_
                intro i hi
                simp at hi
                subst hi
                refine VOp.run rfl (by kernel_rfl) ?_
                simp -dsimp
                refine VA.fin (by kernel_rfl) ?_
                simp [St.le, ha1, hb1]
              · skip
                refine VOp.run rfl (by kernel_rfl) ?_
                simp -dsimp
                refine VA.node [1] (by kernel_rfl) (by simp) ?_
                intro i hi
                simp at hi
                subst hi
                refine VOp.run rfl (by kernel_rfl) ?_
                simp -dsimp
                refine VA.node [3] (by kernel_rfl) (by simp) ?_
                intro i hi
                simp at hi
                subst hi
                refine VOp.run rfl (by kernel_rfl) ?_
                simp -dsimp
                refine VA.fin (by kernel_rfl) ?_
                simp [St.le, ha1, hb1]
            · skip
              refine VOp.run rfl (by kernel_rfl) ?_
              simp -dsimp
              refine VA.node [0] (by kernel_rfl) (by simp) ?_
              intro i hi
              simp at hi
              subst hi
              refine VOp.run rfl (by kernel_rfl) ?_
              simp -dsimp
              refine VA.node [2] (by kernel_rfl) (by simp) ?_
              intro i hi
              simp at hi
              subst hi
              refine VOp.run rfl (by kernel_rfl) ?_
              simp -dsimp
              refine VA.node [3] (by kernel_rfl) (by simp) ?_
              intro i hi
              simp at hi
              subst hi
              refine VOp.run rfl (by kernel_rfl) ?_
              simp -dsimp
              refine VA.fin (by kernel_rfl) ?_
              simp [St.le, ha1, hb1]
          · simp -dsimp
end Go.Proofs.YtlphpbcafplnbaaGreat
