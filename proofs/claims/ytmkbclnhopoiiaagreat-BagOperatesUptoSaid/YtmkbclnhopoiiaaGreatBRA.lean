/- Contracts: letters, values, rows, facts compared. -/
import Derived.Test.YtmkbclnhopoiiaaGreatBOA
import Derived.Test.YtmkbclnhopoiiaaGreatDA
import Derived.Test.YtmkbclnhopoiiaaGreatEA
import Derived.Test.YtmkbclnhopoiiaaGreatV34
import Derived.Shelf.Small.Strs
set_option linter.unusedSimpArgs false
set_option linter.unusedVariables false
namespace Go.Proofs.YtmkbclnhopoiiaaGreat
open Go.VL Go.RowKit
def Tryz.strCmp_ren : Go.Shelf.Ren := ⟨fun | 106 => 76 | 213 => 97 | 265 => 113 | n => n, fun | 9 => 9 | 3 => 3 | n => n, fun | n => n⟩
theorem Tryz.strCmp : Go.Proofs.Lays.n106 Tryz.prog Tryz.strCmp_ren := { mixed := by kernel_rfl, f106 := Tryz.func76.trans (congrArg some (by kernel_rfl)), f213 := Tryz.func97.trans (congrArg some (by kernel_rfl)), f265 := Tryz.func113.trans (congrArg some (by kernel_rfl)), t3 := Tryz.underlying3, a3 := Tryz.isAgg3, z3 := Tryz.sizeOf3, v3 := Tryz.zeroValue3, t9 := Tryz.underlying9, a9 := Tryz.isAgg9, z9 := Tryz.sizeOf9, v9 := Tryz.zeroValue9 }

/-- a contract of a function that returns a plain value and leaves the world -/
theorem con_plain {P : Program} {f : FuncId} {args : List S} {x : Value} (hf : callable P f = true) (hx : x.oneCell' = true) (h : ∀ (w : World) (K : Nat → Nat → Prop) (us : List Value), DRs K w args us → Calls P f us.toArray w fun e w' => e = .returned x ∧ w' = w) : Con P f args [.c (.v x)] := by
  refine Con.of hf fun w K us hK hd => (h w K us hd).mono ?_
  rintro e w' ⟨rfl, rfl⟩
  refine ⟨[x], rfl, BelowD.refl _ _, K, fun _ _ h => h, fun _ _ h _ => h, hK, rfl, fun k r v hr hv => ?_, fun j k r r' v v' hne hr hr' _ _ _ _ => ?_⟩
  · match k with
    | 0 =>
      simp at hr hv
      subst hr hv
      rw [RtR, CR]; exact ⟨rfl, hx⟩
    | k + 1 => simp at hr
  · match j, k with
    | 0, 0 => exact absurd rfl hne
    | j + 1, _ => simp at hr
    | 0, k + 1 => simp at hr'
theorem compareBytes_eq : ∀ a b : List UInt8, Lib.compareBytes a b = cmpB a b
  | [], [] => by simp [Lib.compareBytes, cmpB, Op.bytesLess]
  | [], _ :: _ => by simp [Lib.compareBytes, cmpB, Op.bytesLess]
  | _ :: _, [] => by simp [Lib.compareBytes, cmpB, Op.bytesLess]
  | a :: l, b :: m => by
    rw [cmpB_list, listC, ← cmpB_list, Lib.compareBytes, compareBytes_eq l m]
    by_cases h1 : a < b
    · have : cmp8 a b = -1 := by unfold cmp8; rw [cmpI_neg]; have := UInt8.lt_iff_toNat_lt.1 h1; omega
      rw [if_pos h1, if_neg (by omega), this]
    · by_cases h2 : b < a
      · have h3 : cmp8 b a = -1 := by unfold cmp8; rw [cmpI_neg]; have := UInt8.lt_iff_toNat_lt.1 h2; omega
        have h4 := Cmp.u8.anti a b
        rw [if_neg h1, if_pos h2, if_neg (by omega)]; omega
      · have e : a = b := UInt8.toNat.inj (by
          have a1 := mt UInt8.lt_iff_toNat_lt.2 h1
          have a2 := mt UInt8.lt_iff_toNat_lt.2 h2
          omega)
        rw [if_neg h1, if_neg h2, if_pos (by subst e; exact Cmp.u8.self a)]

theorem strCmp_spec (a b : List UInt8) : Con Tryz.prog 76 [.c (str a), .c (str b)] [.c (i64 (cmpB a b))] := by
  refine con_plain (by kernel_rfl) rfl fun w K us hd => ?_
  unfold DRs at hd
  rw [SRs] at hd
  obtain ⟨u, us', rfl, hu, hd⟩ := hd
  rw [SRs] at hd
  obtain ⟨u2, us'', rfl, hu2, hd⟩ := hd
  rw [SRs] at hd
  subst hd
  rw [SR, CR] at hu hu2
  obtain ⟨rfl, _⟩ := hu
  obtain ⟨rfl, _⟩ := hu2
  have h := Any.strings_Compare Tryz.strCmp ⟨a.toArray⟩ ⟨b.toArray⟩ w
  rw [compareBytes_eq] at h
  exact h

set_option maxRecDepth 4000 in
set_option maxHeartbeats 4000000 in
theorem isNaN2_spec (x : Int) : Con Tryz.prog 96 [.c (i64 x)] [.c (bln false)] := by
  refine spec_of Tryz.func96 rfl (by kernel_rfl) (by simp [Tryz.f96]) (fun w0 K0 => vc_ok _ _ _ (by kernel_rfl) ?_)
  simp only [Tryz.f96]
  simp -dsimp
set_option maxRecDepth 4000 in
set_option maxHeartbeats 4000000 in
theorem compare2_spec (x y : Int) : Con Tryz.prog 75 [.c (i64 x), .c (i64 y)] [.c (i64 (cmpI x y))] := by
  refine spec_of Tryz.func75 rfl (by kernel_rfl) (by simp [Tryz.f75]) (fun w0 K0 => vc_ok _ _ _ (by kernel_rfl) ?_)
  simp only [Tryz.f75]
  simp -dsimp
  refine VC.mk _ (isNaN2_spec x) ?_
  simp -dsimp
  refine VC.mk _ (isNaN2_spec y) ?_
  simp -dsimp
  refine VIf.mk (fun h => ?_) (fun h => ?_)
  · simp -dsimp
    simp at h
    simp [cmpI, h]
  · simp -dsimp
    simp at h
    refine VIf.mk (fun h2 => ?_) (fun h2 => ?_)
    · simp -dsimp
      simp at h2
      simp [cmpI, h2]; omega
    · simp -dsimp
      simp at h2
      simp [cmpI]; omega
/-- the first that isn't 0 -/
def orL : List Int → Int
  | [] => 0
  | x :: l => if x = 0 then orL l else x
theorem orL_at : ∀ (l : List Int) (k : Nat), (∀ j, j < k → (h : j < l.length) → l[j] = 0) → orL l = orL (l.drop k)
  | l, 0, _ => by simp
  | [], k + 1, _ => by simp
  | x :: l, k + 1, h => by
    have h0 := h 0 (by omega) (by simp)
    simp at h0
    rw [orL, if_pos h0, List.drop_succ_cons]
    exact orL_at l k fun j hj hl => by have := h (j + 1) (by omega) (by simp; omega); simpa using this
set_option maxRecDepth 4000 in
set_option maxHeartbeats 4000000 in
theorem or_spec (nl : Bool) (l : List Int) (hl : l.length ≤ 1000) : Con Tryz.prog 69 [.c (.sl nl (ints l))] [.c (i64 (orL l))] := by
  refine spec_of Tryz.func69 rfl (by kernel_rfl) (by simp [Tryz.f69]) (fun w0 K0 => vc_ok _ _ _ (by kernel_rfl) ?_)
  simp only [Tryz.f69]
  simp -dsimp
  refine VL.loop (fun k : Nat => ⟨[(8, .c (i64 k)), (7, .c (i64 l.length)), (6, .c (.sl nl (ints l))), (3, .c (i64 0))], []⟩)
    (fun k => k ≤ l.length ∧ ∀ j, j < k → (h : j < l.length) → l[j] = 0) (fun k => l.length - k) 0 (by kernel_rfl) ⟨by simp, fun j h => by omega⟩ (by simp [St.le]) ?_
  intro k ⟨hk, hb⟩
  have e := orL_at l k hb
  by_cases h1 : k < l.length
  · have hw : IntKind.i64.wrap ((k : Int) + 1) = (k : Int) + 1 := IntWalk.i64_in _ (by omega)
    rw [List.drop_eq_getElem_cons h1, orL] at e
    simp -dsimp [h1]
    refine VIf.mk (fun h => ?_) (fun h => ?_)
    · simp at h
      rw [if_neg h] at e
      simp -dsimp [e]
    · simp at h
      simp -dsimp [hw]
      refine ⟨k + 1, ⟨by omega, fun j hj hl => ?_⟩, ?_, by omega⟩
      · by_cases e2 : j = k
        · subst e2; exact h
        · exact hb j (by omega) hl
      · simp [St.le]
  · obtain rfl : k = l.length := by omega
    rw [List.drop_length, orL] at e
    simp -dsimp [e]
theorem or_at (nl : Bool) (xs : List (List C)) (a b c : Int) (h : xs = [[i64 a], [i64 b], [i64 c]]) : Con Tryz.prog 69 [.c (.sl nl xs)] [.c (i64 (if a = 0 then if b = 0 then c else b else a))] := by
  have := or_spec nl [a, b, c] (by simp)
  rw [h]
  have e : orL [a, b, c] = if a = 0 then if b = 0 then c else b else a := by
    simp only [orL]
    split
    · split
      · split
        · rename_i h; exact h.symm
        · rfl
      · rfl
    · rfl
  rwa [e] at this

set_option maxRecDepth 4000 in
set_option maxHeartbeats 16000000 in
theorem compareR_spec (na nb : Bool) (l m : List Val) (hl : l.length ≤ 140737488355328) (hm : m.length ≤ 140737488355328) : Con Tryz.prog 50 [.c (.sl na (vals l)), .c (.sl nb (vals m))] [.c (i64 (cmpR l m))] := by
  refine spec_of Tryz.func50 rfl (by kernel_rfl) (by simp [Tryz.f50]) (fun w0 K0 => vc_ok _ _ _ (by kernel_rfl) ?_)
  simp only [Tryz.f50]
  simp -dsimp
  refine VL.loop (fun k : Nat => ⟨[(12, .c (i64 k)), (11, .c (i64 (min l.length m.length : Nat))), (0, .c (.sl na (vals l))), (1, .c (.sl nb (vals m)))], []⟩)
    (fun k => k ≤ l.length ∧ k ≤ m.length ∧ l.take k = m.take k) (fun k => l.length - k) 0 (by kernel_rfl) (by simp) (by simp [St.le]; omega) ?_
  intro k ⟨hk, hk', heq⟩
  by_cases hlt : k < l.length ∧ k < m.length
  · obtain ⟨h1, h2⟩ := hlt
    have hw : IntKind.i64.wrap ((k : Int) + 1) = (k : Int) + 1 := IntWalk.i64_in _ (by omega)
    have hmn : ((k : Int) < ((min l.length m.length : Nat) : Int)) = True := by simp; omega
    simp -dsimp [hmn, h1, h2]
    refine VL.draw (by kernel_rfl) [(0, false), (0, false), (3, false), (7, false), (15, false), (0, false), (0, false), (96, false), (224, false), (480, false), (1023, false), (0, false), (0, false), (6144, false), (14336, false), (30720, false), (0, false), (0, false), (196608, false), (458752, false), (983040, false), (2097151, false), (0, false), (0, false), (12582912, false), (29360128, false), (62914560, false), (0, false), (0, false), (402653184, false), (939524096, false), (2013265920, false), (4294967295, true), (8589934591, true), (17179869183, true), (34359738367, true)] (by kernel_rfl) ?_
    simp -dsimp [h1, h2, Val.cells]
    refine VCE.mk _ (compare2_spec l[k].kind m[k].kind) ?_
    simp -dsimp [h1, h2, Val.cells]
    refine VCE.mk _ (compare_spec l[k].int m[k].int) ?_
    simp -dsimp [h1, h2, Val.cells]
    refine VC.mk _ (strCmp_spec l[k].text m[k].text) ?_
    simp -dsimp
    refine ⟨by decide, VCL.snap ?_⟩
    simp -dsimp
    refine VC.mk _ (or_at false _ (cmpI l[k].kind m[k].kind) (cmpI l[k].int m[k].int) (cmpB l[k].text m[k].text) rfl) ?_
    have hv : (if cmpI l[k].kind m[k].kind = 0 then if cmpI l[k].int m[k].int = 0 then cmpB l[k].text m[k].text else cmpI l[k].int m[k].int else cmpI l[k].kind m[k].kind) = cmpV l[k] m[k] := by
      rw [cmpV_eq]; rfl
    rw [hv]
    simp -dsimp
    refine VIf.mk (fun h => ?_) (fun h => ?_)
    · simp at h
      simp -dsimp
      exact (cmpR_at heq h1 h2 h).symm
    · simp at h
      simp -dsimp [hw]
      refine ⟨k + 1, ⟨by omega, by omega, take_step h1 h2 heq ((cmpV_0 _ _).1 h)⟩, ?_, by omega⟩
      simp [St.le]
  · have hend := cmpR_end heq hk hk' (by omega)
    have hmn : ((k : Int) < ((min l.length m.length : Nat) : Int)) = False := by simp; omega
    simp -dsimp [hmn]
    refine VC.mk _ (compare2_spec l.length m.length) ?_
    simp -dsimp
    rw [hend]
    unfold cmpI
    simp only [Int.ofNat_lt]

set_option maxRecDepth 4000 in
set_option maxHeartbeats 16000000 in
theorem order_spec (f g : Fact) (hl : f.row.length ≤ 140737488355328) (hm : g.row.length ≤ 140737488355328) : Con Tryz.prog 44 [.agg f.cells, .agg g.cells] [.c (i64 (ordF f g))] := by
  refine spec_of Tryz.func44 rfl (by kernel_rfl) (by simp [Tryz.f44]) (fun w0 K0 => vc_ok _ _ _ (by kernel_rfl) ?_)
  simp only [Tryz.f44]
  simp -dsimp [Fact.cells]
  refine VL.draw (by kernel_rfl) [(0, false), (1, false), (0, false), (4, false), (15, false), (0, false), (32, false), (96, false), (0, false), (256, false), (768, false), (2047, false), (0, false), (4096, false), (12288, false), (0, false), (32768, false), (98304, false), (262143, true), (524287, true), (1048575, true), (2097151, true)] (by kernel_rfl) ?_
  simp -dsimp
  refine VCE.mk _ (compareR_spec _ _ f.row g.row hl hm) ?_
  simp -dsimp
  refine VCE.mk _ (compare_spec f.p.f g.p.f) ?_
  simp -dsimp
  refine VC.mk _ (compare_spec f.p.t g.p.t) ?_
  simp -dsimp
  refine ⟨by decide, VCL.snap ?_⟩
  simp -dsimp
  refine VC.mk _ (or_at false _ (cmpR f.row g.row) (cmpI f.p.f g.p.f) (cmpI f.p.t g.p.t) rfl) ?_
  simp -dsimp
  rfl
end Go.Proofs.YtmkbclnhopoiiaaGreat
/- Contracts: a row, or two one after the other, in new memory. -/
set_option linter.unusedSimpArgs false
set_option linter.unusedVariables false
namespace Go.Proofs.YtmkbclnhopoiiaaGreat
open Go.VL Go.RowKit

/-- an index of a loop: how many are done; nil?; an element's cells -/
structure KI where
  k : Nat
  nl : Bool
  sz : Nat

/-- a row as an argument: is it nil?, its values -/
abbrev rowV (x : Bool × List Val) : List C := [.sl x.1 (vals x.2)]
def catR (rows : List (Bool × List Val)) : List Val := rows.flatMap Prod.snd
theorem catR_snoc (rows : List (Bool × List Val)) {k : Nat} (h : k < rows.length) : catR (rows.take (k + 1)) = catR (rows.take k) ++ rows[k].2 := by
  unfold catR; rw [take_snoc h, List.flatMap_append]; simp
theorem catR_mono (rows : List (Bool × List Val)) (k : Nat) : (catR (rows.take k)).length ≤ (catR rows).length := by
  conv => rhs; rw [← List.take_append_drop k rows]
  unfold catR
  rw [List.flatMap_append, List.length_append]
  omega
set_option maxRecDepth 4000 in
set_option maxHeartbeats 8000000 in
theorem copied_spec (nl : Bool) (rows : List (Bool × List Val)) (hl : rows.length ≤ 2) (hR : (catR rows).length ≤ 4398046511104) :
    Con Tryz.prog 47 [.c (.sl nl (rows.map rowV))] [.c (.sl (catR rows).isEmpty (vals (catR rows)))] := by
  refine Con.frz (rs := [.fr (catR rows).isEmpty (if rows.length = 0 then 0 else 3) (vals (catR rows)) 0]) ?_ 0 rfl
  refine spec_of Tryz.func47 rfl (by kernel_rfl) (by simp [Tryz.f47]) (fun w0 K0 => vc_ok _ _ _ (by kernel_rfl) ?_)
  simp only [Tryz.f47]
  simp -dsimp
  refine VL.loop (fun i : KI => ⟨[(8, .c (i64 i.k)), (7, .c (i64 rows.length)), (6, .c (.sl nl (rows.map rowV))), (3, .own 192 (catR (rows.take i.k)).length)], [(192, some (.arr i.nl i.sz (vals (catR (rows.take i.k))) 0))]⟩)
    (fun i => i.k ≤ rows.length ∧ i.nl = (catR (rows.take i.k)).isEmpty ∧ i.sz = if i.k = 0 then 0 else 3) (fun i => rows.length - i.k) ⟨0, true, 0⟩ (by kernel_rfl) ⟨by simp, rfl, rfl⟩ (by simp [St.le, catR]) ?_
  intro ⟨k, z, sz⟩ ⟨hk, hz, hsz⟩
  simp only at hk hz hsz
  have hlen := catR_mono rows (k + 1)
  by_cases h1 : k < rows.length
  · have hw : IntKind.i64.wrap ((k : Int) + 1) = (k : Int) + 1 := IntWalk.i64_in _ (by omega)
    have hsn := catR_snoc rows h1
    have hsl := congrArg List.length hsn
    rw [List.length_append] at hsl
    simp -dsimp [h1, hw, maxLen]
    refine ⟨fun e => ?_, by omega, ⟨k + 1, z && rows[k].2.isEmpty, 3⟩, ⟨by simp only; omega, ?_, by simp⟩, ?_, by simp only; omega⟩
    · rw [hsz, if_neg]
      rintro rfl
      rw [e] at hz
      simp [catR] at hz
    · simp only
      rw [hsn, hz]
      cases catR (rows.take k) <;> simp
    · simp [St.le, hsn]
  · obtain rfl : k = rows.length := by omega
    rw [List.take_length] at hz ⊢
    simp -dsimp
    refine ⟨hz, ?_⟩
    rw [hsz]
    cases rows <;> simp
end Go.Proofs.YtmkbclnhopoiiaaGreat
/- Contracts: the facts that are right, in order. -/
set_option linter.unusedSimpArgs false
set_option linter.unusedVariables false
namespace Go.Proofs.YtmkbclnhopoiiaaGreat
open Go.VL Go.RowKit

def rowF (i : Nat) (l : List Fact) : List (Nat × Res) := [(i, .arr false 3 (facts l) 0)]
/-- what sorts facts -/
structure SortsF : Prop where
  con : ∀ l, l ≠ [] → (∀ f ∈ l, Normed f ∧ f.row.length ≤ 140737488355328) → l.length ≤ 140737488355328 → ConB Tryz.prog 43 [.own 1 l.length, .c (.fn 44 [])] (rowF 1 l) [] [.own 1 l.length, .c (.fn 44 [])] (rowF 1 (sortF l))
  nil : Con Tryz.prog 43 [.c (.sl true []), .c (.fn 44 [])] []

theorem copied_at (b : Bool) (xs : List (List C)) (nl : Bool) (row : List Val) (h : xs = [[.sl nl (vals row)]]) (hR : row.length ≤ 4398046511104) : Con Tryz.prog 47 [.c (.sl b xs)] [.c (.sl row.isEmpty (vals row))] := by
  have := copied_spec b [(nl, row)] (by simp) (by simpa [catR] using hR)
  rw [h]
  simpa [catR] using this
def rightK (l : List Fact) (k : Nat) : List Fact := ((l.take k).filter fun f => right f.p).map norm
theorem rightK_snoc (l : List Fact) {k : Nat} (h : k < l.length) : rightK l (k + 1) = rightK l k ++ if right l[k].p then [norm l[k]] else [] := by
  unfold rightK
  rw [take_snoc h, List.filter_append, List.map_append]
  by_cases e : right l[k].p = true <;> simp [e]
theorem rightK_len (l : List Fact) (k : Nat) : (rightK l k).length ≤ min k l.length := by
  unfold rightK
  rw [List.length_map]
  exact Nat.le_trans (List.length_filter_le _ _) (by rw [List.length_take]; omega)
theorem rightK_end (l : List Fact) : sortF (rightK l l.length) = rightL l := by unfold rightK rightL; rw [List.take_length]
theorem rightK_mem {l : List Fact} {k : Nat} {f : Fact} (h : f ∈ rightK l k) : Normed f ∧ ∃ g ∈ l, g.row = f.row := by
  unfold rightK at h
  obtain ⟨g, hg, rfl⟩ := List.mem_map.1 h
  exact ⟨rfl, g, List.mem_of_mem_take (List.mem_filter.1 hg).1, rfl⟩

set_option maxRecDepth 4000 in
set_option maxHeartbeats 8000000 in
theorem right_spec (hf : SortsF) (nl : Bool) (l : List Fact) (hl : l.length ≤ 3518437208883) (hr : Rows1 l) :
    Con Tryz.prog 39 [.c (.sl nl (facts l))] [.c (.sl (rightL l).isEmpty (facts (rightL l)))] := by
  refine Con.frz (rs := [.fr (rightL l).isEmpty (if (rightL l).isEmpty then 0 else 3) (facts (rightL l)) 0]) ?_ 0 rfl
  refine spec_of Tryz.func39 rfl (by kernel_rfl) (by simp [Tryz.f39]) (fun w0 K0 => vc_ok _ _ _ (by kernel_rfl) ?_)
  simp only [Tryz.f39]
  simp -dsimp
  refine VL.loop (fun i : KI => ⟨[(8, .c (i64 i.k)), (7, .c (i64 l.length)), (6, .c (.sl nl (facts l))), (3, .own 192 (rightK l i.k).length)], [(192, some (.arr i.nl i.sz (facts (rightK l i.k)) 0))]⟩)
    (fun i => i.k ≤ l.length ∧ i.nl = (rightK l i.k).isEmpty ∧ i.sz = if i.nl then 0 else 3) (fun i => l.length - i.k) ⟨0, true, 0⟩ (by kernel_rfl) ⟨by simp, rfl, rfl⟩ (by simp [St.le, rightK]) ?_
  intro ⟨k, z, sz⟩ ⟨hk, hz, hsz⟩
  simp only at hk hz hsz
  have hkl := rightK_len l k
  by_cases h1 : k < l.length
  · have hw : IntKind.i64.wrap ((k : Int) + 1) = (k : Int) + 1 := IntWalk.i64_in _ (by omega)
    have hsn := rightK_snoc l h1
    have hrk := hr l[k] (List.getElem_mem h1)
    simp -dsimp [h1, hw, Fact.cells]
    refine VC.mk _ (check_at _ l[k].p rfl) ?_
    simp -dsimp
    refine VIf.mk (fun h => ?_) (fun h => ?_)
    · have h' : right l[k].p = true := by simpa using h
      rw [h', if_pos rfl] at hsn
      simp -dsimp
      refine VL.draw (by kernel_rfl) [(0, false), (0, false), (2, false), (6, false), (14, false), (0, false), (32, false), (126, false), (254, false), (511, true), (1023, true)] (by kernel_rfl) ?_
      simp -dsimp
      refine ⟨by decide, VCE.mk _ (copied_at false _ l[k].nl l[k].row rfl hrk) ?_⟩
      simp -dsimp [hw, maxLen]
      refine ⟨fun e => by rw [hsz, e]; rfl, by omega, ⟨k + 1, false, 3⟩, ⟨by simp only; omega, by rw [hsn]; simp, rfl⟩, ?_, by simp only; omega⟩
      simp [St.le, hsn, norm, Fact.cells]
    · have h' : right l[k].p = false := by simpa using h
      rw [h', if_neg (by simp), List.append_nil] at hsn
      simp -dsimp [hw]
      refine ⟨⟨k + 1, z, sz⟩, ⟨by simp only; omega, by rw [hsn]; exact hz, hsz⟩, ?_, by simp only; omega⟩
      simp [St.le, hsn]
  · obtain rfl : k = l.length := by omega
    have he := rightK_end l
    have hm := fun f => @rightK_mem l l.length f
    generalize rightK l l.length = m at *
    rw [← he]
    simp -dsimp
    have hN : ∀ f ∈ m, Normed f ∧ f.row.length ≤ 140737488355328 := by
      intro f hf
      obtain ⟨h1, g, hg, e⟩ := hm f hf
      have := hr g hg
      exact ⟨h1, by rw [← e]; omega⟩
    have hsl := sortF_len m
    cases m with
    | nil =>
      have e0 : sortF [] = [] := by simpa using hsl
      obtain rfl : z = true := hz
      obtain rfl : sz = 0 := by rw [hsz]; rfl
      rw [e0]
      refine VCL.snap ?_
      simp -dsimp
      refine VC.mk _ hf.nil ?_
      simp -dsimp
    | cons x r =>
      obtain rfl : z = false := hz
      obtain rfl : sz = 3 := by rw [hsz]; rfl
      generalize hx : x :: r = m at *
      have hne : m ≠ [] := by rw [← hx]; simp
      have hse : (sortF m).isEmpty = false := by
        rw [List.isEmpty_eq_false_iff]; intro e; rw [e] at hsl
        exact hne (List.length_eq_zero_iff.1 hsl.symm)
      rw [hse]
      have hcs := hf.con m hne hN (by omega)
      generalize sortF m = s at *
      refine VCL.lend (rowF 1 m) (rowF 1 s) [.own 1 m.length, .c (.fn 44 [])] _ _ (fun _ => 192) [] ⟨hcs, ?_, ?_, ?_, ?_, ?_, ?_, ?_⟩ ?_
      · simp [renSs, renS]
      · simp [rowF, renR]
      · simp [rowF]
      · simp [rowF]
      · simp [rowF, Res.nam]
      · simp [S.nams]
      · simp [rowF, lk, keptP]
        exact ⟨3, _, ⟨rfl, rfl⟩, _, ⟨rfl, rfl⟩, by simp, by simp [hsl]⟩
      simp -dsimp [rowF, retS, renSs]
      exact hsl
end Go.Proofs.YtmkbclnhopoiiaaGreat
/- Contracts: facts in groups of like rows; a function is called for each group. -/
set_option linter.unusedSimpArgs false
set_option linter.unusedVariables false
namespace Go.Proofs.YtmkbclnhopoiiaaGreat
open Go.VL Go.RowKit

/-- the variable that the function fills -/
def outB (sz : Nat) (acc : List Fact) : List (Nat × Res) := [(1, .box false [.own 2 acc.length]), (2, .arr acc.isEmpty sz (facts acc) 0)]
def grpA (x : List Val × List Per) : List S := [.c (.sl x.1.isEmpty (vals x.1)), .c (.sl false (x.2.map Per.cells)), .ptr 1 0]
/-- a function that adds these facts for this group -/
def GrpOk (F : FuncId) (x : List Val × List Per) (G : List Fact) (B : Nat) : Prop :=
  ∀ (sz : Nat) (acc : List Fact), acc.length + G.length ≤ B → (acc ≠ [] → sz = 3) → ConB Tryz.prog F (grpA x) (outB sz acc) [] (grpA x) (outB 3 (acc ++ G))
/-- all groups' facts -/
def catG (G : List Val × List Per → List Fact) (xs : List (List Val × List Per)) : List Fact := xs.flatMap G
@[simp] theorem catG_nil (G : List Val × List Per → List Fact) : catG G [] = [] := rfl
theorem catG_snoc (G : List Val × List Per → List Fact) (xs : List (List Val × List Per)) (x : List Val × List Per) : catG G (xs ++ [x]) = catG G xs ++ G x := by unfold catG; simp
/-- the variable lent under the names p and q -/
def oτ (p q : Nat) (n : Nat) : Nat := if n = 1 then p else if n = 2 then q else n
theorem lend_out {st : St} {f : FuncId} {args a0 a1 : List S} {sz sz' : Nat} {acc acc' : List Fact} {p q : Nat} (hpq : p ≠ q) (con : ConB Tryz.prog f a0 (outB sz acc) [] a1 (outB sz' acc'))
    (h0 : args = renSs (oτ p q) a0) (h1 : st.rs p = some (.box false [.own q acc.length])) (h2 : st.rs q = some (.arr acc.isEmpty sz (facts acc) 0)) (hk : keptP (.box false [.own 2 acc.length]) (.box false [.own 2 acc'.length]) 1 a0 a1) :
    LendOk Tryz.prog st f args (outB sz acc) (outB sz' acc') a0 [] a1 (oτ p q) [q] := by
  refine ⟨con, h0, ?_, ?_, ?_, ?_, ?_, ?_⟩
  · intro x hx
    simp [outB] at hx
    rcases hx with rfl | rfl
    · simpa [renR, renSs, renS, oτ] using h1
    · simpa [renR, oτ] using h2
  · simpa [outB, oτ] using hpq
  · simp [outB]
  · simp [outB, Res.nam, S.nams, S.nam]
  · simp [S.nams]
  · intro x hx
    simp [outB] at hx
    rcases hx with rfl | rfl
    · exact .inr ⟨_, rfl, hk⟩
    · exact .inl (by simp [oτ])
structure GI where
  i : Nat
  sz : Nat
  done : List (List Val × List Per)
theorem dropWhile_at {α : Type} (q : α → Bool) : ∀ (u : List α) (k : Nat), k ≤ u.length → (∀ j, (h : j < u.length) → j < k → q u[j] = true) → (∀ h : k < u.length, q u[k] = false) → u.dropWhile q = u.drop k
  | [], k, _, _, _ => by simp
  | x :: u, 0, _, _, h => by
    have := h (by simp)
    simp at this
    rw [List.dropWhile_cons, if_neg (by simp [this])]; rfl
  | x :: u, k + 1, hk, h1, h2 => by
    have h0 := h1 0 (by simp) (by omega)
    simp at h0
    rw [List.dropWhile_cons, if_pos h0, List.drop_succ_cons]
    exact dropWhile_at q u k (by simpa using hk) (fun j hj hjk => by have := h1 (j + 1) (by simp; omega) (by omega); simpa using this) (fun h => by have := h2 (by simp; omega); simpa using this)
/-- the periods of those from i up to k -/
def seg (l : List Fact) (i k : Nat) : List Per := ((l.drop i).take (k - i)).map Fact.p
theorem seg_snoc (l : List Fact) {i k : Nat} (h1 : i ≤ k) (h2 : k < l.length) : seg l i (k + 1) = seg l i k ++ [l[k].p] := by
  unfold seg
  rw [show k + 1 - i = (k - i) + 1 by omega, take_snoc (by simp; omega), List.map_append]
  simp [show i + (k - i) = k by omega]
theorem seg_len (l : List Fact) {i k : Nat} (h1 : i ≤ k) (h2 : k ≤ l.length) : (seg l i k).length = k - i := by
  unfold seg
  rw [List.length_map, List.length_take, List.length_drop]; omega
/-- a group's end -/
theorem groups_at (l : List Fact) {i k : Nat} (h1 : i < k) (h2 : k ≤ l.length) (ha : ∀ j, i ≤ j → j < k → (h : j < l.length) → l[j].row = (l[i]'(by omega)).row) (he : ∀ h : k < l.length, l[k].row ≠ (l[i]'(by omega)).row) :
    groupsL (l.drop i) = ((l[i]'(by omega)).row, seg l i k) :: groupsL (l.drop k) := by
  have hi : i < l.length := by omega
  rw [List.drop_eq_getElem_cons hi, groupsL_cons]
  have a : ∀ j, (h : j < (l.drop (i + 1)).length) → j < k - i - 1 → alikeR l[i].row (l.drop (i + 1))[j] = true := by
    intro j h hj
    simp only [alikeR, decide_eq_true_eq, List.getElem_drop]
    exact ha _ (by omega) (by omega) _
  have b : ∀ h : k - i - 1 < (l.drop (i + 1)).length, alikeR l[i].row (l.drop (i + 1))[k - i - 1] = false := by
    intro h
    simp only [alikeR, decide_eq_false_iff_not, List.getElem_drop]
    have e : i + 1 + (k - i - 1) = k := by omega
    simp only [e]
    simp at h
    exact he (by omega)
  have hle : k - i - 1 ≤ (l.drop (i + 1)).length := by simp; omega
  rw [takeWhile_at _ _ _ hle a b, dropWhile_at _ _ _ hle a b, List.drop_drop]
  have e : i + 1 + (k - i - 1) = k := by omega
  rw [e]
  congr 2
  unfold seg
  rw [List.drop_eq_getElem_cons hi, show k - i = (k - i - 1) + 1 by omega, List.take_succ_cons, List.map_cons]
  simp

set_option maxRecDepth 4000 in
set_option maxHeartbeats 16000000 in
theorem group_spec (F : FuncId) (G : List Val × List Per → List Fact) (B : Nat) (nl : Bool) (l : List Fact) (hl : l.length ≤ 3518437208883) (hN : ∀ f ∈ l, f.nl = f.row.isEmpty ∧ f.row.length ≤ 4398046511104) (hF : ∀ x ∈ groupsL l, GrpOk F x (G x) B) (hB : (catG G (groupsL l)).length ≤ B) :
    ConB Tryz.prog 38 [.c (.sl nl (facts l)), .fnp F [.ptr 1 0]] (outB 0 []) [] [.c (.sl nl (facts l)), .fnp F [.ptr 1 0]] (outB (if l.isEmpty then 0 else 3) (catG G (groupsL l))) := by
  refine spec_ofB 3 Tryz.func38 rfl (by kernel_rfl) (by simp [Tryz.f38]) (by simp [outB]) rfl (fun w0 K0 uf => vc_ok _ _ _ (by kernel_rfl) ?_)
  simp only [Tryz.f38]
  simp -dsimp [initB, initEnv, pinsOf, outB]
  refine VL.loop (fun g : GI => ⟨[(4, .c (i64 g.i)), (0, .c (.sl nl (facts l))), (1, .fnp F [.ptr 1 0])],
    [(1, some (.box false [.own 2 (catG G g.done).length])), (2, some (.arr (catG G g.done).isEmpty g.sz (facts (catG G g.done)) 0)), (3, some (.pin (uf 0) (.c (.sl nl (facts l))))), (4, some (.pin (uf 1) (.fnp F [.ptr 1 0])))]⟩)
    (fun g => g.i ≤ l.length ∧ groupsL l = g.done ++ groupsL (l.drop g.i) ∧ g.sz = if g.i = 0 then 0 else 3) (fun g => l.length - g.i) ⟨0, 0, []⟩ (by kernel_rfl) (by simp) (by simp [St.le]) ?_
  intro ⟨i, sz, done⟩ ⟨hi, hg, hsz⟩
  simp only at hi hg hsz
  by_cases h1 : i < l.length
  · simp -dsimp [h1]
    refine VL.loop (fun j : KI => ⟨[(6, .c (i64 j.k)), (5, .own 320 (seg l i j.k).length), (4, .c (i64 i)), (0, .c (.sl nl (facts l))), (1, .fnp F [.ptr 1 0])],
      [(320, some (.arr j.nl j.sz ((seg l i j.k).map Per.cells) 0)), (1, some (.box false [.own 2 (catG G done).length])), (2, some (.arr (catG G done).isEmpty sz (facts (catG G done)) 0)), (3, some (.pin (uf 0) (.c (.sl nl (facts l))))), (4, some (.pin (uf 1) (.fnp F [.ptr 1 0])))]⟩)
      (fun j => i ≤ j.k ∧ j.k ≤ l.length ∧ j.nl = decide (j.k = i) ∧ (j.sz = if j.nl then 0 else 2) ∧ ∀ m, i ≤ m → m < j.k → (h : m < l.length) → l[m].row = l[i].row) (fun j => l.length - j.k) ⟨i, true, 0⟩ (by kernel_rfl) ?_ (by simp [St.le, seg]) ?_
    · exact ⟨Nat.le_refl _, by simp only; omega, by simp, rfl, fun m h2 h3 => by simp only at h3; omega⟩
    intro ⟨k, z, s⟩ ⟨hik, hk, hz, hs, ha⟩
    simp only at hik hk hz hs ha
    have hsl := seg_len l hik hk
    have fin : ∀ (he : ∀ h : k < l.length, l[k].row ≠ l[i].row), i < k → True := fun _ _ => trivial
    by_cases h2 : k < l.length
    · simp -dsimp [h1, h2]
      refine VL.draw (by kernel_rfl) [(0, false), (0, false), (2, false), (7, true), (15, true), (31, false), (31, false), (127, false), (255, false), (511, false), (31, false), (31, false), (3103, false), (7199, false), (15391, false), (32767, true), (65535, true), (131071, true)] (by kernel_rfl) ?_
      simp -dsimp [h1, h2, Fact.cells]
      refine VG.mk [.c (i64 (cmpR l[k].row l[i].row))] _ (fun _ => compareR_spec _ _ _ _ (by have := hN _ (List.getElem_mem h2); omega) (by have := hN _ (List.getElem_mem h1); omega)) rfl ?_
      simp -dsimp
      have hc0 := cmpR_0 l[k].row l[i].row
      refine VIf.mk (fun h => ?_) (fun h => ?_)
      · have h' : l[k].row = l[i].row := hc0.1 (by simpa using h)
        have hw : IntKind.i64.wrap ((k : Int) + 1) = (k : Int) + 1 := IntWalk.i64_in _ (by omega)
        have hsn := seg_snoc l hik h2
        simp -dsimp [h2, Fact.cells, hw, maxLen]
        refine ⟨fun e => by rw [hs, e]; rfl, by omega, ⟨k + 1, false, 2⟩, ⟨by simp only; omega, by simp only; omega, by simp only; rw [eq_comm, decide_eq_false_iff_not]; omega, rfl, fun m m1 m2 m3 => ?_⟩, ?_, by simp only; omega⟩
        · simp only at m2
          by_cases e : m = k
          · subst e; exact h'
          · exact ha m m1 (by omega) m3
        · simp [St.le, hsn, Per.cells]
      · have h' : l[k].row ≠ l[i].row := fun e => by rw [hc0.2 e] at h; simp at h
        simp -dsimp
        have hik' : i < k := by
          rcases Nat.lt_or_eq_of_le hik with e | e
          · exact e
          · subst e; exact absurd rfl h'
        simp -dsimp [h1, Fact.cells]
        obtain rfl : z = false := by rw [hz, decide_eq_false_iff_not]; omega
        obtain rfl : s = 2 := hs
        have hgr := groups_at l hik' hk (fun j j1 j2 j3 => ha j j1 j2 j3) (fun _ => h')
        have hnrm := (hN _ (List.getElem_mem h1)).1
        rw [hgr] at hg
        have hgk := hF (l[i].row, seg l i k) (by rw [hg]; simp) sz (catG G done) ?_ ?_
        · refine VCP.some [false, true, false] ?_
          simp -dsimp
          rw [hnrm]
          refine VLD.lend _ _ _ [] _ (oτ 1 2) [2] (lend_out (by decide) hgk ?_ ?_ ?_ ?_) ?_
          · simp [grpA, renSs, renS, oτ]
          · simp [St.rs, vlook]
          · simp [St.rs, vlook]
          · simp [grpA, keptP]
          simp -dsimp [outB, retS, renSs, oτ]
          refine ⟨⟨k, 3, done ++ [(l[i].row, seg l i k)]⟩, ⟨hk, by simp only; rw [List.append_assoc]; exact hg, by simp only; rw [if_neg (by omega)]⟩, ?_, by simp only; omega⟩
          simp only
          rw [catG_snoc]
          simp [St.le]
        · have := hB
          rw [hg, ← List.singleton_append, ← List.append_assoc] at this
          unfold catG at this ⊢
          rw [List.flatMap_append, List.flatMap_append, List.length_append, List.length_append] at this
          simp at this ⊢
          omega
        · intro e
          rw [hsz, if_neg]
          rintro rfl
          rw [List.drop_zero, hg] at hgr
          have := congrArg List.length hgr
          simp at this
          exact e (by rw [this]; rfl)
    · have hik' : i < k := by omega
      have h' : ∀ h : k < l.length, l[k].row ≠ l[i].row := fun h => absurd h h2
      obtain rfl : k = l.length := by omega
      simp -dsimp
      refine VL.draw (by kernel_rfl) [(0, false), (0, false), (2, false), (7, true), (15, true), (31, false), (31, false), (127, false), (255, false), (511, false), (31, false), (31, false), (3103, false), (7199, false), (15391, false), (32767, true), (65535, true), (131071, true)] (by kernel_rfl) ?_
      simp -dsimp [h1, Fact.cells]
      refine VG.mk [.c (i64 0)] _ (fun h => Bool.noConfusion h) rfl ?_
      simp -dsimp [h1, Fact.cells]
      obtain rfl : z = false := by rw [hz, decide_eq_false_iff_not]; omega
      obtain rfl : s = 2 := hs
      have hgr := groups_at l hik' hk (fun j j1 j2 j3 => ha j j1 j2 j3) h'
      have hnrm := (hN _ (List.getElem_mem h1)).1
      rw [hgr] at hg
      have hgk := hF (l[i].row, seg l i l.length) (by rw [hg]; simp) sz (catG G done) ?_ ?_
      · refine VCP.some [false, true, false] ?_
        simp -dsimp
        rw [hnrm]
        refine VLD.lend _ _ _ [] _ (oτ 1 2) [2] (lend_out (by decide) hgk ?_ ?_ ?_ ?_) ?_
        · simp [grpA, renSs, renS, oτ]
        · simp [St.rs, vlook]
        · simp [St.rs, vlook]
        · simp [grpA, keptP]
        simp -dsimp [outB, retS, renSs, oτ]
        refine ⟨⟨l.length, 3, done ++ [(l[i].row, seg l i l.length)]⟩, ⟨hk, by simp only; rw [List.append_assoc]; exact hg, by simp only; rw [if_neg (by omega)]⟩, ?_, by simp only; rw [Nat.sub_self]; exact Nat.sub_pos_of_lt h1⟩
        simp only
        rw [catG_snoc]
        simp [St.le]
      · have := hB
        rw [hg, ← List.singleton_append, ← List.append_assoc] at this
        unfold catG at this ⊢
        rw [List.flatMap_append, List.flatMap_append, List.length_append, List.length_append] at this
        simp at this ⊢
        omega
      · intro e
        rw [hsz, if_neg]
        rintro rfl
        rw [List.drop_zero, hg] at hgr
        have := congrArg List.length hgr
        simp at this
        exact e (by rw [this]; rfl)
  · obtain rfl : i = l.length := by omega
    rw [List.drop_length, groupsL_nil, List.append_nil] at hg
    simp -dsimp
    rw [hg]
    simp [resEnd, outB, pinsEnd, hsz]
end Go.Proofs.YtmkbclnhopoiiaaGreat
/- Contracts: facts in groups of like rows, of a function that has captured a list of facts too. -/
set_option linter.unusedSimpArgs false
set_option linter.unusedVariables false
namespace Go.Proofs.YtmkbclnhopoiiaaGreat
open Go.VL Go.RowKit

/-- the list that the function looks at, the variable that it fills -/
def outB2 (mi : List Fact) (sz : Nat) (acc : List Fact) : List (Nat × Res) := [(1, .box false [.own 2 acc.length]), (2, .arr acc.isEmpty sz (facts acc) 0), (3, .box false [.c (.sl mi.isEmpty (facts mi))])]
def grpA2 (x : List Val × List Per) : List S := [.c (.sl x.1.isEmpty (vals x.1)), .c (.sl false (x.2.map Per.cells)), .ptr 3 0, .ptr 1 0]
def GrpOk2 (mi : List Fact) (F : FuncId) (x : List Val × List Per) (G : List Fact) (B : Nat) : Prop :=
  ∀ (sz : Nat) (acc : List Fact), acc.length + G.length ≤ B → (acc ≠ [] → sz = 3) → ConB Tryz.prog F (grpA2 x) (outB2 mi sz acc) [] (grpA2 x) (outB2 mi 3 (acc ++ G))
def oτ2 (p q r : Nat) (n : Nat) : Nat := if n = 1 then p else if n = 2 then q else if n = 3 then r else n
theorem lend_out2 {st : St} {f : FuncId} {args a0 a1 : List S} {mi : List Fact} {sz sz' : Nat} {acc acc' : List Fact} {p q r : Nat} (hpq : p ≠ q) (hpr : p ≠ r) (hqr : q ≠ r) (con : ConB Tryz.prog f a0 (outB2 mi sz acc) [] a1 (outB2 mi sz' acc'))
    (h0 : args = renSs (oτ2 p q r) a0) (h1 : st.rs p = some (.box false [.own q acc.length])) (h2 : st.rs q = some (.arr acc.isEmpty sz (facts acc) 0)) (h3 : st.rs r = some (.box false [.c (.sl mi.isEmpty (facts mi))]))
    (hk : keptP (.box false [.own 2 acc.length]) (.box false [.own 2 acc'.length]) 1 a0 a1) (hk3 : keptP (.box false [.c (.sl mi.isEmpty (facts mi))]) (.box false [.c (.sl mi.isEmpty (facts mi))]) 3 a0 a1) :
    LendOk Tryz.prog st f args (outB2 mi sz acc) (outB2 mi sz' acc') a0 [] a1 (oτ2 p q r) [q] := by
  refine ⟨con, h0, ?_, ?_, ?_, ?_, ?_, ?_⟩
  · intro x hx
    simp [outB2] at hx
    rcases hx with rfl | rfl | rfl
    · simpa [renR, renSs, renS, oτ2] using h1
    · simpa [renR, oτ2] using h2
    · simpa [renR, renSs, renS, oτ2] using h3
  · simp [outB2, oτ2]
    exact ⟨⟨hpq, hpr⟩, hqr⟩
  · simp [outB2]
  · simp [outB2, Res.nam, S.nams, S.nam]
  · simp [S.nams]
  · intro x hx
    simp [outB2] at hx
    rcases hx with rfl | rfl | rfl
    · exact .inr ⟨_, rfl, hk⟩
    · exact .inl (by simp [oτ2])
    · exact .inr ⟨_, rfl, hk3⟩
set_option maxRecDepth 4000 in
set_option maxHeartbeats 16000000 in
theorem group2_spec (mi : List Fact) (F : FuncId) (G : List Val × List Per → List Fact) (B : Nat) (nl : Bool) (l : List Fact) (hl : l.length ≤ 3518437208883) (hN : ∀ f ∈ l, f.nl = f.row.isEmpty ∧ f.row.length ≤ 4398046511104) (hF : ∀ x ∈ groupsL l, GrpOk2 mi F x (G x) B) (hB : (catG G (groupsL l)).length ≤ B) :
    ConB Tryz.prog 38 [.c (.sl nl (facts l)), .fnp F [.ptr 3 0, .ptr 1 0]] (outB2 mi 0 []) [] [.c (.sl nl (facts l)), .fnp F [.ptr 3 0, .ptr 1 0]] (outB2 mi (if l.isEmpty then 0 else 3) (catG G (groupsL l))) := by
  refine spec_ofB 4 Tryz.func38 rfl (by kernel_rfl) (by simp [Tryz.f38]) (by simp [outB2]) rfl (fun w0 K0 uf => vc_ok _ _ _ (by kernel_rfl) ?_)
  simp only [Tryz.f38]
  simp -dsimp [initB, initEnv, pinsOf, outB2]
  refine VL.loop (fun g : GI => ⟨[(4, .c (i64 g.i)), (0, .c (.sl nl (facts l))), (1, .fnp F [.ptr 3 0, .ptr 1 0])],
    [(1, some (.box false [.own 2 (catG G g.done).length])), (2, some (.arr (catG G g.done).isEmpty g.sz (facts (catG G g.done)) 0)), (3, some (.box false [.c (.sl mi.isEmpty (facts mi))])), (4, some (.pin (uf 0) (.c (.sl nl (facts l))))), (5, some (.pin (uf 1) (.fnp F [.ptr 3 0, .ptr 1 0])))]⟩)
    (fun g => g.i ≤ l.length ∧ groupsL l = g.done ++ groupsL (l.drop g.i) ∧ g.sz = if g.i = 0 then 0 else 3) (fun g => l.length - g.i) ⟨0, 0, []⟩ (by kernel_rfl) (by simp) (by simp [St.le]) ?_
  intro ⟨i, sz, done⟩ ⟨hi, hg, hsz⟩
  simp only at hi hg hsz
  by_cases h1 : i < l.length
  · simp -dsimp [h1]
    refine VL.loop (fun j : KI => ⟨[(6, .c (i64 j.k)), (5, .own 320 (seg l i j.k).length), (4, .c (i64 i)), (0, .c (.sl nl (facts l))), (1, .fnp F [.ptr 3 0, .ptr 1 0])],
      [(320, some (.arr j.nl j.sz ((seg l i j.k).map Per.cells) 0)), (1, some (.box false [.own 2 (catG G done).length])), (2, some (.arr (catG G done).isEmpty sz (facts (catG G done)) 0)), (3, some (.box false [.c (.sl mi.isEmpty (facts mi))])), (4, some (.pin (uf 0) (.c (.sl nl (facts l))))), (5, some (.pin (uf 1) (.fnp F [.ptr 3 0, .ptr 1 0])))]⟩)
      (fun j => i ≤ j.k ∧ j.k ≤ l.length ∧ j.nl = decide (j.k = i) ∧ (j.sz = if j.nl then 0 else 2) ∧ ∀ m, i ≤ m → m < j.k → (h : m < l.length) → l[m].row = l[i].row) (fun j => l.length - j.k) ⟨i, true, 0⟩ (by kernel_rfl) ?_ (by simp [St.le, seg]) ?_
    · exact ⟨Nat.le_refl _, by simp only; omega, by simp, rfl, fun m h2 h3 => by simp only at h3; omega⟩
    intro ⟨k, z, s⟩ ⟨hik, hk, hz, hs, ha⟩
    simp only at hik hk hz hs ha
    have hsl := seg_len l hik hk
    have fin : ∀ (he : ∀ h : k < l.length, l[k].row ≠ l[i].row), i < k → True := fun _ _ => trivial
    by_cases h2 : k < l.length
    · simp -dsimp [h1, h2]
      refine VL.draw (by kernel_rfl) [(0, false), (0, false), (2, false), (7, true), (15, true), (31, false), (31, false), (127, false), (255, false), (511, false), (31, false), (31, false), (3103, false), (7199, false), (15391, false), (32767, true), (65535, true), (131071, true)] (by kernel_rfl) ?_
      simp -dsimp [h1, h2, Fact.cells]
      refine VG.mk [.c (i64 (cmpR l[k].row l[i].row))] _ (fun _ => compareR_spec _ _ _ _ (by have := hN _ (List.getElem_mem h2); omega) (by have := hN _ (List.getElem_mem h1); omega)) rfl ?_
      simp -dsimp
      have hc0 := cmpR_0 l[k].row l[i].row
      refine VIf.mk (fun h => ?_) (fun h => ?_)
      · have h' : l[k].row = l[i].row := hc0.1 (by simpa using h)
        have hw : IntKind.i64.wrap ((k : Int) + 1) = (k : Int) + 1 := IntWalk.i64_in _ (by omega)
        have hsn := seg_snoc l hik h2
        simp -dsimp [h2, Fact.cells, hw, maxLen]
        refine ⟨fun e => by rw [hs, e]; rfl, by omega, ⟨k + 1, false, 2⟩, ⟨by simp only; omega, by simp only; omega, by simp only; rw [eq_comm, decide_eq_false_iff_not]; omega, rfl, fun m m1 m2 m3 => ?_⟩, ?_, by simp only; omega⟩
        · simp only at m2
          by_cases e : m = k
          · subst e; exact h'
          · exact ha m m1 (by omega) m3
        · simp [St.le, hsn, Per.cells]
      · have h' : l[k].row ≠ l[i].row := fun e => by rw [hc0.2 e] at h; simp at h
        simp -dsimp
        have hik' : i < k := by
          rcases Nat.lt_or_eq_of_le hik with e | e
          · exact e
          · subst e; exact absurd rfl h'
        simp -dsimp [h1, Fact.cells]
        obtain rfl : z = false := by rw [hz, decide_eq_false_iff_not]; omega
        obtain rfl : s = 2 := hs
        have hgr := groups_at l hik' hk (fun j j1 j2 j3 => ha j j1 j2 j3) (fun _ => h')
        have hnrm := (hN _ (List.getElem_mem h1)).1
        rw [hgr] at hg
        have hgk := hF (l[i].row, seg l i k) (by rw [hg]; simp) sz (catG G done) ?_ ?_
        · refine VCP.some [false, true, false, false] ?_
          simp -dsimp
          rw [hnrm]
          refine VLD.lend _ _ _ [] _ (oτ2 1 2 3) [2] (lend_out2 (by decide) (by decide) (by decide) hgk ?_ ?_ ?_ ?_ ?_ ?_) ?_
          · simp [grpA2, renSs, renS, oτ2]
          · simp [St.rs, vlook]
          · simp [St.rs, vlook]
          · simp [St.rs, vlook]
          · simp [grpA2, keptP]
          · simp [grpA2, keptP]
          simp -dsimp [outB2, retS, renSs, oτ2]
          refine ⟨⟨k, 3, done ++ [(l[i].row, seg l i k)]⟩, ⟨hk, by simp only; rw [List.append_assoc]; exact hg, by simp only; rw [if_neg (by omega)]⟩, ?_, by simp only; omega⟩
          simp only
          rw [catG_snoc]
          simp [St.le]
        · have := hB
          rw [hg, ← List.singleton_append, ← List.append_assoc] at this
          unfold catG at this ⊢
          rw [List.flatMap_append, List.flatMap_append, List.length_append, List.length_append] at this
          simp at this ⊢
          omega
        · intro e
          rw [hsz, if_neg]
          rintro rfl
          rw [List.drop_zero, hg] at hgr
          have := congrArg List.length hgr
          simp at this
          exact e (by rw [this]; rfl)
    · have hik' : i < k := by omega
      have h' : ∀ h : k < l.length, l[k].row ≠ l[i].row := fun h => absurd h h2
      obtain rfl : k = l.length := by omega
      simp -dsimp
      refine VL.draw (by kernel_rfl) [(0, false), (0, false), (2, false), (7, true), (15, true), (31, false), (31, false), (127, false), (255, false), (511, false), (31, false), (31, false), (3103, false), (7199, false), (15391, false), (32767, true), (65535, true), (131071, true)] (by kernel_rfl) ?_
      simp -dsimp [h1, Fact.cells]
      refine VG.mk [.c (i64 0)] _ (fun h => Bool.noConfusion h) rfl ?_
      simp -dsimp [h1, Fact.cells]
      obtain rfl : z = false := by rw [hz, decide_eq_false_iff_not]; omega
      obtain rfl : s = 2 := hs
      have hgr := groups_at l hik' hk (fun j j1 j2 j3 => ha j j1 j2 j3) h'
      have hnrm := (hN _ (List.getElem_mem h1)).1
      rw [hgr] at hg
      have hgk := hF (l[i].row, seg l i l.length) (by rw [hg]; simp) sz (catG G done) ?_ ?_
      · refine VCP.some [false, true, false, false] ?_
        simp -dsimp
        rw [hnrm]
        refine VLD.lend _ _ _ [] _ (oτ2 1 2 3) [2] (lend_out2 (by decide) (by decide) (by decide) hgk ?_ ?_ ?_ ?_ ?_ ?_) ?_
        · simp [grpA2, renSs, renS, oτ2]
        · simp [St.rs, vlook]
        · simp [St.rs, vlook]
        · simp [St.rs, vlook]
        · simp [grpA2, keptP]
        · simp [grpA2, keptP]
        simp -dsimp [outB2, retS, renSs, oτ2]
        refine ⟨⟨l.length, 3, done ++ [(l[i].row, seg l i l.length)]⟩, ⟨hk, by simp only; rw [List.append_assoc]; exact hg, by simp only; rw [if_neg (by omega)]⟩, ?_, by simp only; rw [Nat.sub_self]; exact Nat.sub_pos_of_lt h1⟩
        simp only
        rw [catG_snoc]
        simp [St.le]
      · have := hB
        rw [hg, ← List.singleton_append, ← List.append_assoc] at this
        unfold catG at this ⊢
        rw [List.flatMap_append, List.flatMap_append, List.length_append, List.length_append] at this
        simp at this ⊢
        omega
      · intro e
        rw [hsz, if_neg]
        rintro rfl
        rw [List.drop_zero, hg] at hgr
        have := congrArg List.length hgr
        simp at this
        exact e (by rw [this]; rfl)
  · obtain rfl : i = l.length := by omega
    rw [List.drop_length, groupsL_nil, List.append_nil] at hg
    simp -dsimp
    rw [hg]
    simp [resEnd, outB2, pinsEnd, hsz]
end Go.Proofs.YtmkbclnhopoiiaaGreat
