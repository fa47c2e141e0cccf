/- Contracts of functions of the seat, proved in a logic on data over the model (part BB). -/
import Derived.Test.YtlphpbcafplnbaaGreatBA
import Derived.Test.YtlphpbcafplnbaaGreatDA
import Derived.Test.YtlphpbcafplnbaaGreatEA
import Derived.Test.YtlphpbcafplnbaaGreatVE
import Derived.Shelf.Small.Strs
set_option linter.unusedSimpArgs false
set_option linter.unusedVariables false
namespace Go.Proofs.YtlphpbcafplnbaaGreat
open Go.VL Go.RowKit
def Tryz.strCmp_ren : Go.Shelf.Ren := ⟨fun | 106 => 95 | 213 => 120 | 265 => 144 | n => n, fun | 9 => 9 | 3 => 3 | n => n, fun | n => n⟩
theorem Tryz.strCmp : Go.Proofs.Lays.n106 Tryz.prog Tryz.strCmp_ren := { mixed := by kernel_rfl, f106 := Tryz.func95.trans (congrArg some (by kernel_rfl)), f213 := Tryz.func120.trans (congrArg some (by kernel_rfl)), f265 := Tryz.func144.trans (congrArg some (by kernel_rfl)), t3 := Tryz.underlying3, a3 := Tryz.isAgg3, z3 := Tryz.sizeOf3, v3 := Tryz.zeroValue3, t9 := Tryz.underlying9, a9 := Tryz.isAgg9, z9 := Tryz.sizeOf9, v9 := Tryz.zeroValue9 }
theorem con_plain {P : Program} {f : FuncId} {args : List S} {x : Value} (hf : callable P f = true) (hx : x.oneCell' = true) (h : ∀ (w : World) (K : Nat → Nat → Prop) (us : List Value), DRs K w args us → Calls P f us.toArray w fun e w' => e = .returned x ∧ w' = w) : Con P f args [.c (.v x)] := by
  refine Con.of hf fun w K us hK hd => (h w K us hd).mono ?_
  rintro e w' ⟨rfl, rfl⟩
  refine ⟨[x], rfl, BelowD.refl _ _, K, fun _ _ h => h, fun _ _ h _ => h, hK, rfl, fun k r v hr hv => ?_, fun j k r r' v v' hne hr hr' _ _ _ _ => ?_⟩
  · match k with
    | 0 =>
      simp at hr hv
      subst hr hv
      rw [RtR, CR]; exact ⟨rfl, hx⟩
    | k + 1 => simp at hr
  · match j, k with
    | 0, 0 => exact absurd rfl hne
    | j + 1, _ => simp at hr
    | 0, k + 1 => simp at hr'
theorem compareBytes_eq : ∀ a b : List UInt8, Lib.compareBytes a b = cmpB a b
  | [], [] => by simp [Lib.compareBytes, cmpB, Op.bytesLess]
  | [], _ :: _ => by simp [Lib.compareBytes, cmpB, Op.bytesLess]
  | _ :: _, [] => by simp [Lib.compareBytes, cmpB, Op.bytesLess]
  | a :: l, b :: m => by
    rw [cmpB_list, listC, ← cmpB_list, Lib.compareBytes, compareBytes_eq l m]
    by_cases h1 : a < b
    · have : cmp8 a b = -1 := by unfold cmp8; rw [cmpI_neg]; have := UInt8.lt_iff_toNat_lt.1 h1; omega
      rw [if_pos h1, if_neg (by omega), this]
    · by_cases h2 : b < a
      · have h3 : cmp8 b a = -1 := by unfold cmp8; rw [cmpI_neg]; have := UInt8.lt_iff_toNat_lt.1 h2; omega
        have h4 := Cmp.u8.anti a b
        rw [if_neg h1, if_pos h2, if_neg (by omega)]; omega
      · have e : a = b := UInt8.toNat.inj (by
          have a1 := mt UInt8.lt_iff_toNat_lt.2 h1
          have a2 := mt UInt8.lt_iff_toNat_lt.2 h2
          omega)
        rw [if_neg h1, if_neg h2, if_pos (by subst e; exact Cmp.u8.self a)]
theorem strCmp_spec (a b : List UInt8) : Con Tryz.prog 95 [.c (str a), .c (str b)] [.c (i64 (cmpB a b))] := by
  refine con_plain (by kernel_rfl) rfl fun w K us hd => ?_
  unfold DRs at hd
  rw [SRs] at hd
  obtain ⟨u, us', rfl, hu, hd⟩ := hd
  rw [SRs] at hd
  obtain ⟨u2, us'', rfl, hu2, hd⟩ := hd
  rw [SRs] at hd
  subst hd
  rw [SR, CR] at hu hu2
  obtain ⟨rfl, _⟩ := hu
  obtain ⟨rfl, _⟩ := hu2
  have h := Any.strings_Compare Tryz.strCmp ⟨a.toArray⟩ ⟨b.toArray⟩ w
  rw [compareBytes_eq] at h
  exact h
set_option maxRecDepth 4000 in
set_option maxHeartbeats 4000000 in
theorem isNaN2_spec (x : Int) : Con Tryz.prog 119 [.c (i64 x)] [.c (bln false)] := by
  refine spec_of Tryz.func119 rfl (by kernel_rfl) (by simp [Tryz.f119]) (fun w0 K0 => vc_ok _ _ _ (by kernel_rfl) ?_)
  simp only [Tryz.f119]
  simp -dsimp
set_option maxRecDepth 4000 in
set_option maxHeartbeats 4000000 in
theorem compare2_spec (x y : Int) : Con Tryz.prog 94 [.c (i64 x), .c (i64 y)] [.c (i64 (cmpI x y))] := by
  refine spec_of Tryz.func94 rfl (by kernel_rfl) (by simp [Tryz.f94]) (fun w0 K0 => vc_ok _ _ _ (by kernel_rfl) ?_)
  simp only [Tryz.f94]
  simp -dsimp
  refine VC.mk _ (isNaN2_spec x) ?_
  simp -dsimp
  refine VC.mk _ (isNaN2_spec y) ?_
  simp -dsimp
  refine VIf.mk (fun h => ?_) (fun h => ?_)
  · simp -dsimp
    simp at h
    simp [cmpI, h]
  · simp -dsimp
    simp at h
    refine VIf.mk (fun h2 => ?_) (fun h2 => ?_)
    · simp -dsimp
      simp at h2
      simp [cmpI, h2]; omega
    · simp -dsimp
      simp at h2
      simp [cmpI]; omega
def orL : List Int → Int
  | [] => 0
  | x :: l => if x = 0 then orL l else x
theorem orL_at : ∀ (l : List Int) (k : Nat), (∀ j, j < k → (h : j < l.length) → l[j] = 0) → orL l = orL (l.drop k)
  | l, 0, _ => by simp
  | [], k + 1, _ => by simp
  | x :: l, k + 1, h => by
    have h0 := h 0 (by omega) (by simp)
    simp at h0
    rw [orL, if_pos h0, List.drop_succ_cons]
    exact orL_at l k fun j hj hl => by have := h (j + 1) (by omega) (by simp; omega); simpa using this
set_option maxRecDepth 4000 in
set_option maxHeartbeats 4000000 in
theorem orB_spec (nl : Bool) (l : List Int) (hl : l.length ≤ 1000) : Con Tryz.prog 60 [.c (.sl nl (ints l))] [.c (i64 (orL l))] := by
  refine spec_of Tryz.func60 rfl (by kernel_rfl) (by simp [Tryz.f60]) (fun w0 K0 => vc_ok _ _ _ (by kernel_rfl) ?_)
  simp only [Tryz.f60]
  simp -dsimp
  refine VL.loop (fun k : Nat => ⟨[(8, .c (i64 k)), (7, .c (i64 l.length)), (6, .c (.sl nl (ints l))), (3, .c (i64 0))], []⟩)
    (fun k => k ≤ l.length ∧ ∀ j, j < k → (h : j < l.length) → l[j] = 0) (fun k => l.length - k) 0 (by kernel_rfl) ⟨by simp, fun j h => by omega⟩ (by simp [St.le]) ?_
  intro k ⟨hk, hb⟩
  have e := orL_at l k hb
  by_cases h1 : k < l.length
  · have hw : IntKind.i64.wrap ((k : Int) + 1) = (k : Int) + 1 := IntWalk.i64_in _ (by omega)
    rw [List.drop_eq_getElem_cons h1, orL] at e
    simp -dsimp [h1]
    refine VIf.mk (fun h => ?_) (fun h => ?_)
    · simp at h
      rw [if_neg h] at e
      simp -dsimp [e]
    · simp at h
      simp -dsimp [hw]
      refine ⟨k + 1, ⟨by omega, fun j hj hl => ?_⟩, ?_, by omega⟩
      · by_cases e2 : j = k
        · subst e2; exact h
        · exact hb j (by omega) hl
      · simp [St.le]
  · obtain rfl : k = l.length := by omega
    rw [List.drop_length, orL] at e
    simp -dsimp [e]
theorem or_at (nl : Bool) (xs : List (List C)) (a b c : Int) (h : xs = [[i64 a], [i64 b], [i64 c]]) : Con Tryz.prog 60 [.c (.sl nl xs)] [.c (i64 (if a = 0 then if b = 0 then c else b else a))] := by
  have := orB_spec nl [a, b, c] (by simp)
  rw [h]
  have e : orL [a, b, c] = if a = 0 then if b = 0 then c else b else a := by
    simp only [orL]
    split
    · split
      · split
        · rename_i h; exact h.symm
        · rfl
      · rfl
    · rfl
  rwa [e] at this
set_option maxRecDepth 4000 in
set_option maxHeartbeats 16000000 in
theorem compareR_spec (na nb : Bool) (l m : List Val) (hl : l.length ≤ 140737488355328) (hm : m.length ≤ 140737488355328) : Con Tryz.prog 59 [.c (.sl na (vals l)), .c (.sl nb (vals m))] [.c (i64 (cmpR l m))] := by
  refine spec_of Tryz.func59 rfl (by kernel_rfl) (by simp [Tryz.f59]) (fun w0 K0 => vc_ok _ _ _ (by kernel_rfl) ?_)
  simp only [Tryz.f59]
  simp -dsimp
  refine VL.loop (fun k : Nat => ⟨[(12, .c (i64 k)), (11, .c (i64 (min l.length m.length : Nat))), (0, .c (.sl na (vals l))), (1, .c (.sl nb (vals m)))], []⟩)
    (fun k => k ≤ l.length ∧ k ≤ m.length ∧ l.take k = m.take k) (fun k => l.length - k) 0 (by kernel_rfl) (by simp) (by simp [St.le]; omega) ?_
  intro k ⟨hk, hk', heq⟩
  by_cases hlt : k < l.length ∧ k < m.length
  · obtain ⟨h1, h2⟩ := hlt
    have hw : IntKind.i64.wrap ((k : Int) + 1) = (k : Int) + 1 := IntWalk.i64_in _ (by omega)
    have hmn : ((k : Int) < ((min l.length m.length : Nat) : Int)) = True := by simp; omega
    simp -dsimp [hmn, h1, h2]
    refine VL.draw (by kernel_rfl) [(0, false), (0, false), (3, false), (7, false), (15, false), (0, false), (0, false), (96, false), (224, false), (480, false), (1023, false), (0, false), (0, false), (6144, false), (14336, false), (30720, false), (0, false), (0, false), (196608, false), (458752, false), (983040, false), (2097151, false), (0, false), (0, false), (12582912, false), (29360128, false), (62914560, false), (0, false), (0, false), (402653184, false), (939524096, false), (2013265920, false), (4294967295, true), (8589934591, true), (17179869183, true), (34359738367, true)] (by kernel_rfl) ?_
    simp -dsimp [h1, h2, Val.cells]
    refine VCE.mk _ (compare2_spec l[k].kind m[k].kind) ?_
    simp -dsimp [h1, h2, Val.cells]
    refine VCE.mk _ (compare_spec l[k].int m[k].int) ?_
    simp -dsimp [h1, h2, Val.cells]
    refine VC.mk _ (strCmp_spec l[k].text m[k].text) ?_
    simp -dsimp
    refine ⟨by decide, VCL.snap ?_⟩
    simp -dsimp
    refine VC.mk _ (or_at false _ (cmpI l[k].kind m[k].kind) (cmpI l[k].int m[k].int) (cmpB l[k].text m[k].text) rfl) ?_
    have hv : (if cmpI l[k].kind m[k].kind = 0 then if cmpI l[k].int m[k].int = 0 then cmpB l[k].text m[k].text else cmpI l[k].int m[k].int else cmpI l[k].kind m[k].kind) = cmpV l[k] m[k] := by
      rw [cmpV_eq]; rfl
    rw [hv]
    simp -dsimp
    refine VIf.mk (fun h => ?_) (fun h => ?_)
    · simp at h
      simp -dsimp
      exact (cmpR_at heq h1 h2 h).symm
    · simp at h
      simp -dsimp [hw]
      refine ⟨k + 1, ⟨by omega, by omega, take_step h1 h2 heq ((cmpV_0 _ _).1 h)⟩, ?_, by omega⟩
      simp [St.le]
  · have hend := cmpR_end heq hk hk' (by omega)
    have hmn : ((k : Int) < ((min l.length m.length : Nat) : Int)) = False := by simp; omega
    simp -dsimp [hmn]
    refine VC.mk _ (compare2_spec l.length m.length) ?_
    simp -dsimp
    rw [hend]
    unfold cmpI
    simp only [Int.ofNat_lt]
set_option maxRecDepth 4000 in
set_option maxHeartbeats 16000000 in
theorem order_spec (f g : Fact) (hl : f.row.length ≤ 140737488355328) (hm : g.row.length ≤ 140737488355328) : Con Tryz.prog 91 [.agg f.cells, .agg g.cells] [.c (i64 (ordF f g))] := by
  refine spec_of Tryz.func91 rfl (by kernel_rfl) (by simp [Tryz.f91]) (fun w0 K0 => vc_ok _ _ _ (by kernel_rfl) ?_)
  simp only [Tryz.f91]
  simp -dsimp [Fact.cells]
  refine VL.draw (by kernel_rfl) [(0, false), (1, false), (0, false), (4, false), (15, false), (0, false), (32, false), (96, false), (0, false), (256, false), (768, false), (2047, false), (0, false), (4096, false), (12288, false), (0, false), (32768, false), (98304, false), (262143, true), (524287, true), (1048575, true), (2097151, true)] (by kernel_rfl) ?_
  simp -dsimp
  refine VCE.mk _ (compareR_spec _ _ f.row g.row hl hm) ?_
  simp -dsimp
  refine VCE.mk _ (compare_spec f.p.f g.p.f) ?_
  simp -dsimp
  refine VC.mk _ (compare_spec f.p.t g.p.t) ?_
  simp -dsimp
  refine ⟨by decide, VCL.snap ?_⟩
  simp -dsimp
  refine VC.mk _ (or_at false _ (cmpR f.row g.row) (cmpI f.p.f g.p.f) (cmpI f.p.t g.p.t) rfl) ?_
  simp -dsimp
  rfl
end Go.Proofs.YtlphpbcafplnbaaGreat
set_option linter.unusedSimpArgs false
set_option linter.unusedVariables false
namespace Go.Proofs.YtlphpbcafplnbaaGreat
open Go.VL Go.RowKit
abbrev rowV (x : Bool × List Val) : List C := [.sl x.1 (vals x.2)]
def catR (rows : List (Bool × List Val)) : List Val := rows.flatMap Prod.snd
theorem catR_snoc (rows : List (Bool × List Val)) {k : Nat} (h : k < rows.length) : catR (rows.take (k + 1)) = catR (rows.take k) ++ rows[k].2 := by
  unfold catR; rw [take_snoc h, List.flatMap_append]; simp
theorem catR_mono (rows : List (Bool × List Val)) (k : Nat) : (catR (rows.take k)).length ≤ (catR rows).length := by
  conv => rhs; rw [← List.take_append_drop k rows]
  unfold catR
  rw [List.flatMap_append, List.length_append]
  omega
set_option maxRecDepth 4000 in
set_option maxHeartbeats 8000000 in
theorem bcopied_spec (nl : Bool) (rows : List (Bool × List Val)) (hl : rows.length ≤ 2) (hR : (catR rows).length ≤ 4398046511104) :
    Con Tryz.prog 109 [.c (.sl nl (rows.map rowV))] [.c (.sl (catR rows).isEmpty (vals (catR rows)))] := by
  refine Con.frz (rs := [.fr (catR rows).isEmpty (if rows.length = 0 then 0 else 3) (vals (catR rows)) 0]) ?_ 0 rfl
  refine spec_of Tryz.func109 rfl (by kernel_rfl) (by simp [Tryz.f109]) (fun w0 K0 => vc_ok _ _ _ (by kernel_rfl) ?_)
  simp only [Tryz.f109]
  simp -dsimp
  refine VL.loop (fun i : KI => ⟨[(8, .c (i64 i.k)), (7, .c (i64 rows.length)), (6, .c (.sl nl (rows.map rowV))), (3, .own 192 (catR (rows.take i.k)).length)], [(192, some (.arr i.nl i.sz (vals (catR (rows.take i.k))) 0))]⟩)
    (fun i => i.k ≤ rows.length ∧ i.nl = (catR (rows.take i.k)).isEmpty ∧ i.sz = if i.k = 0 then 0 else 3) (fun i => rows.length - i.k) ⟨0, true, 0⟩ (by kernel_rfl) ⟨by simp, rfl, rfl⟩ (by simp [St.le, catR]) ?_
  intro ⟨k, z, sz⟩ ⟨hk, hz, hsz⟩
  simp only at hk hz hsz
  have hlen := catR_mono rows (k + 1)
  by_cases h1 : k < rows.length
  · have hw : IntKind.i64.wrap ((k : Int) + 1) = (k : Int) + 1 := IntWalk.i64_in _ (by omega)
    have hsn := catR_snoc rows h1
    have hsl := congrArg List.length hsn
    rw [List.length_append] at hsl
    simp -dsimp [h1, hw, maxLen]
    refine ⟨fun e => ?_, by omega, ⟨k + 1, z && rows[k].2.isEmpty, 3⟩, ⟨by simp only; omega, ?_, by simp⟩, ?_, by simp only; omega⟩
    · rw [hsz, if_neg]
      rintro rfl
      rw [e] at hz
      simp [catR] at hz
    · simp only
      rw [hsn, hz]
      cases catR (rows.take k) <;> simp
    · simp [St.le, hsn]
  · obtain rfl : k = rows.length := by omega
    rw [List.take_length] at hz ⊢
    simp -dsimp
    refine ⟨hz, ?_⟩
    rw [hsz]
    cases rows <;> simp
end Go.Proofs.YtlphpbcafplnbaaGreat
set_option linter.unusedSimpArgs false
set_option linter.unusedVariables false
namespace Go.Proofs.YtlphpbcafplnbaaGreat
open Go.VL Go.RowKit
def rowF (i : Nat) (l : List Fact) : List (Nat × Res) := [(i, .arr false 3 (facts l) 0)]
structure SortsF : Prop where
  con : ∀ l, l ≠ [] → (∀ f ∈ l, Normed f ∧ f.row.length ≤ 140737488355328) → l.length ≤ 140737488355328 → ConB Tryz.prog 90 [.own 1 l.length, .c (.fn 91 [])] (rowF 1 l) [] [.own 1 l.length, .c (.fn 91 [])] (rowF 1 (sortF l))
  nil : Con Tryz.prog 90 [.c (.sl true []), .c (.fn 91 [])] []
theorem bcopied_at (b : Bool) (xs : List (List C)) (nl : Bool) (row : List Val) (h : xs = [[.sl nl (vals row)]]) (hR : row.length ≤ 4398046511104) : Con Tryz.prog 109 [.c (.sl b xs)] [.c (.sl row.isEmpty (vals row))] := by
  have := bcopied_spec b [(nl, row)] (by simp) (by simpa [catR] using hR)
  rw [h]
  simpa [catR] using this
def rightK (l : List Fact) (k : Nat) : List Fact := ((l.take k).filter fun f => right f.p).map norm
theorem rightK_snoc (l : List Fact) {k : Nat} (h : k < l.length) : rightK l (k + 1) = rightK l k ++ if right l[k].p then [norm l[k]] else [] := by
  unfold rightK
  rw [take_snoc h, List.filter_append, List.map_append]
  by_cases e : right l[k].p = true <;> simp [e]
theorem rightK_len (l : List Fact) (k : Nat) : (rightK l k).length ≤ min k l.length := by
  unfold rightK
  rw [List.length_map]
  exact Nat.le_trans (List.length_filter_le _ _) (by rw [List.length_take]; omega)
theorem rightK_end (l : List Fact) : sortF (rightK l l.length) = rightL l := by unfold rightK rightL; rw [List.take_length]
theorem rightK_mem {l : List Fact} {k : Nat} {f : Fact} (h : f ∈ rightK l k) : Normed f ∧ ∃ g ∈ l, g.row = f.row := by
  unfold rightK at h
  obtain ⟨g, hg, rfl⟩ := List.mem_map.1 h
  exact ⟨rfl, g, List.mem_of_mem_take (List.mem_filter.1 hg).1, rfl⟩
set_option maxRecDepth 4000 in
set_option maxHeartbeats 8000000 in
theorem right_spec (hf : SortsF) (nl : Bool) (l : List Fact) (hl : l.length ≤ 3518437208883) (hr : Rows1 l) :
    Con Tryz.prog 85 [.c (.sl nl (facts l))] [.c (.sl (rightL l).isEmpty (facts (rightL l)))] := by
  refine Con.frz (rs := [.fr (rightL l).isEmpty (if (rightL l).isEmpty then 0 else 3) (facts (rightL l)) 0]) ?_ 0 rfl
  refine spec_of Tryz.func85 rfl (by kernel_rfl) (by simp [Tryz.f85]) (fun w0 K0 => vc_ok _ _ _ (by kernel_rfl) ?_)
  simp only [Tryz.f85]
  simp -dsimp
  refine VL.loop (fun i : KI => ⟨[(8, .c (i64 i.k)), (7, .c (i64 l.length)), (6, .c (.sl nl (facts l))), (3, .own 192 (rightK l i.k).length)], [(192, some (.arr i.nl i.sz (facts (rightK l i.k)) 0))]⟩)
    (fun i => i.k ≤ l.length ∧ i.nl = (rightK l i.k).isEmpty ∧ i.sz = if i.nl then 0 else 3) (fun i => l.length - i.k) ⟨0, true, 0⟩ (by kernel_rfl) ⟨by simp, rfl, rfl⟩ (by simp [St.le, rightK]) ?_
  intro ⟨k, z, sz⟩ ⟨hk, hz, hsz⟩
  simp only at hk hz hsz
  have hkl := rightK_len l k
  by_cases h1 : k < l.length
  · have hw : IntKind.i64.wrap ((k : Int) + 1) = (k : Int) + 1 := IntWalk.i64_in _ (by omega)
    have hsn := rightK_snoc l h1
    have hrk := hr l[k] (List.getElem_mem h1)
    simp -dsimp [h1, hw, Fact.cells]
    refine VC.mk _ (check_at _ l[k].p rfl) ?_
    simp -dsimp
    refine VIf.mk (fun h => ?_) (fun h => ?_)
    · have h' : right l[k].p = true := by simpa using h
      rw [h', if_pos rfl] at hsn
      simp -dsimp
      refine VL.draw (by kernel_rfl) [(0, false), (0, false), (2, false), (6, false), (14, false), (0, false), (32, false), (126, false), (254, false), (511, true), (1023, true)] (by kernel_rfl) ?_
      simp -dsimp
      refine ⟨by decide, VCE.mk _ (bcopied_at false _ l[k].nl l[k].row rfl (by omega)) ?_⟩
      simp -dsimp [hw, maxLen]
      refine ⟨fun e => by rw [hsz, e]; rfl, by omega, ⟨k + 1, false, 3⟩, ⟨by simp only; omega, by rw [hsn]; simp, rfl⟩, ?_, by simp only; omega⟩
      simp [St.le, hsn, norm, Fact.cells]
    · have h' : right l[k].p = false := by simpa using h
      rw [h', if_neg (by simp), List.append_nil] at hsn
      simp -dsimp [hw]
      refine ⟨⟨k + 1, z, sz⟩, ⟨by simp only; omega, by rw [hsn]; exact hz, hsz⟩, ?_, by simp only; omega⟩
      simp [St.le, hsn]
  · obtain rfl : k = l.length := by omega
    have he := rightK_end l
    have hm := fun f => @rightK_mem l l.length f
    generalize rightK l l.length = m at *
    rw [← he]
    simp -dsimp
    have hN : ∀ f ∈ m, Normed f ∧ f.row.length ≤ 140737488355328 := by
      intro f hf
      obtain ⟨h1, g, hg, e⟩ := hm f hf
      have := hr g hg
      exact ⟨h1, by rw [← e]; omega⟩
    have hsl := sortF_len m
    cases m with
    | nil =>
      have e0 : sortF [] = [] := by simpa using hsl
      obtain rfl : z = true := hz
      obtain rfl : sz = 0 := by rw [hsz]; rfl
      rw [e0]
      refine VCL.snap ?_
      simp -dsimp
      refine VC.mk _ hf.nil ?_
      simp -dsimp
    | cons x r =>
      obtain rfl : z = false := hz
      obtain rfl : sz = 3 := by rw [hsz]; rfl
      generalize hx : x :: r = m at *
      have hne : m ≠ [] := by rw [← hx]; simp
      have hse : (sortF m).isEmpty = false := by
        rw [List.isEmpty_eq_false_iff]; intro e; rw [e] at hsl
        exact hne (List.length_eq_zero_iff.1 hsl.symm)
      rw [hse]
      have hcs := hf.con m hne hN (by omega)
      generalize sortF m = s at *
      refine VCL.lend (rowF 1 m) (rowF 1 s) [.own 1 m.length, .c (.fn 91 [])] _ _ (fun _ => 192) [] ⟨hcs, ?_, ?_, ?_, ?_, ?_, ?_, ?_⟩ ?_
      · simp [renSs, renS]
      · simp [rowF, renR]
      · simp [rowF]
      · simp [rowF]
      · simp [rowF, Res.nam]
      · simp [S.nams]
      · simp [rowF, lk, keptP]
        exact ⟨3, _, ⟨rfl, rfl⟩, _, ⟨rfl, rfl⟩, by simp, by simp [hsl]⟩
      simp -dsimp [rowF, retS, renSs]
      exact hsl
end Go.Proofs.YtlphpbcafplnbaaGreat
set_option linter.unusedSimpArgs false
set_option linter.unusedVariables false
namespace Go.Proofs.YtlphpbcafplnbaaGreat
open Go.VL Go.RowKit
def rowE (r : List Val) : List C := [.sl r.isEmpty (vals r)]
@[simp] theorem rowE_len (r : List Val) : (rowE r).length = 1 := rfl
def rowsE (rs : List (List Val)) : List (List C) := rs.map rowE
@[simp] theorem rowsE_len (rs : List (List Val)) : (rowsE rs).length = rs.length := by simp [rowsE]
end Go.Proofs.YtlphpbcafplnbaaGreat
