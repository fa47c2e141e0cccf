/- Contracts of functions of the seat, proved in a logic on data over the model (part GB). -/
import Derived.Test.YtlphpbcafplnbaaGreatBB
import Derived.Shelf.Spec.SlicesGrow
import Derived.Test.YtlphpbcafplnbaaGreatGA
import Derived.Test.YtlphpbcafplnbaaGreatBA
set_option linter.unusedSimpArgs false
set_option linter.unusedVariables false
namespace Go.Proofs.YtlphpbcafplnbaaGreat
open Go.Shelf Go.RowKit Go.Lib Go.VL
def Tryz.growF_ren : Go.Shelf.Ren := ⟨fun | 4 => 110 | n => n, fun | 22 => 22 | 25 => 40 | 3 => 3 | 4 => 4 | 9 => 9 | 20 => 20 | 0 => 0 | n => n, fun | n => n⟩
theorem Tryz.growF : Go.Proofs.Lays8.n4 Tryz.prog Tryz.growF_ren := { mixed := by kernel_rfl, f4 := ⟨Tryz.f110.name, by decide, Tryz.func110.trans (congrArg some (by kernel_rfl))⟩, t0 := Tryz.underlying0, a0 := Tryz.isAgg0, z0 := Tryz.sizeOf0, v0 := Tryz.zeroValue0, t3 := Tryz.underlying3, a3 := Tryz.isAgg3, z3 := Tryz.sizeOf3, v3 := Tryz.zeroValue3, t4 := Tryz.underlying4, a4 := Tryz.isAgg4, z4 := Tryz.sizeOf4, v4 := Tryz.zeroValue4, t9 := Tryz.underlying9, a9 := Tryz.isAgg9, z9 := Tryz.sizeOf9, v9 := Tryz.zeroValue9, t20 := Tryz.underlying20, a20 := Tryz.isAgg20, z20 := Tryz.sizeOf20, v20 := Tryz.zeroValue20, t22 := Tryz.underlying22, a22 := Tryz.isAgg22, z22 := Tryz.sizeOf22, v22 := Tryz.zeroValue22 }
theorem fact_info : Tryz.prog.info? 40 = some Tryz.t40 := by kernel_rfl
theorem growF_spec (n : Nat) (hn : n ≤ 3518437208883) : Con Tryz.prog 110 [.c (.sl true []), .c (i64 n)] [.fr (decide (n = 0)) (if n = 0 then 0 else 3) [] 0] := by
  refine Con.of (by kernel_rfl) fun w K us hK hd => ?_
  unfold DRs at hd
  rw [SRs] at hd
  obtain ⟨u, us', rfl, hu, hd⟩ := hd
  rw [SRs] at hd
  obtain ⟨u2, us'', rfl, hu2, hd⟩ := hd
  rw [SRs] at hd
  subst hd
  rw [SR] at hu hu2
  rw [CR] at hu
  replace hu2 : CR K w (C.v (.int .i64 n)) u2 := hu2
  rw [CR] at hu2
  obtain ⟨rfl, _⟩ := hu2
  have hu' : u = .slice none 0 0 := by
    rcases hu with ⟨_, _, h⟩ | ⟨h, _⟩
    · exact h
    · cases h
  subst hu'
  by_cases h0 : n = 0
  · subst h0
    have h := Any8.slices_Grow_room Tryz.growF none 0 0 0 w (by omega) (by omega) (by omega) (by omega)
    change Calls Tryz.prog 110 _ _ _ at h
    refine h.mono ?_
    rintro e w' ⟨rfl, rfl⟩
    refine ⟨[.slice none 0 0], rfl, BelowD.refl _ _, K, fun _ _ h => h, fun _ _ h _ => h, hK, rfl, fun k r v hr hv => ?_, fun j k r r' v v' hne hr hr' _ _ _ _ => ?_⟩
    · match k with
      | 0 =>
        simp at hr hv
        subst hr hv
        rw [RtR, RR]; exact .inl ⟨rfl, rfl, rfl, rfl⟩
      | k + 1 => simp at hr
    · match j, k with
      | 0, 0 => exact absurd rfl hne
      | j + 1, _ => simp at hr
      | 0, k + 1 => simp at hr'
  · have h := Any8.slices_Grow_grow Tryz.growF Tryz.t40 _ fact_info rfl (by decide) none 0 0 n [] w (by omega) (by omega) (by rw [show Tryz.t40.bytes = 40 from by kernel_rfl]; omega) (by omega) (by simp) (fun _ => rfl) (fun a h => by cases h)
    change Calls Tryz.prog 110 _ _ _ at h
    refine h.mono ?_
    rintro e w' ⟨rfl, rfl⟩
    refine ⟨[_], rfl, ((BelowD.refl _ _).drew.alloc (Nat.le_refl _) _), K, fun _ _ h => h, fun _ _ h _ => h, fun b o h => ?_, rfl, fun k r v hr hv => ?_, fun j k r r' v v' hne hr hr' _ _ _ _ => ?_⟩
    · have := hK b o h
      show b < (w.drew.heap.push _).size
      rw [Array.size_push]
      show b < w.heap.size + 1
      omega
    · match k with
      | 0 =>
        simp at hr hv
        subst hr hv
        rw [RtR, RR]
        refine .inr ⟨by simp [h0], w.heap.size, _, _, _, rfl, Nat.le_refl _, by show (w.heap.push _)[w.heap.size]? = _; rw [Array.getElem?_push_size], Nat.zero_le _, ?_, ?_, Nat.zero_le _, ?_, ?_⟩
        · exact grownCap_le_maxLen w n 0 _ (by unfold maxLen; omega)
        · have hge := grownCap_ge w n 0 (Tryz.growF_ren.t 25)
          rw [if_neg h0]
          simp only [Nat.zero_add, Nat.sub_zero, Array.size_append, Builtin.zeroCells, Array.size_map, Array.size_range, Array.size_empty]
          generalize grownCap w n 0 (Tryz.growF_ren.t 25) = g at *
          show n * 3 + (g - n) * 3 = g * 3
          omega
        · intro j e he; simp at he
        · intro o
          constructor
          · intro h; have := hK _ o h; omega
          · intro h; omega
      | k + 1 => simp at hr
    · match j, k with
      | 0, 0 => exact absurd rfl hne
      | j + 1, _ => simp at hr
      | 0, k + 1 => simp at hr'
def listV (x : Bool × List Fact) : List C := [.sl x.1 (facts x.2)]
def catF (ls : List (Bool × List Fact)) : List Fact := ls.flatMap Prod.snd
@[simp] theorem catF_nil : catF [] = [] := rfl
theorem catF_snoc (ls : List (Bool × List Fact)) {k : Nat} (h : k < ls.length) : catF (ls.take (k + 1)) = catF (ls.take k) ++ ls[k].2 := by
  unfold catF; rw [take_snoc h, List.flatMap_append]; simp
theorem catF_mono (ls : List (Bool × List Fact)) (k : Nat) : (catF (ls.take k)).length ≤ (catF ls).length := by
  conv => rhs; rw [← List.take_append_drop k ls]
  unfold catF
  rw [List.flatMap_append, List.length_append]
  omega
set_option maxRecDepth 4000 in
set_option maxHeartbeats 8000000 in
theorem concat_spec (nl : Bool) (ls : List (Bool × List Fact)) (hl : ls.length ≤ 2) (hR : (catF ls).length ≤ 3518437208883) :
    Con Tryz.prog 86 [.c (.sl nl (ls.map listV))] [.c (.sl (catF ls).isEmpty (facts (catF ls)))] := by
  refine Con.frz (rs := [.fr (catF ls).isEmpty (if ls.length = 0 then 0 else 3) (facts (catF ls)) 0]) ?_ 0 rfl
  refine spec_of Tryz.func86 rfl (by kernel_rfl) (by simp [Tryz.f86]) (fun w0 K0 => vc_ok _ _ _ (by kernel_rfl) ?_)
  simp only [Tryz.f86]
  simp -dsimp
  refine VL.loop (fun k : Nat => ⟨[(11, .c (i64 k)), (10, .c (i64 ls.length)), (9, .c (.sl nl (ls.map listV))), (3, .c (i64 (catF (ls.take k)).length)), (0, .c (.sl nl (ls.map listV)))], []⟩)
    (fun k => k ≤ ls.length) (fun k => ls.length - k) 0 (by kernel_rfl) (by simp) (by simp [St.le]) ?_
  intro k hk
  have hlen := catF_mono ls (k + 1)
  have hk2 : k = 0 ∨ k = 1 ∨ k = 2 := by omega
  by_cases h1 : k < ls.length
  · have hw : IntKind.i64.wrap ((k : Int) + 1) = (k : Int) + 1 := IntWalk.i64_in _ (by omega)
    have hsn := catF_snoc ls h1
    have hsl := congrArg List.length hsn
    rw [List.length_append] at hsl
    have hw2 : IntKind.i64.wrap (((catF (ls.take k)).length : Int) + ls[k].2.length) = ((catF (ls.take (k + 1))).length : Int) := by rw [IntWalk.i64_in _ (by omega), hsn]; simp
    have hn0 : ¬ ((catF (ls.take (k + 1))).length : Int) < 0 := by omega
    simp -dsimp [h1, hw, listV, hw2]
    refine VIf.mk (fun h => absurd (of_decide_eq_true h) hn0) (fun h => ?_)
    simp -dsimp [hw]
    refine ⟨k + 1, by omega, ?_, by omega⟩
    simp [St.le]
  · obtain rfl : k = ls.length := by omega
    rw [List.take_length] at *
    simp -dsimp
    refine VC.mk _ (growF_spec (catF ls).length hR) ?_
    simp -dsimp
    refine VL.loop (fun i : KI => ⟨[(27, .c (i64 i.k)), (26, .c (i64 ls.length)), (25, .c (.sl nl (ls.map listV))), (6, .own 1536 (catF (ls.take i.k)).length)], [(1536, some (.arr i.nl i.sz (facts (catF (ls.take i.k))) 0))]⟩)
      (fun i => i.k ≤ ls.length ∧ i.nl = (catF ls).isEmpty ∧ i.sz = if i.k = 0 then (if (catF ls).length = 0 then 0 else 3) else 3) (fun i => ls.length - i.k) ⟨0, (catF ls).isEmpty, if (catF ls).length = 0 then 0 else 3⟩ (by kernel_rfl) ⟨by simp, rfl, rfl⟩ ?_ ?_
    · simp [St.le]
      cases catF ls <;> simp
    intro ⟨k, z, sz⟩ ⟨hk', hz, hsz⟩
    simp only at hk' hz hsz
    have hlen := catF_mono ls (k + 1)
    by_cases h1 : k < ls.length
    · have hw : IntKind.i64.wrap ((k : Int) + 1) = (k : Int) + 1 := IntWalk.i64_in _ (by omega)
      have hsn := catF_snoc ls h1
      have hsl := congrArg List.length hsn
      rw [List.length_append] at hsl
      simp -dsimp [h1, hw, listV, maxLen]
      refine ⟨fun e => ?_, by omega, ⟨k + 1, z && ls[k].2.isEmpty, 3⟩, ⟨by simp only; omega, ?_, by simp⟩, ?_, by simp only; omega⟩
      · rw [hsz]
        split
        · rw [if_neg]
          intro e2
          rw [e, eq_comm, List.isEmpty_eq_false_iff] at hz
          exact hz (List.length_eq_zero_iff.1 e2)
        · rfl
      · simp only
        rw [hz]
        cases he : (catF ls).isEmpty with
        | false => rfl
        | true =>
          rw [List.isEmpty_iff] at he
          unfold catF at he
          rw [List.flatMap_eq_nil_iff] at he
          rw [he _ (List.getElem_mem h1)]; rfl
      · simp [St.le, hsn]
    · obtain rfl : k = ls.length := by omega
      rw [List.take_length] at *
      simp -dsimp
      refine ⟨hz, ?_⟩
      rw [hsz]
      cases ls <;> simp
end Go.Proofs.YtlphpbcafplnbaaGreat
set_option linter.unusedSimpArgs false
set_option linter.unusedVariables false
namespace Go.Proofs.YtlphpbcafplnbaaGreat
open Go.VL Go.RowKit
def gN (sortP : List Per → List Per) (x : List Val × List Per) : List Fact := layersL sortP x.1 (stepsL x.2 [])
theorem normalL_eq (sortP : List Per → List Per) (l : List Fact) : normalL sortP l = sortF (catG (gN sortP) (groupsL (rightL l))) := rfl
theorem group_in {l : List Fact} {x : List Val × List Per} (h : x ∈ groupsL (rightL l)) : (∃ f ∈ l, f.row = x.1) ∧ x.2.length ≤ l.length := by
  obtain ⟨_, h2, _⟩ := groups_ok _ (rightL l) (Nat.le_refl _) (sortF_up _)
  obtain ⟨e, f, hf, e2⟩ := h2 x h
  obtain ⟨g, hg, _, rfl⟩ := rightL_mem.1 hf
  refine ⟨⟨g, hg, e2⟩, ?_⟩
  rw [e, List.length_map]
  exact Nat.le_trans (List.length_filter_le _ _) (rightL_len l)
theorem catG_in {G : List Val × List Per → List Fact} {gs : List (List Val × List Per)} {f : Fact} (h : f ∈ catG G gs) : ∃ x ∈ gs, f ∈ G x := List.mem_flatMap.1 h
theorem group_nil {G : List Val × List Per → List Fact} {r : List Fact} (h : catG G (groupsL r) ≠ []) : r.isEmpty = false := by
  cases r with
  | nil => rw [groupsL_nil] at h; exact absurd rfl h
  | cons => rfl
set_option maxRecDepth 4000 in
set_option maxHeartbeats 16000000 in
theorem normal_spec {sortP : List Per → List Per} (hs : Sorts sortP) (hi : SortsI) (hf : SortsF) (nl : Bool) (ls : List (Bool × List Fact)) (hl : ls.length ≤ 2) (hR : (catF ls).length ≤ 3518437208883) (hr : Rows1 (catF ls)) (hB : (catG (gN sortP) (groupsL (rightL (catF ls)))).length ≤ 3518437208883) :
    Con Tryz.prog 55 [.c (.sl nl (ls.map listV))] [.c (.sl (normalL sortP (catF ls)).isEmpty (facts (normalL sortP (catF ls))))] := by
  refine Con.frz (rs := [.fr (normalL sortP (catF ls)).isEmpty (if (rightL (catF ls)).isEmpty then 0 else 3) (facts (normalL sortP (catF ls))) 0]) ?_ 0 rfl
  refine spec_of Tryz.func55 rfl (by kernel_rfl) (by simp [Tryz.f55]) (fun w0 K0 => vc_ok _ _ _ (by kernel_rfl) ?_)
  have hcon := concat_spec nl ls hl hR
  rw [normalL_eq]
  generalize catF ls = l at *
  have hri := right_spec hf l.isEmpty l hR hr
  have hgi := fun x => @group_in l x
  have hrl := rightL_len l
  have hrN : ∀ f ∈ rightL l, f.nl = f.row.isEmpty ∧ f.row.length ≤ 4398046511104 := by
    intro f hf
    obtain ⟨g, hg, _, rfl⟩ := rightL_mem.1 hf
    exact ⟨rfl, Nat.le_trans (hr g hg) (by decide)⟩
  generalize rightL l = r at *
  have hgr := group_spec 87 (gN sortP) 3518437208883 r.isEmpty r (by omega) hrN (fun x hx => by
    obtain ⟨⟨f, hf, e⟩, h2⟩ := hgi x hx
    exact normal1_spec hs hi x _ (Nat.le_refl _) (by rw [← e]; exact Nat.le_trans (hr f hf) (by decide)) (by omega)) hB
  have hgn := @group_nil (gN sortP) r
  have hN : ∀ f ∈ catG (gN sortP) (groupsL r), Normed f ∧ f.row.length ≤ 140737488355328 := by
    intro f hf
    obtain ⟨x, hx, h⟩ := catG_in hf
    obtain ⟨e, h2⟩ := layers_row h
    obtain ⟨⟨g, hg, e2⟩, _⟩ := hgi x hx
    have := hr g hg
    exact ⟨h2, by rw [e, ← e2]; omega⟩
  generalize catG (gN sortP) (groupsL r) = m at *
  have hsl := sortF_len m
  simp only [Tryz.f55]
  simp -dsimp
  refine VC.mk _ hcon ?_
  simp -dsimp
  refine VC.mk _ hri ?_
  simp -dsimp
  refine VC.lend _ _ _ [] _ (oτ 192 193) [193] (lend_out (by decide) hgr ?_ ?_ ?_ ?_) ?_
  · simp [renSs, renS, oτ]
  · simp [St.rs, vlook]
  · simp [St.rs, vlook]
  · simp [keptP, keptQ]
  simp -dsimp [outB, retS, renSs, oτ]
  cases m with
  | nil =>
    have e0 : sortF [] = [] := by simpa using hsl
    rw [e0]
    refine VCL.snap ?_
    simp -dsimp
    refine VC.mk _ hf.nil ?_
    simp -dsimp
  | cons x0 r0 =>
    have hrf := hgn (by simp)
    generalize hx : x0 :: r0 = m at *
    have hne : m ≠ [] := by rw [← hx]; simp
    have hre : r ≠ [] := List.isEmpty_eq_false_iff.1 hrf
    have hme : m.isEmpty = false := List.isEmpty_eq_false_iff.2 hne
    have hse : (sortF m).isEmpty = false := by
      rw [List.isEmpty_eq_false_iff]; intro e; rw [e] at hsl
      exact hne (List.length_eq_zero_iff.1 hsl.symm)
    rw [hse, hme, if_neg hre]
    have hcs := hf.con m hne hN (by omega)
    generalize sortF m = s at *
    refine VCL.lend (rowF 1 m) (rowF 1 s) [.own 1 m.length, .c (.fn 91 [])] _ _ (fun _ => 193) [] ⟨hcs, ?_, ?_, ?_, ?_, ?_, ?_, ?_⟩ ?_
    · simp [renSs, renS]
    · simp [rowF, renR]
    · simp [rowF]
    · simp [rowF]
    · simp [rowF, Res.nam]
    · simp [S.nams]
    · simp [rowF, lk, keptP]
      exact ⟨3, _, ⟨rfl, rfl⟩, _, ⟨rfl, rfl⟩, by simp, by simp [hsl]⟩
    simp -dsimp [rowF, retS, renSs]
    exact ⟨hre, hsl⟩
end Go.Proofs.YtlphpbcafplnbaaGreat
set_option linter.unusedSimpArgs false
set_option linter.unusedVariables false
namespace Go.Proofs.YtlphpbcafplnbaaGreat
open Go.VL Go.RowKit
theorem normal_one {sortP : List Per → List Per} (hs : Sorts sortP) (hi : SortsI) (hf : SortsF) (nl z : Bool) (xs : List (List C)) (l : List Fact) (h : xs = [[.sl z (facts l)]]) (hl : l.length ≤ 3518437208883) (hr : Rows1 l) (hB : (catG (gN sortP) (groupsL (rightL l))).length ≤ 3518437208883) :
    Con Tryz.prog 55 [.c (.sl nl xs)] [.c (.sl (normalL sortP l).isEmpty (facts (normalL sortP l)))] := by
  have e : catF [(z, l)] = l := by simp [catF]
  have := normal_spec hs hi hf nl [(z, l)] (by simp) (by rw [e]; exact hl) (by rw [e]; exact hr) (by rw [e]; exact hB)
  rw [e] at this
  rw [h]
  exact this
theorem overlap_at (cs ds : List C) (a b : Per) (h : cs = a.cells) (h' : ds = b.cells) : Con Tryz.prog 217 [.agg cs, .agg ds] [.ag (lap a b).cells, .c (bln (lapOk a b))] := by rw [h, h']; exact overlap_spec a b
end Go.Proofs.YtlphpbcafplnbaaGreat
set_option linter.unusedSimpArgs false
set_option linter.unusedVariables false
namespace Go.Proofs.YtlphpbcafplnbaaGreat
open Go.VL Go.RowKit
theorem len_of_count : ∀ (S J : List Int), (∀ e, S.count e ≤ J.count e) → S.length ≤ J.length
  | [], _, _ => by simp
  | x :: S, J, h => by
    have hx := h x
    rw [List.count_cons_self] at hx
    have hm : x ∈ J := List.count_pos_iff.1 (by omega)
    have := len_of_count S (J.erase x) fun e => by
      have := h e
      by_cases he : e = x
      · subst he
        rw [List.count_erase_self]
        rw [List.count_cons_self] at this
        omega
      · rw [List.count_erase_of_ne he]
        rwa [List.count_cons_of_ne (fun h => he h.symm)] at this
    rw [List.length_erase_of_mem hm] at this
    have := List.length_pos_of_mem hm
    simp only [List.length_cons]
    omega
theorem cntP_cons (p : Per) (ps : List Per) (t : Int) : cntP (p :: ps) t = (if has p t then 1 else 0) + cntP ps t := by
  unfold cntP
  rw [List.filter_cons]
  by_cases h : has p t = true
  · rw [if_pos h, if_pos h, List.length_cons]; omega
  · rw [if_neg h, if_neg h]; omega
theorem cntP_up (e : Int) : ∀ (ps : List Per), cntP ps e ≤ cntP ps (e - 1) + (ps.map Per.f).count e
  | [] => by simp [cntP]
  | p :: ps => by
    have ih := cntP_up e ps
    rw [cntP_cons, cntP_cons, List.map_cons, List.count_cons]
    by_cases h : has p e = true
    · rw [if_pos h]
      by_cases h' : has p (e - 1) = true
      · rw [if_pos h']; omega
      · rw [if_neg h']
        have : p.f = e := by
          rw [has_iff] at h h'; omega
        rw [if_pos (by simp [this])]; omega
    · rw [if_neg h]; omega
theorem cntP_down (e : Int) : ∀ (ps : List Per), cntP ps (e - 1) ≤ cntP ps e + (ps.map Per.t).count e
  | [] => by simp [cntP]
  | p :: ps => by
    have ih := cntP_down e ps
    rw [cntP_cons, cntP_cons, List.map_cons, List.count_cons]
    by_cases h : has p (e - 1) = true
    · rw [if_pos h]
      by_cases h' : has p e = true
      · rw [if_pos h']; omega
      · rw [if_neg h']
        have : p.t = e := by
          rw [has_iff] at h h'; omega
        rw [if_pos (by simp [this])]; omega
    · rw [if_neg h]; omega
theorem canon_starts {u : List Per} (hu : Canon u) {e : Int} : (u.map Per.f).count e ≤ 1 ∧ (0 < (u.map Per.f).count e → inL u e = true ∧ inL u (e - 1) = false) := by
  have hn : (u.map Per.f).Nodup := by
    rw [List.nodup_iff_pairwise_ne, List.pairwise_map]
    refine List.Pairwise.imp_of_mem (fun {p q} hp hq h => ?_) hu.apart
    have := (right_iff p).1 (hu.ok p hp)
    omega
  refine ⟨List.nodup_iff_count.1 hn e, fun h => ?_⟩
  obtain ⟨p, hp, rfl⟩ := List.mem_map.1 (List.count_pos_iff.1 h)
  have hr := (right_iff p).1 (hu.ok p hp)
  refine ⟨(inL_iff u _).2 ⟨p, hp, by omega, by omega⟩, ?_⟩
  rw [Bool.eq_false_iff]
  intro hin
  obtain ⟨q, hq, h1, h2⟩ := (inL_iff u _).1 hin
  obtain ⟨i, hi, rfl⟩ := List.getElem_of_mem hp
  obtain ⟨j, hj, rfl⟩ := List.getElem_of_mem hq
  have hap := List.pairwise_iff_getElem.1 hu.apart
  rcases Nat.lt_trichotomy i j with h | h | h
  · have := hap i j hi hj h; omega
  · subst h; omega
  · have := hap j i hj hi h; omega
section
variable {sortP : List Per → List Per}
theorem layers_count (hs : Sorts sortP) (row : List Val) {st : List (Per × Int)} {c : Int → Int} (h : StepsOf st c) (e : Int) : ∀ N, ((layersN sortP row st N).map fun f => f.p.f).count e ≤ min N (c e).toNat - (c (e - 1)).toNat
  | 0 => by simp [layersN]
  | N + 1 => by
    have ih := layers_count hs row h e N
    obtain ⟨u1, u2⟩ := h.union hs N
    rw [layersN_succ, List.map_append, List.count_append, List.map_map]
    have e1 : ((fun f : Fact => f.p.f) ∘ mkF row) = Per.f := rfl
    rw [e1]
    obtain ⟨c1, c2⟩ := canon_starts u1 (e := e)
    rcases Nat.eq_zero_or_pos (((unionL sortP (here st (N + 1))).map Per.f).count e) with h0 | h0
    · rw [h0]; omega
    · obtain ⟨d1, d2⟩ := c2 h0
      rw [u2] at d1 d2
      simp at d1 d2
      omega
theorem layers_len (hs : Sorts sortP) (row : List Val) {plus minus : List Per} (hp : ∀ p ∈ plus, right p = true) (hm : ∀ p ∈ minus, right p = true) : (layersL sortP row (stepsL plus minus)).length ≤ plus.length + minus.length := by
  have h := stepsL_ok hp hm
  have := len_of_count ((layersL sortP row (stepsL plus minus)).map fun f => f.p.f) (plus.map Per.f ++ minus.map Per.t) fun e => by
    have h1 := layers_count hs row h e (maxN (stepsL plus minus))
    have h2 := cntP_up e plus
    have h3 := cntP_down e minus
    rw [List.count_append]
    refine Nat.le_trans h1 ?_
    omega
  simpa using this
end
theorem groups_sum : ∀ (n : Nat) (l : List Fact), l.length ≤ n → ((groupsL l).map fun x => x.2.length).sum = l.length
  | n, [], _ => by rw [groupsL_nil]; rfl
  | 0, f :: l, h => by simp at h
  | n + 1, f :: l, h => by
    have hsub := List.dropWhile_sublist (alikeR f.row) (l := l)
    have hlen := hsub.length_le
    have ih := groups_sum n (l.dropWhile (alikeR f.row)) (by simp at h; omega)
    rw [groupsL_cons, List.map_cons, List.sum_cons, ih]
    have := congrArg List.length (List.takeWhile_append_dropWhile (p := alikeR f.row) (l := l))
    rw [List.length_append] at this
    simp
    omega
theorem catG_le (G : List Val × List Per → List Fact) (w : List Val × List Per → Nat) : ∀ (gs : List (List Val × List Per)), (∀ x ∈ gs, (G x).length ≤ w x) → (catG G gs).length ≤ (gs.map w).sum
  | [], _ => by simp
  | x :: gs, h => by
    have ih := catG_le G w gs fun y hy => h y (by simp [hy])
    have := h x (by simp)
    unfold catG at *
    rw [List.flatMap_cons, List.length_append, List.map_cons, List.sum_cons]
    omega
section
variable {sortP : List Per → List Per}
theorem group_right {l : List Fact} {x : List Val × List Per} (h : x ∈ groupsL (rightL l)) : ∀ p ∈ x.2, right p = true := by
  obtain ⟨_, h2, _⟩ := groups_ok _ (rightL l) (Nat.le_refl _) (sortF_up _)
  obtain ⟨e, _⟩ := h2 x h
  rw [e]
  exact perOf_right l x.1
theorem normal_pre (hs : Sorts sortP) (l : List Fact) : (catG (gN sortP) (groupsL (rightL l))).length ≤ l.length := by
  have h1 := catG_le (gN sortP) (fun x => x.2.length) (groupsL (rightL l)) fun x hx => by
    have := layers_len hs x.1 (plus := x.2) (minus := []) (group_right hx) (by simp)
    simpa [gN] using this
  rw [groups_sum _ _ (Nat.le_refl _)] at h1
  exact Nat.le_trans h1 (rightL_len l)
theorem normal_len (hs : Sorts sortP) (l : List Fact) : (normalL sortP l).length ≤ l.length := by
  rw [normalL_eq, sortF_len]; exact normal_pre hs l
theorem normal_rows {l : List Fact} {f : Fact} (h : f ∈ normalL sortP l) : ∃ g ∈ l, g.row = f.row := by
  rw [normalL_eq, (sortF_perm _).mem_iff] at h
  obtain ⟨x, hx, h⟩ := catG_in h
  obtain ⟨⟨g, hg, e⟩, _⟩ := group_in hx
  exact ⟨g, hg, by rw [e, (layers_row h).1]⟩
end
end Go.Proofs.YtlphpbcafplnbaaGreat
set_option linter.unusedSimpArgs false
set_option linter.unusedVariables false
namespace Go.Proofs.YtlphpbcafplnbaaGreat
open Go.VL Go.RowKit
section
variable {sortP : List Per → List Per}
theorem Canon.none {u : List Per} (h : Canon u) (e : ∀ t, inL u t = false) : u = [] := h.ext Canon.nil fun t => by rw [e, inL_nil]
end
end Go.Proofs.YtlphpbcafplnbaaGreat
