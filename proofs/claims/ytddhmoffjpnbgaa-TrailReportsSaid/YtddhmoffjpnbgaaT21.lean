/- The document's Analyse. -/
import Derived.Test.YtddhmoffjpnbgaaT20
set_option linter.unusedSimpArgs false
set_option linter.unusedVariables false
namespace Go.Proofs.Ytddhmoffjpnbgaa
open Go.VL Go.RowKit

def lostP (l m : List Ent) : List Int := (m.filter fun e => !com l e.txn).map Ent.txn
def pageP (m : List Ent) : List Int := (m.filter fun e => e.kind != 3).map Ent.page
theorem lostP_snoc (l m : List Ent) {k : Nat} (h : k < m.length) : lostP l (m.take (k + 1)) = lostP l (m.take k) ++ if com l m[k].txn = true then [] else [m[k].txn] := by
  unfold lostP
  rw [List.take_succ_eq_append_getElem h, List.filter_append, List.map_append]
  cases hc : com l m[k].txn <;> simp [hc]
theorem pageP_snoc (m : List Ent) {k : Nat} (h : k < m.length) : pageP (m.take (k + 1)) = pageP (m.take k) ++ if m[k].kind = 3 then [] else [m[k].page] := by
  unfold pageP
  rw [List.take_succ_eq_append_getElem h, List.filter_append, List.map_append]
  by_cases hc : m[k].kind = 3 <;> simp [hc]
theorem lostP_len (l m : List Ent) : (lostP l m).length ≤ m.length := by unfold lostP; rw [List.length_map]; exact List.length_filter_le _ _
theorem pageP_len (m : List Ent) : (pageP m).length ≤ m.length := by unfold pageP; rw [List.length_map]; exact List.length_filter_le _ _
theorem committed_all (nl : Bool) (l : List Ent) (t : Int) (xs : List (List C)) (hx : xs = l.map Ent.rcells) (hl : l.length ≤ 2200000000000) : Con Try.prog 21 [.c (.sl nl xs), .c (i64 l.length), .c (i64 t)] [.c (bln (com l t))] := by
  have h := committed_spec nl l l.length t (Nat.le_refl _) hl
  rwa [List.take_length, ← hx] at h
theorem committed_at (nl : Bool) (l : List Ent) (n : Nat) (t : Int) (xs : List (List C)) (hx : xs = l.map Ent.rcells) (hn : n ≤ l.length) (hl : l.length ≤ 2200000000000) : Con Try.prog 21 [.c (.sl nl xs), .c (i64 n), .c (i64 t)] [.c (bln (com (l.take n) t))] := by
  rw [hx]; exact committed_spec nl l n t hn hl

theorem lostP_mem (ms : List Int) (l : List Ent) (x : Int) : x ∈ sortI (losers (runA ms l)) ↔ x ∈ lostP l l := by
  rw [(sortI_perm _).mem_iff, lost_mem]
  unfold lostP ent
  rw [List.mem_map, List.any_eq_true]
  constructor
  · rintro ⟨⟨e, he, q⟩, hc⟩
    have q' : e.txn = x := by simpa using q
    exact ⟨e, List.mem_filter.2 ⟨he, by rw [q', hc]; rfl⟩, q'⟩
  · rintro ⟨e, he, rfl⟩
    obtain ⟨h1, h2⟩ := List.mem_filter.1 he
    exact ⟨⟨e, h1, by simp⟩, by simpa using h2⟩
theorem pageP_mem {sortT : List Tou → List Tou} (hs : Sorts sortT) (ms : List Int) (l : List Ent) (x : Int) : x ∈ (sortT (runA ms l).pages).map Tou.page ↔ x ∈ pageP l := by
  have h := pages_mem ms l l.length (Nat.le_refl _) x
  rw [List.take_length] at h
  rw [((hs.perm _).map Tou.page).mem_iff, h]
  unfold pageP hasP
  rw [List.mem_map]
  constructor
  · rintro ⟨e, he, h3, q⟩
    exact ⟨e, List.mem_filter.2 ⟨he, by simpa using h3⟩, q⟩
  · rintro ⟨e, he, q⟩
    obtain ⟨h1, h2⟩ := List.mem_filter.1 he
    exact ⟨e, h1, by simpa using h2, q⟩
theorem least_first (c S : List Int) (hS : S.Pairwise (· < ·)) (hm : ∀ x, x ∈ S ↔ x ∈ c) (hl : c.length ≤ 2200000000000) : Con Try.prog 22 [.c (.sl c.isEmpty (ints c)), .c (i64 0), .c (bln false)] [.c (i64 (nthL S 0).1), .c (bln (nthL S 0).2)] := by
  have h := least_spec c.isEmpty c 0 false hl
  rwa [least_nth hS hm] at h
theorem least_then (c S : List Int) (hS : S.Pairwise (· < ·)) (hm : ∀ x, x ∈ S ↔ x ∈ c) (hl : c.length ≤ 2200000000000) (j : Nat) (hj : j < S.length) : Con Try.prog 22 [.c (.sl c.isEmpty (ints c)), .c (i64 S[j]), .c (bln true)] [.c (i64 (nthL S (j + 1)).1), .c (bln (nthL S (j + 1)).2)] := by
  have h := least_spec c.isEmpty c S[j] true hl
  rwa [least_next hS hm j hj] at h
theorem nthL_lt {S : List Int} {j : Nat} (h : j < S.length) : nthL S j = (S[j], true) := by simp [nthL, h]
theorem nthL_ge {S : List Int} {j : Nat} (h : ¬ j < S.length) : nthL S j = (0, false) := by simp [nthL, h, List.getElem?_eq_none (Nat.not_lt.1 h)]
theorem mark_at (nm : Bool) (ms : List Int) (k : Nat) (xs : List (List C)) (hx : xs = ints ms) : Con Try.prog 23 [.c (.sl nm xs), .c (i64 k)] [.c (i64 (markOf ms k))] := by rw [hx]; exact mark_spec nm ms k

def st1 (nl nm : Bool) (l : List Ent) (ms : List Int) (k : Nat) (s : AS) (lo pg : List Int) : St :=
  ⟨[(8, .c (i64 k)), (0, .c (.sl nl (l.map Ent.rcells))), (1, .c (.sl nm (ints ms))), (4, .ptr 256 0), (5, .ptr 320 0), (6, .own 384 lo.length), (7, .own 448 pg.length)],
   [(384, some (.arr lo.isEmpty (sz1 lo) (ints lo) 0)), (448, some (.arr pg.isEmpty (sz1 pg) (ints pg) 0)), (320, some (.box false [.own 300 s.coms.length, .own 301 0, .own 302 0, .c (i64 s.last)])),
    (300, some (.arr s.coms.isEmpty (szc s.coms) (s.coms.map two) 0)), (301, some (.arr true 0 [] 0)), (302, some (.arr true 0 [] 0)),
    (256, some (.box false [.own 257 0, .own 258 0, .own 259 0, .c (i64 0)])), (257, some (.arr true 0 [] 0)), (258, some (.arr true 0 [] 0)), (259, some (.arr true 0 [] 0))]⟩

def st2 (nl nm : Bool) (l : List Ent) (ms : List Int) (coms : List Two) (last : Int) (lo pg S : List Int) (j : Nat) : St :=
  ⟨[(9, .c (i64 (nthL S j).1)), (10, .c (bln (nthL S j).2)), (0, .c (.sl nl (l.map Ent.rcells))), (1, .c (.sl nm (ints ms))), (4, .ptr 256 0), (5, .ptr 320 0), (6, .c (.sl lo.isEmpty (ints lo))), (7, .c (.sl pg.isEmpty (ints pg)))],
   [(320, some (.box false [.own 300 coms.length, .own 301 (tk S j).length, .own 302 0, .c (i64 last)])),
    (300, some (.arr coms.isEmpty (szc coms) (coms.map two) 0)), (301, some (.arr (tk S j).isEmpty (sz1 (tk S j)) (ints (tk S j)) 0)), (302, some (.arr true 0 [] 0)),
    (256, some (.box false [.own 257 0, .own 258 0, .own 259 0, .c (i64 0)])), (257, some (.arr true 0 [] 0)), (258, some (.arr true 0 [] 0)), (259, some (.arr true 0 [] 0))]⟩
def st3 (nl nm : Bool) (l : List Ent) (ms : List Int) (coms : List Two) (last : Int) (pg S : List Int) (T : List Tou) (j : Nat) : St :=
  ⟨[(11, .c (i64 (nthL (T.map Tou.page) j).1)), (12, .c (bln (nthL (T.map Tou.page) j).2)), (0, .c (.sl nl (l.map Ent.rcells))), (1, .c (.sl nm (ints ms))), (4, .ptr 256 0), (5, .ptr 320 0), (7, .c (.sl pg.isEmpty (ints pg)))],
   [(320, some (.box false [.own 300 coms.length, .own 301 S.length, .own 302 (tk T j).length, .c (i64 last)])),
    (300, some (.arr coms.isEmpty (szc coms) (coms.map two) 0)), (301, some (.arr S.isEmpty (sz1 S) (ints S) 0)), (302, some (.arr (tk T j).isEmpty (szt (tk T j)) ((tk T j).map Tou.cells) 0)),
    (256, some (.box false [.own 257 0, .own 258 0, .own 259 0, .c (i64 0)])), (257, some (.arr true 0 [] 0)), (258, some (.arr true 0 [] 0)), (259, some (.arr true 0 [] 0))]⟩
def st4 (nl nm : Bool) (l : List Ent) (ms : List Int) (coms : List Two) (last : Int) (pg S : List Int) (T : List Tou) (j : Nat) (p : Int) (i : Nat) (q : Bool × Int × Int) : St :=
  ⟨[(15, .c (i64 i)), (14, .c (bln q.1)), (13, .ptr 832 0), (11, .c (i64 p)), (0, .c (.sl nl (l.map Ent.rcells))), (1, .c (.sl nm (ints ms))), (4, .ptr 256 0), (5, .ptr 320 0), (7, .c (.sl pg.isEmpty (ints pg)))],
   [(832, some (.box false [.c (i64 p), .c (i64 q.2.1), .c (i64 q.2.2)])), (320, some (.box false [.own 300 coms.length, .own 301 S.length, .own 302 (tk T j).length, .c (i64 last)])),
    (300, some (.arr coms.isEmpty (szc coms) (coms.map two) 0)), (301, some (.arr S.isEmpty (sz1 S) (ints S) 0)), (302, some (.arr (tk T j).isEmpty (szt (tk T j)) ((tk T j).map Tou.cells) 0)),
    (256, some (.box false [.own 257 0, .own 258 0, .own 259 0, .c (i64 0)])), (257, some (.arr true 0 [] 0)), (258, some (.arr true 0 [] 0)), (259, some (.arr true 0 [] 0))]⟩

set_option maxRecDepth 4000 in
set_option maxHeartbeats 16000000 in
theorem refAnalyse_spec {sortT : List Tou → List Tou} (hs : Sorts sortT) (nl nm : Bool) (l : List Ent) (ms : List Int) (hl : l.length ≤ 2199023255488) : Con Try.prog 12 [.c (.sl nl (l.map Ent.rcells)), .c (.sl nm (ints ms))] [.ag (repA sortT (runA ms l)).cells] := by
  refine spec_of Try.func12 rfl (by kernel_rfl) (by simp [Try.f12]) (fun w0 K0 => vx_ok (H := fun id => id == 14) _ _ _ (by kernel_rfl) ?_)
  simp only [Try.f12]
  simp -dsimp
  refine VL.nilcell 320 0 300 (by decide) ?_
  simp -dsimp
  refine VL.nilcell 320 1 301 (by decide) ?_
  simp -dsimp
  refine VL.nilcell 320 2 302 (by decide) ?_
  simp -dsimp
  refine VL.loop (fun k : Nat => st1 nl nm l ms k (runA ms (l.take k)) (lostP l (l.take k)) (pageP (l.take k))) (fun k => k ≤ l.length) (fun k => l.length - k) 0 (by kernel_rfl) (by simp) (by simp [St.le, st1, runA, AS.init, lostP, pageP, sz1, szc]) ?_
  intro k hk
  have hok := runA_ok ms l k hk
  have hlw := runA_law ms l k hk
  have hrn := fun h : k < l.length => runA_snoc ms l h
  have hln := fun h : k < l.length => lostP_snoc l l h
  have hpn := fun h : k < l.length => pageP_snoc l h
  have hll := lostP_len l (l.take k)
  have hpl := pageP_len (l.take k)
  rw [List.length_take] at hll hpl
  generalize hgo : runA ms (l.take k) = s at *
  generalize hlo : lostP l (l.take k) = lo at *
  generalize hpg : pageP (l.take k) = pg at *
  obtain ⟨done, seen, pages, coms, last⟩ := s
  have hcl := hok.lc
  have hdo := hlw.done
  simp only at hcl hdo
  have hz1 : ¬ lo = [] → sz1 lo = 1 := fun e => by simp [sz1, e]
  have hz2 : ¬ pg = [] → sz1 pg = 1 := fun e => by simp [sz1, e]
  have hz3 : ¬ coms = [] → szc coms = 2 := fun e => by simp [szc, e]
  unfold st1
  simp -dsimp only
  simp -dsimp
  refine VIf.mk (fun g => ?_) (fun g => ?_)
  · have hlt : k < l.length := by simpa using g
    have hw : IntKind.i64.wrap ((k : Int) + 1) = (k : Int) + 1 := IntWalk.i64_in _ (by omega)
    replace hrn := hrn hlt
    replace hln := hln hlt
    replace hpn := hpn hlt
    replace hdo := hdo l[k].txn
    refine VL.draw (by kernel_rfl) [(0, false), (0, false), (3, false), (7, false), (15, false), (0, false), (32, false), (127, true)] (by kernel_rfl) ?_
    simp -dsimp [hlt, Ent.rcells]
    have hca := fun xs hx => committed_all nl l l[k].txn xs hx (by omega)
    have hcb := fun xs hx => committed_at nl l k l[k].txn xs hx (by omega) (by omega)
    refine VIf.mk (fun g1 => ?_) (fun g1 => ?_)
    · have hmx : last < l[k].txn := by simpa using g1
      have hm : max last l[k].txn = l[k].txn := by omega
      simp -dsimp [hlt, Ent.rcells]
      cases hc : com l l[k].txn with
      | true =>
        rw [hc] at hca hln
        simp only [if_true, List.append_nil] at hln
        refine VC.mk _ (hca _ rfl) ?_
        by_cases h3 : l[k].kind = 3
        · have h3' : (l[k].kind != 3) = false := by simp [h3]
          rw [if_pos h3, List.append_nil] at hpn
          simp -dsimp [hlt, h3', Ent.rcells, maxLen]
          refine VC.mk _ (hcb _ rfl) ?_
          cases hd : com (l.take k) l[k].txn with
          | true =>
            have hz : ¬ cget done l[k].txn = 0 := fun e => by have := hdo.1 e; rw [hd] at this; cases this
            simp -dsimp [hlt, hw]
            refine ⟨k + 1, hlt, ?_, by omega⟩
            rw [hrn, hln, hpn]
            simp [St.le, st1, AS.step, h3, hz, hm, sz1, szc, ints]
          | false =>
            have hz : cget done l[k].txn = 0 := hdo.2 hd
            simp -dsimp [hlt, hw]
            refine VL.draw (by kernel_rfl) [(0, false), (1, false), (0, false), (0, false), (12, false), (28, false), (60, false), (0, false), (0, false), (384, false), (896, false), (1920, false), (4092, false), (8188, false), (16383, true), (32767, true), (65535, true)] (by kernel_rfl) ?_
            simp -dsimp [hlt, hw, Ent.rcells, maxLen]
            refine ⟨hz3, by omega, k + 1, hlt, ?_, by omega⟩
            rw [hrn, hln, hpn]
            simp [St.le, st1, AS.step, h3, hz, hm, sz1, szc, ints, two]
        · have h3' : (l[k].kind != 3) = true := by simp [h3]
          rw [if_neg h3] at hpn
          simp -dsimp [hlt, h3', Ent.rcells, maxLen, hw]
          refine ⟨hz2, by omega, k + 1, hlt, ?_, by omega⟩
          rw [hrn, hln, hpn]
          simp [St.le, st1, AS.step, h3, hm, sz1, szc, ints]
      | false =>
        rw [hc] at hca hln
        simp only [Bool.false_eq_true, if_false] at hln
        refine VC.mk _ (hca _ rfl) ?_
        by_cases h3 : l[k].kind = 3
        · have h3' : (l[k].kind != 3) = false := by simp [h3]
          rw [if_pos h3, List.append_nil] at hpn
          simp -dsimp [hlt, h3', Ent.rcells, maxLen]
          refine ⟨hz1, by omega, ?_⟩
          refine VC.mk _ (hcb _ rfl) ?_
          cases hd : com (l.take k) l[k].txn with
          | true =>
            have hz : ¬ cget done l[k].txn = 0 := fun e => by have := hdo.1 e; rw [hd] at this; cases this
            simp -dsimp [hlt, hw]
            refine ⟨k + 1, hlt, ?_, by omega⟩
            rw [hrn, hln, hpn]
            simp [St.le, st1, AS.step, h3, hz, hm, sz1, szc, ints]
          | false =>
            have hz : cget done l[k].txn = 0 := hdo.2 hd
            simp -dsimp [hlt, hw]
            refine VL.draw (by kernel_rfl) [(0, false), (1, false), (0, false), (0, false), (12, false), (28, false), (60, false), (0, false), (0, false), (384, false), (896, false), (1920, false), (4092, false), (8188, false), (16383, true), (32767, true), (65535, true)] (by kernel_rfl) ?_
            simp -dsimp [hlt, hw, Ent.rcells, maxLen]
            refine ⟨hz3, by omega, k + 1, hlt, ?_, by omega⟩
            rw [hrn, hln, hpn]
            simp [St.le, st1, AS.step, h3, hz, hm, sz1, szc, ints, two]
        · have h3' : (l[k].kind != 3) = true := by simp [h3]
          rw [if_neg h3] at hpn
          simp -dsimp [hlt, h3', Ent.rcells, maxLen, hw]
          refine ⟨hz1, by omega, hz2, by omega, k + 1, hlt, ?_, by omega⟩
          rw [hrn, hln, hpn]
          simp [St.le, st1, AS.step, h3, hm, sz1, szc, ints]
    · have hmx : ¬ last < l[k].txn := by simpa using g1
      have hm : max last l[k].txn = last := by omega
      simp -dsimp [hlt, Ent.rcells]
      cases hc : com l l[k].txn with
      | true =>
        rw [hc] at hca hln
        simp only [if_true, List.append_nil] at hln
        refine VC.mk _ (hca _ rfl) ?_
        by_cases h3 : l[k].kind = 3
        · have h3' : (l[k].kind != 3) = false := by simp [h3]
          rw [if_pos h3, List.append_nil] at hpn
          simp -dsimp [hlt, h3', Ent.rcells, maxLen]
          refine VC.mk _ (hcb _ rfl) ?_
          cases hd : com (l.take k) l[k].txn with
          | true =>
            have hz : ¬ cget done l[k].txn = 0 := fun e => by have := hdo.1 e; rw [hd] at this; cases this
            simp -dsimp [hlt, hw]
            refine ⟨k + 1, hlt, ?_, by omega⟩
            rw [hrn, hln, hpn]
            simp [St.le, st1, AS.step, h3, hz, hm, sz1, szc, ints]
          | false =>
            have hz : cget done l[k].txn = 0 := hdo.2 hd
            simp -dsimp [hlt, hw]
            refine VL.draw (by kernel_rfl) [(0, false), (1, false), (0, false), (0, false), (12, false), (28, false), (60, false), (0, false), (0, false), (384, false), (896, false), (1920, false), (4092, false), (8188, false), (16383, true), (32767, true), (65535, true)] (by kernel_rfl) ?_
            simp -dsimp [hlt, hw, Ent.rcells, maxLen]
            refine ⟨hz3, by omega, k + 1, hlt, ?_, by omega⟩
            rw [hrn, hln, hpn]
            simp [St.le, st1, AS.step, h3, hz, hm, sz1, szc, ints, two]
        · have h3' : (l[k].kind != 3) = true := by simp [h3]
          rw [if_neg h3] at hpn
          simp -dsimp [hlt, h3', Ent.rcells, maxLen, hw]
          refine ⟨hz2, by omega, k + 1, hlt, ?_, by omega⟩
          rw [hrn, hln, hpn]
          simp [St.le, st1, AS.step, h3, hm, sz1, szc, ints]
      | false =>
        rw [hc] at hca hln
        simp only [Bool.false_eq_true, if_false] at hln
        refine VC.mk _ (hca _ rfl) ?_
        by_cases h3 : l[k].kind = 3
        · have h3' : (l[k].kind != 3) = false := by simp [h3]
          rw [if_pos h3, List.append_nil] at hpn
          simp -dsimp [hlt, h3', Ent.rcells, maxLen]
          refine ⟨hz1, by omega, ?_⟩
          refine VC.mk _ (hcb _ rfl) ?_
          cases hd : com (l.take k) l[k].txn with
          | true =>
            have hz : ¬ cget done l[k].txn = 0 := fun e => by have := hdo.1 e; rw [hd] at this; cases this
            simp -dsimp [hlt, hw]
            refine ⟨k + 1, hlt, ?_, by omega⟩
            rw [hrn, hln, hpn]
            simp [St.le, st1, AS.step, h3, hz, hm, sz1, szc, ints]
          | false =>
            have hz : cget done l[k].txn = 0 := hdo.2 hd
            simp -dsimp [hlt, hw]
            refine VL.draw (by kernel_rfl) [(0, false), (1, false), (0, false), (0, false), (12, false), (28, false), (60, false), (0, false), (0, false), (384, false), (896, false), (1920, false), (4092, false), (8188, false), (16383, true), (32767, true), (65535, true)] (by kernel_rfl) ?_
            simp -dsimp [hlt, hw, Ent.rcells, maxLen]
            refine ⟨hz3, by omega, k + 1, hlt, ?_, by omega⟩
            rw [hrn, hln, hpn]
            simp [St.le, st1, AS.step, h3, hz, hm, sz1, szc, ints, two]
        · have h3' : (l[k].kind != 3) = true := by simp [h3]
          rw [if_neg h3] at hpn
          simp -dsimp [hlt, h3', Ent.rcells, maxLen, hw]
          refine ⟨hz1, by omega, hz2, by omega, k + 1, hlt, ?_, by omega⟩
          rw [hrn, hln, hpn]
          simp [St.le, st1, AS.step, h3, hm, sz1, szc, ints]
  · have hge : ¬ k < l.length := by simpa using g
    obtain rfl : k = l.length := by omega
    rw [List.take_length] at hgo hlo hpg
    simp -dsimp
    have hSr : (sortI (losers (runA ms l))).Pairwise (· < ·) := rises id (sortI_sorted _) (by rw [List.map_id]; exact (sortI_perm _).nodup_iff.2 (lost_nodup ms l))
    have hSm := lostP_mem ms l
    have hTs := rises Tou.page (hs.sorted (runA ms l).pages) (((hs.perm _).map Tou.page).nodup_iff.2 (runA_ok' ms l).np)
    have hTr : ((sortT (runA ms l).pages).map Tou.page).Pairwise (· < ·) := by rw [List.pairwise_map]; exact hTs
    have hTm := pageP_mem hs ms l
    have hTp : ∀ y ∈ sortT (runA ms l).pages, y = ⟨y.page, (pst y.page ms l).2.1, (pst y.page ms l).2.2⟩ := fun y hy => page_is ms l y ((hs.perm _).mem_iff.1 hy)
    have hTl : (sortT (runA ms l).pages).length ≤ l.length := by rw [hs.len]; exact (runA_ok' ms l).lp
    have hSl : (sortI (losers (runA ms l))).length ≤ l.length := (repA_len sortT ms l).2
    have hre : repA sortT (runA ms l) = ⟨coms, sortI (losers (runA ms l)), sortT (runA ms l).pages, last⟩ := by rw [hgo]; rfl
    rw [hre]
    clear hre
    rw [hlo] at hSm
    rw [hpg] at hTm
    generalize sortI (losers (runA ms l)) = S at *
    generalize sortT (runA ms l).pages = T at *
    clear hgo hlw hrn hln hpn hdo hok hlo hpg
    refine VL.snap 6 ?_
    simp -dsimp
    refine VL.snap 7 ?_
    simp -dsimp
    refine VL.hand (by kernel_rfl) ?_
    refine VRS.fin ?_
    simp -dsimp
    refine VC.mk _ (least_first lo S hSr hSm (by omega)) ?_
    simp -dsimp
    refine VL.loop (fun j : Nat => st2 nl nm l ms coms last lo pg S j) (fun j => j ≤ S.length) (fun j => S.length - j) 0 (by kernel_rfl) (by simp) (by simp [St.le, st2, sz1]) ?_
    intro j hj
    have hjl := tk_len S hj
    have hsn := fun h : j < S.length => take_snocG S h
    have htz : ¬ tk S j = [] → sz1 (tk S j) = 1 := fun e => by simp [sz1, e]
    unfold st2
    by_cases hjS : j < S.length
    · replace hsn := hsn hjS
      rw [nthL_lt hjS]
      simp -dsimp [maxLen]
      refine ⟨htz, by omega, ?_⟩
      refine VC.mk _ (least_then lo S hSr hSm (by omega) j hjS) ?_
      simp -dsimp
      refine ⟨j + 1, hjS, ?_, by omega⟩
      rw [hsn]
      simp [St.le, st2, sz1, ints]
    · obtain rfl : j = S.length := by omega
      rw [nthL_ge hjS, tk_all]
      simp -dsimp
      refine VC.mk _ (least_first pg (T.map Tou.page) hTr hTm (by omega)) ?_
      simp -dsimp
      refine VL.loop (fun j : Nat => st3 nl nm l ms coms last pg S T j) (fun j => j ≤ T.length) (fun j => T.length - j) 0 (by kernel_rfl) (by simp) (by simp [St.le, st3, szt]) ?_
      intro j hj
      have hjl := tk_len T hj
      have hsn := fun h : j < T.length => take_snocG T h
      have htz : ¬ tk T j = [] → szt (tk T j) = 3 := fun e => by simp [szt, e]
      unfold st3
      by_cases hjT : j < T.length
      · replace hsn := hsn hjT
        have hjm : j < (T.map Tou.page).length := by simpa using hjT
        have hpj : (T.map Tou.page)[j] = T[j].page := by simp
        have hln := least_then pg (T.map Tou.page) hTr hTm (by omega) j hjm
        rw [nthL_lt hjm, hpj]
        rw [hpj] at hln
        have hTj := hTp T[j] (List.getElem_mem hjT)
        generalize T[j].page = p at *
        simp -dsimp
        refine VL.loop (fun i : Nat => st4 nl nm l ms coms last pg S T j p i (pst p ms (l.take i))) (fun i => i ≤ l.length) (fun i => l.length - i) 0 (by kernel_rfl) (by simp) (by simp [St.le, st4, pst]) ?_
        intro i hi
        have hps := fun h : i < l.length => pst_snoc p ms l h
        generalize hq : pst p ms (l.take i) = q at *
        obtain ⟨fs, F, L⟩ := q
        unfold st4
        simp -dsimp only
        simp -dsimp
        refine VIf.mk (fun g => ?_) (fun g => ?_)
        · have hil : i < l.length := by simpa using g
          have hw : IntKind.i64.wrap ((i : Int) + 1) = (i : Int) + 1 := IntWalk.i64_in _ (by omega)
          replace hps := hps hil
          by_cases h3 : l[i].kind = 3
          · have h3' : (l[i].kind != 3) = false := by simp [h3]
            have e : pstep p ms (fs, F, L) (l[i], i) = (fs, F, L) := if_neg (fun h => h.1 h3)
            rw [e] at hps
            simp -dsimp [hil, Ent.rcells, h3', hw]
            refine ⟨i + 1, hil, ?_, by omega⟩
            rw [hps]
            simp [St.le, st4]
          · have h3' : (l[i].kind != 3) = true := by simp [h3]
            by_cases hp : l[i].page = p
            · have hp' : (l[i].page == p) = true := by simp [hp]
              have e : pstep p ms (fs, F, L) (l[i], i) = (false, if fs = true then markOf ms i else F, markOf ms i) := if_pos ⟨h3, hp⟩
              rw [e] at hps
              simp -dsimp [hil, Ent.rcells, h3', hp']
              cases fs with
              | true =>
                simp -dsimp
                refine VC.mk _ (mark_at nm ms i _ rfl) ?_
                simp -dsimp
                refine VC.mk _ (mark_at nm ms i _ rfl) ?_
                simp -dsimp [hw]
                refine ⟨i + 1, hil, ?_, by omega⟩
                rw [hps]
                simp [St.le, st4]
              | false =>
                simp -dsimp
                refine VC.mk _ (mark_at nm ms i _ rfl) ?_
                simp -dsimp [hw]
                refine ⟨i + 1, hil, ?_, by omega⟩
                rw [hps]
                simp [St.le, st4]
            · have hp' : (l[i].page == p) = false := by simp [hp]
              have e : pstep p ms (fs, F, L) (l[i], i) = (fs, F, L) := if_neg (fun h => hp h.2)
              rw [e] at hps
              simp -dsimp [hil, Ent.rcells, h3', hp', hw]
              refine ⟨i + 1, hil, ?_, by omega⟩
              rw [hps]
              simp [St.le, st4]
        · have hil : ¬ i < l.length := by simpa using g
          obtain rfl : i = l.length := by omega
          rw [List.take_length] at hq
          rw [hq] at hTj
          simp only at hTj
          simp -dsimp [maxLen]
          refine ⟨htz, by omega, ?_⟩
          refine VC.mk _ hln ?_
          simp -dsimp
          refine ⟨j + 1, hjT, ?_, by omega⟩
          rw [hsn, hTj]
          simp [St.le, st3, szt, Tou.cells]
      · obtain rfl : j = T.length := by omega
        rw [nthL_ge (by simp), tk_all]
        simp -dsimp
        rfl
end Go.Proofs.Ytddhmoffjpnbgaa
