/- Contracts of functions of the seat, proved in a logic on data over the model (part T7). -/
import Derived.Test.YtddhmoffjpnbgaaT7b
set_option linter.unusedSimpArgs false
set_option linter.unusedVariables false
namespace Go.Proofs.Ytddhmoffjpnbgaa
open Go.VL Go.RowKit

theorem lk_cnt (c : List Two) (t : Int) : lkS false (findK (.int .i64 t) (mpE (entsE Prod.fst one c))) (.int .i64 0) = .c (i64 (cget c t)) := by
  rw [findK_ents]
  unfold cget lkS
  cases kFnd Prod.fst t c <;> rfl
theorem put_cnt (c : List Two) (t v : Int) : putK (.int .i64 t) [.c (i64 v)] (mpE (entsE Prod.fst one c)) = mpE (entsE Prod.fst one (kPut Prod.fst (t, v) c)) := putK_ents Prod.fst one (t, v) c
theorem kfits_ents {α : Type} (f : α → Int) (cs : α → List C) (l : List α) : ((mpE (entsE f cs l)).all fun x => kfits (.int .i64) x.1) = true := by
  simp [mpE, entsE, kfits, List.all_eq_true]
theorem lk_pg0 : lkS true none (.agg #[.int .i64 0, .int .i64 0, .int .i64 0]) = .tup [.agg [i64 0, i64 0, i64 0], .c (.v (.bool false))] := rfl
theorem lk_pg1 (n : Nat) (y : Tou) (z : Value) : lkS true (some (n, y.cells.map .c)) z = .tup [.agg [i64 y.page, i64 y.first, i64 y.last], .c (.v (.bool true))] := rfl
theorem put_pg (t : Tou) (k : Int) (h : t.page = k) (l : List Tou) : putK (.int .i64 k) [.c (i64 t.page), .c (i64 t.first), .c (i64 t.last)] (mpE (entsE Tou.page Tou.cells l)) = mpE (entsE Tou.page Tou.cells (kPut Tou.page t l)) := by
  subst h; exact putK_ents Tou.page Tou.cells t l
@[simp] theorem kfits_i (t : Int) : kfits (.int .i64) (.int .i64 t) = true := rfl
theorem cells_at (l : List Ent) (k : Nat) (h : k < l.length) : (l.map Ent.cells)[k]?.getD [] = l[k].cells := by simp [h]

@[simp] theorem ints_len (l : List Int) : (ints l).length = l.length := by simp [ints]
@[simp] theorem ints_nil : ints [] = [] := rfl
@[simp] theorem ints_at (l : List Int) (k : Nat) (h : k < (ints l).length) : (ints l)[k] = [i64 (l[k]'(by simpa using h))] := by simp [ints]
theorem markOf_lt (ms : List Int) (k : Nat) (h : k < ms.length) : ms[k] = markOf ms k := by simp [markOf, h]
theorem markOf_ge (ms : List Int) (k : Nat) (h : ¬ k < ms.length) : markOf ms k = 0 := by simp [markOf, List.getElem?_eq_none (Nat.not_lt.1 h)]
def szc (c : List Two) : Nat := if c.isEmpty then 0 else 2
def sz1 (c : List Int) : Nat := if c.isEmpty then 0 else 1
def lostO (seen done : List Two) (o : List Nat) : List Int := (o.map fun j => ((seen[j]?).getD (0, 0)).1).filter fun t => cget done t == 0
theorem lostO_snoc (seen done : List Two) (o : List Nat) (j : Nat) (h : j < seen.length) : lostO seen done (o ++ [j]) = lostO seen done o ++ (if cget done seen[j].1 = 0 then [seen[j].1] else []) := by
  unfold lostO
  simp only [List.map_append, List.map_cons, List.map_nil, List.filter_append, List.getElem?_eq_getElem h, Option.getD_some]
  congr 1
  by_cases hz : cget done seen[j].1 = 0 <;> simp [hz]
theorem lostO_perm (s : AS) {o : List Nat} (hp : o.Perm (List.range s.seen.length)) : (lostO s.seen s.done o).Perm (losers s) := by
  unfold lostO losers
  refine List.Perm.filter _ ?_
  have h1 := hp.map fun j => ((s.seen[j]?).getD (0, 0)).1
  have h2 : ((List.range s.seen.length).map fun j => ((s.seen[j]?).getD (0, 0)).1) = s.seen.map Prod.fst := by
    refine List.ext_getElem (by simp) fun i h1 h2 => ?_
    simp only [List.length_map, List.length_range] at h1
    simp [List.getElem?_eq_getElem h1]
  rw [h2] at h1
  exact h1
theorem sortI_uniq {l m : List Int} (hn : l.Nodup) (h : m.Perm l) : sortI m = sortI l := by
  have h1 : (sortI m).Perm (sortI l) := (sortI_perm m).trans (h.trans (sortI_perm l).symm)
  have n1 : (sortI l).Nodup := (sortI_perm l).nodup_iff.2 hn
  have n2 : (sortI m).Nodup := h1.nodup_iff.2 n1
  exact rise_ext id (rises id (sortI_sorted m) (by simpa using n2)) (rises id (sortI_sorted l) (by simpa using n1)) h1
theorem lostO_sort (s : AS) (hn : (s.seen.map Prod.fst).Nodup) {o : List Nat} (hp : o.Perm (List.range s.seen.length)) : sortI (lostO s.seen s.done o) = sortI (losers s) :=
  sortI_uniq (hn.sublist List.filter_sublist) (lostO_perm s hp)
theorem nams_app (cs : List C) (l : List S) : S.nams (cs.map S.c ++ l) = S.nams l := by
  induction cs with
  | nil => rfl
  | cons c r ih => simpa [S.nams, S.nam] using ih
theorem nam_mpE (kvs : List (Value × List C)) : S.nams (MB.ents (mpE kvs)).cells = [] := by
  induction kvs with
  | nil => rfl
  | cons x r ih =>
    have e : (MB.ents (mpE (x :: r))).cells = x.2.map S.c ++ (MB.ents (mpE r)).cells := by simp [mpE, MB.cells]
    rw [e, nams_app, ih]
theorem pgE_ents (l : List Tou) : pgE l = entsE Tou.page Tou.cells l := rfl
/-- a report -/
structure Rep where
  coms : List Two
  lost : List Int
  pages : List Tou
  last : Int
def Rep.cells (r : Rep) : List C := [.sl r.coms.isEmpty (r.coms.map two), .sl r.lost.isEmpty (ints r.lost), .sl r.pages.isEmpty (r.pages.map Tou.cells), i64 r.last]
def repA (sortT : List Tou → List Tou) (s : AS) : Rep := ⟨s.coms, sortI (losers s), sortT s.pages, s.last⟩
theorem isEmpty_len {α β : Type} {l : List α} {m : List β} (h : l.length = m.length) : l.isEmpty = m.isEmpty := by
  cases l <;> cases m <;> simp at h ⊢
structure OI where
  o : List Nat
  nl : Bool
  sz : Nat
def stA (nl nm : Bool) (l : List Ent) (ms : List Int) (k : Nat) (s : AS) (n : Bool) (z : Nat) : St :=
  ⟨[(20, .c (i64 k)), (19, .c (i64 l.length)), (18, .c (.sl nl (l.map Ent.cells))), (8, .mp 1088), (7, .mp 1024), (6, .mp 960), (5, .ptr 320 0), (4, .ptr 256 0), (1, .c (.sl nm (ints ms)))],
   [(1088, some (.map (.ents (mpE (entsE Tou.page Tou.cells s.pages))))), (1024, some (.map (.ents (mpE (entsE Prod.fst one s.seen))))), (960, some (.map (.ents (mpE (entsE Prod.fst one s.done))))),
    (320, some (.box false [.own 321 s.coms.length, .own 322 0, .own 323 0, .c (i64 s.last)])), (321, some (.arr n z (s.coms.map two) 0)), (322, some (.arr true 0 [] 0)), (323, some (.arr true 0 [] 0)),
    (256, some (.box false [.own 257 0, .own 258 0, .own 259 0, .c (i64 0)])), (257, some (.arr true 0 [] 0)), (258, some (.arr true 0 [] 0)), (259, some (.arr true 0 [] 0))]⟩

set_option maxRecDepth 4000 in
set_option maxHeartbeats 8000000 in
theorem analyse_spec {sortT : List Tou → List Tou} (hs : Sorts sortT) (hi : SortsI) (nl nm : Bool) (l : List Ent) (ms : List Int) (hl : l.length ≤ 2200000000000) : Con Try.prog 6 [.c (.sl nl (l.map Ent.cells)), .c (.sl nm (ints ms))] [.ag (repA sortT (runA ms l)).cells] := by
  refine spec_of Try.func6 rfl (by kernel_rfl) (by simp [Try.f6]) (fun w0 K0 => vx_ok (H := fun id => id == 29) _ _ _ (by kernel_rfl) ?_)
  simp only [Try.f6]
  simp -dsimp
  refine VL.loop (fun i : LI => stA nl nm l ms i.k (runA ms (l.take i.k)) i.nl i.sz) (fun i => i.k ≤ l.length ∧ i.nl = (runA ms (l.take i.k)).coms.isEmpty ∧ i.sz = szc (runA ms (l.take i.k)).coms) (fun i => l.length - i.k) ⟨0, true, 0⟩ (by kernel_rfl) (by simp [runA, AS.init, szc]) (by simp [stA, St.le, runA, AS.init, mpE, entsE]) ?_
  intro ⟨k, nl', sz⟩ ⟨hk, hnl, hsz⟩
  simp only at hk hnl hsz
  have hok := runA_ok ms l k hk
  have hsn := fun h : k < l.length => runA_snoc ms l h
  have hlk : (l.take k).length = k := by rw [List.length_take]; omega
  generalize hgo : runA ms (l.take k) = s at *
  obtain ⟨done, seen, pages, coms, last⟩ := s
  simp only at hnl hsz
  unfold stA
  simp -dsimp only
  simp -dsimp
  refine VIf.mk (fun g => ?_) (fun g => ?_)
  · have hlt : k < l.length := by simpa using g
    have hw : IntKind.i64.wrap ((k : Int) + 1) = (k : Int) + 1 := IntWalk.i64_in _ (by omega)
    replace hsn := hsn hlt
    simp -dsimp [hlt, Ent.cells]
    generalize l[k] = e at *
    obtain ⟨kind, txn, page, slot, stamp, dn, data⟩ := e

    have hsz2 : nl' = false → sz = 2 := fun e => by rw [hsz]; rw [hnl] at e; simp [szc, e]
    have hcl := hok.lc
    simp only at hcl
    have hcs := cget_le hok.seen txn
    have hcd := cget_le hok.done txn
    simp only at hcs hcd
    have hws : IntKind.i64.wrap (cget seen txn + 1) = cget seen txn + 1 := IntWalk.i64_in _ (by omega)
    have hwd : IntKind.i64.wrap (cget done txn + 1) = cget done txn + 1 := IntWalk.i64_in _ (by omega)
    refine VIf.mk (fun g => ?_) (fun g => ?_)
    · have hkm : k < ms.length := by simpa using g
      have hmk := markOf_lt ms k hkm
      simp -dsimp [hkm, hmk, lk_cnt, put_cnt, kfits_ents, hws]
      refine VIf.mk (fun g3 => ?_) (fun g3 => ?_)
      · have hk3 : kind = 3 := by simpa using g3
        subst hk3
        simp -dsimp [lk_cnt, put_cnt, kfits_ents, hwd, hws]
        refine VIf.mk (fun g0 => ?_) (fun g0 => ?_)
        · have hz : cget done txn = 0 := by simpa using g0
          simp -dsimp [lk_cnt, put_cnt, kfits_ents, hwd, hws, hw]
          refine ⟨by simp [maxLen], hsz2, by omega, ⟨k + 1, false, 2⟩, ⟨hlt, ?_, ?_⟩, ?_, by simp; omega⟩
          · simp only; rw [hsn]; simp [AS.step, hz]
          · simp only; rw [hsn]; simp [AS.step, hz, szc]
          · simp only; rw [hsn]; simp [St.le, stA, AS.step, hz, two]
        · have hz : ¬ cget done txn = 0 := by simpa using g0
          simp -dsimp [lk_cnt, put_cnt, kfits_ents, hwd, hws, hw]
          refine ⟨⟨k + 1, nl', sz⟩, ⟨hlt, ?_, ?_⟩, ?_, by simp; omega⟩
          · simp only; rw [hsn]; simp [AS.step, hz, hnl]
          · simp only; rw [hsn]; simp [AS.step, hz, hsz]
          · simp only; rw [hsn]; simp [St.le, stA, AS.step, hz]
      · have hk3 : ¬ kind = 3 := by simpa using g3
        cases hf : kFnd Tou.page page pages with
        | none =>
          have htp : touch pages page (markOf ms k) = ⟨page, markOf ms k, markOf ms k⟩ := by simp [touch, hf]
          have hpp := put_pg ⟨page, markOf ms k, markOf ms k⟩ page rfl pages
          simp only at hpp
          simp -dsimp [findK_ents, hf, kfits_ents, hw, lk_pg0, hmk, hpp]
          refine ⟨⟨k + 1, nl', sz⟩, ⟨hlt, ?_, ?_⟩, ?_, by simp; omega⟩
          · simp only; rw [hsn]; simp [AS.step, hk3, hnl]
          · simp only; rw [hsn]; simp [AS.step, hk3, hsz]
          · simp only; rw [hsn]; simp [St.le, stA, AS.step, hk3, htp]
        | some y =>
          have hyp := (kFnd_some Tou.page (j := y.1) (x := y.2) hf).2
          have htp : touch pages page (markOf ms k) = ⟨y.2.page, y.2.first, markOf ms k⟩ := by simp [touch, hf]
          have hpp := put_pg ⟨y.2.page, y.2.first, markOf ms k⟩ page hyp pages
          simp only at hpp
          simp -dsimp [findK_ents, hf, kfits_ents, hw, lk_pg1, hmk, hpp]
          refine ⟨⟨k + 1, nl', sz⟩, ⟨hlt, ?_, ?_⟩, ?_, by simp; omega⟩
          · simp only; rw [hsn]; simp [AS.step, hk3, hnl]
          · simp only; rw [hsn]; simp [AS.step, hk3, hsz]
          · simp only; rw [hsn]; simp [St.le, stA, AS.step, hk3, htp]
    · have hkm : ¬ k < ms.length := by simpa using g
      have hmk := markOf_ge ms k hkm
      simp -dsimp [hkm, lk_cnt, put_cnt, kfits_ents, hws]
      refine VIf.mk (fun g3 => ?_) (fun g3 => ?_)
      · have hk3 : kind = 3 := by simpa using g3
        subst hk3
        simp -dsimp [lk_cnt, put_cnt, kfits_ents, hwd, hws]
        refine VIf.mk (fun g0 => ?_) (fun g0 => ?_)
        · have hz : cget done txn = 0 := by simpa using g0
          simp -dsimp [lk_cnt, put_cnt, kfits_ents, hwd, hws, hw]
          refine ⟨by simp [maxLen], hsz2, by omega, ⟨k + 1, false, 2⟩, ⟨hlt, ?_, ?_⟩, ?_, by simp; omega⟩
          · simp only; rw [hsn]; simp [AS.step, hz]
          · simp only; rw [hsn]; simp [AS.step, hz, szc]
          · simp only; rw [hsn]; simp [St.le, stA, AS.step, hz, two]
        · have hz : ¬ cget done txn = 0 := by simpa using g0
          simp -dsimp [lk_cnt, put_cnt, kfits_ents, hwd, hws, hw]
          refine ⟨⟨k + 1, nl', sz⟩, ⟨hlt, ?_, ?_⟩, ?_, by simp; omega⟩
          · simp only; rw [hsn]; simp [AS.step, hz, hnl]
          · simp only; rw [hsn]; simp [AS.step, hz, hsz]
          · simp only; rw [hsn]; simp [St.le, stA, AS.step, hz]
      · have hk3 : ¬ kind = 3 := by simpa using g3
        cases hf : kFnd Tou.page page pages with
        | none =>
          have htp : touch pages page (0) = ⟨page, 0, 0⟩ := by simp [touch, hf]
          have hpp := put_pg ⟨page, 0, 0⟩ page rfl pages
          simp only at hpp
          simp -dsimp [findK_ents, hf, kfits_ents, hw, lk_pg0, hpp]
          refine ⟨⟨k + 1, nl', sz⟩, ⟨hlt, ?_, ?_⟩, ?_, by simp; omega⟩
          · simp only; rw [hsn]; simp [AS.step, hk3, hnl]
          · simp only; rw [hsn]; simp [AS.step, hk3, hsz]
          · simp only; rw [hsn]; simp [St.le, stA, AS.step, hk3, htp, hmk]
        | some y =>
          have hyp := (kFnd_some Tou.page (j := y.1) (x := y.2) hf).2
          have htp : touch pages page (0) = ⟨y.2.page, y.2.first, 0⟩ := by simp [touch, hf]
          have hpp := put_pg ⟨y.2.page, y.2.first, 0⟩ page hyp pages
          simp only at hpp
          simp -dsimp [findK_ents, hf, kfits_ents, hw, lk_pg1, hpp]
          refine ⟨⟨k + 1, nl', sz⟩, ⟨hlt, ?_, ?_⟩, ?_, by simp; omega⟩
          · simp only; rw [hsn]; simp [AS.step, hk3, hnl]
          · simp only; rw [hsn]; simp [AS.step, hk3, hsz]
          · simp only; rw [hsn]; simp [St.le, stA, AS.step, hk3, htp, hmk]
  · have hge : ¬ k < l.length := by simpa using g
    obtain rfl : k = l.length := by omega
    rw [List.take_length] at hgo
    clear hsn
    simp -dsimp [hge]
    intro bm
    have hlenS : (mpE (entsE Prod.fst one seen)).length = seen.length := by simp [mpE, entsE]
    rw [hlenS]
    refine VL.loop (fun i : OI => ⟨[(88, .mp 5632), (8, .mp 1088), (7, .mp 1024), (6, .mp 960), (5, .ptr 320 0), (4, .ptr 256 0)],
       [(5632, some (.map (.iter bm seen.length i.o))), (5633, some (.pin (.map (some bm)) (.mp 1024))), (1088, some (.map (.ents (mpE (entsE Tou.page Tou.cells pages))))), (1024, some (.map (.ents (mpE (entsE Prod.fst one seen))))), (960, some (.map (.ents (mpE (entsE Prod.fst one done))))),
        (320, some (.box false [.own 321 coms.length, .own 322 (lostO seen done i.o).length, .own 323 0, .c (i64 last)])), (321, some (.arr nl' sz (coms.map two) 0)), (322, some (.arr i.nl i.sz (ints (lostO seen done i.o)) 0)), (323, some (.arr true 0 [] 0)),
        (256, some (.box false [.own 257 0, .own 258 0, .own 259 0, .c (i64 0)])), (257, some (.arr true 0 [] 0)), (258, some (.arr true 0 [] 0)), (259, some (.arr true 0 [] 0))]⟩)
      (fun i => i.o.Nodup ∧ (∀ j ∈ i.o, j < seen.length) ∧ i.nl = (lostO seen done i.o).isEmpty ∧ i.sz = sz1 (lostO seen done i.o)) (fun i => seen.length - i.o.length) ⟨[], true, 0⟩ (by kernel_rfl) (by simp [lostO, sz1]) (by simp [St.le, lostO]) ?_
    intro ⟨ord, n3, z3⟩ ⟨hnd, hlt, hn3, hz3⟩
    simp only at hnd hlt hn3 hz3
    simp -dsimp
    refine ⟨by simp [entsE], fun a b hab => by
        obtain ⟨x, _, e⟩ := List.mem_map.1 hab
        cases e
        rfl, fun hover => ?_, fun j hj hjs => ?_⟩
    · have hp := todo_perm hnd hlt hover
      have hls := lostO_sort ⟨done, seen, pages, coms, last⟩ hok.ns hp
      simp only at hls
      have hll : (lostO seen done ord).length ≤ 2200000000000 := by
        have h1 : (lostO seen done ord).length ≤ ord.length := by unfold lostO; exact Nat.le_trans (List.length_filter_le _ _) (by simp)
        have h2 := hok.ls
        have h3 := hp.length_eq
        simp at h2 h3
        omega
      generalize lostO seen done ord = lo at *
      have hsl := sortI_len lo
      cases lo with
      | nil =>
        obtain rfl : n3 = true := hn3
        obtain rfl : z3 = 0 := hz3
        refine VCL.seenX [(322, .arr true 0 [] 0)] 700 _ _ (by kernel_rfl) hi.nil (by simp [seenAs, seenA, lk, vlook]) (by simp [isArr, keptP]) (by simp) (by simp [resB]) (by simp) ?_
        simp -dsimp [resB, resS, retS, renSs, renS]
        refine VL.hand (by kernel_rfl) ?_
        refine VRS.run 2 ?_
        simp -dsimp
        refine VCL.lend [(2, .map (.ents (mpE (entsE Tou.page Tou.cells pages))))] [(64, .box false [.mp 2]), (2, .map (.ents (mpE (entsE Tou.page Tou.cells pages))))] [.mp 2] _ _ (fun i => if i = 64 then 6848 else 1088) [6848, 1088] ⟨values_spec (entsE Tou.page Tou.cells pages), ?_, ?_, ?_, ?_, ?_, ?_, ?_⟩ ?_
        · simp [renSs, renS]
        · simp [renR, ren_mpE]
        · simp
        · simp
        · simp [Res.nam, S.nams, S.nam, nam_mpE]
        · simp [S.nams, S.nam]
        · simp
        simp -dsimp [retS, renSs, renS, renR, ren_mpE]
        refine VRS.callX (pgB pages) (sortedQ 600 sortT pages) [.fnp 28 [.ptr 1 0], .c (.fn 17 [])] (fun i => if i = 1 then 6848 else if i = 2 then 1088 else i) (by simp) ⟨sortedFunc_spec hs pages (by have := hok.lp; simp at this; omega) hok.np, ?_, ?_, ?_, ?_, ?_, ?_⟩ ?_
        · simp [renSs, renS]
        · simp [pgB, renR, renSs, renS, ren_mpE, pgE_ents]
        · simp [pgB]
        · rintro rs b' ⟨rfl, rfl⟩
          simp [pgB, sortedB]
        · rintro rs b' ⟨rfl, rfl⟩
          simp [Res.nam, sortedB]
        · rintro rs b' ⟨rfl, rfl⟩
          simp [S.nams, S.nam, sortedB]
        rintro rs b' ⟨rfl, rfl⟩
        simp -dsimp [pgB, sortedB, retS, renSs, renS, renR]
        refine VRS.fin ?_
        have hst := hs.len pages
        simp -dsimp [hst]
        have hpe := isEmpty_len hst
        have e : sortI [] = [] := by simp [sortI]
        rw [e] at hls
        rw [hgo]
        simp [repA, Rep.cells, ← hls, hpe, hnl]
      | cons t lo =>
        obtain rfl : n3 = false := hn3
        obtain rfl : z3 = 1 := hz3
        refine VCL.lend [(1, .arr false 1 (ints (t :: lo)) 0)] [(1, .arr false 1 (ints (sortI (t :: lo))) 0)] [.own 1 (t :: lo).length] _ _ (fun _ => 322) [] ⟨hi.con (t :: lo) (by omega), ?_, ?_, ?_, ?_, ?_, ?_, ?_⟩ ?_
        · simp [renSs, renS]
        · simp [renR]
        · simp
        · simp
        · simp [Res.nam]
        · simp [S.nams]
        · simp [lk, keptP]
          exact ⟨1, _, ⟨rfl, rfl⟩, _, ⟨rfl, rfl⟩, by simp, by simp [hsl]⟩
        simp -dsimp [retS, renSs, renR]
        refine VL.hand (by kernel_rfl) ?_
        refine VRS.run 2 ?_
        simp -dsimp
        refine VCL.lend [(2, .map (.ents (mpE (entsE Tou.page Tou.cells pages))))] [(64, .box false [.mp 2]), (2, .map (.ents (mpE (entsE Tou.page Tou.cells pages))))] [.mp 2] _ _ (fun i => if i = 64 then 6848 else 1088) [6848, 1088] ⟨values_spec (entsE Tou.page Tou.cells pages), ?_, ?_, ?_, ?_, ?_, ?_, ?_⟩ ?_
        · simp [renSs, renS]
        · simp [renR, ren_mpE]
        · simp
        · simp
        · simp [Res.nam, S.nams, S.nam, nam_mpE]
        · simp [S.nams, S.nam]
        · simp
        simp -dsimp [retS, renSs, renS, renR, ren_mpE]
        refine VRS.callX (pgB pages) (sortedQ 600 sortT pages) [.fnp 28 [.ptr 1 0], .c (.fn 17 [])] (fun i => if i = 1 then 6848 else if i = 2 then 1088 else i) (by simp) ⟨sortedFunc_spec hs pages (by have := hok.lp; simp at this; omega) hok.np, ?_, ?_, ?_, ?_, ?_, ?_⟩ ?_
        · simp [renSs, renS]
        · simp [pgB, renR, renSs, renS, ren_mpE, pgE_ents]
        · simp [pgB]
        · rintro rs b' ⟨rfl, rfl⟩
          simp [pgB, sortedB]
        · rintro rs b' ⟨rfl, rfl⟩
          simp [Res.nam, sortedB]
        · rintro rs b' ⟨rfl, rfl⟩
          simp [S.nams, S.nam, sortedB]
        rintro rs b' ⟨rfl, rfl⟩
        simp -dsimp [pgB, sortedB, retS, renSs, renS, renR]
        refine VRS.fin ?_
        have hst := hs.len pages
        simp -dsimp [hst]
        have hpe := isEmpty_len hst
        refine ⟨by simpa using hsl, ?_⟩
        have hee : (sortI (t :: lo)).isEmpty = false := (isEmpty_len hsl).trans rfl
        rw [hgo]
        simp only [repA, Rep.cells, ← hls, hpe, hnl, hee]
    · have hjl : j < seen.length := by simpa [entsE] using hj
      have hpj : (entsE Prod.fst one seen)[j] = (.int .i64 seen[j].1, one seen[j]) := by simp [entsE]
      have hen := fun (d : Option Nat) (st : St) (K : St → Prop) => ven3_mpE (st := st) (K := K) d bm seen.length ord j bm (entsE Prod.fst one seen) hj
      simp -dsimp [hen, hpj, lk_cnt, kfits_ents]
      have hsn := lostO_snoc seen done ord j hjl
      have hnd2 : (ord ++ [j]).Nodup := by
        rw [List.nodup_append]
        exact ⟨hnd, by simp, fun a ha b hb => by simp at hb; subst hb; exact fun e => hjs (e ▸ ha)⟩
      have hlt2 : ∀ i ∈ ord ++ [j], i < seen.length := by
        intro i hi
        rcases List.mem_append.1 hi with hi | hi
        · exact hlt i hi
        · simp at hi; subst hi; exact hjl
      have hlo := nodup_lt seen.length (ord ++ [j]) hnd2 hlt2
      have hme : seen.length - (ord ++ [j]).length < seen.length - ord.length := by simp at hlo ⊢; omega
      have hll : (lostO seen done ord).length ≤ ord.length := by unfold lostO; exact Nat.le_trans (List.length_filter_le _ _) (by simp)
      have hls2 := hok.ls
      simp at hls2 hlo
      refine ⟨by simp [entsE], VIf.mk (fun g0 => ?_) (fun g0 => ?_)⟩
      · have hz : cget done seen[j].1 = 0 := by simpa using g0
        rw [if_pos hz] at hsn
        refine ⟨by simp [maxLen], fun e => by rw [hz3]; rw [hn3] at e; simp [sz1, e], by omega, ⟨ord ++ [j], false, 1⟩, ⟨hnd2, hlt2, ?_, ?_⟩, ?_, hme⟩
        · simp only; rw [hsn]; simp
        · simp only; rw [hsn]; simp [sz1]
        · simp only; rw [hsn]; simp [St.le, ints]
      · have hz : ¬ cget done seen[j].1 = 0 := by simpa using g0
        rw [if_neg hz, List.append_nil] at hsn
        refine ⟨⟨ord ++ [j], n3, z3⟩, ⟨hnd2, hlt2, ?_, ?_⟩, ?_, hme⟩
        · simp only; rw [hsn]; exact hn3
        · simp only; rw [hsn]; exact hz3
        · simp only; rw [hsn]; simp [St.le]
end Go.Proofs.Ytddhmoffjpnbgaa
