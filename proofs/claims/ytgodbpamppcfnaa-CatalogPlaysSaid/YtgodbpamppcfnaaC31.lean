/- Contracts of functions of the seat, proved in a logic on data over the model (part C31). -/
import Derived.Test.YtgodbpamppcfnaaC30
import Derived.Test.YtgodbpamppcfnaaC27
set_option linter.unusedSimpArgs false
set_option linter.unusedVariables false
namespace Go.Proofs.Ytgodbpamppcfnaa
open Go.VL Go.RowKit

def strip (t : Tab) : Tab := ⟨t.id, t.name, false, t.cols, false, t.keys, t.ix⟩
theorem isN_strip (name : List UInt8) : (isN name ∘ strip) = isN name := rfl
theorem findIdx_strip (ts : List Tab) (name : List UInt8) : (ts.map strip).findIdx? (isN name) = ts.findIdx? (isN name) := by
  rw [List.findIdx?_map]; rfl
theorem findI_strip (ts : List Tab) (name : List UInt8) : findI (ts.map strip) name = findI ts name := by
  unfold findI idxI
  have : (ts.map strip).findIdx? (fun t => decide (t.name = name)) = ts.findIdx? (fun t => decide (t.name = name)) := findIdx_strip ts name
  rw [this]
theorem idxE_strip (ts : List Tab) (name : List UInt8) : idxE (ts.map strip) name = idxE ts name := by
  unfold idxE
  rw [findIdx_strip]
  cases h : ts.findIdx? (isN name) with
  | none => rfl
  | some k =>
    rw [List.findIdx?_eq_some_iff_getElem] at h
    obtain ⟨h1, _⟩ := h
    simp only
    rw [getElem!_pos ts k h1, getElem!_pos (ts.map strip) k (by simpa using h1)]
    simp [strip]
theorem idxT_strip (ts : List Tab) (name : List UInt8) : idxT (ts.map strip) name = (idxT ts name).map strip := by
  unfold idxT
  rw [findIdx_strip]
  cases h : ts.findIdx? (isN name) with
  | none => rfl
  | some k =>
    rw [List.findIdx?_eq_some_iff_getElem] at h
    obtain ⟨h1, _⟩ := h
    simp only
    rw [getElem!_pos ts k h1, getElem!_pos (ts.map strip) k (by simpa using h1)]
    simp only [List.getElem_map]
    by_cases hx : ts[k].ix = true
    · rw [if_pos hx, if_pos (by simpa [strip] using hx)]
    · rw [if_neg hx, if_neg (by simpa [strip] using hx), List.map_set]
      rfl
theorem findE_iff (ts : List Tab) (name : List UInt8) : findE ts name = if 0 ≤ findI ts name then 0 else 160 := by
  unfold findE
  have := findI_neg ts name
  cases h : ts.find? (fun t => decide (t.name = name)) with
  | none => rw [if_neg (by simp), if_neg (by have := this.2 h; omega)]
  | some x =>
    have hge : 0 ≤ findI ts name := by
      refine Classical.byContradiction fun hh => ?_
      have := this.1 (by omega)
      rw [h] at this
      cases this
    rw [if_pos hge]
    rfl

/-- the table that is made -/
def mkT (ts : List Tab) (t : Tab) : Tab := ⟨ts.length + 1, t.name, t.nc, t.cols, t.nk, t.keys, false⟩
theorem mkT_ok (ts : List Tab) (t : Tab) (h : t.Ok) : (mkT ts t).Ok := ⟨h.nc, h.nk, h.lc, h.lk⟩
theorem creRE_strip (ts : List Tab) (t : Tab) (hl : ts.length ≤ 16) : creRE (ts.map strip) t = creE ts (mkT ts t) := by
  have e : chk (mkT ts t) = chk t := rfl
  have e2 : (mkT ts t).name = t.name := rfl
  unfold creRE creE
  rw [e, e2, findI_strip, findE_iff]
  by_cases h0 : chk t = 0
  · have n0 : ¬ chk t ≠ 0 := by simp [h0]
    rw [if_neg n0, if_neg n0]
    by_cases h1 : 0 ≤ findI ts t.name
    · simp [h1]
    · have n1 : ¬ ((if 0 ≤ findI ts t.name then (0 : Int) else 160) = 0) := by rw [if_neg h1]; decide
      rw [if_neg h1, if_neg n1]
      by_cases h2 : ts.length = 16
      · simp [h2]
      · rw [if_neg (by simp; omega), if_neg h2]
  · rw [if_pos h0, if_pos h0]
theorem creRT_strip (ts : List Tab) (t : Tab) (hl : ts.length ≤ 16) : creRT (ts.map strip) t = (creT ts (mkT ts t)).map strip := by
  unfold creRT creT
  rw [creRE_strip ts t hl]
  split
  · simp [strip, mkT]
  · rfl
theorem creRN_strip (ts : List Tab) (t : Tab) (hl : ts.length ≤ 16) : creRN (ts.map strip) t = creN ts (mkT ts t) := by
  unfold creRN creN
  rw [creRE_strip ts t hl]
  split
  · simp [mkT]
  · rfl

def stT (k : Int) (ts : List Tab) (t : Tab) : List Tab := if k = 0 then creT ts (mkT ts t) else if k = 1 then idxT ts t.name else ts
def stNl (k : Int) (nl : Bool) (ts : List Tab) (t : Tab) : Bool := if k = 0 then nl && decide (creE ts (mkT ts t) ≠ 0) else nl
def stSz (k : Int) (sz : Nat) (ts : List Tab) (t : Tab) : Nat := if k = 0 then (if creE ts (mkT ts t) = 0 then 5 else sz) else sz

theorem crR_at (nw : Bool) (ts : List Tab) (xs : List (List C)) (hx : xs = (ts.map strip).map Tab.cells) (cs : List C) (t : Tab) (h : cs = t.cells) (hnn : nw = true → ts = []) (ho : t.Ok) (hl : ts.length ≤ 16) :
    Con Try.prog 42 [.c (.sl nw xs), .agg cs] [.c (.sl (stNl 0 nw ts t) (((stT 0 ts t).map strip).map Tab.cells)), .c (i64 (creN ts (mkT ts t))), .c (i64 (creE ts (mkT ts t)))] := by
  subst hx; subst h
  have := createRef_spec nw (ts.map strip) t (fun e => by rw [hnn e]; rfl) ho (by simpa using hl)
  rw [creRE_strip ts t hl, creRT_strip ts t hl, creRN_strip ts t hl] at this
  exact this

theorem ixR_at (nw : Bool) (ts : List Tab) (xs : List (List C)) (hx : xs = (ts.map strip).map Tab.cells) (t : Tab) (hnn : nw = true → ts = []) (hl : ts.length ≤ 16) :
    Con Try.prog 43 [.c (.sl nw xs), .c (str t.name)] [.c (.sl nw (((stT 1 ts t).map strip).map Tab.cells)), .c (i64 (idxE ts t.name))] := by
  subst hx
  have := indexRef_spec nw (ts.map strip) t.name (fun e => by rw [hnn e]; rfl) (by simp; omega)
  rw [idxE_strip, idxT_strip] at this
  exact this
theorem fiR_at (nw : Bool) (ts : List Tab) (xs : List (List C)) (hx : xs = (ts.map strip).map Tab.cells) (name : List UInt8) (hl : ts.length ≤ 16) :
    Con Try.prog 44 [.c (.sl nw xs), .c (str name)] [.c (i64 (findI ts name))] := by
  subst hx
  have := findRef_spec nw (ts.map strip) name (by simp; omega)
  rw [findI_strip] at this
  exact this

set_option maxRecDepth 4000 in
set_option maxHeartbeats 8000000 in
theorem step_spec (k : Int) (nl nw : Bool) (sz : Nat) (ts : List Tab) (t : Tab) (wx : List (List C)) (hwx : wx = (ts.map strip).map Tab.cells) (hnn : nl = true → ts = []) (hnw : nw = true → ts = []) (hs : nl = false → sz = 5) (ho : ∀ t ∈ ts, t.Ok) (hot : t.Ok) (hl : ts.length ≤ 16) :
    ConB Try.prog 27 [.ptr 1 0, .c (.sl nw wx), .agg (i64 k :: t.cells)] (catB nl sz ts 0) [.c (.sl (stNl k nw ts t) (((stT k ts t).map strip).map Tab.cells)), .c (bln true)]
      [.ptr 1 0, .c (.sl nw wx), .agg (i64 k :: t.cells)] (catB (stNl k nl ts t) (stSz k sz ts t) (stT k ts t) 0) := by
  refine spec_ofB 3 Try.func27 rfl (by kernel_rfl) (by simp [Try.f27]) (by simp [catB]) rfl (fun w0 K0 uf => vc_ok _ _ _ (by kernel_rfl) ?_)
  simp only [Try.f27]
  by_cases k0 : k = 0
  · subst k0
    simp -dsimp [initB, initEnv, pinsOf, catB, Tab.cells]
    refine VC.mk _ (plain_at _ t rfl) ?_
    simp -dsimp [Tab.cells]
    have hR := crR_at nw ts wx hwx _ t (by simp [Tab.cells]; exact rfl) hnw hot hl
    obtain ⟨wx', hwx'⟩ : ∃ wx', wx' = ((stT 0 ts t).map strip).map Tab.cells := ⟨_, rfl⟩
    rw [← hwx'] at hR
    refine VC.mk _ hR ?_
    simp -dsimp
    refine VCL.lend _ _ _ _ _ (cτ 1 2) [2] (lend_cat2 1 2 (by decide) (create_spec nl sz ts (mkT ts t) rfl rfl hnn hs ho (mkT_ok ts t hot) (by omega)) (by simp [renSs, renS, cτ, mkT]) (by simp) (by simp) (by simp [S.nams, S.nam])) ?_
    simp -dsimp [catB, retS, renSs, renS, cτ]
    refine ⟨by rw [hwx', List.map_map], ⟨by simp [stT], by simp [stNl], by simp [stSz], by simp [stT]⟩, rfl⟩
  · by_cases k1 : k = 1
    · subst k1
      simp -dsimp [initB, initEnv, pinsOf, catB, Tab.cells]
      have hR := ixR_at nw ts wx hwx t hnw hl
      obtain ⟨wx', hwx'⟩ : ∃ wx', wx' = ((stT 1 ts t).map strip).map Tab.cells := ⟨_, rfl⟩
      rw [← hwx'] at hR
      refine VC.mk _ hR ?_
      simp -dsimp
      refine VCL.lend _ _ _ _ _ (cτ 1 2) [2] (lend_cat2 1 2 (by decide) (setIx_spec nl sz ts t.name hnn hs (by omega)) (by simp [renSs, renS, cτ]) (by simp) (by simp) (by simp [S.nams, S.nam])) ?_
      simp -dsimp [catB, retS, renSs, renS, cτ]
      refine ⟨⟨by simp [stNl], by rw [hwx', List.map_map]⟩, ⟨by simp [stT], by simp [stNl], by simp [stSz], by simp [stT]⟩, rfl⟩
    · by_cases k2 : k = 2
      · subst k2
        have e1 : stT 2 ts t = ts := by simp [stT]
        have e2 : ∀ b, stNl 2 b ts t = b := by simp [stNl]
        have e3 : stSz 2 sz ts t = sz := by simp [stSz]
        have hF := find_spec nl sz ts 0 t.name hnn hs ho (by omega)
        by_cases hneg : findI ts t.name < 0
        · have hT : findT ts t.name = noTab := by unfold findT; rw [(findI_neg ts t.name).1 hneg]; rfl
          have hE : findE ts t.name = 160 := by rw [findE_iff, if_neg (by omega)]
          rw [hT, hE] at hF
          simp only [noTab, Tab.cells, List.map_nil] at hF
          simp -dsimp [initB, initEnv, pinsOf, catB, Tab.cells]
          refine VCL.lend _ _ _ _ _ (cτ 1 2) [2] (lend_cat2 1 2 (by decide) hF (by simp [renSs, renS, cτ]) (by simp) (by simp) (by simp [S.nams, S.nam])) ?_
          simp -dsimp [catB, retS, renSs, renS, cτ, Tab.cells]
          refine VC.mk _ (fiR_at nw ts wx hwx t.name hl) ?_
          simp -dsimp [hneg]
          refine VG.mk [.ag noTab.cells] _ (fun _ => plain_at _ noTab rfl) rfl ?_
          simp -dsimp [noTab, Tab.cells]
          refine VG.mk [.c (bln true)] _ (fun _ => same_at _ _ noTab noTab rfl rfl (by decide) (by decide)) rfl ?_
          simp -dsimp [e1, e2, e3]
          refine ⟨by rw [hwx, List.map_map], ?_⟩
          simp [resEnd, catB, e1, e2, e3, pinsEnd, Tab.cells]
        · obtain ⟨m, hm⟩ : ∃ m : Nat, findI ts t.name = m := ⟨(findI ts t.name).toNat, by omega⟩
          have hfi : ts.findIdx? (fun u => decide (u.name = t.name)) = some m := by
            unfold findI idxI at hm
            cases h : ts.findIdx? (fun u => decide (u.name = t.name)) with
            | none => rw [h] at hm; simp only at hm; omega
            | some q => rw [h] at hm; simp only at hm; congr 1; omega
          have hfi2 := hfi
          rw [List.findIdx?_eq_some_iff_getElem] at hfi2
          obtain ⟨hlt, hp, hb⟩ := hfi2
          have hT : findT ts t.name = ts[m] := by
            unfold findT
            have : ts.find? (fun u => decide (u.name = t.name)) = some ts[m] := by
              rw [List.find?_eq_some_iff_getElem]
              exact ⟨hp, m, hlt, rfl, fun j hj => by simpa using hb j hj⟩
            rw [this]; rfl
          have hE : findE ts t.name = 0 := by rw [findE_iff, if_pos (by omega)]
          rw [hT, hE] at hF
          simp only [Tab.cells] at hF
          have hwl : wx.length = ts.length := by rw [hwx]; simp
          have hg2 : ∀ h : m < wx.length, wx[m]'h = [i64 ts[m].id, str ts[m].name, .sl false (ts[m].cols.map Col.cells), .sl false (ts[m].keys.map keyc), bln ts[m].ix] := by
            subst hwx; intro h; simp [strip, Tab.cells]
          have hg : wx[m]? = some [i64 ts[m].id, str ts[m].name, .sl false (ts[m].cols.map Col.cells), .sl false (ts[m].keys.map keyc), bln ts[m].ix] := by
            rw [hwx]; simp [hlt, strip, Tab.cells]
          simp -dsimp [initB, initEnv, pinsOf, catB, Tab.cells]
          refine VCL.lend _ _ _ _ _ (cτ 1 2) [2] (lend_cat2 1 2 (by decide) hF (by simp [renSs, renS, cτ]) (by simp) (by simp) (by simp [S.nams, S.nam])) ?_
          simp -dsimp [catB, retS, renSs, renS, cτ, Tab.cells]
          refine VC.mk _ (fiR_at nw ts wx hwx t.name hl) ?_
          have hm' : ((m : Int) < 0) = False := eq_false (by omega)
          simp -dsimp [hm, hm']
          refine VL.draw (by kernel_rfl) [(0, false), (0, false), (2, false), (6, false), (14, false), (30, false), (14, false), (14, false), (206, false), (462, false), (1022, false), (2046, false), (2047, false), (8191, true)] (by kernel_rfl) ?_
          simp -dsimp [hwl, hg2, hlt]
          refine VG.mk [.ag ts[m].cells] _ (fun _ => plain_at _ ts[m] rfl) rfl ?_
          simp -dsimp [Tab.cells, hwl, hg2, hlt]
          have hS := same_at _ _ ts[m] (strip ts[m]) rfl rfl (by have := (ho _ (List.getElem_mem hlt)).lc; omega) (by have := (ho _ (List.getElem_mem hlt)).lk; omega)
          have hse : same ts[m] (strip ts[m]) = true := by simp [same, strip]
          rw [hse] at hS
          refine VG.mk [.c (bln true)] _ (fun _ => hS) rfl ?_
          simp -dsimp
          rw [e1, e2, e3]
          refine ⟨⟨rfl, by rw [hwx, List.map_map]⟩, ?_⟩
          simp [resEnd, catB, e2, pinsEnd, Tab.cells]
      · have b0 : (k == 0) = false := by simpa using k0
        have b1 : (k == 1) = false := by simpa using k1
        have b2 : (k == 2) = false := by simpa using k2
        have e1 : stT k ts t = ts := by simp [stT, k0, k1]
        have e2 : ∀ b, stNl k b ts t = b := by simp [stNl, k0]
        have e3 : stSz k sz ts t = sz := by simp [stSz, k0]
        simp -dsimp [initB, initEnv, pinsOf, catB, Tab.cells, b0, b1, b2, e1, e2, e3]
        rw [hwx, List.map_map]
end Go.Proofs.Ytgodbpamppcfnaa
