/- Contracts of functions of the seat, proved in a logic on data over the model (part C32). -/
import Derived.Test.YtgodbpamppcfnaaC31
import Derived.Test.YtgodbpamppcfnaaV31
set_option linter.unusedSimpArgs false
set_option linter.unusedVariables false
namespace Go.Proofs.Ytgodbpamppcfnaa
open Go.VL Go.RowKit

structure Opn where
  kind : Int
  tab : Tab
def Opn.cells (o : Opn) : List C := i64 o.kind :: o.tab.cells

theorem creT_ok (ts : List Tab) (t : Tab) (ho : ∀ t ∈ ts, t.Ok) (ht : t.Ok) : ∀ u ∈ creT ts t, u.Ok := by
  unfold creT
  split
  · intro u hu
    rcases List.mem_append.1 hu with hu | hu
    · exact ho u hu
    · simp at hu; subst hu; exact ht
  · exact ho
theorem creT_le (ts : List Tab) (t : Tab) (hl : ts.length ≤ 16) : (creT ts t).length ≤ 16 := by
  unfold creT
  split
  · rename_i h
    have : ts.length ≠ 16 := fun e => by
      unfold creE at h
      split at h
      · rename_i h2; exact h2 h
      · split at h
        · cases h
        · first | (cases h; done) | (rw [if_pos e] at h; cases h) | (split at h <;> first | cases h | contradiction)
    simp; omega
  · exact hl
theorem idxT_ok (ts : List Tab) (name : List UInt8) (ho : ∀ t ∈ ts, t.Ok) : ∀ u ∈ idxT ts name, u.Ok := by
  unfold idxT
  split
  · rename_i k hk
    split
    · exact ho
    · rw [List.findIdx?_eq_some_iff_getElem] at hk
      obtain ⟨h1, _⟩ := hk
      intro u hu
      rcases List.mem_or_eq_of_mem_set hu with hu | hu
      · exact ho u hu
      · rw [getElem!_pos ts k h1] at hu
        have := ho ts[k] (List.getElem_mem h1)
        subst hu
        exact ⟨this.nc, this.nk, this.lc, this.lk⟩
  · exact ho

structure PInv (nl nw : Bool) (sz : Nat) (ts : List Tab) : Prop where
  nn : nl = true → ts = []
  nw : nw = true → ts = []
  s : nl = false → sz = 5
  ok : ∀ t ∈ ts, t.Ok
  l : ts.length ≤ 16
theorem PInv.step {nl nw : Bool} {sz : Nat} {ts : List Tab} (h : PInv nl nw sz ts) (k : Int) (t : Tab) (ht : t.Ok) : PInv (stNl k nl ts t) (stNl k nw ts t) (stSz k sz ts t) (stT k ts t) := by
  have hnn : ∀ b : Bool, (b = true → ts = []) → stNl k b ts t = true → stT k ts t = [] := by
    intro b hb hs
    unfold stNl at hs
    unfold stT
    by_cases k0 : k = 0
    · rw [if_pos k0] at hs ⊢
      simp only [Bool.and_eq_true, decide_eq_true_eq] at hs
      unfold creT
      rw [if_neg hs.2, hb hs.1]
    · rw [if_neg k0] at hs ⊢
      by_cases k1 : k = 1
      · rw [if_pos k1, hb hs]; rfl
      · rw [if_neg k1, hb hs]
  refine ⟨hnn nl h.nn, hnn nw h.nw, fun hs => ?_, ?_, ?_⟩
  · unfold stNl at hs
    unfold stSz
    by_cases k0 : k = 0
    · rw [if_pos k0] at hs ⊢
      by_cases hc : creE ts (mkT ts t) = 0
      · rw [if_pos hc]
      · rw [if_neg hc]
        simp [hc] at hs
        exact h.s hs
    · rw [if_neg k0] at hs ⊢; exact h.s hs
  · unfold stT
    by_cases k0 : k = 0
    · rw [if_pos k0]; exact creT_ok ts _ h.ok (mkT_ok ts t ht)
    · rw [if_neg k0]
      by_cases k1 : k = 1
      · rw [if_pos k1]; exact idxT_ok ts _ h.ok
      · rw [if_neg k1]; exact h.ok
  · unfold stT
    by_cases k0 : k = 0
    · rw [if_pos k0]; exact creT_le ts _ h.l
    · rw [if_neg k0]
      by_cases k1 : k = 1
      · rw [if_pos k1, idxT_len]; exact h.l
      · rw [if_neg k1]; exact h.l

structure PI where
  k : Nat
  nl : Bool
  nw : Bool
  sz : Nat
  ts : List Tab
def τf (i : Nat) : Nat := swp 1 384 (swp 2 192 i)
theorem τf_inv (i : Nat) : τf (τf i) = i := by
  unfold τf swp
  repeat' split
  all_goals omega

set_option maxRecDepth 4000 in
set_option maxHeartbeats 8000000 in
theorem plays_spec (ns : Bool) (l : List Opn) (ho : ∀ o ∈ l, o.tab.Ok) (hl : l.length ≤ 140737488355328) : Con Try.prog 7 [.c (.sl ns (l.map Opn.cells))] [.c (bln true)] := by
  refine spec_of Try.func7 rfl (by kernel_rfl) (by simp [Try.f7]) (fun w0 K0 => vc_ok _ _ _ (by kernel_rfl) ?_)
  simp only [Try.f7]
  simp -dsimp
  refine VC.mk _ awake_spec ?_
  simp -dsimp
  refine VC.lend [] (catB true 0 [] 0) [] _ _ id [1, 2] ⟨new_spec, by simp [renSs], by simp, by simp [catB], by simp, by simp [catB, Res.nam, S.nams, S.nam], by simp [catB, S.nams, S.nam], by simp [catB]⟩ ?_
  simp -dsimp [catB, retS, renSs, renS]
  refine VL.snap 4 ?_
  simp -dsimp
  refine VL.loopR (fun i : PI => ⟨[(16, .c (i64 i.k)), (15, .c (i64 l.length)), (14, .c (.sl ns (l.map Opn.cells))), (4, .c (.sl i.nw ((i.ts.map strip).map Tab.cells))), (3, .ptr 1 0)],
    [(1, some (.box false [.own 2 i.ts.length])), (2, some (.arr i.nl i.sz (i.ts.map Tab.cells) 0))]⟩) (fun i => i.k ≤ l.length ∧ PInv i.nl i.nw i.sz i.ts) (fun i => l.length - i.k) ⟨0, true, true, 0, []⟩ (by kernel_rfl) ⟨by simp, ⟨by simp, by simp, by simp, by simp, by simp⟩⟩ (by simp [St.le]) ?_
  intro ⟨k, nl, nw, sz, ts⟩ ⟨hk, hP⟩
  simp only at hk hP
  obtain ⟨wx, hwx⟩ : ∃ wx, wx = (ts.map strip).map Tab.cells := ⟨_, rfl⟩
  simp only [← hwx]
  simp -dsimp
  refine VIf.mk (fun h => ?_) (fun h => ?_)
  · have hlt : k < l.length := by simpa using h
    have hw : IntKind.i64.wrap ((k : Int) + 1) = (k : Int) + 1 := IntWalk.i64_in _ (by omega)
    simp -dsimp [hlt, Opn.cells, Tab.cells]
    have hot := ho _ (List.getElem_mem hlt)
    refine VIf.mk (fun h3 => ?_) (fun h3 => ?_)
    · simp -dsimp
      refine VCL.lend (catB nl sz ts 0) (forkB nl sz ts 0) [.ptr 1 0] _ _ id [2, 384, 192] ⟨fork_spec nl sz ts 0 hP.nn hP.s hP.ok (by have := hP.l; omega), ?_, ?_, ?_, ?_, ?_, ?_, ?_⟩ ?_
      · simp [renSs, renS]
      · simp [catB, renR, renSs, renS]
      · simp [forkB, catB]
      · simp [forkB, catB]
      · simp [forkB, catB, Res.nam, S.nams, S.nam]
      · simp [forkB, catB, S.nams, S.nam]
      · simp [forkB, catB, lk, keptP]
      simp -dsimp [forkB, catB, retS, renSs, renS]
      refine ⟨by decide, ?_⟩
      refine VCL.some [false, false, true, false] ?_
      simp -dsimp
      refine VLD.lend _ _ _ _ _ (cτ 1 2) [2] (lend_cat2 1 2 (by decide) (create_spec nl sz ts ⟨ts.length + 1, [90, 90, 57], false, [⟨[65], 1⟩], true, [], false⟩ rfl rfl hP.nn hP.s hP.ok ⟨by simp, by simp, by simp, by simp⟩ (by have := hP.l; omega)) (by simp [renSs, renS, cτ, Col.cells]) (by simp) (by simp) (by simp [S.nams, S.nam])) ?_
      simp -dsimp [catB, retS, renSs, renS, cτ, hw]
      refine ⟨⟨k + 1, ts.isEmpty, nw, if ts.isEmpty then 0 else 5, ts⟩, ⟨by simp only; omega, ⟨by simp, hP.nw, fun h => by simp only at h ⊢; rw [h]; rfl, hP.ok, hP.l⟩⟩, τf, τf_inv, ?_, by simp only; omega⟩
      simp [St.le, St.ren, renS, renSs, renR, τf, swp, hwx]
    · simp -dsimp
      have hS := step_spec l[k].kind nl nw sz ts l[k].tab wx hwx hP.nn hP.nw hP.s hP.ok hot hP.l
      have hP' := hP.step l[k].kind l[k].tab hot
      refine VCL.lend _ _ _ _ _ (cτ 1 2) [2] (lend_cat2 1 2 (by decide) hS (by simp [renSs, renS, cτ, Tab.cells]) (by simp) (by simp) (by simp [S.nams, S.nam])) ?_
      simp -dsimp [catB, retS, renSs, renS, cτ, hw]
      refine ⟨⟨k + 1, stNl l[k].kind nl ts l[k].tab, stNl l[k].kind nw ts l[k].tab, stSz l[k].kind sz ts l[k].tab, stT l[k].kind ts l[k].tab⟩, ⟨by simp only; omega, hP'⟩, id, fun _ => rfl, ?_, by simp only; omega⟩
      simp [St.le, St.ren, renS, renSs, renR]
  · simp at h
    obtain rfl : k = l.length := by omega
    simp -dsimp
    refine VCL.lend (catB nl sz ts 0) (catB nl sz ts 0 ++ [(192, .arr ts.isEmpty (if ts.isEmpty then 0 else 5) (ts.map Tab.cells) 0)]) [.ptr 1 0] _ _ id [2, 192] ⟨tables_spec nl sz ts 0 hP.nn hP.s hP.ok (by have := hP.l; omega), ?_, ?_, ?_, ?_, ?_, ?_, ?_⟩ ?_
    · simp [renSs, renS]
    · simp [catB, renR, renSs, renS]
    · simp [catB]
    · simp [catB]
    · simp [catB, Res.nam, S.nams, S.nam]
    · simp [catB, S.nams, S.nam]
    · simp [catB, lk, keptP]
    have hwl : wx.length = ts.length := by rw [hwx]; simp
    simp -dsimp [catB, retS, renSs, renS, hwl]
    refine VL.snap 9 ?_
    simp -dsimp
    refine VL.loop (fun j : Nat => ⟨[(51, .c (i64 j)), (50, .c (i64 ts.length)), (9, .c (.sl ts.isEmpty (ts.map Tab.cells))), (4, .c (.sl nw wx))], []⟩) (fun j => j ≤ ts.length) (fun j => ts.length - j) 0 (by kernel_rfl) (by simp) (by simp [St.le]) ?_
    intro j hj
    simp -dsimp
    refine VIf.mk (fun g5 => ?_) (fun g5 => ?_)
    · have hlt : j < ts.length := by simpa using g5
      have hw : IntKind.i64.wrap ((j : Int) + 1) = (j : Int) + 1 := IntWalk.i64_in _ (by have := hP.l; omega)
      have hg2 : ∀ h : j < wx.length, wx[j]'h = [i64 ts[j].id, str ts[j].name, .sl false (ts[j].cols.map Col.cells), .sl false (ts[j].keys.map keyc), bln ts[j].ix] := by
        subst hwx; intro h; simp [strip, Tab.cells]
      simp -dsimp
      refine VL.draw (by kernel_rfl) [(0, false), (0, false), (3, false), (7, false), (15, false), (0, false), (0, false), (96, false), (224, false), (511, true), (1023, true)] (by kernel_rfl) ?_
      simp -dsimp [hlt, hwl, hg2, Tab.cells, hw]
      refine VCE.mk _ (plain_at _ ts[j] rfl) ?_
      simp -dsimp [hlt, hwl, hg2, Tab.cells, hw]
      have hS := same_at _ _ ts[j] (strip ts[j]) rfl rfl (by have := (hP.ok _ (List.getElem_mem hlt)).lc; omega) (by have := (hP.ok _ (List.getElem_mem hlt)).lk; omega)
      have hse : same ts[j] (strip ts[j]) = true := by simp [same, strip]
      rw [hse] at hS
      refine VC.mk _ hS ?_
      simp -dsimp [hw]
      refine ⟨j + 1, by omega, ?_, by omega⟩
      simp [St.le]
    · simp at g5
      obtain rfl : j = ts.length := by omega
      simp -dsimp
end Go.Proofs.Ytgodbpamppcfnaa
