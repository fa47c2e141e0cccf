/- Contracts of functions of the seat, proved in a logic on data over the model (part C27). -/
import Derived.Test.YtgodbpamppcfnaaC26
import Derived.Test.YtgodbpamppcfnaaC18
set_option linter.unusedSimpArgs false
set_option linter.unusedVariables false
namespace Go.Proofs.Ytgodbpamppcfnaa
open Go.VL Go.RowKit

/-- the names of a catalog at its caller -/
def cτ (p q i : Nat) : Nat := if i = 1 then p else if i = 2 then q else i
/-- a catalog that is lent under its names p and q -/
theorem lend_cat2 {st : St} {f : FuncId} {args a0 rs a1 : List S} {nl nl' : Bool} {sz sz' fx fx' : Nat} {ts ts' : List Tab} (p q : Nat) (hpq : p ≠ q) (con : ConB Try.prog f (.ptr 1 0 :: a0) (catB nl sz ts fx) rs (.ptr 1 0 :: a1) (catB nl' sz' ts' fx'))
    (h0 : args = renSs (cτ p q) (.ptr 1 0 :: a0)) (h1 : st.rs p = some (.box false [.own q ts.length])) (h2 : st.rs q = some (.arr nl sz (ts.map Tab.cells) fx)) (hr : ∀ j ∈ S.nams rs, j = 1 ∨ j = 2) :
    LendOk Try.prog st f args (catB nl sz ts fx) (catB nl' sz' ts' fx') (.ptr 1 0 :: a0) rs (.ptr 1 0 :: a1) (cτ p q) [q] := by
  refine ⟨con, h0, ?_, ?_, ?_, ?_, ?_, ?_⟩
  · intro x hx
    simp [catB] at hx
    rcases hx with rfl | rfl
    · simpa [renR, renSs, renS, cτ] using h1
    · simpa [renR, cτ] using h2
  · simpa [catB, cτ] using hpq
  · simp [catB]
  · simp [catB, Res.nam, S.nams, S.nam]
  · simpa [catB] using hr
  · intro x hx
    simp [catB] at hx
    rcases hx with rfl | rfl
    · exact .inr ⟨_, rfl, .inl ⟨rfl, rfl, rfl, _, _, _, _, rfl, rfl⟩⟩
    · exact .inl (by simp [cτ])

def tab1 (t : Tab) (ix : Bool) : Tab := ⟨1, t.name, t.nc, t.cols, t.nk, t.keys, ix⟩
theorem tab1_ok (t : Tab) (ix : Bool) (h : t.Ok) : (tab1 t ix).Ok := ⟨h.nc, h.nk, h.lc, h.lk⟩
theorem tab1_all (t : Tab) (ix : Bool) (h : t.Ok) : ∀ u ∈ [tab1 t ix], u.Ok := by
  intro u hu
  simp at hu
  subst hu
  exact tab1_ok t ix h
theorem chk_tab1 (t : Tab) (ix : Bool) : chk (tab1 t ix) = chk t := rfl
theorem idx_0 (name : List UInt8) : ConB Try.prog 28 [.ptr 1 0, .c (str name)] (catB true 0 [] 0) [.c (i64 160)] [.ptr 1 0, .c (str name)] (catB true 0 [] 0) :=
  setIx_spec true 0 [] name (by simp) (by simp) (by simp)
theorem idx_1 (t : Tab) : ConB Try.prog 28 [.ptr 1 0, .c (str t.name)] (catB false 5 [tab1 t false] 0) [.c (i64 0)] [.ptr 1 0, .c (str t.name)] (catB false 5 [tab1 t true] 0) := by
  have h := setIx_spec false 5 [tab1 t false] t.name (by simp) (by simp) (by simp)
  have e1 : idxE [tab1 t false] t.name = 0 := by simp [idxE, tab1, isN]
  have e2 : idxT [tab1 t false] t.name = [tab1 t true] := by simp [idxT, tab1, isN]
  rw [e1, e2] at h
  exact h
theorem idx_2 (t : Tab) : ConB Try.prog 28 [.ptr 1 0, .c (str t.name)] (catB false 5 [tab1 t true] 0) [.c (i64 162)] [.ptr 1 0, .c (str t.name)] (catB false 5 [tab1 t true] 0) := by
  have h := setIx_spec false 5 [tab1 t true] t.name (by simp) (by simp) (by simp)
  have e1 : idxE [tab1 t true] t.name = 162 := by simp [idxE, tab1, isN]
  have e2 : idxT [tab1 t true] t.name = [tab1 t true] := by simp [idxT, tab1, isN]
  rw [e1, e2] at h
  exact h
theorem find_1 (t : Tab) (ix : Bool) (h : t.Ok) : ConB Try.prog 24 [.ptr 1 0, .c (str t.name)] (catB false 5 [tab1 t ix] 0) [.agg [i64 1, str t.name, .sl t.nc (t.cols.map Col.cells), .sl t.nk (t.keys.map keyc), bln ix], .c (i64 0)] [.ptr 1 0, .c (str t.name)] (catB false 5 [tab1 t ix] 0) := by
  have h := find_spec false 5 [tab1 t ix] 0 t.name (by simp) (by simp) (tab1_all t ix h) (by simp)
  have e1 : findE [tab1 t ix] t.name = 0 := by simp [findE, tab1]
  have e2 : findT [tab1 t ix] t.name = tab1 t ix := by simp [findT, tab1]
  rw [e1, e2] at h
  exact h
theorem cre_1 (t : Tab) (h : t.Ok) : ConB Try.prog 23 [.ptr 1 0, .c (str t.name), .c (.sl t.nc (t.cols.map Col.cells)), .c (.sl t.nk (t.keys.map keyc))] (catB true 0 [] 0) [.c (i64 (if chk t = 0 then 1 else 0)), .c (i64 (chk t))]
    [.ptr 1 0, .c (str t.name), .c (.sl t.nc (t.cols.map Col.cells)), .c (.sl t.nk (t.keys.map keyc))] (if chk t = 0 then catB false 5 [tab1 t false] 0 else catB true 0 [] 0) := by
  have h := create_spec true 0 [] (tab1 t false) rfl rfl (fun _ => rfl) (by simp) (by simp) (tab1_ok t false h) (by simp)
  by_cases hc : chk t = 0
  · have e : creE [] (tab1 t false) = 0 := by simp [creE, chk_tab1, hc, findE]
    simp only [creN, creT, e] at h
    rw [if_pos hc, if_pos hc, hc]
    exact h
  · have e : creE [] (tab1 t false) = chk t := by simp [creE, chk_tab1, hc]
    simp only [creN, creT, e, if_neg hc] at h
    rw [if_neg hc, if_neg hc]
    have e2 : (true && decide (chk t ≠ 0)) = true := by simp [hc]
    rw [e2] at h
    exact h

set_option maxRecDepth 4000 in
set_option maxHeartbeats 8000000 in
theorem indexes_spec (t : Tab) (ht : t.Ok) : Con Try.prog 8 [.agg t.cells] [.c (bln true)] := by
  refine spec_of Try.func8 rfl (by kernel_rfl) (by simp [Try.f8]) (fun w0 K0 => vc_ok _ _ _ (by kernel_rfl) ?_)
  simp only [Try.f8]
  simp -dsimp [Tab.cells]
  refine VC.mk _ awake_spec ?_
  simp -dsimp
  refine VC.lend [] (catB true 0 [] 0) [] _ _ id [1, 2] ⟨new_spec, by simp [renSs], by simp, by simp [catB], by simp, by simp [catB, Res.nam, S.nams, S.nam], by simp [catB, S.nams, S.nam], by simp [catB]⟩ ?_
  simp -dsimp [catB, retS, renSs, renS]
  have hcre := cre_1 t ht
  by_cases hc : chk t = 0
  · rw [if_pos hc, if_pos hc, hc] at hcre
    refine VCL.lend _ _ _ _ _ (cτ 1 2) [2] (lend_cat2 1 2 (by decide) hcre (by simp [renSs, renS, cτ]) (by simp) (by simp) (by simp [S.nams, S.nam])) ?_
    simp -dsimp [catB, retS, renSs, renS, cτ]
    refine VCL.lend (catB false 5 [tab1 t false] 0) (forkB false 5 [tab1 t false] 0) [.ptr 1 0] _ _ id [2, 384, 192] ⟨fork_spec false 5 [tab1 t false] 0 (by simp) (by simp) (tab1_all t false ht) (by simp), ?_, ?_, ?_, ?_, ?_, ?_, ?_⟩ ?_
    · simp [renSs, renS]
    · simp [catB, renR, renSs, renS]
    · simp [forkB, catB]
    · simp [forkB, catB]
    · simp [forkB, catB, Res.nam, S.nams, S.nam]
    · simp [forkB, catB, S.nams, S.nam]
    · simp [forkB, catB, lk, keptP]
    simp -dsimp [forkB, catB, retS, renSs, renS]
    refine VGL.call (args := [.tmp 43, .tmp 45]) _ _ _ _ _ ?_ ?_ ?_ ?_
    · rfl
    · rfl
    · rfl
    simp -dsimp
    refine VCL.lend _ _ _ _ _ (cτ 1 2) [2] (lend_cat2 1 2 (by decide) (idx_1 t) (by simp [renSs, renS, cτ]) (by simp) (by simp) (by simp [S.nams, S.nam])) ?_
    simp -dsimp [catB, retS, renSs, renS, cτ]
    refine VGL.call (args := [.tmp 50, .tmp 52]) _ _ _ _ _ ?_ ?_ ?_ ?_
    · rfl
    · rfl
    · rfl
    simp -dsimp
    refine VCL.lend _ _ _ _ _ (cτ 1 2) [2] (lend_cat2 1 2 (by decide) (idx_2 t) (by simp [renSs, renS, cτ]) (by simp) (by simp) (by simp [S.nams, S.nam])) ?_
    simp -dsimp [catB, retS, renSs, renS, cτ]
    refine VCL.lend _ _ _ _ _ (cτ 1 2) [2] (lend_cat2 1 2 (by decide) (find_1 t true ht) (by simp [renSs, renS, cτ]) (by simp) (by simp) (by simp [S.nams, S.nam])) ?_
    simp -dsimp [catB, retS, renSs, renS, cτ]
    refine VCL.lend _ _ _ _ _ (cτ 384 192) [192] (lend_cat2 384 192 (by decide) (find_1 t false ht) (by simp [renSs, renS, cτ]) (by simp) (by simp) (by simp [S.nams, S.nam])) ?_
    simp -dsimp [catB, retS, renSs, renS, cτ]
    refine VL.draw (by kernel_rfl) [(0, false), (1, false), (0, false), (7, true), (15, true), (31, true), (63, false), (63, false), (191, false), (511, true), (1023, true), (2047, true), (4095, true)] (by kernel_rfl) ?_
    simp -dsimp
    refine VCE.mk _ (plain_at _ (tab1 t false) rfl) ?_
    simp -dsimp [tab1, Tab.cells]
    refine VC.mk _ (plain_at _ (tab1 t false) rfl) ?_
    simp -dsimp [tab1, Tab.cells]
    have hsame := same_at _ _ (tab1 t false) (tab1 t false) rfl rfl (by have := ht.lc; simp [tab1]; omega) (by have := ht.lk; simp [tab1]; omega)
    have e : same (tab1 t false) (tab1 t false) = true := by simp [same]
    rw [e] at hsame
    refine VC.mk _ hsame ?_
    simp -dsimp
    refine VGL.call (args := [.tmp 92, .tmp 94]) _ _ _ _ _ ?_ ?_ ?_ ?_
    · rfl
    · rfl
    · rfl
    simp -dsimp
    refine VCL.lend _ _ _ _ _ (cτ 384 192) [192] (lend_cat2 384 192 (by decide) (idx_1 t) (by simp [renSs, renS, cτ]) (by simp) (by simp [tab1, Tab.cells]) (by simp [S.nams, S.nam])) ?_
    simp -dsimp [catB, retS, renSs, renS, cτ]
  · rw [if_neg hc, if_neg hc] at hcre
    refine VCL.lend _ _ _ _ _ (cτ 1 2) [2] (lend_cat2 1 2 (by decide) hcre (by simp [renSs, renS, cτ]) (by simp) (by simp) (by simp [S.nams, S.nam])) ?_
    simp -dsimp [catB, retS, renSs, renS, cτ]
    refine VIf.mk (fun _ => ?_) (fun h => ?_)
    · simp -dsimp
      refine VCL.lend _ _ _ _ _ (cτ 1 2) [2] (lend_cat2 1 2 (by decide) (idx_0 t.name) (by simp [renSs, renS, cτ]) (by simp) (by simp) (by simp [S.nams, S.nam])) ?_
      simp -dsimp [catB, retS, renSs, renS, cτ]
      refine VGL.call (args := [.tmp 33]) _ _ _ _ _ ?_ ?_ ?_ ?_
      · rfl
      · rfl
      · rfl
      simp -dsimp
      refine VCL.lend (catB true 0 [] 0) (catB true 0 [] 0 ++ [(192, .arr true 0 [] 0)]) [.ptr 1 0] _ _ id [2, 192] ⟨tables_spec true 0 [] 0 (by simp) (by simp) (by simp) (by simp), ?_, ?_, ?_, ?_, ?_, ?_, ?_⟩ ?_
      · simp [renSs, renS]
      · simp [catB, renR, renSs, renS]
      · simp [catB]
      · simp [catB]
      · simp [catB, Res.nam, S.nams, S.nam]
      · simp [catB, S.nams, S.nam]
      · simp [catB, lk, keptP]
      simp -dsimp [catB, retS, renSs, renS]
    · exfalso
      simp at h
      exact hc h
end Go.Proofs.Ytgodbpamppcfnaa
