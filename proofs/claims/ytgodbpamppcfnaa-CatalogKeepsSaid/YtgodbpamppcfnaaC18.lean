/- Contracts of functions of the seat, proved in a logic on data over the model (part C18). -/
import Derived.Test.YtgodbpamppcfnaaC16
import Derived.Test.YtgodbpamppcfnaaC17
set_option linter.unusedSimpArgs false
set_option linter.unusedVariables false
namespace Go.Proofs.Ytgodbpamppcfnaa
open Go.VL Go.RowKit

/-- a catalog that is lent under its names 1 and 2 -/
theorem lend_cat {st : St} {f : FuncId} {args a0 rs a1 : List S} {nl nl' : Bool} {sz sz' fx fx' : Nat} {ts ts' : List Tab} (con : ConB Try.prog f (.ptr 1 0 :: a0) (catB nl sz ts fx) rs (.ptr 1 0 :: a1) (catB nl' sz' ts' fx'))
    (h0 : args = renSs id (.ptr 1 0 :: a0)) (h1 : st.rs 1 = some (.box false [.own 2 ts.length])) (h2 : st.rs 2 = some (.arr nl sz (ts.map Tab.cells) fx)) (hr : ∀ j ∈ S.nams rs, j = 1 ∨ j = 2) :
    LendOk Try.prog st f args (catB nl sz ts fx) (catB nl' sz' ts' fx') (.ptr 1 0 :: a0) rs (.ptr 1 0 :: a1) id [2] := by
  refine ⟨con, h0, ?_, ?_, ?_, ?_, ?_, ?_⟩
  · intro p hp
    simp [catB] at hp
    rcases hp with rfl | rfl
    · simpa [renR, renSs, renS] using h1
    · simpa [renR] using h2
  · simp [catB]
  · simp [catB]
  · simp [catB, Res.nam, S.nams, S.nam]
  · simpa [catB] using hr
  · intro p hp
    simp [catB] at hp
    rcases hp with rfl | rfl
    · exact .inr ⟨_, rfl, .inl ⟨rfl, rfl, rfl, _, _, _, _, rfl, rfl⟩⟩
    · exact .inl (by simp)

def tabT : Tab := ⟨1, [84], false, [⟨[65], 1⟩], false, [[65]], false⟩
theorem cre_T : ConB Try.prog 23 [.ptr 1 0, .c (str [84]), .c (.sl false [[str [65], i64 1]]), .c (.sl false [[str [65]]])] (catB true 0 [] 0) [.c (i64 1), .c (i64 0)]
    [.ptr 1 0, .c (str [84]), .c (.sl false [[str [65], i64 1]]), .c (.sl false [[str [65]]])] (catB false 5 [tabT] 0) := by
  have h := create_spec true 0 [] tabT rfl rfl (fun _ => rfl) (by simp) (by simp) ⟨by simp [tabT], by simp [tabT], by simp [tabT], by simp [tabT]⟩ (by simp)
  have e : creE [] tabT = 0 := by decide
  simp only [creN, creT, e] at h
  exact h

theorem tabT_ok : ∀ t ∈ [tabT], t.Ok := by
  intro t ht
  simp at ht
  subst ht
  exact ⟨by simp [tabT], by simp [tabT], by simp [tabT], by simp [tabT]⟩
theorem find_T : ConB Try.prog 24 [.ptr 1 0, .c (str [84])] (catB false 5 [tabT] 0) [.agg [i64 1, str [84], .sl false [[str [65], i64 1]], .sl false [[str [65]]], bln false], .c (i64 0)] [.ptr 1 0, .c (str [84])] (catB false 5 [tabT] 0) :=
  find_spec false 5 [tabT] 0 [84] (by simp) (by simp) tabT_ok (by simp)
theorem row_T : Con Try.prog 11 [.agg [i64 1, str [84], .sl false [[str [65], i64 1]], .sl false [[str [65]]], bln false]] [.fr false 3 ((rowOf tabT).map Val.cells) 0] := row_spec tabT (by decide) (by decide)
theorem read_T : Con Try.prog 10 [.c (.sl false ((rowOf tabT).map Val.cells))] [.ag [i64 1, str [84], .sl false [[str [65], i64 1]], .sl false [[str [65]]], bln false], .c (i64 0)] := by
  have h := read_long false (num 1) (txt [84]) (num 0) (num 1) (rowCols tabT.cols ++ tabT.keys.map txt) (by decide)
  have e : readOf (rowOf tabT) = (tabT, 0) := by
    have h0 : chk tabT = 0 := by decide
    rw [read_row, h0]
    rfl
  have e2 : rowOf tabT = num 1 :: txt [84] :: num 0 :: num 1 :: (rowCols tabT.cols ++ tabT.keys.map txt) := rfl
  rw [← e2, e] at h
  exact h
theorem column_A : Con Try.prog 16 [.agg [i64 1, str [84], .sl false [[str [65], i64 1]], .sl false [[str [65]]], bln false], .c (str [65])] [.c (i64 0)] := column_spec tabT [65] (by decide)
theorem column_B : Con Try.prog 16 [.agg [i64 1, str [84], .sl false [[str [65], i64 1]], .sl false [[str [65]]], bln false], .c (str [66])] [.c (i64 (-1))] := column_spec tabT [66] (by decide)
def tabU : Tab := ⟨1, [84], false, [⟨[65], 1⟩], false, [[65]], true⟩
theorem idx_T : ConB Try.prog 28 [.ptr 1 0, .c (str [84])] (catB false 5 [tabT] 0) [.c (i64 0)] [.ptr 1 0, .c (str [84])] (catB false 5 [tabU] 0) :=
  setIx_spec false 5 [tabT] [84] (by simp) (by simp) (by simp)
theorem idx_U : ConB Try.prog 28 [.ptr 1 0, .c (str [84])] (catB false 5 [tabU] 0) [.c (i64 162)] [.ptr 1 0, .c (str [84])] (catB false 5 [tabU] 0) :=
  setIx_spec false 5 [tabU] [84] (by simp) (by simp) (by simp)
set_option maxRecDepth 4000 in
set_option maxHeartbeats 8000000 in
theorem awake_spec : Con Try.prog 9 [] [.c (bln true)] := by
  refine spec_of Try.func9 rfl (by kernel_rfl) (by simp [Try.f9]) (fun w0 K0 => vc_ok _ _ _ (by kernel_rfl) ?_)
  simp only [Try.f9]
  simp -dsimp
  refine VC.lend [] (catB true 0 [] 0) [] _ _ id [1, 2] ⟨new_spec, by simp [renSs], by simp, by simp [catB], by simp, by simp [catB, Res.nam, S.nams, S.nam], by simp [catB, S.nams, S.nam], by simp [catB]⟩ ?_
  simp -dsimp [catB, retS, renSs, renS]
  refine ⟨by simp [maxLen], ?_⟩
  refine VCL.some [false, false, true, true] ?_
  simp -dsimp
  refine VLD.lend _ _ _ _ _ id [2] (lend_cat cre_T (by simp [renSs, renS]) (by simp) (by simp) (by simp [S.nams, S.nam])) ?_
  simp -dsimp [catB, retS, renSs, renS]
  refine VCL.lend _ _ _ _ _ id [2] (lend_cat find_T (by simp [renSs, renS]) (by simp) (by simp) (by simp [S.nams, S.nam])) ?_
  simp -dsimp [catB, retS, renSs, renS]
  refine VC.mk _ row_T ?_
  simp -dsimp
  refine VCL.snap ?_
  simp -dsimp
  refine VC.mk _ read_T ?_
  simp -dsimp
  refine VG.mk [.c (i64 0)] _ (fun _ => column_A) rfl ?_
  simp -dsimp
  refine VG.mk [.c (i64 (-1))] _ (fun _ => column_B) rfl ?_
  simp -dsimp
  refine VGL.call (args := [.tmp 66, .const (.string ⟨#[84]⟩)]) _ _ _ _ _ ?_ ?_ ?_ ?_
  · rfl
  · rfl
  · rfl
  simp -dsimp
  refine VCL.lend _ _ _ _ _ id [2] (lend_cat idx_T (by simp [renSs, renS]) (by simp) (by simp) (by simp [S.nams, S.nam])) ?_
  simp -dsimp [catB, retS, renSs, renS]
  refine VGL.call (args := [.tmp 71, .const (.string ⟨#[84]⟩)]) _ _ _ _ _ ?_ ?_ ?_ ?_
  · rfl
  · rfl
  · rfl
  simp -dsimp
  refine VCL.lend _ _ _ _ _ id [2] (lend_cat idx_U (by simp [renSs, renS]) (by simp) (by simp) (by simp [S.nams, S.nam])) ?_
  simp -dsimp [catB, retS, renSs, renS]
end Go.Proofs.Ytgodbpamppcfnaa
