/- Contract: BagOperates. -/
import Derived.Test.YtmkbclnhopoiiaaGreatGRC
import Derived.Test.YtmkbclnhopoiiaaGreatBPA
set_option linter.unusedSimpArgs false
set_option linter.unusedVariables false
namespace Go.Proofs.YtmkbclnhopoiiaaGreat
open Go.VL Go.RowKit

def projB (sortP : List Per → List Per) (l : List Fact) (cs : List Int) : List Fact := if projOk l cs then projL sortP l cs else []
def refProjB (sortP : List Per → List Per) (l : List Fact) (cs : List Int) : List Fact := if projOk l cs then refProject sortP l cs else []
def projC (l : List Fact) (cs : List Int) : Int := if projOk l cs then 0 else 161
theorem project_con {sortP : List Per → List Per} (hs : Sorts sortP) (hi : SortsI) (hf : SortsF) (nl nc : Bool) (l : List Fact) (cs : List Int) (hl : l.length ≤ 3518437208883) (hc : cs.length ≤ 4398046511104) (hr : Rows1 l) :
    Con Tryz.prog 7 [.c (.sl nl (facts l)), .c (.sl nc (ints cs))] [.c (.sl (projB sortP l cs).isEmpty (facts (projB sortP l cs))), .c (i64 (projC l cs))] := by
  have h := project_spec hs hi hf nl nc l cs hl hc hr
  unfold projB projC
  by_cases hp : projOk l cs = true
  · rw [if_pos hp] at h; rw [hp]; exact h
  · rw [if_neg hp] at h; simp only [Bool.not_eq_true] at hp; rw [hp]; exact h
theorem refProject_con {sortP : List Per → List Per} (hs : Sorts sortP) (nl nc : Bool) (l : List Fact) (cs : List Int) (hl : l.length ≤ 400000000) (hc : cs.length ≤ 4398046511104) (hr : Rows1 l) :
    Con Tryz.prog 8 [.c (.sl nl (facts l)), .c (.sl nc (ints cs))] [.c (.sl (refProjB sortP l cs).isEmpty (facts (refProjB sortP l cs))), .c (i64 (projC l cs))] := by
  have h := refProject_spec hs nl nc l cs hl hc hr
  unfold refProjB projC
  by_cases hp : projOk l cs = true
  · rw [hp] at h ⊢; exact h
  · simp only [Bool.not_eq_true] at hp; rw [hp] at h ⊢; exact h
theorem same_proj {sortP : List Per → List Per} (hs : Sorts sortP) (na nb : Bool) (l : List Fact) (cs : List Int) (hl : l.length ≤ 400000000) (hc : cs.length ≤ 4398046511104) :
    Con Tryz.prog 11 [.c (.sl na (facts (projB sortP l cs))), .c (.sl nb (facts (refProjB sortP l cs)))] [.c (bln true)] := by
  unfold projB refProjB
  by_cases h : projOk l cs = true
  · rw [if_pos h, if_pos h]; exact same_project hs na nb l cs hl hc
  · rw [if_neg h, if_neg h]
    have := sameF_spec na nb [] [] (by simp) (fun f hf => by simp at hf)
    simpa using this
theorem same_rows (na nb : Bool) (rs : List (List Val)) (hl : rs.length ≤ 140737488355328) (hr : ∀ r ∈ rs, r.length ≤ 4398046511104) :
    Con Tryz.prog 25 [.c (.sl na (rowsE rs)), .c (.sl nb (rowsC rs))] [.c (bln true)] := by
  have := sameRows_spec na nb (flE rs) (flC rs) (by unfold flE; rw [List.length_map]; exact hl) (fun x hx => by
    obtain ⟨r, hr0, rfl⟩ := List.mem_map.1 hx
    exact hr r hr0)
  rw [flE_rows, flC_rows, flE_snd, flC_snd, decide_eq_true rfl] at this
  exact this

set_option maxRecDepth 8000 in
set_option maxHeartbeats 64000000 in
theorem operates_spec {sortP : List Per → List Per} (hs : Sorts sortP) (hi : SortsI) (hf : SortsF) (na nb nc : Bool) (a b : List Fact) (p : Per) (t : Int) (cs : List Int) (c : Int) (la : a.length ≤ 1048576) (lb : b.length ≤ 1048576) (lc : cs.length ≤ 1000000000) (ra0 : ∀ f ∈ a, f.row.length ≤ 1000000000) (rb0 : ∀ f ∈ b, f.row.length ≤ 1000000000) (va : Vals64 a) :
    Con Tryz.prog 3 [.c (.sl na (facts a)), .c (.sl nb (facts b)), .agg [i64 p.f, i64 p.t, i64 t, .sl nc (ints cs), i64 c]] [.c (bln true)] := by
  refine spec_of Tryz.func3 rfl (by kernel_rfl) (by simp [Tryz.f3]) (fun w0 K0 => vc_ok _ _ _ (by kernel_rfl) ?_)
  have ra : Rows1 a := fun f hf => by have := ra0 f hf; omega
  have rb : Rows1 b := fun f hf => by have := rb0 f hf; omega
  have r2 : Rows2 a b := fun x hx y hy => by have := ra0 x hx; have := rb0 y hy; omega
  have rab : Rows1 (a ++ b) := fun f hf => by
    rcases List.mem_append.1 hf with h | h
    · exact ra f h
    · exact rb f h
  have lab : (a ++ b).length = a.length + b.length := List.length_append
  have lxa : (a.map copyF).length = a.length := List.length_map ..
  have lxb : (b.map copyF).length = b.length := List.length_map ..
  have hml : a.length * b.length ≤ 1048576 * 1048576 := Nat.mul_le_mul (by omega) (by omega)
  have hmx : (joinP (a.map copyF) (b.map copyF)).length ≤ 1048576 * 1048576 := Nat.le_trans (joinP_len _ _) (by rw [lxa, lxb]; exact hml)
  have kca := copyF_spec na a (by omega) ra
  have kcb := copyF_spec nb b (by omega) rb
  have kpr := project_con hs hi hf false nc (a.map copyF) cs (by omega) (by omega) (copy_rows1 ra)
  have krp := refProject_con hs na nc a cs (by omega) (by omega) ra
  have ksp := same_proj hs (projB sortP a cs).isEmpty (refProjB sortP a cs).isEmpty a cs (by omega) (by omega)
  have ePB : projB sortP (a.map copyF) cs = projB sortP a cs := by unfold projB; rw [copy_projOk, copy_proj hs]
  have ePC : projC (a.map copyF) cs = projC a cs := by unfold projC; rw [copy_projOk]
  rw [ePB, ePC] at kpr
  have ksm := sum_con hs hi hf false (a.map copyF) c (by omega) (copy_rows1 ra) (copy_vals va)
  have krs := refSum_con hs na a c (by omega) ra va
  rw [copy_sum hs, copy_sumC] at ksm
  have kss := same_sum hs (sumB sortP c a).isEmpty (refSumB sortP c a).isEmpty a c (by omega)
  have kn := normal_two hs hi hf _ false false (a.map copyF) (b.map copyF) rfl (by omega) (by omega) (copy_rows1 ra) (copy_rows1 rb)
  rw [copy_normal hs] at kn
  have kbo := both_spec na nb a b (by omega) (by omega)
  have krn := refNormal_spec hs false (a ++ b) (by omega) rab
  have ksn := same_normal hs (normalL sortP (a ++ b)).isEmpty (refNormal sortP (a ++ b)).isEmpty (a ++ b) (by omega) rab
  have kco := coalesce_spec hs hf false (a.map copyF) (by omega) (copy_rows1 ra)
  rw [copy_coalesce hs] at kco
  have krc := refCoalesce_spec hs na a (by omega) ra
  have ksc := same_coalesce hs (coalesceL sortP a).isEmpty (refCoalesce sortP a).isEmpty a (by omega) ra
  have kex := except_con hs hi hf false false _ _ (a.map copyF) (b.map copyF) rfl rfl (by omega) (by omega) (copy_rows1 ra) (copy_rows1 rb)
  rw [copy_except hs] at kex
  have kre := refExcept_spec hs na nb a b (by omega) (by omega) ra rb
  have kse := same_except hs (exceptL sortP a b).isEmpty (refExcept sortP a b).isEmpty a b (by omega) (by omega) ra
  have kjo := join_spec hs hi hf false false (a.map copyF) (b.map copyF) (by omega) (by omega) (by omega) (copy_rows2 r2)
  rw [copy_join hs] at kjo
  have krj := refJoin_spec hs na nb a b la lb r2 ra rb
  have ksj := same_join hs (joinL sortP a b).isEmpty (refJoin sortP a b).isEmpty a b la lb r2
  have kcl := clip_con hs hi hf false (a.map copyF) p _ rfl (by omega) (copy_rows1 ra)
  rw [copy_clip hs] at kcl
  have krl := refClip_spec hs na a p (by omega) ra
  have ksl := same_clip hs (clipL sortP a p).isEmpty (refClip sortP a p).isEmpty a p (by omega) ra
  have kct := count_spec hs hi hf false (a.map copyF) (by omega) (copy_rows1 ra)
  rw [copy_count hs] at kct
  have krt := refCount_spec hs na a (by omega) ra
  have kst := same_count hs (countL sortP a).isEmpty (refCount sortP a).isEmpty a (by omega)
  have ksi := slice_spec hf false (a.map copyF) t (by omega) (copy_rows1 ra)
  rw [rowsAt_slice] at ksi
  have kri := rows_spec na a t (by omega) ra
  have hrb := rowsAt_bound (t := t) (show a.length ≤ 4000000000000 by omega) ra
  have ksr := same_rows (rowsAt a t).isEmpty (rowsAt a t).isEmpty (rowsAt a t) (by omega) hrb.2
  generalize a ++ b = ab at *
  generalize a.map copyF = x at *
  generalize b.map copyF = y at *
  simp only [Per.cells] at kcl krl
  generalize projB sortP a cs = pB at *
  generalize refProjB sortP a cs = rpB at *
  generalize sumB sortP c a = sB at *
  generalize refSumB sortP c a = rsB at *
  generalize normalL sortP (a ++ b) = nR at *
  generalize refNormal sortP (a ++ b) = rnR at *
  generalize coalesceL sortP a = cR at *
  generalize refCoalesce sortP a = rcR at *
  generalize exceptL sortP a b = eR at *
  generalize refExcept sortP a b = reR at *
  generalize joinL sortP a b = jR at *
  generalize refJoin sortP a b = rjR at *
  generalize clipL sortP a p = lR at *
  generalize refClip sortP a p = rlR at *
  generalize countL sortP a = tR at *
  generalize refCount sortP a = rtR at *
  generalize rowsAt a t = rws at *
  simp only [Tryz.f3]
  simp -dsimp
  refine VC.mk _ (awake_spec hs hi hf) ?_
  simp -dsimp
  refine VC.mk _ kca ?_
  simp -dsimp
  refine VC.mk _ kcb ?_
  simp -dsimp
  refine VC.mk _ kpr ?_
  simp -dsimp
  refine VC.mk _ krp ?_
  simp -dsimp
  refine VC.mk _ ksm ?_
  simp -dsimp
  refine VC.mk _ krs ?_
  simp -dsimp
  refine VL.draw (by kernel_rfl) [(0, false), (0, false), (3, false), (7, false), (0, false), (0, false), (63, true), (127, true), (255, true), (511, true), (1023, false), (2047, false), (1023, false), (8191, true), (16383, true), (32767, true), (65535, true), (131071, false), (131071, false), (524287, false), (131071, false), (131071, false), (4194303, true), (8388607, true), (16777215, true), (33554431, true), (67108863, false), (134217727, false), (67108863, false), (335544319, false), (1073741823, true), (2147483647, true), (4294967295, true), (8589934591, false), (8589934591, false), (34359738367, false), (8589934591, false), (8589934591, false), (274877906943, true), (549755813887, true), (1099511627775, true), (2199023255551, true), (4398046511103, true), (8796093022207, false), (8796093022207, false), (26388279066623, false), (70368744177663, false), (8796093022207, false), (8796093022207, false), (290271069732863, false), (1125899906842623, true), (2251799813685247, true), (4503599627370495, true), (9007199254740991, true), (18014398509481983, false), (36028797018963967, false), (18014398509481983, false), (144115188075855871, true), (288230376151711743, true), (576460752303423487, true), (1152921504606846975, true), (2305843009213693951, false), (2305843009213693951, false), (9223372036854775807, true), (18446744073709551615, true), (36893488147419103231, true), (73786976294838206463, false), (73786976294838206463, false), (295147905179352825855, true), (590295810358705651711, true), (1180591620717411303423, true), (2361183241434822606847, false), (2361183241434822606847, false), (9444732965739290427391, true), (18889465931478580854783, true), (37778931862957161709567, true), (75557863725914323419135, false), (75557863725914323419135, false), (302231454903657293676543, true), (604462909807314587353087, true), (1208925819614629174706175, true), (2417851639229258349412351, false), (2417851639229258349412351, false), (7253554917687775048237055, false), (19342813113834066795298815, false), (2417851639229258349412351, false), (2417851639229258349412351, false), (79789104094565525530607615, false), (309485009821345068724781055, true), (618970019642690137449562111, true), (1237940039285380274899124223, true), (2475880078570760549798248447, true)] (by kernel_rfl) ?_
  simp -dsimp
  refine ⟨by decide, VCE.mk _ kn ?_⟩
  simp -dsimp
  first | refine VC.mk _ kbo ?_ | refine VCE.mk _ kbo ?_
  simp -dsimp
  first | refine VC.mk _ krn ?_ | refine VCE.mk _ krn ?_
  simp -dsimp
  first | refine VC.mk _ ksn ?_ | refine VCE.mk _ ksn ?_
  simp -dsimp
  refine VG.mk [.c (.sl cR.isEmpty (facts cR))] _ (fun _ => kco) rfl ?_
  simp -dsimp
  refine VG.mk [.c (.sl rcR.isEmpty (facts rcR))] _ (fun _ => krc) rfl ?_
  simp -dsimp
  refine VG.mk [.c (bln true)] _ (fun _ => ksc) rfl ?_
  simp -dsimp
  refine VG.mk [.c (.sl eR.isEmpty (facts eR))] _ (fun _ => kex) rfl ?_
  simp -dsimp
  refine VG.mk [.c (.sl reR.isEmpty (facts reR))] _ (fun _ => kre) rfl ?_
  simp -dsimp
  refine VG.mk [.c (bln true)] _ (fun _ => kse) rfl ?_
  simp -dsimp
  refine VG.mk [.c (.sl jR.isEmpty (facts jR))] _ (fun _ => kjo) rfl ?_
  simp -dsimp
  refine VG.mk [.c (.sl rjR.isEmpty (facts rjR))] _ (fun _ => krj) rfl ?_
  simp -dsimp
  refine VG.mk [.c (bln true)] _ (fun _ => ksj) rfl ?_
  simp -dsimp
  refine VG.mk [.c (.sl lR.isEmpty (facts lR))] _ (fun _ => kcl) rfl ?_
  simp -dsimp
  refine VG.mk [.c (.sl rlR.isEmpty (facts rlR))] _ (fun _ => krl) rfl ?_
  simp -dsimp
  refine VG.mk [.c (bln true)] _ (fun _ => ksl) rfl ?_
  simp -dsimp
  refine VG.mk [.c (.sl tR.isEmpty (facts tR))] _ (fun _ => kct) rfl ?_
  simp -dsimp
  refine VG.mk [.c (.sl rtR.isEmpty (facts rtR))] _ (fun _ => krt) rfl ?_
  simp -dsimp
  refine VG.mk [.c (bln true)] _ (fun _ => kst) rfl ?_
  simp -dsimp
  refine VG.mk [.c (bln true)] _ (fun _ => ksp) rfl ?_
  simp -dsimp
  refine VG.mk [.c (bln true)] _ (fun _ => kss) rfl ?_
  simp -dsimp
  refine VG.mk [.c (.sl rws.isEmpty (rowsE rws))] _ (fun _ => ksi) rfl ?_
  simp -dsimp
  refine VG.mk [.c (.sl rws.isEmpty (rowsC rws))] _ (fun _ => kri) rfl ?_
  simp -dsimp
  refine VG.mk [.c (bln true)] _ (fun _ => ksr) rfl ?_
  simp -dsimp
end Go.Proofs.YtmkbclnhopoiiaaGreat
