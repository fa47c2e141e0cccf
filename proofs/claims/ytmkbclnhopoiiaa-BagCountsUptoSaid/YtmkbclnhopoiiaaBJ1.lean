/- Contract: BagClips. -/
import Derived.Test.YtmkbclnhopoiiaaBPA
set_option linter.unusedSimpArgs false
set_option linter.unusedVariables false
namespace Go.Proofs.Ytmkbclnhopoiiaa
open Go.VL Go.RowKit

theorem sameF_true (na nb : Bool) (l m : List Fact) (h : l = m) (hl : l.length ≤ 140737488355328) (hr : Rows1 l) : Con Try.prog 16 [.c (.sl na (facts l)), .c (.sl nb (facts m))] [.c (bln true)] := by
  have := sameF_spec na nb l m hl hr
  rw [h] at this ⊢
  simpa using this
set_option maxRecDepth 4000 in
set_option maxHeartbeats 16000000 in
theorem clips_spec {sortP : List Per → List Per} (hs : Sorts sortP) (hi : SortsI) (hf : SortsF) (nl : Bool) (l : List Fact) (p q : Per) (hl : l.length ≤ 10000000000) (hr : Rows1 l) : Con Try.prog 5 [.c (.sl nl (facts l)), .agg p.cells, .agg q.cells] [.c (bln true)] := by
  refine spec_of Try.func5 rfl (by kernel_rfl) (by simp [Try.f5]) (fun w0 K0 => vc_ok _ _ _ (by kernel_rfl) ?_)
  have kp := clip_con hs hi hf nl l p _ rfl (by omega) hr
  have kq := clip_con hs hi hf nl l q _ rfl (by omega) hr
  have lp := clip_len hs l p
  have lq := clip_len hs l q
  have rp := clip_rows1 (sortP := sortP) p hr
  have rq := clip_rows1 (sortP := sortP) q hr
  have kpq := clip_con hs hi hf (clipL sortP l p).isEmpty (clipL sortP l p) q _ rfl (by omega) rp
  have kqp := clip_con hs hi hf (clipL sortP l q).isEmpty (clipL sortP l q) p _ rfl (by omega) rq
  have lpq := clip_len hs (clipL sortP l p) q
  have rpq := clip_rows1 (sortP := sortP) q rp
  have ks := sameF_true (clipL sortP (clipL sortP l p) q).isEmpty (clipL sortP (clipL sortP l q) p).isEmpty _ _ (clip_clip hs l p q) (by omega) rpq
  have hap := fun h => @clip_apart sortP hs l p q h
  have hme := fun h1 h2 h3 => @clip_meet sortP hs l p q h1 h2 h3
  have kn := normal_two hs hi hf _ (clipL sortP l p).isEmpty (clipL sortP l q).isEmpty (clipL sortP l p) (clipL sortP l q) rfl (by omega) (by omega) rp rq
  have lm := clip_len hs l ⟨p.f, q.t⟩
  have rm := clip_rows1 (sortP := sortP) ⟨p.f, q.t⟩ hr
  have km := clip_con hs hi hf nl l ⟨p.f, q.t⟩ _ rfl (by omega) hr
  have ksm := fun (h : normalL sortP (clipL sortP l p ++ clipL sortP l q) = clipL sortP l ⟨p.f, q.t⟩) => sameF_true (normalL sortP (clipL sortP l p ++ clipL sortP l q)).isEmpty (clipL sortP l ⟨p.f, q.t⟩).isEmpty _ _ h (by rw [h]; omega) (by rw [h]; exact rm)
  generalize clipL sortP (clipL sortP l p) q = A at *
  generalize clipL sortP (clipL sortP l q) p = A' at *
  generalize normalL sortP (clipL sortP l p ++ clipL sortP l q) = N at *
  generalize clipL sortP l ⟨p.f, q.t⟩ = M at *
  generalize clipL sortP l p = cp at *
  generalize clipL sortP l q = cq at *
  simp only [Per.cells] at kp kq kpq kqp km
  simp only [Try.f5]
  simp -dsimp [Per.cells]
  refine VC.mk _ (awake_spec hs hi hf) ?_
  simp -dsimp
  refine VL.draw (by kernel_rfl) [(0, false), (0, false), (3, false), (0, false), (15, true), (31, true)] (by kernel_rfl) ?_
  simp -dsimp
  refine VCE.mk _ kp ?_
  simp -dsimp
  refine VC.mk _ kpq ?_
  simp -dsimp
  refine VL.draw (by kernel_rfl) [(0, false), (0, false), (0, false), (6, false), (0, false), (30, false), (63, true), (127, true)] (by kernel_rfl) ?_
  simp -dsimp
  refine VCE.mk _ kq ?_
  simp -dsimp
  refine VCE.mk _ kqp ?_
  simp -dsimp
  refine VC.mk _ ks ?_
  simp -dsimp
  refine VC.mk _ (refRight_at _ p rfl) ?_
  simp -dsimp
  refine VG.mk [.c (bln (right q))] _ (fun _ => refRight_at _ q rfl) rfl ?_
  simp -dsimp
  refine VIf.mk (fun h => ?_) (fun h => ?_)
  · simp -dsimp
  · simp at h
    obtain ⟨⟨h1, h2⟩, h3⟩ := h
    have hA := hap h3
    have hm := hme h1 h2 h3
    have ksm := ksm hm
    subst hA
    simp -dsimp
    refine VL.draw (by kernel_rfl) [(0, true), (1, true), (3, true), (7, true), (15, false), (15, false), (63, false), (15, false), (15, false), (511, false), (1023, false), (2047, false), (15, false), (15, false), (8207, false), (15, false), (32783, false), (122895, false), (262143, true), (524287, true), (1048575, true), (2097151, true)] (by kernel_rfl) ?_
    simp -dsimp
    refine VG.mk [.c (.sl cp.isEmpty (facts cp))] _ (fun _ => kp) rfl ?_
    simp -dsimp
    refine VG.mk [.c (.sl cq.isEmpty (facts cq))] _ (fun _ => kq) rfl ?_
    simp -dsimp
    refine ⟨by decide, VGO.own (hl := rfl) (h1 := rfl) (h2 := rfl) (h := ?_) ..⟩
    simp -dsimp
    refine VCE.mk _ kn ?_
    simp -dsimp
    refine VG.mk [.c (.sl M.isEmpty (facts M))] _ (fun _ => km) rfl ?_
    simp -dsimp
    refine VG.mk [.c (bln true)] _ (fun _ => ksm) rfl ?_
    simp -dsimp
end Go.Proofs.Ytmkbclnhopoiiaa
