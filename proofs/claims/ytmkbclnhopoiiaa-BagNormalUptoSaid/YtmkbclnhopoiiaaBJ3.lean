/- Contract: BagNormal. -/
import Derived.Test.YtmkbclnhopoiiaaBVA
import Derived.Test.YtmkbclnhopoiiaaBJ2
set_option linter.unusedSimpArgs false
set_option linter.unusedVariables false
namespace Go.Proofs.Ytmkbclnhopoiiaa
open Go.VL Go.RowKit

set_option maxRecDepth 4000 in
set_option maxHeartbeats 4000000 in
theorem both_spec (na nb : Bool) (a b : List Fact) (ha : a.length ≤ 1000000000000) (hb : b.length ≤ 1000000000000) : Con Try.prog 13 [.c (.sl na (facts a)), .c (.sl nb (facts b))] [.c (.sl false (facts (a ++ b)))] := by
  refine Con.frz (rs := [.fr false 3 (facts (a ++ b)) 0]) ?_ 0 rfl
  refine spec_of Try.func13 rfl (by kernel_rfl) (by simp [Try.f13]) (fun w0 K0 => vc_ok _ _ _ (by kernel_rfl) ?_)
  simp only [Try.f13]
  simp -dsimp [maxLen]
  exact ⟨by omega, by omega⟩

theorem strips_inj : ∀ {l m : List Fact}, (∀ f ∈ l, Normed f) → (∀ f ∈ m, Normed f) → strips l = strips m → l = m
  | [], [], _, _, _ => rfl
  | [], _ :: _, _, _, h => by simp [strips] at h
  | _ :: _, [], _, _, h => by simp [strips] at h
  | f :: l, g :: m, hl, hm, h => by
    unfold strips at h
    rw [List.map_cons, List.map_cons] at h
    obtain ⟨h1, h2⟩ := List.cons.inj h
    have e := strips_inj (l := l) (m := m) (fun x hx => hl x (by simp [hx])) (fun x hx => hm x (by simp [hx])) h2
    have h3 := hl f (by simp)
    have h4 := hm g (by simp)
    unfold Normed at h3 h4
    unfold Fact.strip at h1
    obtain ⟨e1, e2⟩ := Prod.mk.inj h1
    rw [e]
    congr 1
    cases f; cases g
    simp at e1 e2 h3 h4
    subst e1 e2
    simp [h3, h4]
theorem sliceE_snd (l : List Fact) (t : Int) (nl nl' : Bool) (m : List Fact) (hl : (sliceL l t).length ≤ 140737488355328) (hr : Rows1 l) : Con Try.prog 14 [.c (.sl nl (rowsE (sliceL l t))), .c (.sl nl' (rowsE (sliceL m t)))] [.c (bln (decide (sliceL l t = sliceL m t)))] := by
  have := sameRows_spec nl nl' (flE (sliceL l t)) (flE (sliceL m t)) (by unfold flE; rw [List.length_map]; exact hl) (fun x hx => by
    obtain ⟨r, hr0, rfl⟩ := List.mem_map.1 hx
    obtain ⟨f, hf, rfl⟩ := slice_row hr0
    exact hr f hf)
  rw [flE_rows, flE_rows, flE_snd, flE_snd] at this
  exact this
set_option maxRecDepth 4000 in
set_option maxHeartbeats 16000000 in
theorem bagNormal_spec {sortP : List Per → List Per} (hs : Sorts sortP) (hi : SortsI) (hf : SortsF) (na nb : Bool) (a b : List Fact) (c : Int) (la : a.length ≤ 200000000) (lb : b.length ≤ 200000000) (ra : Rows1 a) (rb : Rows1 b) : Con Try.prog 3 [.c (.sl na (facts a)), .c (.sl nb (facts b)), .c (i64 c)] [.c (bln true)] := by
  refine spec_of Try.func3 rfl (by kernel_rfl) (by simp [Try.f3]) (fun w0 K0 => vc_ok _ _ _ (by kernel_rfl) ?_)
  have kn := normal_con hs hi hf false na _ a rfl (by omega) ra
  have km := normal_con hs hi hf false nb _ b rfl (by omega) rb
  have ln := normal_len hs a
  have rn := normal_rows1 (sortP := sortP) ra
  have kb := both_spec na nb a b (by omega) (by omega)
  have kc := cells_spec false (a ++ b) (by rw [List.length_append]; omega) (fun f hf => by
    rcases List.mem_append.1 hf with h | h
    · exact ra f h
    · exact rb f h)
  have hE := edgesL_len (pers (a ++ b))
  rw [List.length_map, List.length_append] at hE
  have ksm := sameF_spec (normalL sortP a).isEmpty (normalL sortP b).isEmpty (normalL sortP a) (normalL sortP b) (by omega) rn
  have hst : decide (strips (normalL sortP a) = strips (normalL sortP b)) = decide (normalL sortP a = normalL sortP b) := by
    refine decide_eq_decide.2 ⟨fun e => ?_, fun e => by rw [e]⟩
    refine strips_inj (normal_form a).normed (normal_form b).normed e
  rw [hst, normal_same hs a b] at ksm
  have knn := normal_con hs hi hf false (normalL sortP a).isEmpty _ (normalL sortP a) rfl (by omega) rn
  rw [normal_self hs (normal_form a)] at knn
  have kss := sameF_true (normalL sortP a).isEmpty (normalL sortP a).isEmpty _ _ rfl (by omega) rn
  have lt := turnK_len c a a.length (Nat.le_refl _)
  have ktn := fun z => normal_con hs hi hf false z _ (turnK c a a.length) rfl (by omega) (turn_rows ra)
  rw [turn_normal hs c a] at ktn
  generalize normalL sortP a = n at *
  generalize normalL sortP b = m at *
  generalize a ++ b = L at *
  generalize edgesL (pers L) = E at *
  simp only [Try.f3]
  simp -dsimp
  refine VC.mk _ (awake_spec hs hi hf) ?_
  simp -dsimp
  refine ⟨by decide, VCL.snap ?_⟩
  simp -dsimp
  refine VC.mk _ kn ?_
  simp -dsimp
  refine ⟨by decide, VCL.snap ?_⟩
  simp -dsimp
  refine VC.mk _ km ?_
  simp -dsimp
  refine VC.mk _ kb ?_
  simp -dsimp
  refine VC.mk _ kc ?_
  simp -dsimp
  refine VL.loop (fun k : Nat => ⟨[(28, .c (i64 k)), (27, .c (i64 (E.length - 1 : Nat))), (26, .c (.sl (decide (E.length ≤ 1)) (cellsC L E (E.length - 1)))), (9, .c (bln (sameK a b E k))), (7, .c (.sl n.isEmpty (facts n))), (8, .c (.sl m.isEmpty (facts m))), (0, .c (.sl na (facts a))), (1, .c (.sl nb (facts b))), (2, .c (i64 c))], []⟩)
    (fun k => k ≤ E.length - 1) (fun k => E.length - 1 - k) 0 (by kernel_rfl) (by simp) (by simp [St.le, sameK]) ?_
  intro k hk
  by_cases h1 : k < E.length - 1
  · have hw : IntKind.i64.wrap ((k : Int) + 1) = (k : Int) + 1 := IntWalk.i64_in _ (by omega)
    have ka := slice_spec hf na a (ge E k) (by omega) ra
    have kbb := slice_spec hf nb b (ge E k) (by omega) rb
    have ksl := slice_len a (ge E k)
    have ksr := sliceE_snd a (ge E k) (sliceL a (ge E k)).isEmpty (sliceL b (ge E k)).isEmpty b (by omega) ra
    have hsn := sameK_snoc a b E k
    change sameK a b E (k + 1) = (sameK a b E k && decide (sliceL a (ge E k) = sliceL b (ge E k))) at hsn
    simp -dsimp [h1, cellC]
    refine VL.draw (by kernel_rfl) [(0, true), (1, true), (3, false), (3, false), (11, false), (31, false), (3, false), (3, false), (131, false), (511, true), (1023, true), (2047, true), (4095, true)] (by kernel_rfl) ?_
    cases hsk : sameK a b E k with
    | true =>
      rw [hsk, Bool.true_and] at hsn
      simp -dsimp
      refine VG.mk [.c (.sl (sliceL a (ge E k)).isEmpty (rowsE (sliceL a (ge E k))))] _ (fun _ => ka) rfl ?_
      simp -dsimp
      refine VG.mk [.c (.sl (sliceL b (ge E k)).isEmpty (rowsE (sliceL b (ge E k))))] _ (fun _ => kbb) rfl ?_
      simp -dsimp
      refine VG.mk [.c (bln (decide (sliceL a (ge E k) = sliceL b (ge E k))))] _ (fun _ => ksr) rfl ?_
      simp -dsimp [hw]
      refine ⟨k + 1, by omega, ?_, by omega⟩
      simp [St.le, hsn]
    | false =>
      rw [hsk, Bool.false_and] at hsn
      simp -dsimp
      refine VG.mk [.c (.sl true [])] _ (fun h => Bool.noConfusion h) rfl ?_
      simp -dsimp
      refine VG.mk [.c (.sl true [])] _ (fun h => Bool.noConfusion h) rfl ?_
      simp -dsimp
      refine VG.mk [.c (bln false)] _ (fun h => Bool.noConfusion h) rfl ?_
      simp -dsimp [hw]
      refine ⟨k + 1, by omega, ?_, by omega⟩
      simp [St.le, hsn]
  · obtain rfl : k = E.length - 1 := by omega
    simp -dsimp
    refine VC.mk _ ksm ?_
    simp -dsimp
    refine ⟨by decide, VGL.call (args := [.tmp 52]) _ _ _ _ _ rfl rfl rfl ?_⟩
    simp -dsimp
    refine VCL.snap ?_
    simp -dsimp
    refine VC.mk _ knn ?_
    simp -dsimp
    refine VG.mk [.c (bln true)] _ (fun _ => kss) rfl ?_
    simp -dsimp
    refine VL.loop (fun i : KI => ⟨[(13, .c (i64 ((a.length : Int) - 1 - i.k))), (12, .own 768 (turnK c a i.k).length), (7, .c (.sl n.isEmpty (facts n))), (0, .c (.sl na (facts a))), (2, .c (i64 c))], [(768, some (.arr i.nl i.sz (facts (turnK c a i.k)) 0))]⟩)
      (fun i => i.k ≤ a.length ∧ i.nl = decide (i.k = 0) ∧ i.sz = if i.nl then 0 else 3) (fun i => a.length - i.k) ⟨0, true, 0⟩ (by kernel_rfl) ⟨by simp, rfl, rfl⟩ ?_ ?_
    · have hw0 : IntKind.i64.wrap ((a.length : Int) - 1) = (a.length : Int) - 1 := IntWalk.i64_in _ (by omega)
      simp [St.le, turnK, hw0]
    intro ⟨k, z, sz⟩ ⟨hk, hz, hsz⟩
    simp only at hk hz hsz
    have hlk := turnK_len c a k hk
    by_cases h2 : k < a.length
    · have hge : ((k : Int) ≤ (a.length : Int) - 1) = True := by simp; omega
      have hw : IntKind.i64.wrap ((a.length : Int) - 1 - k - 1) = (a.length : Int) - 1 - ((k + 1 : Nat) : Int) := by rw [IntWalk.i64_in _ (by omega)]; omega
      have hnat : ((a.length : Int) - 1 - k).toNat = a.length - 1 - k := by omega
      have h3 : a.length - 1 - k < a.length := by omega
      have hsn := turnK_snoc c a h2
      simp -dsimp [hge, hnat, h3, Fact.cells]
      refine VC.mk _ (refRight_at _ a[a.length - 1 - k].p rfl) ?_
      generalize a[a.length - 1 - k] = f at *
      simp -dsimp
      refine VIf.mk (fun h => ?_) (fun h => ?_)
      · have e : cutF c f = [⟨f.nl, f.row, ⟨f.p.f, c⟩⟩, ⟨f.nl, f.row, ⟨c, f.p.t⟩⟩] := by unfold cutF; rw [if_pos (by simpa [and_assoc] using h)]
        rw [e] at hsn
        simp -dsimp [hw, maxLen]
        refine ⟨fun e => by rw [hsz, e]; rfl, by omega, ⟨k + 1, false, 3⟩, ⟨by simp only; omega, by simp, rfl⟩, ?_, by simp only; omega⟩
        simp [St.le, hsn, Fact.cells]
      · have e : cutF c f = [f] := by unfold cutF; rw [if_neg (by rw [Bool.not_eq_true]; simpa [Bool.and_assoc] using h)]
        rw [e] at hsn
        simp -dsimp [hw, maxLen]
        refine ⟨fun e => by rw [hsz, e]; rfl, by omega, ⟨k + 1, false, 3⟩, ⟨by simp only; omega, by simp, rfl⟩, ?_, by simp only; omega⟩
        simp [St.le, hsn, Fact.cells]
    · obtain rfl : k = a.length := by omega
      have hge : ((a.length : Int) ≤ (a.length : Int) - 1) = False := by simp; omega
      simp -dsimp [hge]
      refine ⟨by decide, VCL.snap ?_⟩
      simp -dsimp
      refine VC.mk _ (ktn z) ?_
      simp -dsimp
      refine VC.mk _ kss ?_
      simp -dsimp
end Go.Proofs.Ytmkbclnhopoiiaa
