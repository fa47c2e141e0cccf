/- Contract: DmlClashes. -/
import Derived.Test.YtkfiiomdkljjnaaE6
import Derived.Test.YtkfiiomdkljjnaaD12
set_option linter.unusedSimpArgs false
set_option linter.unusedVariables false
namespace Go.Proofs.Ytkfiiomdkljjnaa
open Go.VL Go.RowKit

theorem Rows1.after {sortP : List Per → List Per} (hs : Sorts sortP) {l : List Fact} (h : Rows1 l) (p : Per) : Rows1 (afterDel sortP l p) := by
  rw [afterDel_eq]
  refine Rows1.app (fun f hf => h f (List.mem_filter.1 hf).1) fun x hx => ?_
  obtain ⟨g, hg, hx⟩ := List.mem_flatMap.1 hx
  rw [(rest_sub hs hx).1]
  exact h g (List.mem_filter.1 hg).1
theorem Rows1.delA {sortP : List Per → List Per} (hs : Sorts sortP) {l : List Fact} (h : Rows1 l) (p : Per) : Rows1 (delA sortP l p) := by
  intro x hx
  rw [delA_eq] at hx
  obtain ⟨g, hg, hx⟩ := List.mem_flatMap.1 hx
  rw [(rest_sub hs hx).1]
  exact h g (List.mem_filter.1 hg).1
theorem afterDel_len {sortP : List Per → List Per} (l : List Fact) (p : Per) : (afterDel sortP l p).length ≤ l.length + (Go.Proofs.Ytkfiiomdkljjnaa.delA sortP l p).length := by
  unfold afterDel applyF
  have := keep_len (goneE (delE sortP l p)) l l.length
  rw [List.length_append]; omega
theorem delA_len {sortP : List Per → List Per} (hs : Sorts sortP) (l : List Fact) (p : Per) : (delA sortP l p).length ≤ 2 * l.length :=
  Nat.le_trans (flat_len _ (partsK_rests hs l p _)) (Nat.mul_le_mul_left 2 (partsK_len _ _ _ _))
theorem delE_len {sortP : List Per → List Per} (l : List Fact) (p : Per) : (delE sortP l p).length ≤ l.length := by
  unfold delE; rw [List.length_map]; exact partsK_len _ _ _ _
theorem val_eq (a b : Val) : (a.kind == b.kind && (a.int == b.int && decide (a.text = b.text))) = decide (a = b) := by
  rw [Bool.eq_iff_iff]; cases a; cases b; simp
def alikeSo (keys : List Int) (a b : List Val) (k : Nat) : Bool := decide (0 < keys.length) && (keys.take k).all (alikeK a b)
theorem alikeSo_end (keys : List Int) (a b : List Val) : alikeSo keys a b keys.length = alike a b keys := by
  unfold alikeSo alike; rw [List.take_length, Bool.and_comm]
theorem alikeSo_step (keys : List Int) (a b : List Val) {k : Nat} (h : k < keys.length) : alikeSo keys a b (k + 1) = (alikeSo keys a b k && alikeK a b keys[k]) := by
  unfold alikeSo; rw [all_snoc _ h, Bool.and_assoc]

set_option maxRecDepth 4000 in
set_option maxHeartbeats 16000000 in
theorem clashes_spec {sortP : List Per → List Per} (hs : Sorts sortP) (nl nk : Bool) (l : List Fact) (p : Per) (keys : List Int) (hl : l.length ≤ 300000000) (hr : Rows1 l) (hk : keys.length ≤ 140737488355328) :
    Con Try.prog 4 [.c (.sl nl (facts l)), .agg p.cells, .c (.sl nk (keys.map icell))] [.c (bln true)] := by
  refine spec_of Try.func4 rfl (by kernel_rfl) (by simp [Try.f4]) (fun w0 K0 => vc_ok _ _ _ (by kernel_rfl) ?_)
  simp only [Try.f4]
  simp -dsimp [Per.cells]
  refine VC.mk _ (awake_spec hs) ?_
  simp -dsimp
  refine VL.loop (fun k : Nat => ⟨[(31, .c (i64 k)), (30, .c (i64 l.length)), (29, .c (.sl nl (facts l))), (0, .c (.sl nl (facts l))), (2, .c (.sl nk (keys.map icell))), (4, .ptr 256 0)], [(256, some (.box false [.c (i64 p.f), .c (i64 p.t)]))]⟩)
    (fun k => k ≤ l.length ∧ ∀ f ∈ l.take k, f.row.length = 2) (fun k => l.length - k) 0 (by kernel_rfl) ⟨by simp, by simp⟩ (by simp [St.le]) ?_
  intro k ⟨hkl, h2⟩
  by_cases h1 : k < l.length
  · have hw : IntKind.i64.wrap ((k : Int) + 1) = (k : Int) + 1 := IntWalk.i64_in _ (by omega)
    simp -dsimp [h1, Fact.cells]
    refine VIf.mk (fun h => ?_) (fun h => ?_)
    · simp -dsimp
    · simp -dsimp [hw]
      refine ⟨k + 1, ⟨by omega, ?_⟩, ?_, by omega⟩
      · intro f hf
        rw [take_snoc h1, List.mem_append, List.mem_singleton] at hf
        rcases hf with hf | rfl
        · exact h2 f hf
        · simp at h; omega
      · simp [St.le]
  obtain rfl : k = l.length := by omega
  rw [List.take_length] at h2
  clear h1
  simp -dsimp
  refine VL.loop (fun k : Nat => ⟨[(42, .c (i64 k)), (41, .c (i64 keys.length)), (40, .c (.sl nk (keys.map icell))), (0, .c (.sl nl (facts l))), (2, .c (.sl nk (keys.map icell))), (4, .ptr 256 0)], [(256, some (.box false [.c (i64 p.f), .c (i64 p.t)]))]⟩)
    (fun k => k ≤ keys.length ∧ ∀ x ∈ keys.take k, x = 0 ∨ x = 1) (fun k => keys.length - k) 0 (by kernel_rfl) ⟨by simp, by simp⟩ (by simp [St.le]) ?_
  intro k ⟨hkk, hks⟩
  by_cases h1 : k < keys.length
  · have hw : IntKind.i64.wrap ((k : Int) + 1) = (k : Int) + 1 := IntWalk.i64_in _ (by omega)
    simp -dsimp [h1, icell]
    refine VIf.mk (fun h => ?_) (fun h => ?_)
    · simp -dsimp
    · simp -dsimp [hw]
      refine ⟨k + 1, ⟨by omega, ?_⟩, ?_, by omega⟩
      · intro x hx
        rw [take_snoc h1, List.mem_append, List.mem_singleton] at hx
        rcases hx with hx | rfl
        · exact hks x hx
        · simp at h; omega
      · simp [St.le, icell]
  obtain rfl : k = keys.length := by omega
  rw [List.take_length] at hks
  clear h1
  simp -dsimp
  refine VC.mk _ (clash_spec nl nk l keys (by omega) hr hk) ?_
  simp -dsimp
  refine VC.mk _ (cells_spec nl l (by omega) hr) ?_
  have hfound := found_law l keys
  obtain ⟨E, hE⟩ : ∃ E, E = edgesL (pers l) := ⟨_, rfl⟩
  have hEl := edgesL_len (pers l)
  rw [List.length_map] at hEl
  rw [← hE] at hfound hEl ⊢
  simp -dsimp
  obtain ⟨n, hn⟩ : ∃ n, n = E.length - 1 := ⟨_, rfl⟩
  rw [← hn] at hfound ⊢
  have hrows : ∀ t, ∀ r ∈ rowsAt l t, r.length = 2 := fun t r hr => by
    obtain ⟨f, hf, _, rfl⟩ := rowsAt_mem hr
    exact h2 f hf
  refine VL.loop (fun c : Nat => ⟨[(63, .c (i64 c)), (62, .c (i64 n)), (61, .c (.sl (decide (E.length ≤ 1)) (cellsC l E n))), (14, .c (bln (foundC l E keys c))), (13, .c (bln (clashR l keys).isSome)), (0, .c (.sl nl (facts l))), (2, .c (.sl nk (keys.map icell))), (4, .ptr 256 0)],
      [(256, some (.box false [.c (i64 p.f), .c (i64 p.t)]))]⟩)
    (fun c => c ≤ n) (fun c => n - c) 0 (by kernel_rfl) (by simp) (by simp [St.le, foundC]) ?_
  intro c hc
  by_cases h1 : c < n
  · have hw : IntKind.i64.wrap ((c : Int) + 1) = (c : Int) + 1 := IntWalk.i64_in _ (by omega)
    have hR := hrows (ge E c)
    have hRl := rowsAt_len l (ge E c)
    have hfc : foundC l E keys (c + 1) = (foundC l E keys c || foundI (rowsAt l (ge E c)) keys (rowsAt l (ge E c)).length) := by
      unfold foundC; rw [List.range_succ, List.any_append]; simp
    simp -dsimp [h1, cellC]
    generalize rowsAt l (ge E c) = R at hR hRl hfc ⊢
    generalize foundC l E keys c = F at hfc ⊢
    refine VL.loop (fun i : Nat => ⟨[(70, .c (i64 i)), (69, .c (i64 R.length)), (16, .ptr 1024 0), (63, .c (i64 c)), (62, .c (i64 n)), (61, .c (.sl (decide (E.length ≤ 1)) (cellsC l E n))), (14, .c (bln (F || foundI R keys i))), (13, .c (bln (clashR l keys).isSome)), (0, .c (.sl nl (facts l))), (2, .c (.sl nk (keys.map icell))), (4, .ptr 256 0)],
        [(1024, some (.box false [.c (i64 (ge E c)), .c (i64 (ge E (c + 1))), .c (.sl R.isEmpty (rowsC R))])), (256, some (.box false [.c (i64 p.f), .c (i64 p.t)]))]⟩)
      (fun i => i ≤ R.length) (fun i => R.length - i) 0 (by kernel_rfl) (by simp) (by simp [St.le, foundI]) ?_
    intro i hi
    by_cases h3 : i < R.length
    · have hw2 : IntKind.i64.wrap ((i : Int) + 1) = (i : Int) + 1 := IntWalk.i64_in _ (by omega)
      have hfi : foundI R keys (i + 1) = (foundI R keys i || anyJ R keys i i) := by
        unfold foundI; rw [List.range_succ, List.any_append]; simp
      have hmin : min i R.length = i := by omega
      simp -dsimp [h3]
      refine ⟨⟨by omega, fun e he => by obtain ⟨r, _, rfl⟩ := List.mem_map.1 he; rfl⟩, ?_⟩
      refine VL.loop (fun j : Nat => ⟨[(78, .c (i64 j)), (77, .c (i64 i)), (17, .c (i64 i)), (14, .c (bln (F || foundI R keys i || anyJ R keys i j))), (70, .c (i64 i)), (69, .c (i64 R.length)), (16, .ptr 1024 0), (63, .c (i64 c)), (62, .c (i64 n)), (61, .c (.sl (decide (E.length ≤ 1)) (cellsC l E n))), (13, .c (bln (clashR l keys).isSome)), (0, .c (.sl nl (facts l))), (2, .c (.sl nk (keys.map icell))), (4, .ptr 256 0)], [(1024, some (.box false [.c (i64 (ge E c)), .c (i64 (ge E (c + 1))), .c (.sl R.isEmpty (rowsC R))])), (256, some (.box false [.c (i64 p.f), .c (i64 p.t)]))]⟩)
        (fun j => j ≤ i) (fun j => i - j) 0 (by kernel_rfl) (by simp) (by simp [St.le, anyJ, hmin]) ?_
      intro j hj
      by_cases h4 : j < i
      · have hw3 : IntKind.i64.wrap ((j : Int) + 1) = (j : Int) + 1 := IntWalk.i64_in _ (by omega)
        have h5 : j < R.length := by omega
        have hai : anyJ R keys i (j + 1) = (anyJ R keys i j || alike R[i] R[j] keys) := by
          unfold anyJ; rw [List.range_succ, List.any_append]; simp [h3, h5]
        have hri : R[i].length = 2 := hR _ (List.getElem_mem h3)
        have hrj : R[j].length = 2 := hR _ (List.getElem_mem h5)
        simp -dsimp [h4]
        refine VL.loop (fun k : Nat => ⟨[(86, .c (i64 k)), (85, .c (i64 keys.length)), (84, .c (.sl nk (keys.map icell))), (19, .c (bln (alikeSo keys R[i] R[j] k))), (18, .c (i64 j)), (78, .c (i64 j)), (77, .c (i64 i)), (17, .c (i64 i)), (14, .c (bln (F || foundI R keys i || anyJ R keys i j))), (70, .c (i64 i)), (69, .c (i64 R.length)), (16, .ptr 1024 0), (63, .c (i64 c)), (62, .c (i64 n)), (61, .c (.sl (decide (E.length ≤ 1)) (cellsC l E n))), (13, .c (bln (clashR l keys).isSome)), (0, .c (.sl nl (facts l))), (2, .c (.sl nk (keys.map icell))), (4, .ptr 256 0)], [(1024, some (.box false [.c (i64 (ge E c)), .c (i64 (ge E (c + 1))), .c (.sl R.isEmpty (rowsC R))])), (256, some (.box false [.c (i64 p.f), .c (i64 p.t)]))]⟩)
          (fun k => k ≤ keys.length) (fun k => keys.length - k) 0 (by kernel_rfl) (by simp) (by simp [St.le, alikeSo]) ?_
        intro k hkk2
        by_cases h6 : k < keys.length
        · have hw4 : IntKind.i64.wrap ((k : Int) + 1) = (k : Int) + 1 := IntWalk.i64_in _ (by omega)
          have hst := alikeSo_step keys R[i] R[j] h6
          have hx := hks keys[k] (List.getElem_mem h6)
          simp -dsimp [h6, icell]
          refine VL.draw (by kernel_rfl) [(0, true), (1, true), (3, false), (7, false), (3, false), (31, false), (63, false), (3, false), (255, false), (511, false), (3, false), (1027, false), (3, false), (7171, false), (15363, false), (3, false), (64515, false), (130051, false), (262143, true), (524287, true), (1048575, true)] (by kernel_rfl) ?_
          rcases Bool.eq_false_or_eq_true (alikeSo keys R[i] R[j] k) with hA | hA
          · rw [hA, Bool.true_and] at hst
            rw [hA]
            rcases hx with hx | hx
            · rw [hx] at hst ⊢
              have hin := alikeK_in R[i] R[j] 0 (by omega) (by omega)
              have g1 : 0 < R[i].length := by omega
              have g2 : 0 < R[j].length := by omega
              simp -dsimp [h3, h5, g1, g2, hw4, Val.cells]
              refine ⟨k + 1, by omega, ?_, by omega⟩
              have e : alikeSo keys R[i] R[j] (k + 1) = (R[i][0].kind == R[j][0].kind && (R[i][0].int == R[j][0].int && decide (R[i][0].text = R[j][0].text))) := by
                rw [hst, val_eq]; exact hin
              simp [St.le, e, icell]
            · rw [hx] at hst ⊢
              have hin := alikeK_in R[i] R[j] 1 (by omega) (by omega)
              have g1 : 1 < R[i].length := by omega
              have g2 : 1 < R[j].length := by omega
              simp -dsimp [h3, h5, g1, g2, hw4, Val.cells]
              refine ⟨k + 1, by omega, ?_, by omega⟩
              have e : alikeSo keys R[i] R[j] (k + 1) = (R[i][1].kind == R[j][1].kind && (R[i][1].int == R[j][1].int && decide (R[i][1].text = R[j][1].text))) := by
                rw [hst, val_eq]; exact hin
              simp [St.le, e, icell]
          · rw [hA, Bool.false_and] at hst
            rw [hA]
            rcases hx with hx | hx
            · rw [hx]
              have g1 : 0 < R[i].length := by omega
              have g2 : 0 < R[j].length := by omega
              simp -dsimp [h3, h5, g1, g2, hw4, Val.cells]
              refine ⟨k + 1, by omega, ?_, by omega⟩
              simp [St.le, hst, icell]
            · rw [hx]
              have g1 : 1 < R[i].length := by omega
              have g2 : 1 < R[j].length := by omega
              simp -dsimp [h3, h5, g1, g2, hw4, Val.cells]
              refine ⟨k + 1, by omega, ?_, by omega⟩
              simp [St.le, hst, icell]
        · obtain rfl : k = keys.length := by omega
          rw [alikeSo_end]
          simp -dsimp [hw3]
          refine ⟨j + 1, by omega, ?_, by omega⟩
          simp [St.le, hai, Bool.or_assoc]
      · obtain rfl : j = i := by omega
        simp -dsimp [hw2]
        refine ⟨j + 1, by omega, ?_, by omega⟩
        simp [St.le, hfi, Bool.or_assoc]
    · obtain rfl : i = R.length := by omega
      simp -dsimp [hw]
      refine ⟨c + 1, by omega, ?_, by omega⟩
      simp [St.le, hfc]
  · obtain rfl : c = n := by omega
    simp -dsimp
    refine VC.mk _ (delete_spec hs nl true l p (by omega) hr) ?_
    simp -dsimp
    have hdl := delA_len hs l p
    have hde := delE_len (sortP := sortP) l p
    refine VC.mk _ (apply_ok nl _ _ l (delE sortP l p) (delA sortP l p) (by omega) hr (by omega) (by omega) (Rows1.delA hs hr p) (endsE_del l p)) ?_
    simp -dsimp
    have hal := afterDel_len (sortP := sortP) l p
    have hclash := clash_spec (afterDel sortP l p).isEmpty nk ((afterDel sortP l p).map owned) keys (by simp; omega) ((hr.after hs p).owned) hk
    rw [show facts ((afterDel sortP l p).map owned) = (afterDel sortP l p).map (Fact.cells ∘ owned) from List.map_map ..] at hclash
    refine VC.mk _ hclash ?_
    have hst := still_law hs keys l p
    simp -dsimp [hfound]
    rw [hfound] at hst
    simpa using hst
end Go.Proofs.Ytkfiiomdkljjnaa
