/- Contracts of functions of the seat, proved in a logic on data over the model (part T1). -/
import Derived.Test.YtddhmoffjpnbgaaTA
import Derived.Test.YtddhmoffjpnbgaaVY3
set_option linter.unusedSimpArgs false
set_option linter.unusedVariables false
namespace Go.Proofs.Ytddhmoffjpnbgaa
open Go.VL Go.RowKit

/-- a page that was touched -/
structure Tou where
  page : Int
  first : Int
  last : Int
def Tou.cells (t : Tou) : List C := [i64 t.page, i64 t.first, i64 t.last]
/-- a map of pages: the key is the page's number -/
def pgE (l : List Tou) : List (Value × List C) := l.map fun t => (.int .i64 t.page, t.cells)
def pgB (l : List Tou) : List (Nat × Res) := [(1, .box false [.mp 2]), (2, .map (.ents (mpE (pgE l))))]
def isTou (x : List S) : Prop := ∃ t : Tou, x = [.agg t.cells]
def pgQ (l : List Tou) (ys : List (List S)) : Prop := ∃ m : List Tou, m.Perm l ∧ ys = m.map fun t => [.agg t.cells]

set_option maxRecDepth 4000 in
set_option maxHeartbeats 8000000 in
theorem values1_spec (l : List Tou) : ConY Try.prog 28 [.ptr 1 0] (pgB l) l.length isTou (pgQ l) := by
  refine spec_ofY Try.func28 rfl (by kernel_rfl) (by simp [Try.f28]) rfl (fun w0 K0 lp Kc J hJ hY => ?_)
  simp only [Try.f28]
  refine VWJ.seq (VWJ.plain hJ (by kernel_rfl) (fun w1 K1 => ?_))
  simp -dsimp [initY, initEnv, pgB]
  intro bm
  have hlen : (mpE (pgE l)).length = l.length := by simp [mpE, pgE]
  rw [hlen]
  refine VWJ.block (VWJ.loop (fun seen : List Nat => ⟨[(6, .mp 384), (0, .c (.v (.func (.yield lp) #[] #[])))], [(384, some (.map (.iter bm l.length seen))), (385, some (.pin (.map (some bm)) (.mp 2))), (2, some (.map (.ents (mpE (pgE l)))))]⟩)
    (fun seen => seen.map fun j => [.agg ((l[j]?.map Tou.cells).getD [])]) (fun seen => seen.Nodup ∧ ∀ j ∈ seen, j < l.length) (fun seen => l.length - seen.length) [] (by simp) (by simp [St.le]) rfl (fun seen hseen => ?_))
  have hkeys : ((pgE l).all fun x => x.1.oneCell') = true := by simp [pgE, List.all_map, Function.comp_def, Value.oneCell']
  refine VWJ.seq (VWJ.plain hJ (by kernel_rfl) (fun w1 K1 => ?_))
  simp -dsimp
  refine ⟨by simp [pgE], fun a b hab => by
      obtain ⟨x, _, e⟩ := List.mem_map.1 hab
      cases e
      rfl, fun hover => ?_, fun j hj hjs => ?_⟩
  · refine VWJ.seq (VWJ.plain hJ (by kernel_rfl) (fun w1 K1 => ?_))
    simp -dsimp
    have hp := todo_perm hseen.1 hseen.2 hover
    refine ⟨seen.map fun j => (l[j]?).getD ⟨0, 0, 0⟩, ?_, ?_⟩
    · have h1 := hp.map fun j => (l[j]?).getD (⟨0, 0, 0⟩ : Tou)
      have h2 : ((List.range l.length).map fun j => (l[j]?).getD (⟨0, 0, 0⟩ : Tou)) = l := by
        refine List.ext_getElem (by simp) fun i h1 h2 => ?_
        simp [List.getElem?_eq_getElem h2]
      rw [h2] at h1
      exact h1
    · rw [List.map_map]
      refine List.map_congr_left fun j hj => ?_
      have := hseen.2 j hj
      simp [this]
  · have hjl : j < l.length := by simpa [pgE] using hj
    have hpj : (pgE l)[j] = (.int .i64 l[j].page, l[j].cells) := by simp [pgE]
    have hent : entS (l[j].cells.map S.c) = .agg l[j].cells := entS_map _ (by simp [Tou.cells])
    have hlt : seen.length < l.length := by
      have := nodup_lt l.length (j :: seen) (List.nodup_cons.2 ⟨hjs, hseen.1⟩) (fun i hi => by
        rcases List.mem_cons.1 hi with rfl | hi
        · exact hjl
        · exact hseen.2 i hi)
      simp at this; omega
    refine VWJ.seq (VWJ.plain hJ (by kernel_rfl) (fun w1 K1 => ?_))
    simp -dsimp
    refine VWJ.block ?_
    refine VWJ.seq (VWJ.plain hJ (by kernel_rfl) (fun w1 K1 => ?_))
    have hen := fun (d : Option Nat) (st : St) (K : St → Prop) => ven3_mpE (st := st) (K := K) d bm l.length seen j bm (pgE l) hj
    simp -dsimp [hen, hpj, hent, Value.oneCell']
    simp -dsimp [Tou.cells]
    refine ⟨by simp [pgE], ?_⟩
    refine VWJ.seq (VWJ.region (by kernel_rfl) (by kernel_rfl) (VRSJ.run hJ 2 ?_))
    simp -dsimp
    refine VRSJ.yield hJ hY (by simp) [.agg l[j].cells] (by simp [Tou.cells]) ⟨_, rfl⟩ (by simp [flatS, flatC, Tou.cells]) (by simpa using hlt) ?_
    refine VRSJ.run hJ 1 ?_
    simp -dsimp
    refine VRSJ.nil ?_
    refine VWJ.plain hJ (by kernel_rfl) (fun w1 K1 => ?_)
    simp -dsimp
    refine ⟨seen ++ [j], ⟨?_, ?_⟩, ?_, ?_, ?_⟩
    · rw [List.nodup_append]
      exact ⟨hseen.1, by simp, fun a ha b hb => by simp at hb; subst hb; exact fun e => hjs (e ▸ ha)⟩
    · intro i hi
      rcases List.mem_append.1 hi with hi | hi
      · exact hseen.2 i hi
      · simp at hi; subst hi; exact hjl
    · simp [St.le]
    · simp [hjl]
    · simp; omega
end Go.Proofs.Ytddhmoffjpnbgaa
