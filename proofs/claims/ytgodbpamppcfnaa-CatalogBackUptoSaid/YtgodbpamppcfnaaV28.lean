/-
  A logic on data over the model's walk, part 28: a nil slice in a cell of one's own variable becomes an own row.
-/
import Derived.Test.YtgodbpamppcfnaaV27
set_option linter.unusedSimpArgs false
set_option linter.unusedVariables false
namespace Go.VL
open Go.RowKit

theorem T.nilcell {w0 : World} {K0 : K0T} {nt : Nat} {st : St} {a : Act} {w : World} {g : G} (h : T w0 K0 nt st a w g) {i N k : Nat} {ss : List S} (_ : N ≠ i)
    (hi : ((st.clr N).setR N (some (.arr true 0 [] 0))).rs i = some (.box false ss)) (hk : ss[k]? = some (.c (.sl true []))) :
    ∃ g', T w0 K0 nt (((st.clr N).setR N (some (.arr true 0 [] 0))).setR i (some (.box false (ss.set k (.own N 0))))) a w g' := by
  obtain ⟨g1, h1, hl, _, _⟩ := h.nilR N
  refine ⟨g1, T.mod h1 hi (Bel.refl _ _ _) (Keeps.refl _ _) h1.kold h1.klt rfl (fun j r b _ _ _ => ⟨rfl, fun _ k => k⟩) (.inl ⟨_, _, _, _, rfl, rfl⟩) (fun hc => ?_)⟩
  obtain ⟨b, cur, E, e1, e2, e3, e4, e5, e6⟩ := h1.res i _ hi
  refine ⟨b, cur, E, e1, e2, e3, by simpa using e4, fun k' s hs => ?_, e6⟩
  rw [List.getElem?_set] at hs
  by_cases e : k = k'
  · subst e
    rw [if_pos rfl] at hs
    have hlt : k < ss.length := (List.getElem?_eq_some_iff.1 hk).1
    rw [if_pos hlt] at hs
    simp at hs
    subst hs
    obtain ⟨u, m1, m2, m3⟩ := e5 k _ hk
    refine ⟨u, m1, ?_, m3⟩
    rw [SR, CR] at m2
    rcases m2 with ⟨_, _, rfl⟩ | ⟨hf, _⟩
    · rw [SR]
      intro nil sz xs fx _ _
      exact hl.symm
    · simp at hf
  · rw [if_neg e] at hs
    obtain ⟨u, m1, m2, m3⟩ := e5 k' s hs
    exact ⟨u, m1, SR.mono (Keeps.refl _ _) s u (fun j _ => hc j) m2, m3⟩

def nilB (r : Option Res) (i k N : Nat) (st1 : St) (K : St → Prop) : Prop :=
  match r with
  | some (.box false ss) => ss[k]? = some (.c (.sl true [])) ∧ K (st1.setR i (some (.box false (ss.set k (.own N 0)))))
  | _ => False
@[simp] theorem nilB_box (ss : List S) (i k N : Nat) (st1 : St) (K : St → Prop) : nilB (some (.box false ss)) i k N st1 K = (ss[k]? = some (.c (.sl true [])) ∧ K (st1.setR i (some (.box false (ss.set k (.own N 0)))))) := rfl

/-- A NIL SLICE in cell k of one's own variable i is an own row, N, from now on -/
theorem VL.nilcell {P : Program} {w0 : World} {K0 : K0T} {nt : Nat} {c : Code} {st : St} {Q : Exit → St → Prop} (i k N : Nat) (hne : N ≠ i)
    (h : force (tick ((st.clr N).setR N (some (.arr true 0 [] 0)))) fun st1 => nilB (st1.rs i) i k N st1 fun st' => force (tick st') fun st' => VL P w0 K0 nt c st' Q .mk .mk) : VL P w0 K0 nt c st Q .mk .mk := by
  intro a w g hT
  have h' : nilB (((st.clr N).setR N (some (.arr true 0 [] 0))).rs i) i k N ((st.clr N).setR N (some (.arr true 0 [] 0))) fun st' => VL P w0 K0 nt c st' Q .mk .mk := h
  unfold nilB at h'
  split at h'
  · rename_i ss hi
    obtain ⟨g', hT'⟩ := hT.nilcell hne hi h'.1
    exact h'.2 a w g' hT'
  · exact h'.elim
/-- what is no longer asked of is forgotten -/
theorem VL.to {P : Program} {w0 : World} {K0 : K0T} {nt : Nat} {c : Code} {st : St} {Q : Exit → St → Prop} (st' : St) (hle : st.le st') (h : VL P w0 K0 nt c st' Q .mk .mk) : VL P w0 K0 nt c st Q .mk .mk :=
  fun a w g hT => h a w g (hT.weaken hle)
end Go.VL
