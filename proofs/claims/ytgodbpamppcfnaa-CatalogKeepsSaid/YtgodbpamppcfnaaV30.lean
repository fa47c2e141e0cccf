/-
  A logic on data over the model's walk, part 30: a fresh row among a contract's results, told as a datum.
-/
import Derived.Test.YtgodbpamppcfnaaVC
set_option linter.unusedSimpArgs false
set_option linter.unusedVariables false
namespace Go.VL
open Go.RowKit

theorem Con.frz {P : Program} {f : FuncId} {args : List S} {rs : List Rt} (h : Con P f args rs) (k : Nat) {nil : Bool} {sz : Nat} {xs : List (List C)} {fx : Nat} (hk : rs[k]? = some (.fr nil sz xs fx)) :
    Con P f args (rs.set k (.c (.sl nil xs))) := by
  refine fun w K us hK hu => (h w K us hK hu).mono fun e w' ⟨vs, he, hb, K', q1, q2, q3, q4⟩ => ⟨vs, he, hb, ?_⟩
  obtain ⟨r1, r2, r3⟩ := q4
  have hkl : k < rs.length := (List.getElem?_eq_some_iff.1 hk).1
  obtain ⟨v, hv⟩ : ∃ v, vs[k]? = some v := ⟨vs[k]'(by omega), List.getElem?_eq_getElem (by omega)⟩
  have hr := r2 k _ v hk hv
  rcases hr with ⟨rfl, rfl, hl, _⟩ | ⟨rfl, b, cap, cur, E, hl, hB, hh, h4, h5, h6, h7, h8, h9⟩
  · refine ⟨K', q1, q2, q3, by simp [r1], fun j r u hj hu => ?_, fun i j r r' u u' hne hi hj hui huj f1 f2 => ?_⟩
    · rw [List.getElem?_set] at hj
      by_cases e : k = j
      · subst e
        rw [if_pos rfl, if_pos hkl] at hj
        cases hj
        rw [hv] at hu
        cases hu
        rw [RtR, CR]
        exact .inl ⟨rfl, rfl, hl⟩
      · rw [if_neg e] at hj
        exact r2 j r u hj hu
    · have nk : ∀ {j r}, (rs.set k (.c (.sl true [])))[j]? = some r → isFr r = true → rs[j]? = some r := fun {j r} hj hf => by
        rw [List.getElem?_set] at hj
        by_cases e : k = j
        · subst e; rw [if_pos rfl, if_pos hkl] at hj; cases hj; cases hf
        · rw [if_neg e] at hj; exact hj
      exact r3 i j r r' u u' hne (nk hi f1) (nk hj f2) hui huj f1 f2
  · have hbl : b < w'.heap.size := (Array.getElem?_eq_some_iff.1 hh).1
    have hl' : v = .slice (some ⟨b, 0, none⟩) xs.length cap := hl
    refine ⟨fun b' o => K' b' o ∨ (b' = b ∧ o < xs.length * sz), fun b' o hk => .inl (q1 b' o hk), fun b' o hk hlt => ?_, fun b' o hk => ?_, by simp [r1], fun j r u hj hu => ?_, fun i j r r' u u' hne hi hj hui huj f1 f2 => ?_⟩
    · rcases hk with hk | ⟨rfl, _⟩
      · exact q2 b' o hk hlt
      · omega
    · rcases hk with hk | ⟨rfl, _⟩
      · exact q3 b' o hk
      · exact hbl
    · have kp : Keeps K' w' (fun b' o => K' b' o ∨ (b' = b ∧ o < xs.length * sz)) w' := ⟨fun _ _ h => .inl h, fun _ _ _ => rfl⟩
      rw [List.getElem?_set] at hj
      by_cases e : k = j
      · subst e
        rw [if_pos rfl, if_pos hkl] at hj
        cases hj
        rw [hv] at hu
        cases hu
        have : RR ⟨fun b' o => K' b' o ∨ (b' = b ∧ o < xs.length * sz), fun _ => v⟩ w' (fun _ => none) (fun b => w.heap.size ≤ b) 0 (.arr false sz xs xs.length) := by
          refine .inr ⟨rfl, b, cap, cur, E, hl, hB, hh, h4, h5, h6, Nat.le_refl _, h8.mono kp, fun o => ⟨fun hk => ?_, fun ho => .inr ⟨rfl, ho⟩⟩⟩
          rcases hk with hk | ⟨_, hk⟩
          · have := (h9 o).1 hk
            have := Nat.mul_le_mul_right sz h7
            omega
          · exact hk
        rw [RtR]
        exact this.datum
      · rw [if_neg e] at hj
        have := r2 j r u hj hu
        cases r with
        | c x => rw [RtR] at this ⊢; exact CR.mono kp x u this
        | ag cs =>
          rw [RtR] at this ⊢
          obtain ⟨us', e1, e2⟩ := this
          exact ⟨us', e1, VR.mono kp cs us' e2⟩
        | fr nil2 sz2 xs2 fx2 =>
          rw [RtR] at this ⊢
          rcases this with this | ⟨g0, b2, cap2, cur2, E2, g1, g2, g3, g4, g5, g6, g7, g8, g9⟩
          · exact .inl this
          · have hne : b2 ≠ b := by
              rintro rfl
              have g1' : u = .slice (some ⟨b2, 0, none⟩) xs2.length cap2 := g1
              exact r3 k j _ _ v u e hk hj hv hu rfl rfl b2 (by rw [hl']; rfl) (by rw [g1']; rfl)
            refine .inr ⟨g0, b2, cap2, cur2, E2, g1, g2, g3, g4, g5, g6, g7, g8.mono kp, fun o => ⟨fun hk => ?_, fun ho => .inl ((g9 o).2 ho)⟩⟩
            rcases hk with hk | ⟨e2, _⟩
            · exact (g9 o).1 hk
            · exact absurd e2 hne
    · have nk : ∀ {j r}, (rs.set k (.c (.sl false xs)))[j]? = some r → isFr r = true → rs[j]? = some r := fun {j r} hj hf => by
        rw [List.getElem?_set] at hj
        by_cases e : k = j
        · subst e; rw [if_pos rfl, if_pos hkl] at hj; cases hj; cases hf
        · rw [if_neg e] at hj; exact hj
      exact r3 i j r r' u u' hne (nk hi f1) (nk hj f2) hui huj f1 f2
end Go.VL
