/- Contracts of the document's package 17, part 3: what an expression comes to. -/
import Derived.Test.YtkfiiomdkljjnaaGreatXD
import Derived.Test.YtkfiiomdkljjnaaGreatDA
set_option linter.unusedSimpArgs false
set_option linter.unusedVariables false
namespace Go.Proofs.YtkfiiomdkljjnaaGreat
open Go.VL Go.RowKit

theorem cmpV_ord {a b : Val} (h : a.kind = b.kind) : cmpV a b = ordV a b := by
  obtain ⟨ak, ai, at_⟩ := a
  obtain ⟨bk, bi, bt⟩ := b
  simp only at h
  subst h
  unfold cmpV ltV ordV cmpB cmpI
  simp only [Int.lt_irrefl, decide_false, decide_true, Bool.false_or, Bool.true_and, Val.mk.injEq, true_and]
  by_cases h1 : ai < bi
  · simp [h1]
  · by_cases h2 : ai = bi
    · subst h2
      simp
    · have h3 : bi < ai := by omega
      simp [h1, h2, h3, show ¬ ai ≤ bi by omega]

theorem evalT_ne (row : List Val) : ∀ (t : Tm), t.Ok → ∀ c, evalT row t = .no c → c ≠ 0 := by
  have ar : ∀ op a b c, arithV op a b = .no c → c ≠ 0 := by
    intro op a b c h
    unfold arithV at h
    split at h
    · cases h
    · cases h; decide
  have rk : ∀ op a b c, reckonV op a b = .no c → c ≠ 0 := by
    intro op a b c h
    unfold reckonV at h
    repeat' split at h
    all_goals first | (cases h; done) | exact ar _ _ _ _ h
  intro t h
  induction h with
  | value kind v place nl args hv => intro c hc; rw [evalT, if_pos rfl] at hc; cases hc
  | column kind v place nl args =>
    intro c hc
    rw [evalT, if_neg (by decide), if_pos rfl] at hc
    unfold colV at hc
    split at hc
    · cases hc
    · cases hc; decide
  | one op kind v place nl x hop hx ih =>
    intro c hc
    have n1 : op ≠ wValue := by rcases hop with rfl | rfl <;> decide
    have n2 : op ≠ wColumn := by rcases hop with rfl | rfl <;> decide
    rw [evalT, if_neg n1, if_neg n2, evalTs_map] at hc
    simp only [List.map_cons, List.map_nil] at hc
    cases hxe : evalT row x with
    | no c' => rw [hxe] at hc; simp only [opV] at hc; cases hc; exact ih _ hxe
    | ok a =>
      rw [hxe] at hc
      simp only [opV, oneV] at hc
      split at hc
      · cases hc
      · exact ar _ _ _ _ hc
  | two op kind v place nl x y hop hx hy ih1 ih2 =>
    intro c hc
    obtain ⟨e1, e2, e3⟩ := two2_ne hop
    rw [evalT, if_neg (by rw [e1]; exact id), if_neg (by rw [e2]; exact id), evalTs_map] at hc
    simp only [List.map_cons, List.map_nil] at hc
    cases hxe : evalT row x with
    | no c' => rw [hxe] at hc; simp only [opV] at hc; cases hc; exact ih1 _ hxe
    | ok a =>
      rw [hxe] at hc
      cases hye : evalT row y with
      | no c' =>
        rw [hye] at hc; simp only [opV] at hc
        rw [if_neg (by rw [e3]; exact id)] at hc
        cases hc; exact ih2 _ hye
      | ok b =>
        rw [hye] at hc; simp only [opV] at hc
        rw [if_neg (by rw [e3]; exact id)] at hc
        exact rk _ _ _ _ hc

section
variable (sn : Bool) (sc : List SCol) (rn : Bool) (row : List Val)
end
end Go.Proofs.YtkfiiomdkljjnaaGreat
/- Contracts of the document's package 17, part 4: what an expression comes to, in full; whether it holds. -/
set_option linter.unusedSimpArgs false
set_option linter.unusedVariables false
namespace Go.Proofs.YtkfiiomdkljjnaaGreat
open Go.VL Go.RowKit

theorem two2_ne3 {op : List UInt8} (h : op ∈ two2) : (op = wNumber) = False ∧ (op = wText) = False ∧ (op = wName) = False ∧ (op = wNOT) = False := by
  simp [two2] at h
  rcases h with rfl | rfl | rfl | rfl | rfl | rfl | rfl | rfl | rfl | rfl | rfl <;> simp

section
variable (sn : Bool) (sc : List SCol) (rn : Bool) (row : List Val)
end
end Go.Proofs.YtkfiiomdkljjnaaGreat
/- Contracts of the document's package 17, part 5: an expression that was bound comes to what its term comes to. -/
set_option linter.unusedSimpArgs false
set_option linter.unusedVariables false
namespace Go.Proofs.YtkfiiomdkljjnaaGreat
open Go.VL Go.RowKit

theorem kindK_two {op : List UInt8} {x y : Int} (h : (kindK op [x, y]).2 = true) : x = y := by
  unfold kindK at h
  repeat' split at h
  all_goals (simp [allK] at h; try omega)
theorem arithV_kind {op : List UInt8} {a b : Int} {v : Val} (h : arithV op a b = .ok v) : v.kind = 1 := by
  unfold arithV at h
  split at h
  · cases h; rfl
  · cases h
theorem truthV_kind (b : Bool) : (truthV b).kind = 3 := rfl

theorem eval_kind (sc : List SCol) (row : List Val) : ∀ (e : Ex) (t : Tm) (v : Val), bindE sc e = .ok t → evalT row t = .ok v → v.kind = t.kind
  | .mk op int text of nl args, t, v, h, hv => by
    rw [bindE] at h
    split at h
    · cases h; rw [evalT, if_pos rfl] at hv; cases hv; rfl
    · split at h
      · split at h
        · cases h
        · cases h; rw [evalT, if_pos rfl] at hv; cases hv; rfl
      · split at h
        · split at h
          · cases h
            rw [evalT, if_neg (by decide), if_pos rfl] at hv
            unfold colV at hv
            split at hv
            · rename_i hc; cases hv; exact hc.2.2
            · cases hv
          · cases h
        · split at h
          · cases h
          · rename_i ts hts
            split at h
            · rename_i hk
              cases h
              have hkl := kindK_len hk
              rw [List.length_map] at hkl
              show v.kind = (kindK op (ts.map Tm.kind)).1
              match ts, hkl with
              | [], hkl => simp at hkl
              | [x], hkl =>
                have hop : op = wNOT ∨ op = wSUB := by simpa using hkl
                have n1 : op ≠ wValue := by rcases hop with rfl | rfl <;> decide
                have n2 : op ≠ wColumn := by rcases hop with rfl | rfl <;> decide
                rw [evalT, if_neg n1, if_neg n2, evalTs_map] at hv
                simp only [List.map_cons, List.map_nil] at hv
                cases hxe : evalT row x with
                | no c => rw [hxe] at hv; simp only [opV] at hv; cases hv
                | ok a =>
                  rw [hxe] at hv
                  simp only [opV, oneV] at hv
                  rcases hop with rfl | rfl
                  · rw [if_pos rfl] at hv; cases hv; rfl
                  · rw [if_neg (by decide)] at hv; rw [arithV_kind hv]; rfl
              | [x, y], hkl =>
                have hop : op ∈ two2 := by simpa using hkl
                obtain ⟨e1, e2, e3⟩ := two2_ne hop
                rw [evalT, if_neg (by rw [e1]; exact id), if_neg (by rw [e2]; exact id), evalTs_map] at hv
                simp only [List.map_cons, List.map_nil] at hv
                cases hxe : evalT row x with
                | no c => rw [hxe] at hv; simp only [opV] at hv; cases hv
                | ok a =>
                  rw [hxe] at hv
                  cases hye : evalT row y with
                  | no c => rw [hye] at hv; simp only [opV] at hv; rw [if_neg (by rw [e3]; exact id)] at hv; cases hv
                  | ok b =>
                    rw [hye] at hv; simp only [opV] at hv; rw [if_neg (by rw [e3]; exact id)] at hv
                    simp [two2] at hop
                    rcases hop with rfl | rfl | rfl | rfl | rfl | rfl | rfl | rfl | hop
                    · simp [reckonV] at hv; rw [← hv]; rfl
                    · simp [reckonV] at hv; rw [← hv]; rfl
                    · simp [reckonV] at hv; rw [← hv]; rfl
                    · simp [reckonV] at hv; rw [← hv]; rfl
                    · simp [reckonV] at hv; rw [← hv]; rfl
                    · simp [reckonV] at hv; rw [← hv]; rfl
                    · simp [reckonV] at hv; rw [← hv]; rfl
                    · simp [reckonV] at hv; rw [← hv]; rfl
                    · have hr : reckonV op a b = arithV op a.int b.int := by rcases hop with rfl | rfl | rfl <;> simp [reckonV]
                      rw [hr] at hv
                      rw [arithV_kind hv]
                      rcases hop with rfl | rfl | rfl <;> rfl
              | _ :: _ :: _ :: _, hkl => simp at hkl
            · cases h


end Go.Proofs.YtkfiiomdkljjnaaGreat
