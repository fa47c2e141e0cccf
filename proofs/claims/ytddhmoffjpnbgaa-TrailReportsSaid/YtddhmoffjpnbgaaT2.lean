/- Contracts of functions of the seat, proved in a logic on data over the model (part T2). -/
import Derived.Test.YtddhmoffjpnbgaaT1
import Derived.Test.YtddhmoffjpnbgaaVY5
set_option linter.unusedSimpArgs false
set_option linter.unusedVariables false
namespace Go.Proofs.Ytddhmoffjpnbgaa
open Go.VL Go.RowKit

def touOf : List S → List C
  | [.agg cs] => cs
  | _ => []
def apR (pre : List (List S)) : List (Nat × Res) := [(128, .box false [.own 129 pre.length]), (129, .arr pre.isEmpty (if pre.isEmpty then 0 else 3) (pre.map touOf) 0)]
def seqQ2 (N : Nat) (l : List Tou) (rs : List S) (b' : List (Nat × Res)) : Prop := ∃ m : List Tou, m.Perm l ∧ rs = [.own N m.length] ∧ b' = [(N, .arr m.isEmpty (if m.isEmpty then 0 else 3) (m.map Tou.cells) 0)]

set_option maxRecDepth 4000 in
set_option maxHeartbeats 8000000 in
theorem appendSeq_spec (l : List Tou) (hl : l.length ≤ 2200000000000) : ConX Try.prog 45 [.c (.sl true []), .fnp 28 [.ptr 1 0]] (pgB l) (seqQ2 129 l) := by
  refine spec_ofRF (B0 := 1000) (E := [(2, .ptr 128 0)]) (rsJ := apR) (bIt := pgB l) (N := l.length) (Ty := isTou) (ps := [7]) (fn := Try.f45) (Qy := pgQ l) (gf := 28) (caps := [.ptr 1 0]) Try.func45 rfl (by kernel_rfl) (by simp [Try.f45])
    ⟨[(6, .fnp 28 [.ptr 1 0]), (2, .ptr 128 0)], [(128, some (.box false [.c (.sl true [])])), (1, some (.box false [.mp 2])), (2, some (.map (.ents (mpE (pgE l)))))]⟩
    ⟨[(6, .fnp 28 [.ptr 1 0]), (2, .ptr 128 0)], [(128, some (.box false [.own 129 0])), (129, some (.arr true 0 [] 0)), (1, some (.box false [.mp 2])), (2, some (.map (.ents (mpE (pgE l)))))]⟩
    ⟨by kernel_rfl, by kernel_rfl, by kernel_rfl⟩ ?_ ?_ (fun x ⟨t, ht⟩ => by rw [ht]; rfl) ?_ ⟨by kernel_rfl, by kernel_rfl⟩ ⟨by kernel_rfl, by kernel_rfl⟩ ?_ ?_ ?_ ?_ ?_ rfl (values1_spec l) ?_ ?_ ?_ ?_ ?_ ?_ ?_ ?_ ?_
  · intro w0 K0
    simp -dsimp [initY, initEnv, pgB]
    simp [St.le]
  · intro w0 K0 a w g hT
    obtain ⟨g', h'⟩ := hT.nilcell (i := 128) (N := 129) (k := 0) (ss := [.c (.sl true [])]) (by decide) (by simp [St.clr, St.setR, St.rs, vlook, Res.clr, S.clr]) rfl
    refine ⟨g', h'.weaken ?_⟩
    simp [St.le, St.clr, St.setR, St.rs, St.get, vlook, Res.clr, S.clr, MB.clr_mpE]
  · intro w1 K1 uf pre x hpre hx hxf
    obtain ⟨t, rfl⟩ := hx
    have hsz : pre.isEmpty = false → (if pre = [] then 0 else 3) = 3 := fun h => by
      rw [if_neg (by simpa using h)]
    simp -dsimp [apR, paramsE, pinsOf, Tou.cells]
    exact fun _ => ⟨by simp [maxLen], by omega, rfl⟩
  · simp [Try.f45]
  · intro pre p hp
    simp [apR] at hp
    rcases hp with rfl | rfl <;> simp
  · simp [S.men]
  · intro pre p hp j hj
    simp [apR] at hp
    rcases hp with rfl | rfl
    · simp [Res.ment, S.mens, S.men] at hj; omega
    · simp [Res.ment] at hj
  · simp
  · simp [pgB]
  · simp [S.mens, S.men, pgB, lk, vlook]
  · intro p hp j hj
    simp [pgB] at hp
    rcases hp with rfl | rfl
    · simp [Res.ment, S.mens, S.men] at hj; subst hj; simp [pgB, lk, vlook]
    · simp [Res.ment, MB.men, MB.cells, mpE, pgE, Tou.cells, S.men] at hj
  · simp [apR]
  · intro i hi
    have : i = 1 ∨ i = 2 := by
      by_cases h1 : i = 1
      · exact .inl h1
      · by_cases h2 : i = 2
        · exact .inr h2
        · have e1 : (1 == i) = false := by simpa using fun e => h1 e.symm
          have e2 : (2 == i) = false := by simpa using fun e => h2 e.symm
          simp [pgB, lk, vlook, e1, e2] at hi
    rcases this with rfl | rfl <;> simp [apR, lk, vlook]
  · intro p hp j hj
    simp [apR] at hp
    rcases hp with rfl | rfl
    · simp [Res.ment, S.mens, S.men] at hj; subst hj; simp [apR, lk, vlook]
    · simp [Res.ment] at hj
  · simp [S.men, apR, lk, vlook]
  · simp
  · rintro ys ⟨m, hm, rfl⟩ w0 K0
    simp -dsimp [apR]
    have he : (touOf ∘ fun t => [S.agg (Tou.cells t)]) = Tou.cells := rfl
    rw [he]
    simp [retX, Try.f45]
    exact ⟨_, ⟨m, hm, rfl, rfl⟩, by simp [resEnd]⟩
end Go.Proofs.Ytddhmoffjpnbgaa
