/- Contracts of functions of the seat, proved in a logic on data over the model (part P10). -/
import Derived.Test.YtlmnablagocfiaaP4
import Derived.Test.YtlmnablagocfiaaP5
namespace Go.Proofs.Ytlmnablagocfiaa
open Go.VL Go.RowKit

theorem getB_fold (l : List UInt8) : ∀ n, l.foldl (fun n b => n * 256 + b.toNat) n = n * 256 ^ l.length + getB l := by
  induction l with
  | nil => intro n; simp [getB]
  | cons b r ih =>
    intro n
    have h0 : getB (b :: r) = b.toNat * 256 ^ r.length + getB r := by
      show r.foldl _ (0 * 256 + b.toNat) = _
      rw [ih]; simp
    rw [List.foldl_cons, ih, h0, List.length_cons, Nat.pow_succ, Nat.add_mul, Nat.mul_assoc, Nat.mul_comm 256 (256 ^ r.length)]
    omega
theorem getB_cons (b : UInt8) (r : List UInt8) : getB (b :: r) = b.toNat * 256 ^ r.length + getB r := by
  show r.foldl _ (0 * 256 + b.toNat) = _
  rw [getB_fold]; simp
theorem byteAt_nat (n k : Nat) : (byteAt n k).toNat = n / 256 ^ k % 256 := by
  simp [byteAt, Nat.shiftRight_eq_div_pow, Nat.pow_mul]
theorem getB_putB (n k : Nat) : getB (putB n k) = n % 256 ^ k := by
  induction k with
  | zero => simp [putB, getB, Nat.mod_one]
  | succ k ih => rw [putB, getB_cons, ih, len_putB, byteAt_nat, Nat.mod_pow_succ, Nat.mul_comm]; omega
theorem byteAt_add (a x m j : Nat) (h : j < m) : byteAt (a * 256 ^ m + x) j = byteAt x j := by
  apply UInt8.toNat_inj.1
  rw [byteAt_nat, byteAt_nat]
  obtain ⟨d, rfl⟩ : ∃ d, m = j + (d + 1) := ⟨m - j - 1, by omega⟩
  rw [Nat.pow_add, Nat.pow_succ, ← Nat.mul_assoc, Nat.mul_comm a, Nat.mul_assoc, ← Nat.mul_assoc, Nat.mul_assoc, Nat.add_comm, Nat.add_mul_div_left _ _ (Nat.pow_pos (by decide))]
  rw [← Nat.mul_assoc a, Nat.add_mul_mod_self_right]
theorem putB_add (a x : Nat) : ∀ (k m : Nat), k ≤ m → putB (a * 256 ^ m + x) k = putB x k
  | 0, _, _ => rfl
  | k + 1, m, h => by rw [putB, putB, byteAt_add a x m k (by omega), putB_add a x k m (by omega)]
theorem putB_getB (l : List UInt8) : putB (getB l) l.length = l := by
  induction l with
  | nil => rfl
  | cons b r ih =>
    rw [getB_cons, List.length_cons, putB, putB_add _ _ _ _ (Nat.le_refl _), ih]
    congr 1
    apply UInt8.toNat_inj.1
    have h1 := getB_lt r
    have h2 := b.toNat_lt
    rw [byteAt_nat, Nat.mul_comm, Nat.mul_add_div (Nat.pow_pos (by decide)), Nat.div_eq_of_lt h1]
    omega

/-- what is written is read again -/
theorem dec_enc (e : Ent) (ht : e.txn ≤ 9223372036854775807) (h : ck e = 0) : ∃ nil, dec (enc e) = (⟨e.kind, e.txn, e.page, e.slot, e.stamp, nil, e.data⟩, 0) := by
  obtain ⟨h1, h2, h3, h4, h5, h6, h7, h8, h9, h10, h11, h12, h13⟩ := ck_ok h
  have hk : (byteAt e.kind.toNat 0).toNat = e.kind.toNat := by rw [byteAt_nat]; omega
  have hs : (byteAt e.slot.toNat 0).toNat = e.slot.toNat := by rw [byteAt_nat]; omega
  have ht8 : IntKind.i64.wrap (getB (putB e.txn.toNat 8) : Int) = e.txn := by
    rw [getB_putB, Nat.mod_eq_of_lt (by omega), IntWalk.i64_in _ (by omega)]; omega
  unfold enc
  rw [dec, hk]
  rw [if_neg (by omega)]
  by_cases h3' : e.kind = 3
  · have hn : need (byteAt e.kind.toNat 0) = 17 := by unfold need; rw [if_pos (by omega)]
    have hst : IntKind.i64.wrap (getB (putB e.stamp.toNat 8) : Int) = e.stamp := by
      rw [getB_putB, Nat.mod_eq_of_lt (by omega), IntWalk.i64_in _ (by omega)]; omega
    have hm : mkE (byteAt e.kind.toNat 0) (putB e.txn.toNat 8 ++ putB e.stamp.toNat 8) = ⟨e.kind, e.txn, e.page, e.slot, e.stamp, true, e.data⟩ := by
      unfold mkE
      rw [if_pos (by omega)]
      have a1 : (putB e.txn.toNat 8 ++ putB e.stamp.toNat 8).take 8 = putB e.txn.toNat 8 := by rw [List.take_append_of_le_length (by rw [len_putB]; omega), List.take_of_length_le (by rw [len_putB]; omega)]
      have a2 : (putB e.txn.toNat 8 ++ putB e.stamp.toNat 8).drop 8 = putB e.stamp.toNat 8 := by
        rw [List.drop_append_of_le_length (by rw [len_putB]; omega), List.drop_of_length_le (by rw [len_putB]; omega)]; rfl
      have a3 : (putB e.stamp.toNat 8).take 8 = putB e.stamp.toNat 8 := List.take_of_length_le (by rw [len_putB]; omega)
      rw [a1, a2, a3, ht8, hst]
      obtain ⟨g1, g2⟩ := h10 h3'
      rw [h12 (by omega), g1, g2, h3']
    rw [if_pos h3', hn]
    have hl : (putB e.txn.toNat 8 ++ putB e.stamp.toNat 8).length = 16 := by simp [len_putB]
    rw [hl, if_neg (by omega), if_neg (by omega), hm]
    have hc : ck ⟨e.kind, e.txn, e.page, e.slot, e.stamp, true, e.data⟩ = 0 := h
    rw [if_pos hc]
    exact ⟨_, rfl⟩
  · have hn : need (byteAt e.kind.toNat 0) = 12 := by unfold need; rw [if_neg (by omega)]
    have hpg : (getB (putB e.page.toNat 2) : Int) = e.page := by
      rw [getB_putB, Nat.mod_eq_of_lt (by omega)]; omega
    have hm : mkE (byteAt e.kind.toNat 0) (putB e.txn.toNat 8 ++ (putB e.page.toNat 2 ++ byteAt e.slot.toNat 0 :: e.data)) = ⟨e.kind, e.txn, e.page, e.slot, e.stamp, false, e.data⟩ := by
      unfold mkE
      rw [if_neg (by omega)]
      have a1 : (putB e.txn.toNat 8 ++ (putB e.page.toNat 2 ++ byteAt e.slot.toNat 0 :: e.data)).take 8 = putB e.txn.toNat 8 := by rw [List.take_append_of_le_length (by rw [len_putB]; omega), List.take_of_length_le (by rw [len_putB]; omega)]
      have a2 : (putB e.txn.toNat 8 ++ (putB e.page.toNat 2 ++ byteAt e.slot.toNat 0 :: e.data)).drop 8 = (putB e.page.toNat 2 ++ byteAt e.slot.toNat 0 :: e.data) := by
        rw [List.drop_append_of_le_length (by rw [len_putB]; omega), List.drop_of_length_le (by rw [len_putB]; omega)]; rfl
      have a3 : (putB e.page.toNat 2 ++ byteAt e.slot.toNat 0 :: e.data).take 2 = putB e.page.toNat 2 := by rw [List.take_append_of_le_length (by rw [len_putB]; omega), List.take_of_length_le (by rw [len_putB]; omega)]
      have a4 : (putB e.txn.toNat 8 ++ (putB e.page.toNat 2 ++ byteAt e.slot.toNat 0 :: e.data)).getD 10 0 = byteAt e.slot.toNat 0 := by
        rw [List.getD_eq_getElem?_getD, List.getElem?_append_right (by rw [len_putB]; omega), len_putB, List.getElem?_append_right (by rw [len_putB]; omega), len_putB]; rfl
      have a5 : (putB e.txn.toNat 8 ++ (putB e.page.toNat 2 ++ byteAt e.slot.toNat 0 :: e.data)).drop 11 = e.data := by
        have a6 : (putB e.page.toNat 2 ++ byteAt e.slot.toNat 0 :: e.data).drop 2 = byteAt e.slot.toNat 0 :: e.data := List.drop_left' (len_putB _ _)
        rw [show 11 = 8 + 3 from rfl, ← List.drop_drop, a2, show 3 = 2 + 1 from rfl, ← List.drop_drop, a6]; rfl
      rw [a1, a2, a3, a4, a5, ht8, hpg, hk, hs]
      rw [h11 h3', Int.toNat_of_nonneg (by omega), Int.toNat_of_nonneg (by omega)]
    rw [if_neg h3', hn]
    have hl : (putB e.txn.toNat 8 ++ (putB e.page.toNat 2 ++ byteAt e.slot.toNat 0 :: e.data)).length = 11 + e.data.length := by simp [len_putB]; omega
    have hd : e.kind ≠ 1 → e.data.length = 0 := fun hh => by rw [h12 hh]; rfl
    rw [hl, if_neg (by omega), if_neg (by omega), hm]
    have hc : ck ⟨e.kind, e.txn, e.page, e.slot, e.stamp, false, e.data⟩ = 0 := h
    rw [if_pos hc]
    exact ⟨_, rfl⟩

theorem wrap_pos (n : Nat) (hn : n < 18446744073709551616) (h : 0 ≤ IntKind.i64.wrap (n : Int)) : IntKind.i64.wrap (n : Int) = n := by
  rw [IntKind.wrap_i64] at h ⊢
  omega

/-- what is refused is read as nothing -/
theorem dec_bad (b : List UInt8) (h : (dec b).2 ≠ 0) : (dec b).1 = zeroE := by
  unfold dec at h ⊢
  split at h
  · rfl
  · split at h
    · rename_i h1; rw [if_pos h1]
    · rename_i h1
      rw [if_neg h1]
      split at h
      · rename_i h2; rw [if_pos h2]
      · rename_i h2
        rw [if_neg h2]
        split at h
        · rename_i h3; rw [if_pos h3]
        · rename_i h3
          rw [if_neg h3]
          split at h
          · simp at h
          · rename_i h4; rw [if_neg h4]

/-- what is read is written as it was -/
theorem enc_dec (b : List UInt8) (h : (dec b).2 = 0) : ck (dec b).1 = 0 ∧ (dec b).1.txn ≤ 9223372036854775807 ∧ enc (dec b).1 = b := by
  cases b with
  | nil => simp [dec] at h
  | cons k r =>
    by_cases h1 : k.toNat < 1 ∨ 3 < k.toNat
    · rw [dec_21 h1] at h; simp at h
    by_cases h2 : r.length + 1 < need k
    · rw [dec_20 h1 h2] at h; simp at h
    by_cases h3 : k.toNat ≠ 1 ∧ need k < r.length + 1
    · rw [dec_23 h1 h2 h3] at h; simp at h
    rw [dec_e h1 h2 h3] at h ⊢
    by_cases h4 : ck (mkE k r) = 0
    · rw [if_pos h4]
      refine ⟨h4, ?_⟩
      obtain ⟨g1, g2, g3, g4, g5, g6, g7, g8, g9, g10, g11, g12, g13⟩ := ck_ok h4
      have hk8 := k.toNat_lt
      have hkb : byteAt k.toNat 0 = k := by apply UInt8.toNat_inj.1; rw [byteAt_nat]; omega
      have l8 : (r.take 8).length = 8 := by
        unfold need at h2; split at h2 <;> (simp; omega)
      have b8 := getB_lt (r.take 8)
      rw [l8] at b8
      have p8 := putB_getB (r.take 8)
      rw [l8] at p8
      by_cases hk : k.toNat = 3
      · have hm : mkE k r = ⟨3, IntKind.i64.wrap (getB (r.take 8)), 0, 0, IntKind.i64.wrap (getB ((r.drop 8).take 8)), true, []⟩ := by unfold mkE; rw [if_pos hk]
        have hn : need k = 17 := by unfold need; rw [if_pos hk]
        rw [hm] at g3 g8 ⊢
        have l16 : ((r.drop 8).take 8).length = 8 := by simp; omega
        have b16 := getB_lt ((r.drop 8).take 8)
        rw [l16] at b16
        have p16 := putB_getB ((r.drop 8).take 8)
        rw [l16] at p16
        have e1 := wrap_pos (getB (r.take 8)) (by omega) (by simp only at g3; omega)
        have e2 := wrap_pos (getB ((r.drop 8).take 8)) (by omega) (by simp only at g8; omega)
        refine ⟨by simp only; rw [IntKind.wrap_i64]; omega, ?_⟩
        unfold enc
        simp only [if_true, e1, e2, Int.toNat_natCast, p8, p16]
        have e3 : r.take 8 ++ (r.drop 8).take 8 = r := by
          rw [List.take_of_length_le (l := r.drop 8) (by simp; omega), List.take_append_drop]
        rw [e3]
        congr 1
        apply UInt8.toNat_inj.1
        rw [byteAt_nat, hk]; rfl
      · have hm : mkE k r = ⟨k.toNat, IntKind.i64.wrap (getB (r.take 8)), getB ((r.drop 8).take 2), (r.getD 10 0).toNat, 0, false, r.drop 11⟩ := by unfold mkE; rw [if_neg hk]
        have hn : need k = 12 := by unfold need; rw [if_neg hk]
        rw [hm] at g3 ⊢
        have e1 := wrap_pos (getB (r.take 8)) (by omega) (by simp only at g3; omega)
        have l10 : ((r.drop 8).take 2).length = 2 := by simp; omega
        have p10 := putB_getB ((r.drop 8).take 2)
        rw [l10] at p10
        refine ⟨by simp only; rw [IntKind.wrap_i64]; omega, ?_⟩
        unfold enc
        have hk3 : ¬ ((k.toNat : Int) = 3) := by omega
        simp only [hk3, if_false, e1, Int.toNat_natCast, p8, p10, hkb]
        have hsb : byteAt (r.getD 10 0).toNat 0 = r.getD 10 0 := by
          have := (r.getD 10 0).toNat_lt
          apply UInt8.toNat_inj.1; rw [byteAt_nat]; omega
        rw [hsb]
        have e3 : r.getD 10 0 :: r.drop 11 = r.drop 10 := by
          rw [List.drop_eq_getElem_cons (i := 10) (by omega)]
          congr 1
          simp [List.getD_eq_getElem?_getD, List.getElem?_eq_getElem (show 10 < r.length by omega)]
        have e4 : (r.drop 8).take 2 ++ r.drop 10 = r.drop 8 := by
          rw [show r.drop 10 = (r.drop 8).drop 2 by rw [List.drop_drop], List.take_append_drop]
        rw [e3, e4, List.take_append_drop]
    · rw [if_neg h4] at h
      exact absurd h h4
end Go.Proofs.Ytlmnablagocfiaa
