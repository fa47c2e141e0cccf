/- A row of one struct that holds handles, out of its text. -/
import Derived.Test.YtgodbpamppcfnaaVN4
set_option linter.unusedSimpArgs false
set_option linter.unusedVariables false
namespace Go.VL
open Go.RowKit
theorem fill_all (vs zs : List Value) (s : Nat) (hv : vs.length = s) (hz : zs.length = s) : Instr.fill (fun i => some (i * s, s)) zs.toArray [(0, .agg vs.toArray)] = some vs.toArray := by
  have hc : (Value.agg vs.toArray).cells = vs.toArray := rfl
  unfold Instr.fill
  simp only [Nat.zero_mul, hc, List.size_toArray, hv, hz, Nat.zero_add, bne_self_eq_false, gt_iff_lt, Nat.lt_irrefl, decide_false, Bool.or_self, Bool.false_eq_true, if_false, ne_eq, not_true_eq_false, decide_not, decide_true, Bool.not_true]
  unfold Instr.fill
  congr 1
  have h := foldl_set 0 vs 0 zs (by omega)
  simp only [Nat.zero_add, Nat.add_zero, List.take_zero, List.nil_append] at h
  rw [List.drop_of_length_le (by omega), List.append_nil] at h
  rw [← Array.foldl_toList, Array.toList_zipIdx]
  exact h
section
variable {P : Program} {w0 : World} {K0 : K0T} {nt : Nat} {OPS : Array Oper} {st : St}
theorem VRS.bsM {y s : Nat} {t el ty : TypeId} {x : Operand} {ag : Bool} {z : Value} {p : String} {af : Array Edge} {l : List Oper} {K : St → Prop} (ss : List S)
    (hx : st.ev x = .st ss) (ht : P.underlying t = some (.slice el)) (hs : tySz P el = some (ag, s)) (hz : zeroOf P el = some z) (hzl : z.cells.size = s) (hl : ss.length = s) (hs0 : 0 < s) (hs1 : s ≤ 1000) (hm : S.mens (64 * y) ss = false)
    (h : VRS P w0 K0 nt OPS l (((st.clr (64 * y)).setR (64 * y) (some (.map (.rows false s [ss])))).put y (.mp (64 * y))) K) : VRS P w0 K0 nt OPS (⟨some y, .buildSlice t 1 #[(0, x)], ty, p, af, none⟩ :: l) st K := by
  refine VRS.step fun hok a w g hT next Q hn' => wanted_step hT rfl ?_
  have hd := opOk_dst hok
  have hex := hT.ev x
  rw [hx, SR] at hex
  obtain ⟨us, hu, hss, hone⟩ := hex
  obtain ⟨hul, hus⟩ := (SRs_iff _ _).1 hss
  have hle : ¬ (1 * s > 2 ^ 24) := by omega
  have hne : ¬ (1 * s = 0) := by omega
  have hzz : (Array.map (fun q => z.cells[q % z.cells.size]!) (Array.range (1 * s))).size = s := by simp
  have hfill : Instr.fill (fun i => some (i * s, s)) (Array.map (fun q => z.cells[q % z.cells.size]!) (Array.range (1 * s))) [(0, .agg us.toArray)] = some us.toArray := by
    have := fill_all us (Array.map (fun q => z.cells[q % z.cells.size]!) (Array.range (1 * s))).toList s (by omega) (by simp)
    rw [Array.toArray_toList] at this
    exact this
  have hrun : (execOp a.eval ⟨some y, .buildSlice t 1 #[(0, x)], ty, p, af, none⟩).run P w = .ok (.value (.slice (some ⟨w.heap.size, 0, none⟩) 1 1)) (w.alloc (.cells us.toArray el)) := by
    simp only [execOp, Instr.buildSlice, Sem.run_bind, run_underlying ht, Result.andThen_ok, run_sizeOf hs]
    rw [if_neg hle, if_neg hne]
    have e : (Array.map (fun q : Nat × Operand => (q.1, a.eval q.2)) #[(0, x)]).toList = [(0, .agg us.toArray)] := by simp [hu]
    simp only [Sem.run_bind, run_zero hz, Result.andThen_ok, Sem.run_pure, e, hfill, newRow, run_newObj, World.alloc_eq]
  obtain ⟨g1, m1, m2, m3, m4⟩ := hT.newrows (64 * y) s [ss] us.toArray el 1 _ (.inl rfl) (fun j e hj => by
      cases j with
      | zero =>
        simp at hj; subst hj
        refine ⟨hl, fun k s' hk => ?_⟩
        have hlt : k < us.length := by rw [hul]; exact (List.getElem?_eq_some_iff.1 hk).1
        exact ⟨us[k], by simp [hlt], hus k s' _ hk (by simp [hlt]), hone _ (List.getElem_mem hlt)⟩
      | succ j => simp at hj) (by simpa using hm) (by simp) (by simp [maxLen]) (by simp; omega)
  refine ow_value hrun (hn' _ _ _ g1 h ?_)
  refine T.put m1 (hd y rfl) ?_
  rw [SR]
  intro m _
  rw [m2]; rfl
end
end Go.VL
