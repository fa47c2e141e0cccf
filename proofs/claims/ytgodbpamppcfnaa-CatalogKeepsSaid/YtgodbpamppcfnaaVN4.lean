/- Rows whose elements hold handles: made, put behind nothing, looked into. -/
import Derived.Test.YtgodbpamppcfnaaVN3
set_option linter.unusedSimpArgs false
set_option linter.unusedVariables false
namespace Go.VL
open Go.RowKit
section
variable {P : Program} {w0 : World} {K0 : K0T} {nt : Nat} {OPS : Array Oper} {st : St} {a : Act} {w : World} {g : G}
/-- a new row whose elements hold handles -/
theorem T.newrows (h : T w0 K0 nt st a w g) (i sz : Nat) (xs : List (List S)) (cur : Array Value) (E : TypeId) (cap : Nat) (w' : World) (hw : w' = w.alloc (.cells cur E) ∨ w' = w.drew.alloc (.cells cur E))
    (hh : HoldsS g w st.rs sz xs cur) (hm : ∀ e ∈ xs, S.mens i e = false) (h1 : xs.length ≤ cap) (h2 : cap ≤ maxLen) (h3 : cur.size = cap * sz) :
    ∃ g', T w0 K0 nt ((st.clr i).setR i (some (.map (.rows false sz xs)))) a w' g' ∧ g'.loc i = .slice (some ⟨w.heap.size, 0, none⟩) xs.length cap ∧ (∀ j, j ≠ i → g'.loc j = g.loc j) ∧ g'.K = g.K := by
  refine ⟨{ g with loc := fun j => if j = i then .slice (some ⟨w.heap.size, 0, none⟩) xs.length cap else g.loc j }, ?_, by simp, fun j hj => by simp [hj], rfl⟩
  have hB : w0.heap.size ≤ w.heap.size := h.below.size
  have fBel : Bel w0 K0 w w' := by
    rcases hw with rfl | rfl
    · exact Bel.of ((BelowD.refl _ _).alloc hB _)
    · exact Bel.of (((BelowD.refl _ w).drew).alloc hB _)
  have fCell : ∀ b o, b < w.heap.size → w'.cell? ⟨b, o, none⟩ = w.cell? ⟨b, o, none⟩ := fun b o hb => by
    rcases hw with rfl | rfl
    · exact World.cell?_alloc_lt _ _ _ hb
    · exact World.cell?_alloc_lt w.drew _ _ hb
  have fHeap : ∀ k, k < w.heap.size → w'.heap[k]? = w.heap[k]? := fun k hk => by
    rcases hw with rfl | rfl
    · exact Below.heap_alloc _ _ _ hk
    · exact Below.heap_alloc w.drew _ _ hk
  have fNew : w'.heap[w.heap.size]? = some (.cells cur E (0, 0)) := by
    rcases hw with rfl | rfl
    · exact heap_alloc_new w _
    · exact heap_alloc_new w.drew _
  have fSize : w.heap.size < w'.heap.size := (Array.getElem?_eq_some_iff.1 fNew).1
  have hk : Keeps g.K w g.K w' := ⟨fun _ _ k => k, fun b o k => fCell b o (h.klt b o k)⟩
  have hc : ∀ j, (∃ e ∈ xs, S.mens j e = true) → Cmp g st.rs { g with loc := fun j => if j = i then .slice (some ⟨w.heap.size, 0, none⟩) xs.length cap else g.loc j } ((st.clr i).setR i (some (.map (.rows false sz xs)))).rs j := by
    intro j hj
    obtain ⟨e0, he0, hj⟩ := hj
    have hji : j ≠ i := fun e => by rw [e] at hj; rw [hm e0 he0] at hj; cases hj
    have hR : ((st.clr i).setR i (some (.map (.rows false sz xs)))).rs j = (st.rs j).map (Res.clr i) := by rw [St.rs_setR, if_neg (Ne.symm hji), St.rs_clr]
    refine ⟨fun fz ss' e => ?_, fun nil sz xs fx e => ?_, fun kvs e => ?_⟩
    · rw [hR] at e
      cases hs : st.rs j with
      | none => simp [hs] at e
      | some r => cases r with
        | box fz0 ss0 => exact ⟨⟨fz0, ss0, rfl⟩, by simp [hji]⟩
        | arr _ _ _ _ => simp [hs, Res.clr] at e
        | pin _ _ => simp [hs, Res.clr] at e
        | map _ => simp [hs, Res.clr] at e
    · rw [hR] at e
      cases hs : st.rs j with
      | none => simp [hs] at e
      | some r => cases r with
        | box fz0 ss0 => simp [hs, Res.clr] at e
        | arr nil0 sz0 xs0 fx0 =>
          simp [hs, Res.clr] at e
          obtain ⟨rfl, rfl, rfl, rfl⟩ := e
          exact ⟨⟨_, _, _, rfl, rfl⟩, by simp [hji]⟩
        | pin _ _ => simp [hs, Res.clr] at e
        | map _ => simp [hs, Res.clr] at e
    · rw [hR] at e
      cases hs : st.rs j with
      | none => simp [hs] at e
      | some r => cases r with
        | box fz0 ss0 => simp [hs, Res.clr] at e
        | arr _ _ _ _ => simp [hs, Res.clr] at e
        | pin _ _ => simp [hs, Res.clr] at e
        | map k0 =>
          simp [hs, Res.clr] at e
          exact ⟨⟨k0, rfl, by rw [← e, MB.sh_clr]⟩, by simp [hji]⟩
  refine T.make h (g' := { g with loc := fun j => if j = i then .slice (some ⟨w.heap.size, 0, none⟩) xs.length cap else g.loc j }) fBel hk h.kold (fun b o k => by
      have := h.klt b o k; omega) (fun j hj => by simp [hj]) (fun j r b hj hr hb => ⟨fHeap b ((h.res j r hr).lt hb), fun _ k => k⟩) (fun j r hj hr b hb hb2 => ?_) ?_
  · simp [blk] at hb
    have := (h.res j r hr).lt hb2
    omega
  · refine .inr ⟨rfl, w.heap.size, cap, cur, E, by simp, (fun e => absurd e.1 (by omega)), fNew, h1, h2, h3, fun j e hj => ?_, fun o k => ?_⟩
    · obtain ⟨q1, q2⟩ := hh j e hj
      refine ⟨q1, fun k s hs => ?_⟩
      obtain ⟨u, e1, e2, e3⟩ := q2 k s hs
      refine ⟨u, e1, SR.mono (g := g) (g' := { g with loc := fun j => if j = i then .slice (some ⟨w.heap.size, 0, none⟩) xs.length cap else g.loc j }) hk s u (fun x hx => hc x ⟨e, List.mem_of_getElem? hj, ?_⟩) e2, e3⟩
      exact mens_of (List.mem_of_getElem? hs) hx
    · have := h.klt _ _ k
      omega
theorem VRS.ixM {y : Nat} {t ty : TypeId} {x h : Operand} {p : String} {af : Array Edge} {l : List Oper} {K : St → Prop} (i j sz : Nat) (xs : List (List S))
    (hx : st.ev x = .mp i) (hh : sint (peel (st.ev h)) = some (j : Int)) (hfh : flagOf (st.ev h) = true) (hr : st.rs i = some (.map (.rows false sz xs))) (hj : j < xs.length) (he : esz P t = some sz)
    (hk : VRS P w0 K0 nt OPS l (st.put y (.me i j 0)) K) : VRS P w0 K0 nt OPS (⟨some y, .indexAddr t x h, ty, p, af, none⟩ :: l) st K := by
  refine VRS.step fun hok a w g hT next Q hn' => wanted_step hT rfl ?_
  have hd := opOk_dst hok
  have hex := hT.ev x
  rw [hx, SR] at hex
  have hu := hex _ hr
  have heh := peel_ok (hT.ev h) hfh
  obtain ⟨k, hki⟩ := sint_eq hh heh
  rcases hT.res i _ hr with ⟨q, _⟩ | ⟨_, b, cap, cur, E, hl, _⟩
  · cases q
  rw [hl] at hu
  have hrun : (execOp a.eval ⟨some y, .indexAddr t x h, ty, p, af, none⟩).run P w = .ok (.value (.pointer (some ⟨b, j * sz, none⟩))) w := by
    have := run_indexAt_sl (P := P) (w := w) (b := b) (o := 0) (cap := cap) (k := k) he (Int.natCast_nonneg j) (show (j : Int).toNat < xs.length by simpa using hj)
    simp only [Int.toNat_natCast, Nat.zero_add] at this
    simp [execOp, hu, hki, this]
  refine ow_value hrun (hn' _ _ w g hk ?_)
  refine hT.put (hd y rfl) ?_
  rw [SR]
  intro nil' sz' xs' e _
  rw [hr] at e
  cases e
  exact ⟨b, cap, hl, rfl⟩
theorem VRS.fdM {y f off n : Nat} {agg : Bool} {t ty : TypeId} {x : Operand} {p : String} {af : Array Edge} {l : List Oper} {K : St → Prop} (i j o sz : Nat) (xs : List (List S))
    (hx : st.ev x = .me i j o) (hr : st.rs i = some (.map (.rows false sz xs))) (hj : j < xs.length) (hf : fldOf P t f = some (off, agg, n)) (hn0 : n ≠ 0)
    (hk : VRS P w0 K0 nt OPS l (st.put y (.me i j (o + off))) K) : VRS P w0 K0 nt OPS (⟨some y, .fieldAddr t x f, ty, p, af, none⟩ :: l) st K := by
  refine VRS.step fun hok a w g hT next Q hn' => wanted_step hT rfl ?_
  have hd := opOk_dst hok
  have hex := hT.ev x
  rw [hx, SR] at hex
  obtain ⟨b, cap, hl, hu⟩ := hex _ _ _ hr hj
  have hrun : (execOp a.eval ⟨some y, .fieldAddr t x f, ty, p, af, none⟩).run P w = .ok (.value (.pointer (some ⟨b, j * sz + o + off, none⟩))) w := by
    have := run_fieldAt (P := P) (w := w) (b := b) (o := j * sz + o) hf hn0
    simp [execOp, hu, this]
  refine ow_value hrun (hn' _ _ w g hk ?_)
  refine hT.put (hd y rfl) ?_
  rw [SR]
  intro nil' sz' xs' e _
  rw [hr] at e
  cases e
  exact ⟨b, cap, hl, by rw [Nat.add_assoc]⟩
theorem VRS.ldM {y n : Nat} {t ty : TypeId} {x : Operand} {p : String} {af : Array Edge} {l : List Oper} {K : St → Prop} (i j o sz : Nat) (xs : List (List S)) (e : List S) (s : S)
    (hx : st.ev x = .me i j o) (hr : st.rs i = some (.map (.rows false sz xs))) (hj : xs[j]? = some e) (ho : e[o]? = some s) (ht : tySz P t = some (false, n))
    (hk : VRS P w0 K0 nt OPS l (st.put y s) K) : VRS P w0 K0 nt OPS (⟨some y, .load t x, ty, p, af, none⟩ :: l) st K := by
  refine VRS.step fun hok a w g hT next Q hn' => wanted_step hT rfl ?_
  have hd := opOk_dst hok
  have hex := hT.ev x
  rw [hx, SR] at hex
  obtain ⟨b, cap, hl, hu⟩ := hex _ _ _ hr (List.getElem?_eq_some_iff.1 hj).1
  rcases hT.res i _ hr with ⟨q, _⟩ | ⟨_, b', cap', cur, E, hl', hB, hheap, _, _, _, hH, _⟩
  · cases q
  rw [hl] at hl'
  cases hl'
  obtain ⟨_, h2⟩ := hH j e hj
  obtain ⟨u, e1, e2, e3⟩ := h2 o s ho
  have hc : w.cell? ⟨b, j * sz + o, none⟩ = some u := by rw [cell_of_heap hheap]; exact e1
  have hrun : (execOp a.eval ⟨some y, .load t x, ty, p, af, none⟩).run P w = .ok (.value u) w := by
    have := run_loadVar_one (P := P) ht hc
    simp [execOp, hu, Instr.loadAt, Instr.sureAddr, this]
  refine ow_value hrun (hn' _ _ w g hk ?_)
  exact hT.put (hd y rfl) e2
/-- the cells of a row that holds handles, as the source of an append -/
theorem src_of_MR {w : World} {g : G} {R : Nat → Option Res} {B : Nat → Prop} {j sz : Nat} {ys : List (List S)} (h : RR g w R B j (.map (.rows false sz ys))) :
    ∃ news : List Value, Src P w sz (g.loc j) ys.length news ∧ HoldsS g w R sz ys news.toArray := by
  rcases h with ⟨q, _⟩ | ⟨_, b, cap, cur, E, hl, q2, q3, q4, q5, q6, q8, q9⟩
  · cases q
  rw [hl]
  have hle : ys.length * sz ≤ cap * sz := Nat.mul_le_mul_right _ q4
  have hlen : (cur.toList.take (ys.length * sz)).length = ys.length * sz := by simp; omega
  have hh : HoldsS g w R sz ys (cur.toList.take (ys.length * sz)).toArray := by
    intro j e hj
    obtain ⟨h1, h2⟩ := q8 j e hj
    refine ⟨h1, fun k c hk => ?_⟩
    obtain ⟨u, e1, e2⟩ := h2 k c hk
    refine ⟨u, ?_, e2⟩
    have hk' : k < sz := by rw [← h1]; exact (List.getElem?_eq_some_iff.1 hk).1
    have hj' : j < ys.length := (List.getElem?_eq_some_iff.1 hj).1
    have : j * sz + k < ys.length * sz := by
      have : (j + 1) * sz ≤ ys.length * sz := Nat.mul_le_mul_right _ (by omega)
      rw [Nat.add_mul] at this; omega
    simp only [List.getElem?_toArray, List.getElem?_take, if_pos this]
    simpa using e1
  have hcell : ∀ (j : Nat) (v : Value), (cur.toList.take (ys.length * sz))[j]? = some v → w.cell? ((⟨b, 0, none⟩ : Addr).add j) = some v := by
    intro j v hj
    rw [List.getElem?_take] at hj
    split at hj
    · rw [add_lit, Nat.zero_add, cell_of_heap q3]; simpa using hj
    · cases hj
  have hone : ∀ v ∈ cur.toList.take (ys.length * sz), v.oneCell' = true := by
    intro v hv
    obtain ⟨n, hn, e⟩ := List.mem_iff_getElem.1 hv
    have hn2 : n < ys.length * sz := by rw [hlen] at hn; exact hn
    have s0 : 0 < sz := by
      rcases Nat.eq_zero_or_pos sz with q | q
      · subst q; simp at hn2
      · exact q
    have hq : n / sz < ys.length := (Nat.div_lt_iff_lt_mul s0).2 hn2
    obtain ⟨h1, h2⟩ := hh (n / sz) ys[n / sz] (by simp [hq])
    have hm : n % sz < sz := Nat.mod_lt _ s0
    obtain ⟨u, e1, _, e3⟩ := h2 (n % sz) _ (List.getElem?_eq_getElem (by rw [h1]; exact hm))
    rw [Nat.div_add_mod'] at e1
    rw [List.getElem?_toArray, List.getElem?_eq_getElem hn] at e1
    cases e1
    rw [← e]; exact e3
  exact ⟨_, ⟨fun _ => rfl, run_firstCells_some (P := P) w sz ys.length ⟨b, 0, none⟩ _ _ _ hlen hcell, run_firstCells_some (P := P) w.drew sz ys.length ⟨b, 0, none⟩ _ _ _ hlen hcell, hlen, hone⟩, hh⟩
/-- A ROW THAT HOLDS HANDLES IS PUT BEHIND NOTHING -/
theorem VRS.appM {y : Nat} {t xt ty : TypeId} {d x : Operand} {p : String} {af : Array Edge} {l : List Oper} {K : St → Prop} (i j sz0 fx sz B : Nat) (ys : List (List S))
    (hd : st.ev d = .own i 0) (hx : st.ev x = .mp j) (hr : st.rs i = some (.arr true sz0 [] fx)) (hrx : st.rs j = some (.map (.rows false sz ys))) (hs : slT P t = some (sz, B)) (hxt : ∃ e, P.underlying xt = some (.slice e))
    (hy0 : 0 < ys.length) (hm : ∀ e ∈ ys, S.mens i e = false) (hB0 : 0 < B) (hB : ys.length * B ≤ 140737488355328)
    (h : VRS P w0 K0 nt OPS l (((st.clr i).setR i (some (.map (.rows false sz ys)))).put y (.mp i)) K) :
    VRS P w0 K0 nt OPS (⟨some y, .call ⟨.builtin .append, #[d, x], #[t, xt]⟩, ty, p, af, none⟩ :: l) st K := by
  obtain ⟨e, hxt⟩ := hxt
  refine VRS.step fun hok a w g hT next Q hn' => wanted_step hT rfl ?_
  have hdd := opOk_dst hok
  have hed := hT.ev d
  have hex := hT.ev x
  rw [hd, SR] at hed
  rw [hx, SR] at hex
  have hu := hed true sz0 [] fx hr rfl
  have hux := hex _ hrx
  have hli : g.loc i = .slice none 0 0 := by
    rcases hT.res i _ hr with ⟨_, _, q, _⟩ | ⟨q, _⟩
    · exact q
    · cases q
  obtain ⟨news, src, hh⟩ := src_of_MR (P := P) (hT.res j _ hrx)
  obtain ⟨e', ti, z, t1, t2, t3, t4, t5, rfl, rfl⟩ := slT_some hs
  rw [hli] at hu
  rw [← hux] at src
  have h63 : 0 + ys.length ≤ maxLen := by
    have : ys.length * 1 ≤ ys.length * ti.bytes := Nat.mul_le_mul_left _ hB0
    simp only [maxLen]; omega
  have hrun := run_app_grow (base := none) (n := 0) (cap := 0) (olds := []) (ty := ty) t1 hxt (fun k => by simp) t2 t3 src (by simp [Builtin.firstCells]) (by omega) h63 (by simpa using hB)
  have hge := grownCap_ge w (0 + ys.length) 0 e'
  have hle := grownCap_le_maxLen w (0 + ys.length) 0 e' h63
  generalize grownCap w (0 + ys.length) 0 e' = cc at *
  obtain ⟨g1, m1, m2, m3, m4⟩ := hT.newrows i ti.size ys ([].toArray ++ news.toArray ++ Builtin.zeroCells z.cells (cc - (0 + ys.length))) e' cc _ (.inr rfl) (fun j e hj => by
      obtain ⟨q1, q2⟩ := hh j e hj
      refine ⟨q1, fun k s hk => ?_⟩
      obtain ⟨u, e1, e2⟩ := q2 k s hk
      refine ⟨u, ?_, e2⟩
      have hlt := (Array.getElem?_eq_some_iff.1 e1).1
      rw [Array.getElem?_append_left (by simpa using hlt)]
      simpa using e1) hm (by omega) hle (by
      simp only [Array.size_append, List.size_toArray, size_zeroCells, t4, src.size, List.length_nil, Nat.zero_add, ← Nat.add_mul]
      congr 1
      omega)
  refine ow_value (append_run rfl (by rw [hu]; exact hrun)) (hn' _ _ _ g1 h ?_)
  refine T.put m1 (hdd y rfl) ?_
  rw [SR]
  intro m _
  rw [m2, Nat.zero_add]
end
end Go.VL
