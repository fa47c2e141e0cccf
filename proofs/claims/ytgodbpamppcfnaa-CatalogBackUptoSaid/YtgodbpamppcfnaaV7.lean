/-
  A logic on data over the model's walk, part 7: what is made and written: new memory, append, stores, what is handed on as a datum.
-/
import Derived.Test.YtgodbpamppcfnaaV6
set_option linter.unusedSimpArgs false
set_option linter.unusedVariables false
namespace Go.VL
open Go.RowKit

/-- a slice type: the cells and the bytes of an element -/
def slT (P : Program) (t : TypeId) : Option (Nat × Nat) :=
  match P.underlying t with
  | some (.slice e) => match P.info? e with
    | some i => match i.zero with
      | some z => if z.cells.size = i.size ∧ z.cells.all (·.oneCell') = true then some (i.size, i.bytes) else none
      | none => none
    | none => none
  | _ => none

section
variable {P : Program}

theorem slT_some {t : TypeId} {s b : Nat} (h : slT P t = some (s, b)) : ∃ e i z, P.underlying t = some (.slice e) ∧ P.info? e = some i ∧ i.zero = some z ∧ z.cells.size = i.size ∧ (∀ v ∈ z.cells.toList, v.oneCell' = true) ∧ i.size = s ∧ i.bytes = b := by
  unfold slT at h
  split at h
  · rename_i e he
    split at h
    · rename_i i hi
      split at h
      · rename_i z hz
        split at h
        · rename_i h1
          cases h
          exact ⟨e, i, z, he, hi, hz, h1.1, fun v hv => Array.all_eq_true_iff_forall_mem.1 h1.2 v (by simpa using hv), rfl, rfl⟩
        · cases h
      · cases h
    · cases h
  · cases h

/-- what is appended: so many elements, these cells, in this world and in those that keep its cells -/
structure Src (P : Program) (w : World) (size : Nat) (x : Value) (m : Nat) (news : List Value) : Prop where
  len : ∀ w', (Builtin.lenOf x).run P w' = .ok m w'
  cells : (Builtin.firstCells size m x).run P w = .ok news.toArray w
  cells' : (Builtin.firstCells size m x).run P w.drew = .ok news.toArray w.drew
  size : news.length = m * size
  one : ∀ v ∈ news, v.oneCell' = true

theorem run_app_room {w : World} {t xt ty e : TypeId} {i : TypeInfo} {d : TypeDesc} (ht : P.underlying t = some (.slice e)) (hx : P.underlying xt = some d) (hd : ∀ k, d ≠ .int k) (hi : P.info? e = some i)
    {x : Value} {m : Nat} {news : List Value} (hs : Src P w i.size x m news) {g n cap : Nat} {cur : Array Value} {E : TypeId} (hg : w.heap[g]? = some (.cells cur E (0, 0))) (hroom : n + m ≤ cap) (hfit : n * i.size + news.length ≤ cur.size) :
    (Builtin.append_ #[t, xt] ty #[.slice (some ⟨g, 0, none⟩) n cap, x]).run P w =
      .ok (.slice (some ⟨g, 0, none⟩) (n + m) cap) (w.setRow g (cur.toList.take (n * i.size) ++ news ++ cur.toList.drop (n * i.size + news.length)).toArray) := by
  have hst := run_storeCells_at P g (n * i.size) E news 0 cur w hg (by simpa using hfit) hs.one
  simp only [Nat.add_zero] at hst
  have hlen := hs.len w
  have hc := hs.cells
  simp [Builtin.append_, run_underlying ht, run_underlying hx, sizeOf, typeInfo, hi, hlen, hroom, hc, add_lit, hst]

theorem run_app_none {w : World} {t xt ty e : TypeId} {i : TypeInfo} {d : TypeDesc} (ht : P.underlying t = some (.slice e)) (hx : P.underlying xt = some d) (hd : ∀ k, d ≠ .int k) (hi : P.info? e = some i)
    {x : Value} {news : List Value} (hs : Src P w i.size x 0 news) :
    (Builtin.append_ #[t, xt] ty #[.slice none 0 0, x]).run P w = .ok (.slice none 0 0) w := by
  have hlen := hs.len w
  have hc := hs.cells
  simp [Builtin.append_, run_underlying ht, run_underlying hx, sizeOf, typeInfo, hi, hlen, hc]

theorem run_app_grow {w : World} {t xt ty e : TypeId} {i : TypeInfo} {z : Value} {d : TypeDesc} (ht : P.underlying t = some (.slice e)) (hx : P.underlying xt = some d) (hd : ∀ k, d ≠ .int k) (hi : P.info? e = some i) (hz : i.zero = some z)
    {x : Value} {m : Nat} {news : List Value} (hs : Src P w i.size x m news) {base : Option Addr} {n cap : Nat} {olds : List Value} (ho : (Builtin.firstCells i.size n (.slice base n cap)).run P w.drew = .ok olds.toArray w.drew)
    (hg : cap < n + m) (h63 : n + m ≤ maxLen) (hb : (n + m) * i.bytes ≤ 140737488355328) :
    (Builtin.append_ #[t, xt] ty #[.slice base n cap, x]).run P w =
      .ok (.slice (some ⟨w.heap.size, 0, none⟩) (n + m) (grownCap w (n + m) cap e))
        (w.drew.alloc (.cells (olds.toArray ++ news.toArray ++ Builtin.zeroCells z.cells (grownCap w (n + m) cap e - (n + m))) e)) := by
  have hn : ¬ (n + m ≤ cap) := by omega
  have h63' : ¬ (9223372036854775807 < ((n : Int) + (m : Int))) := by simp only [maxLen] at h63; omega
  have h48 := growslice_fits (bytes := i.bytes) hg hb
  have h48' : ¬ (281474976710656 < Builtin.nextslicecap (n + m) cap * i.bytes) := by omega
  have hlen := hs.len w
  have hc := hs.cells'
  simp [Builtin.append_, run_underlying ht, run_underlying hx, sizeOf, typeInfo, zeroValue, hi, hz, hlen, hn, h63', h48', Question.forced, hc, ho, newRow, grownCap]
  congr 2
  apply Array.ext'
  simp [List.append_assoc]
end

section
variable {w : World} {K : Nat → Nat → Prop}

theorem ER_cells (b sz : Nat) : ∀ (xs : List (List C)) (o : Nat), ER K w b o sz xs → ∃ news : List Value, news.length = xs.length * sz ∧ Holds K w sz xs news.toArray ∧ ∀ (j : Nat) v, news[j]? = some v → w.cell? ⟨b, o + j, none⟩ = some v
  | [], o, _ => ⟨[], by simp, fun j e h => by simp at h, by simp⟩
  | e :: r, o, h => by
    rw [ER] at h
    obtain ⟨⟨h1, h2⟩, h3⟩ := h
    obtain ⟨us, k1, k2, k3⟩ := LR_VR b e o h2
    obtain ⟨news, e1, e2, e3⟩ := ER_cells b sz r (o + sz) h3
    have hus : us.length = sz := by omega
    refine ⟨us ++ news, by simp [hus, e1, Nat.add_mul]; omega, fun j d hj => ?_, fun j v hj => ?_⟩
    · cases j with
      | zero =>
        simp at hj; subst hj
        refine ⟨h1, fun k c hk => ?_⟩
        have hlt : k < us.length := by rw [k2]; exact (List.getElem?_eq_some_iff.1 hk).1
        refine ⟨us[k], by simp [List.getElem?_append_left hlt, hlt], ((VR_iff _ _).1 k1).2 k c _ hk (by simp [hlt])⟩
      | succ j =>
        obtain ⟨f1, f2⟩ := e2 j d (by simpa using hj)
        refine ⟨f1, fun k c hk => ?_⟩
        obtain ⟨u, g1, g2⟩ := f2 k c hk
        refine ⟨u, ?_, g2⟩
        have : (j + 1) * sz + k = us.length + (j * sz + k) := by rw [hus, Nat.add_mul]; omega
        rw [this, List.getElem?_toArray, List.getElem?_append_right (by omega), Nat.add_sub_cancel_left]
        simpa using g1
    · by_cases hlt : j < us.length
      · rw [List.getElem?_append_left hlt] at hj; exact k3 j v hj
      · rw [List.getElem?_append_right (by omega)] at hj
        have := e3 _ v hj
        rwa [show o + sz + (j - us.length) = o + j from by omega] at this

theorem Holds.one {sz : Nat} {xs : List (List C)} {cur : List Value} (h : Holds K w sz xs cur.toArray) (hl : cur.length = xs.length * sz) : ∀ v ∈ cur, v.oneCell' = true := by
  intro v hv
  obtain ⟨i, hi, rfl⟩ := List.mem_iff_getElem.1 hv
  have hsz : 0 < sz := by
    rcases Nat.eq_zero_or_pos sz with h0 | h0
    · subst h0; simp at hl; subst hl; simp at hi
    · exact h0
  have hj : i / sz < xs.length := Nat.div_lt_of_lt_mul (by rw [Nat.mul_comm]; omega)
  obtain ⟨h1, h2⟩ := h (i / sz) xs[i / sz] (by simp [hj])
  have hk : i % sz < (xs[i / sz]).length := by rw [h1]; exact Nat.mod_lt _ hsz
  obtain ⟨u, e1, e2⟩ := h2 (i % sz) (xs[i / sz])[i % sz] (by simp [hk])
  have : i / sz * sz + i % sz = i := by rw [Nat.mul_comm]; exact Nat.div_add_mod i sz
  rw [this] at e1
  simp [hi] at e1
  rw [e1]
  exact CR.one e2

/-- a datum that is a slice, as the source of an append -/
theorem src_of_CR {P : Program} {nil : Bool} {ys : List (List C)} {u : Value} {s : Nat} (h : CR K w (.sl nil ys) u) (hs : ∀ e ∈ ys, e.length = s) :
    ∃ news : List Value, Src P w s u ys.length news ∧ Holds K w s ys news.toArray := by
  rw [CR] at h
  rcases h with ⟨_, rfl, rfl⟩ | ⟨_, b, o, sp, cap, sz, rfl, h1, h2, ks, h3⟩
  · exact ⟨[], ⟨fun _ => rfl, by simp [Builtin.firstCells], by simp [Builtin.firstCells], by simp, by simp⟩, fun j e h => by simp at h⟩
  · obtain ⟨news, e1, e2, e3⟩ := ER_cells b sz ys o h3
    have hz : ys = [] ∨ sz = s := by
      cases ys with
      | nil => exact .inl rfl
      | cons e r => right; rw [← hs e (by simp)]; rw [ER] at h3; exact h3.1.1.symm
    have hl : news.length = ys.length * s := by
      rcases hz with rfl | rfl
      · simp at e1 ⊢; exact e1
      · exact e1
    have hh : Holds K w s ys news.toArray := by
      rcases hz with rfl | rfl
      · intro j e h; simp at h
      · exact e2
    have hcell : ∀ (j : Nat) (v : Value), news[j]? = some v → w.cell? ((⟨b, o, sp⟩ : Addr).add j) = some v := by
      rcases ks with rfl | rfl
      · intro j v hj
        have : news = [] := List.eq_nil_of_length_eq_zero (by simpa using hl)
        subst this; simp at hj
      · intro j v hj; rw [add_lit]; exact e3 j v hj
    refine ⟨news, ⟨fun _ => rfl, ?_, ?_, hl, hh.one hl⟩, hh⟩
    · exact run_firstCells_some (P := P) w s ys.length ⟨b, o, sp⟩ _ _ news hl hcell
    · exact run_firstCells_some (P := P) w.drew s ys.length ⟨b, o, sp⟩ _ _ news hl hcell

theorem Holds.append {sz : Nat} {xs ys : List (List C)} {cur : Array Value} {news rest : List Value} (h : Holds K w sz xs cur) (hn : xs.length * sz ≤ cur.size) (h' : Holds K w sz ys news.toArray) :
    Holds K w sz (xs ++ ys) (cur.toList.take (xs.length * sz) ++ news ++ rest).toArray := by
  have hlen : (cur.toList.take (xs.length * sz)).length = xs.length * sz := by simp; omega
  intro j e hj
  by_cases hlt : j < xs.length
  · rw [List.getElem?_append_left hlt] at hj
    obtain ⟨h1, h2⟩ := h j e hj
    refine ⟨h1, fun k c hk => ?_⟩
    obtain ⟨u, e1, e2⟩ := h2 k c hk
    refine ⟨u, ?_, e2⟩
    have hk' : k < sz := by rw [← h1]; exact (List.getElem?_eq_some_iff.1 hk).1
    have : j * sz + k < xs.length * sz := by
      have : (j + 1) * sz ≤ xs.length * sz := Nat.mul_le_mul_right _ (by omega)
      rw [Nat.add_mul] at this; omega
    simp only [List.getElem?_toArray, List.append_assoc]
    rw [List.getElem?_append_left (by omega), List.getElem?_take, if_pos this]
    simpa using e1
  · rw [List.getElem?_append_right (by omega)] at hj
    obtain ⟨h1, h2⟩ := h' (j - xs.length) e hj
    refine ⟨h1, fun k c hk => ?_⟩
    obtain ⟨u, e1, e2⟩ := h2 k c hk
    refine ⟨u, ?_, e2⟩
    have hj2 : (j - xs.length) * sz + k < news.length := by
      simp at e1; exact (List.getElem?_eq_some_iff.1 e1).1
    have : j * sz + k = xs.length * sz + ((j - xs.length) * sz + k) := by
      rw [Nat.sub_mul]
      have : xs.length * sz ≤ j * sz := Nat.mul_le_mul_right _ (by omega)
      omega
    simp only [List.getElem?_toArray, List.append_assoc]
    rw [this, List.getElem?_append_right (by omega), hlen, Nat.add_sub_cancel_left, List.getElem?_append_left hj2]
    simpa using e1
end

section
variable {P : Program} {w0 : World} {K0 : K0T} {nt : Nat} {st : St} {a : Act} {w : World} {g : G}

/-- a new block -/
theorem T.new (h : T w0 K0 nt st a w g) (i : Nat) (r : Res) (v : Value) (w' : World) (o : Obj) (hw : w' = w.alloc o ∨ w' = w.drew.alloc o) (hv : blk v = some w.heap.size)
    (hr : ∀ g' R', g' = { g with loc := fun j => if j = i then v else g.loc j } → Keeps g.K w g'.K w' → w'.heap[w.heap.size]? = some o → (∀ o, ¬ g'.K w.heap.size o) → RR g' w' R' (fun b => ¬ Old w0 K0 b) i r) :
    T w0 K0 nt ((st.clr i).setR i (some r)) a w' { g with loc := fun j => if j = i then v else g.loc j } := by
  have hheap : w'.heap = w.heap.push o := by rcases hw with rfl | rfl <;> rfl
  have hold : ∀ k, k < w.heap.size → w'.heap[k]? = w.heap[k]? := fun k hk => by rw [hheap, Array.getElem?_push, if_neg (by omega)]
  have hB : w0.heap.size ≤ w.heap.size := h.below.size
  have hkeep : Keeps g.K w g.K w' := ⟨fun _ _ k => k, fun b o k => by
    have := h.klt b o k
    simp only [World.cell?]
    rw [hold b this]⟩
  refine T.make h (g' := { g with loc := fun j => if j = i then v else g.loc j }) ?_ hkeep h.kold (fun b o k => by
    have := h.klt b o k
    rw [hheap]; simp; omega) (fun j hj => by simp [hj]) (fun j rj b hj hs hb => ⟨hold b ((h.res j rj hs).lt hb), fun _ k => k⟩) (fun j rj hj hs b hb hb2 => ?_) (hr _ _ rfl hkeep ?_ ?_)
  · refine ⟨?_, ?_, ?_, by rw [hheap]; simp, fun k hk => hold k (Nat.lt_of_lt_of_le hk.1 hB)⟩ <;> (rcases hw with rfl | rfl <;> rfl)
  · simp at hb
    rw [hv] at hb
    cases hb
    have := (h.res j rj hs).lt hb2
    omega
  · rw [hheap]; simp
  · intro o k
    have := h.klt _ _ k
    omega

/-- more of one's own row stays as it is from now on -/
theorem T.fix (h : T w0 K0 nt st a w g) {i : Nat} {nil : Bool} {sz : Nat} {xs : List (List C)} {fx : Nat} (hi : st.rs i = some (.arr nil sz xs fx)) (f : Nat) (hf : fx ≤ f) (hl : f ≤ xs.length) :
    ∃ g', T w0 K0 nt (st.setR i (some (.arr nil sz xs f))) a w g' ∧ g'.loc = g.loc ∧ Keeps g.K w g'.K w ∧ ∀ b, blk (g.loc i) = some b → ∀ o, g'.K b o ↔ o < f * sz := by
  rcases h.res i _ hi with ⟨h1, h2, h3, h3'⟩ | ⟨h0, b, cap, cur, E, h1, h2, h3, h4, h5, h6, h7, h8, h9⟩
  · subst h2
    have hf0 : f = 0 := by simpa using hl
    refine ⟨g, ?_, rfl, Keeps.refl _ _, fun b hb => by rw [h3] at hb; simp [blk] at hb⟩
    exact T.mod h hi (Bel.refl _ _ _) (Keeps.refl _ _) h.kold h.klt rfl (fun _ _ _ _ _ _ => ⟨rfl, fun _ k => k⟩) (.inr ⟨nil, sz, [], fx, nil, [], f, rfl, rfl, rfl⟩) (fun _ => .inl ⟨h1, rfl, h3, hf0⟩)
  · have hk : Keeps g.K w (fun b' o => g.K b' o ∨ (b' = b ∧ o < f * sz)) w := ⟨fun _ _ k => .inl k, fun _ _ _ => rfl⟩
    have hfx : fx * sz ≤ f * sz := Nat.mul_le_mul_right _ hf
    have hiff : ∀ o, (g.K b o ∨ (b = b ∧ o < f * sz)) ↔ o < f * sz := fun o => ⟨fun k => by
      rcases k with k | ⟨_, k⟩
      · have := (h9 o).1 k; omega
      · exact k, fun k => .inr ⟨rfl, k⟩⟩
    refine ⟨{ g with K := fun b' o => g.K b' o ∨ (b' = b ∧ o < f * sz) }, ?_, rfl, hk, fun b' hb' => by
      rw [h1] at hb'; simp [blk] at hb'; subst hb'; exact hiff⟩
    refine T.mod h hi (Bel.refl _ _ _) hk (fun b' o k hb => ?_) (fun b' o k => ?_) rfl (fun j r b' hj hr hb => ⟨rfl, fun o k => ?_⟩) (.inr ⟨nil, sz, xs, fx, nil, xs, f, rfl, rfl, rfl⟩)
        (fun _ => .inr ⟨h0, b, cap, cur, E, h1, h2, h3, h4, h5, h6, hl, h8.mono hk, hiff⟩)
    · rcases k with k | ⟨rfl, _⟩
      · exact h.kold _ _ k hb
      · exact absurd hb h2
    · rcases k with k | ⟨rfl, _⟩
      · exact h.klt _ _ k
      · exact (Array.getElem?_eq_some_iff.1 h3).1
    · rcases k with k | ⟨rfl, _⟩
      · exact k
      · exact absurd hb (h.dis i j _ _ hi hr (Ne.symm hj) b' (by rw [h1]; rfl))

/-- a row all of which stays is a datum -/
theorem RR.datum {R : Nat → Option Res} {B : Nat → Prop} {i : Nat} {nil : Bool} {sz : Nat} {xs : List (List C)} (h : RR g w R B i (.arr nil sz xs xs.length)) : CR g.K w (.sl nil xs) (g.loc i) := by
  rcases h with ⟨h1, h2, h3, _⟩ | ⟨h0, b, cap, cur, E, h1, h2, h3, h4, h5, h6, h7, h8, h9⟩
  · rw [CR]; exact .inl ⟨h1, h2, h3⟩
  · rw [CR]
    refine .inr ⟨h0, b, 0, none, cap, sz, h1, h4, h5, .inr rfl, ?_⟩
    rw [ER_iff]
    intro j e hj
    obtain ⟨k1, k2⟩ := h8 j e hj
    refine ⟨k1, ?_⟩
    rw [LR_iff]
    intro k c hc
    obtain ⟨u, e1, e2⟩ := k2 k c hc
    have hjlt : j < xs.length := (List.getElem?_eq_some_iff.1 hj).1
    have hklt : k < sz := by rw [← k1]; exact (List.getElem?_eq_some_iff.1 hc).1
    have : j * sz + k < xs.length * sz := by
      have : (j + 1) * sz ≤ xs.length * sz := Nat.mul_le_mul_right _ (by omega)
      rw [Nat.add_mul] at this; omega
    refine ⟨(h9 _).2 (by omega), u, ?_, e2⟩
    rw [cell_of_heap h3, Nat.zero_add]
    exact e1

/-- what is one's own row is handed on as a datum: its cells stay from now on -/
theorem T.snap (h : T w0 K0 nt st a w g) {i : Nat} {nil : Bool} {sz : Nat} {xs : List (List C)} {fx : Nat} (hi : st.rs i = some (.arr nil sz xs fx)) :
    ∃ g', T w0 K0 nt (st.setR i (some (.arr nil sz xs xs.length))) a w g' ∧ CR g'.K w (.sl nil xs) (g.loc i) ∧ g'.loc = g.loc ∧ Keeps g.K w g'.K w := by
  have hle : fx ≤ xs.length := by
    rcases h.res i _ hi with ⟨_, _, _, h3⟩ | ⟨h0, b, cap, cur, E, h1, h2, h3, h4, h5, h6, h7, h8, h9⟩
    · omega
    · exact h7
  obtain ⟨g', k1, k2, k3, _⟩ := h.fix hi xs.length hle (Nat.le_refl _)
  refine ⟨g', k1, ?_, k2, k3⟩
  rw [← k2]
  exact (k1.res i _ (by rw [St.rs_setR, if_pos rfl])).datum
end
end Go.VL
