/-
  A logic on data over the model's walk, part 8: new memory, append, stores, over the relation.
-/
import Derived.Test.YtgodbpamppcfnaaV7
set_option linter.unusedSimpArgs false
set_option linter.unusedVariables false
namespace Go.VL
open Go.RowKit

section
variable {P : Program} {w0 : World} {K0 : K0T} {nt : Nat} {st : St} {a : Act} {w : World} {g : G}

/-- nothing, as a row of one's own -/
theorem T.nilR (h : T w0 K0 nt st a w g) (i : Nat) : ∃ g', T w0 K0 nt ((st.clr i).setR i (some (.arr true 0 [] 0))) a w g' ∧ g'.loc i = .slice none 0 0 ∧ (∀ j, j ≠ i → g'.loc j = g.loc j) ∧ g'.K = g.K := by
  refine ⟨{ g with loc := fun j => if j = i then .slice none 0 0 else g.loc j }, ?_, by simp, fun j hj => by simp [hj], rfl⟩
  exact T.make h (Bel.refl _ _ _) (Keeps.refl _ _) h.kold h.klt (fun j hj => by simp [hj]) (fun _ _ _ _ _ _ => ⟨rfl, fun _ k => k⟩) (fun j r hj hr b hb => by simp [blk] at hb) (.inl ⟨rfl, rfl, by simp, rfl⟩)

theorem SRs_iff : ∀ (ss : List S) (us : List Value) {R : Nat → Option Res}, SRs g w R ss us ↔ us.length = ss.length ∧ ∀ (k : Nat) s u, ss[k]? = some s → us[k]? = some u → SR g w R s u
  | [], us, R => by rw [SRs]; simp
  | s :: r, us, R => by
    rw [SRs]
    constructor
    · rintro ⟨u, us', rfl, h1, h2⟩
      obtain ⟨h3, h4⟩ := (SRs_iff r us').1 h2
      refine ⟨by simp [h3], fun k d x hk hx => ?_⟩
      cases k with
      | zero => simp at hk hx; subst hk; subst hx; exact h1
      | succ k => exact h4 k d x (by simpa using hk) (by simpa using hx)
    · rintro ⟨h1, h2⟩
      cases us with
      | nil => simp at h1
      | cons u us' => exact ⟨u, us', rfl, h2 0 s u rfl rfl, (SRs_iff r us').2 ⟨by simpa using h1, fun k d x hk hx => h2 (k + 1) d x (by simpa using hk) (by simpa using hx)⟩⟩

/-- a new variable -/
theorem T.newbox (h : T w0 K0 nt st a w g) (i : Nat) (ss : List S) (us : List Value) (E : TypeId) (hs : SRs g w st.rs ss us) (h1 : ∀ u ∈ us, u.oneCell' = true) (hm : S.mens i ss = false) :
    ∃ g', T w0 K0 nt ((st.clr i).setR i (some (.box false ss))) a (w.alloc (.cells us.toArray E)) g' ∧ g'.loc i = .pointer (some ⟨w.heap.size, 0, none⟩) ∧ (∀ j, j ≠ i → g'.loc j = g.loc j) ∧ g'.K = g.K := by
  refine ⟨{ g with loc := fun j => if j = i then .pointer (some ⟨w.heap.size, 0, none⟩) else g.loc j }, ?_, by simp, fun j hj => by simp [hj], rfl⟩
  have hc : ∀ R', (∀ j, j ≠ i → R' j = (st.rs j).map (Res.clr i)) → ∀ j, S.mens j ss = true → Cmp g st.rs { g with loc := fun j => if j = i then .pointer (some ⟨w.heap.size, 0, none⟩) else g.loc j } R' j := by
    intro R' hR j hj
    have hji : j ≠ i := fun e => by rw [e] at hj; rw [hj] at hm; cases hm
    refine ⟨fun fz ss' e => ?_, fun nil sz xs fx e => ?_⟩
    · rw [hR j hji] at e
      cases hs : st.rs j with
      | none => simp [hs] at e
      | some r => cases r with
        | box fz0 ss0 => exact ⟨⟨fz0, ss0, rfl⟩, by simp [hji]⟩
        | arr _ _ _ _ => simp [hs, Res.clr] at e
        | pin _ _ => simp [hs, Res.clr] at e
    · rw [hR j hji] at e
      cases hs : st.rs j with
      | none => simp [hs] at e
      | some r => cases r with
        | box fz0 ss0 => simp [hs, Res.clr] at e
        | arr nil0 sz0 xs0 fx0 =>
          simp [hs, Res.clr] at e
          obtain ⟨rfl, rfl, rfl, rfl⟩ := e
          exact ⟨⟨_, _, _, rfl, rfl⟩, by simp [hji]⟩
        | pin _ _ => simp [hs, Res.clr] at e
  have key := fun (g' : G) (hg' : g' = { g with loc := fun j => if j = i then .pointer (some ⟨w.heap.size, 0, none⟩) else g.loc j }) (hk : Keeps g.K w g'.K (w.alloc (.cells us.toArray E))) =>
    SRs.mono (R' := ((st.clr i).setR i (some (.box false ss))).rs) hk ss us (fun j hj => hg' ▸ hc _ (fun j hj => by rw [St.rs_setR, if_neg (Ne.symm hj), St.rs_clr]) j hj) hs
  have hB : w0.heap.size ≤ w.heap.size := h.below.size
  refine T.make h (g' := { g with loc := fun j => if j = i then .pointer (some ⟨w.heap.size, 0, none⟩) else g.loc j }) (Bel.of ((Below.refl _ _).alloc hB _)) ⟨fun _ _ k => k, fun b o k => World.cell?_alloc_lt _ _ _ (h.klt b o k)⟩ h.kold (fun b o k => by
      have := h.klt b o k; simp; omega) (fun j hj => by simp [hj]) (fun j r b hj hr hb => ⟨Below.heap_alloc _ _ _ ((h.res j r hr).lt hb), fun _ k => k⟩) (fun j r hj hr b hb hb2 => ?_) ?_
  · simp [blk] at hb
    have := (h.res j r hr).lt hb2
    omega
  · have hk : Keeps g.K w g.K (w.alloc (.cells us.toArray E)) := ⟨fun _ _ k => k, fun b o k => World.cell?_alloc_lt _ _ _ (h.klt b o k)⟩
    have hss := key _ rfl hk
    obtain ⟨hl, hss⟩ := (SRs_iff ss us).1 hss
    refine ⟨w.heap.size, us.toArray, E, by simp, (fun e => absurd e.1 (by omega)), heap_alloc_new w _, by simp [hl], fun k s hs' => ?_, fun o k => ?_⟩
    · have hlt : k < us.length := by rw [hl]; exact (List.getElem?_eq_some_iff.1 hs').1
      exact ⟨us[k], by simp [hlt], hss k s _ hs' (by simp [hlt]), h1 _ (List.getElem_mem hlt)⟩
    · have := h.klt _ _ k
      omega

/-- a new row -/
theorem T.newarr (h : T w0 K0 nt st a w g) (i : Nat) (sz : Nat) (xs : List (List C)) (cur : Array Value) (E : TypeId) (cap : Nat) (w' : World) (hw : w' = w.alloc (.cells cur E) ∨ w' = w.drew.alloc (.cells cur E))
    (hh : Holds g.K w sz xs cur) (h1 : xs.length ≤ cap) (h2 : cap ≤ maxLen) (h3 : cur.size = cap * sz) :
    ∃ g', T w0 K0 nt ((st.clr i).setR i (some (.arr false sz xs 0))) a w' g' ∧ g'.loc i = .slice (some ⟨w.heap.size, 0, none⟩) xs.length cap ∧ (∀ j, j ≠ i → g'.loc j = g.loc j) ∧ g'.K = g.K := by
  have hB : w0.heap.size ≤ w.heap.size := h.below.size
  refine ⟨_, T.new h i (.arr false sz xs 0) (.slice (some ⟨w.heap.size, 0, none⟩) xs.length cap) w' (.cells cur E) hw rfl (fun g' R' hg' hk hb hn => ?_), by simp, fun j hj => by simp [hj], rfl⟩
  exact .inr ⟨rfl, w.heap.size, cap, cur, E, by rw [hg']; simp, (fun e => absurd e.1 (by omega)), hb, h1, h2, h3, Nat.zero_le _, hh.mono hk, fun o => ⟨fun k => absurd k (hn o), fun k => by simp at k⟩⟩

/-- append to a row of one's own -/
theorem T.append (h : T w0 K0 nt st a w g) {t xt ty s B : Nat} {d : TypeDesc} (ht : slT P t = some (s, B)) (hx : P.underlying xt = some d) (hd : ∀ k, d ≠ .int k)
    {i : Nat} {nil : Bool} {sz : Nat} {xs ys : List (List C)} {fx : Nat} (hi : st.rs i = some (.arr nil sz xs fx)) (hsz : nil = false → sz = s)
    {x : Value} {news : List Value} (hs : Src P w s x ys.length news) (hh : Holds g.K w s ys news.toArray) (hB0 : 0 < B) (hB : (xs.length + ys.length) * B ≤ 140737488355328) :
    ∃ v w' g', (Builtin.append_ #[t, xt] ty #[g.loc i, x]).run P w = .ok v w' ∧ T w0 K0 nt ((st.clr i).setR i (some (.arr (nil && ys.isEmpty) s (xs ++ ys) fx))) a w' g' ∧ g'.loc i = v ∧ (∀ j, j ≠ i → g'.loc j = g.loc j) ∧ Keeps g.K w g'.K w' := by
  obtain ⟨e, ti, z, t1, t2, t3, t4, t5, rfl, rfl⟩ := slT_some ht
  have hBz : w0.heap.size ≤ w.heap.size := h.below.size
  have h63 : xs.length + ys.length ≤ maxLen := by
    have : (xs.length + ys.length) * 1 ≤ (xs.length + ys.length) * ti.bytes := Nat.mul_le_mul_left _ hB0
    simp only [maxLen]; omega
  have hkeepA : ∀ o, Keeps g.K w g.K (w.drew.alloc o) := fun o => ⟨fun _ _ k => k, fun b o' k => World.cell?_alloc_lt w.drew _ _ (h.klt b o' k)⟩
  have hheap : ∀ (o : Obj) k, k < w.heap.size → (w.drew.alloc o).heap[k]? = w.heap[k]? := fun o k hk => Below.heap_alloc w.drew o k hk
  have hbelowA : ∀ o, Below w0.heap.size w (w.drew.alloc o) := fun o => ((Below.refl _ w).drew).alloc hBz o
  have grow : ∀ (cap : Nat) (olds : List Value), Holds g.K w ti.size xs olds.toArray → olds.length = xs.length * ti.size →
      (nil && ys.isEmpty) = false → ∀ C, C = grownCap w (xs.length + ys.length) cap e →
      fx ≤ xs.length → ∃ g', T w0 K0 nt ((st.clr i).setR i (some (.arr (nil && ys.isEmpty) ti.size (xs ++ ys) fx))) a (w.drew.alloc (.cells (olds.toArray ++ news.toArray ++ Builtin.zeroCells z.cells (C - (xs.length + ys.length))) e)) g' ∧
        g'.loc i = .slice (some ⟨w.heap.size, 0, none⟩) (xs.length + ys.length) C ∧ (∀ j, j ≠ i → g'.loc j = g.loc j) ∧ Keeps g.K w g'.K (w.drew.alloc (.cells (olds.toArray ++ news.toArray ++ Builtin.zeroCells z.cells (C - (xs.length + ys.length))) e)) := by
    intro cap olds ho hol hne C hC hfx
    have hge := grownCap_ge w (xs.length + ys.length) cap e
    have hle := grownCap_le_maxLen w (xs.length + ys.length) cap e h63
    rw [← hC] at hge hle
    have hT := T.new h i (.arr (nil && ys.isEmpty) ti.size (xs ++ ys) 0) (.slice (some ⟨w.heap.size, 0, none⟩) (xs.length + ys.length) C) _ (.cells (olds.toArray ++ news.toArray ++ Builtin.zeroCells z.cells (C - (xs.length + ys.length))) e) (.inr rfl) rfl (fun g' R' hg' hk hb hn => ?_)
    · obtain ⟨g', k1, k2, k3, _⟩ := hT.fix (by rw [St.rs_setR, if_pos rfl]) fx (Nat.zero_le _) (by simp; omega)
      refine ⟨g', k1.congr rfl ?_, by rw [k2]; simp, fun j hj => by rw [k2]; simp [hj], (hkeepA _).trans k3⟩
      funext j
      simp only [St.rs_setR]
      split <;> rfl
    refine .inr ⟨hne, w.heap.size, C, _, e, by rw [hg']; simp, (fun e => absurd e.1 (by omega)), hb, by simpa using hge, hle, ?_, Nat.zero_le _, ?_, fun o => ⟨fun k => absurd k (hn o), fun k => by simp at k⟩⟩
    · simp only [Array.size_append, List.size_toArray, size_zeroCells, t4, hol, hs.size, ← Nat.add_mul]
      congr 1
      omega
    · have := Holds.append (rest := (Builtin.zeroCells z.cells (C - (xs.length + ys.length))).toList) ho (by simp [hol]) hh
      have h2 : Holds g.K w ti.size (xs ++ ys) (olds.toArray ++ news.toArray ++ Builtin.zeroCells z.cells (C - (xs.length + ys.length))) := by
        have e1 : (olds.toArray.toList.take (xs.length * ti.size)) = olds := by simp [← hol]
        rw [e1] at this
        have e2 : (olds ++ news ++ (Builtin.zeroCells z.cells (C - (xs.length + ys.length))).toList).toArray = olds.toArray ++ news.toArray ++ Builtin.zeroCells z.cells (C - (xs.length + ys.length)) := by
          apply Array.ext'; simp
        rw [e2] at this
        exact this
      exact h2.mono hk
  rcases h.res i _ hi with ⟨rfl, rfl, h3, rfl⟩ | ⟨rfl, b, cap, cur, E, h3, h4, h5, h6, h7, h8, h9, h10, h11⟩
  · rw [h3]
    by_cases hy : ys = []
    · subst hy
      refine ⟨_, w, g, run_app_none t1 hx hd t2 hs, ?_, h3, fun _ _ => rfl, Keeps.refl _ _⟩
      exact T.make h (Bel.refl _ _ _) (Keeps.refl _ _) h.kold h.klt (fun _ _ => rfl) (fun _ _ _ _ _ _ => ⟨rfl, fun _ k => k⟩) (fun j r hj hr b hb => by rw [h3] at hb; simp [blk] at hb) (.inl ⟨rfl, rfl, h3, rfl⟩)
    · have hr := run_app_grow (base := none) (n := 0) (cap := 0) (olds := []) (ty := ty) t1 hx hd t2 t3 hs (by simp [Builtin.firstCells]) (by have := List.length_pos_iff.2 hy; omega) (by simpa using h63) (by simpa using hB)
      have hg := grow 0 [] (fun j e h => by simp at h) (by simp) (by simp [hy]) _ rfl (Nat.le_refl _)
      simp only [List.length_nil, Nat.zero_add] at hr hg
      obtain ⟨g', k1, k2, k3, k4⟩ := hg
      exact ⟨_, _, g', hr, k1, k2, k3, k4⟩
  · have e : sz = ti.size := hsz rfl
    subst e
    rw [h3]
    by_cases hroom : xs.length + ys.length ≤ cap
    · have hcap : (xs.length + ys.length) * ti.size ≤ cap * ti.size := Nat.mul_le_mul_right _ hroom
      have hfit : xs.length * ti.size + news.length ≤ cur.size := by rw [hs.size, h8, ← Nat.add_mul]; exact hcap
      have hr := run_app_room (ty := ty) t1 hx hd t2 hs h5 hroom hfit
      have hlt : b < w.heap.size := (Array.getElem?_eq_some_iff.1 h5).1
      have hoth : ∀ k, k ≠ b → ∀ cs, (w.setRow b cs).heap[k]? = w.heap[k]? := fun k hk cs => setRow_other w b k cs hk
      have hxs : xs.length * ti.size ≤ cur.size := by omega
      have hk : ∀ rest : List Value, Keeps g.K w g.K (w.setRow b (cur.toList.take (xs.length * ti.size) ++ rest).toArray) := fun rest => ⟨fun _ _ k => k, fun b' o k => by
        by_cases hb : b' = b
        · subst hb
          have ho := (h11 o).1 k
          have : fx * ti.size ≤ xs.length * ti.size := Nat.mul_le_mul_right _ h9
          rw [cell_of_heap h5, cell_of_heap (setRow_heap w b' cur _ E _ h5)]
          rw [List.getElem?_toArray, List.getElem?_append_left (by simp; omega), List.getElem?_take, if_pos (by omega)]
          simp
        · simp only [World.cell?]; rw [hoth b' hb]⟩
      have hk' := hk (news ++ cur.toList.drop (xs.length * ti.size + news.length))
      rw [← List.append_assoc] at hk'
      refine ⟨_, _, { g with loc := fun j => if j = i then .slice (some ⟨b, 0, none⟩) (xs.length + ys.length) cap else g.loc j }, hr, ?_, by simp, fun j hj => by simp [hj], hk'⟩
      refine T.make h ⟨rfl, rfl, rfl, by simp, fun k hk => hoth k (fun e => h4 (e ▸ hk)) _⟩ hk' h.kold (fun b' o k => by simpa using h.klt b' o k) (fun j hj => by simp [hj]) (fun j r b' hj hrj hb => ⟨hoth b' (fun e => ?_) _, fun _ k => k⟩) (fun j r hj hrj b' hb hb2 => ?_) ?_
      · subst e; exact h.dis i j _ _ hi hrj (Ne.symm hj) b' (by rw [h3]; rfl) hb
      · simp [blk] at hb
        subst hb
        exact h.dis i j _ _ hi hrj (Ne.symm hj) b (by rw [h3]; rfl) hb2
      · refine .inr ⟨rfl, b, cap, _, E, by simp, h4, setRow_heap w b cur _ E _ h5, by simpa using hroom, h7, ?_, by simp; omega, ?_, h11⟩
        · simp only [List.size_toArray, List.length_append, List.length_take, List.length_drop, Array.length_toList]
          omega
        · exact (Holds.append h10 hxs hh).mono hk'
    · have hlt : b < w.heap.size := (Array.getElem?_eq_some_iff.1 h5).1
      have hcap : xs.length * ti.size ≤ cap * ti.size := Nat.mul_le_mul_right _ h6
      have hol : (cur.toList.take (xs.length * ti.size)).length = xs.length * ti.size := by simp; omega
      have hfc : (Builtin.firstCells ti.size xs.length (.slice (some ⟨b, 0, none⟩) xs.length cap)).run P w.drew = .ok (cur.toList.take (xs.length * ti.size)).toArray w.drew :=
        run_firstCells_some (P := P) w.drew ti.size xs.length ⟨b, 0, none⟩ _ _ _ hol (fun j v hj => by
          rw [add_lit, Nat.zero_add, World.cell?_drew, cell_of_heap h5]
          rw [List.getElem?_take] at hj
          split at hj
          · simpa using hj
          · cases hj)
      have hr := run_app_grow (ty := ty) t1 hx hd t2 t3 hs hfc (by omega) h63 hB
      have hho : Holds g.K w ti.size xs (cur.toList.take (xs.length * ti.size)).toArray := by
        intro j e hj
        obtain ⟨k1, k2⟩ := h10 j e hj
        refine ⟨k1, fun k c hc => ?_⟩
        obtain ⟨u, e1, e2⟩ := k2 k c hc
        refine ⟨u, ?_, e2⟩
        have hjlt : j < xs.length := (List.getElem?_eq_some_iff.1 hj).1
        have hklt : k < ti.size := by rw [← k1]; exact (List.getElem?_eq_some_iff.1 hc).1
        have : j * ti.size + k < xs.length * ti.size := by
          have : (j + 1) * ti.size ≤ xs.length * ti.size := Nat.mul_le_mul_right _ (by omega)
          rw [Nat.add_mul] at this; omega
        rw [List.getElem?_toArray, List.getElem?_take, if_pos this]
        simpa using e1
      obtain ⟨g', k1, k2, k3, k4⟩ := grow cap _ hho hol rfl _ rfl h9
      exact ⟨_, _, g', hr, k1, k2, k3, k4⟩
end
end Go.VL
