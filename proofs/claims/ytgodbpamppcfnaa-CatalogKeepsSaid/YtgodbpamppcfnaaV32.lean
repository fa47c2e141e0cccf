/-
  A logic on data over the model's walk, part 32: the library's sort of a row of structs, as a contract of this logic.
-/
import Derived.Test.YtgodbpamppcfnaaV31
import Derived.Shelf.GgSortFunc.InsertionK
set_option linter.unusedSimpArgs false
set_option linter.unusedVariables false
namespace Go.VL
open Go.RowKit

section
variable {P : Program} {α : Type} [Inhabited α]

/-- a row of structs of plain cells is what the library's sort holds -/
theorem holdsK_of {enc : α → List Value} {k : Nat} {cells : α → List C} (hc : ∀ x, cells x = (enc x).map C.v) (hk : ∀ x, (enc x).length = k) {K : Nat → Nat → Prop} {w : World} {b : Nat} {cur : Array Value} {E : TypeId} {l : List α}
    (hh : w.heap[b]? = some (.cells cur E (0, 0))) (h : Holds K w k (l.map cells) cur) : Sort.HoldsK enc k w b 0 l.toArray := by
  intro j hj
  rw [Sort.size_flatK] at hj
  have hj' : j < l.length * k := by simpa using hj
  have k0 : 0 < k := by rcases Nat.eq_zero_or_pos k with h | h; · subst h; simp at hj'
                        · exact h
  have hq : j / k < l.length := (Nat.div_lt_iff_lt_mul k0).2 hj'
  have hm : j % k < k := Nat.mod_lt _ k0
  rw [Sort.get_flatK _ _ _ _ hj]
  obtain ⟨_, h2⟩ := h (j / k) (cells l[j / k]) (by rw [List.getElem?_map, List.getElem?_eq_getElem hq]; rfl)
  have hl : (enc l[j / k]).length = k := hk _
  obtain ⟨u, hu, hcr⟩ := h2 (j % k) (.v ((enc l[j / k])[j % k]'(by omega))) (by rw [hc, List.getElem?_map, List.getElem?_eq_getElem (by omega)]; rfl)
  rw [CR] at hcr
  rw [Nat.div_add_mod'] at hu
  have e1 : l.toArray[j / k]! = l[j / k] := by simp [hq]
  refine ⟨?_, ?_⟩
  · unfold World.cell?
    simp only [hh, Nat.zero_add]
    rw [e1, getElem!_pos _ _ (by omega)]
    simp [hu, hcr.1]
  · unfold World.frozen?
    simp [hh]

theorem holds_sorted {enc : α → List Value} {k : Nat} {cells : α → List C} (hc : ∀ x, cells x = (enc x).map C.v) (hk : ∀ x, (enc x).length = k) (h1 : ∀ x, ∀ v ∈ enc x, v.oneCell' = true) (K : Nat → Nat → Prop) (w : World) {cur : Array Value} {cap : Nat} {l : List α}
    (hs : cur.size = cap * k) (hcap : l.length ≤ cap) : Holds K w k (l.map cells) (Sort.putCells id 0 (Sort.flatK enc k l.toArray) cur) := by
  intro j e he
  rw [List.getElem?_map] at he
  cases hj : l[j]? with
  | none => rw [hj] at he; simp at he
  | some x =>
    rw [hj] at he
    simp only [Option.map_some, Option.some.injEq] at he
    subst he
    have hjl : j < l.length := (List.getElem?_eq_some_iff.1 hj).1
    have hx : l[j] = x := (List.getElem?_eq_some_iff.1 hj).2
    refine ⟨by rw [hc, List.length_map, hk], fun c y hy => ?_⟩
    rw [hc, List.getElem?_map] at hy
    cases hv : (enc x)[c]? with
    | none => rw [hv] at hy; simp at hy
    | some v =>
      rw [hv] at hy
      simp only [Option.map_some, Option.some.injEq] at hy
      subst hy
      have hck : c < k := by have := (List.getElem?_eq_some_iff.1 hv).1; rwa [hk] at this
      have hb : j * k + c < l.length * k := by
        have := Nat.mul_le_mul_right k (show j + 1 ≤ l.length from hjl)
        rw [Nat.add_mul, Nat.one_mul] at this; omega
      have hb2 : j * k + c < cur.size := by
        have := Nat.mul_le_mul_right k hcap
        omega
      have e1 : (j * k + c) / k = j := (Sort.blk_iff k j _ (by omega)).1 ⟨by omega, by omega⟩
      have e2 : (j * k + c) % k = c := by rw [Nat.mod_eq_sub_div_mul, e1]; omega
      refine ⟨v, ?_, by rw [CR]; exact ⟨rfl, h1 x v (List.mem_of_getElem? hv)⟩⟩
      unfold Sort.putCells
      rw [Array.getElem?_mapIdx, Array.getElem?_eq_getElem hb2]
      simp only [Option.map_some, Nat.zero_le, true_and, Nat.zero_add, Sort.size_flatK, Nat.sub_zero, id]
      rw [if_pos (by simpa using hb), Sort.get_flatK _ _ _ _ (by simpa using hb), e1, e2]
      simp [hjl, hx, hv]

/-- THE LIBRARY's SORT OF A ROW, as a contract -/
theorem ConB.sort {f : FuncId} {fv : FuncId} {enc : α → List Value} {k : Nat} {cells : α → List C} (hc : ∀ x, cells x = (enc x).map C.v) (hk : ∀ x, (enc x).length = k) (h1 : ∀ x, ∀ v ∈ enc x, v.oneCell' = true) (hf : callable P f = true) (l l' : List α) (hl : l'.length = l.length)
    (h : ∀ (w : World) (b cap : Nat), Sort.HoldsK enc k w b 0 l.toArray → b < w.heap.size → Calls P f #[.slice (some ⟨b, 0, none⟩) l.toArray.size cap, .func (.func fv) #[] #[]] w fun e w' => e = .returned (.tuple #[]) ∧ ∃ n os, w' = Go.Proofs.sortWorldK enc k w b 0 n l'.toArray os) :
    ConB P f [.own 1 l.length, .c (.fn fv [])] [(1, .arr false k (l.map cells) 0)] [] [.own 1 l.length, .c (.fn fv [])] [(1, .arr false k (l'.map cells) 0)] := by
  refine ⟨hf, fun w g us hM hargs => ?_⟩
  have hb1 : lk [(1, Res.arr false k (l.map cells) 0)] 1 = some (.arr false k (l.map cells) 0) := rfl
  rw [SRs] at hargs
  obtain ⟨u1, us1, rfl, hu1, hargs⟩ := hargs
  rw [SRs] at hargs
  obtain ⟨u2, us2, rfl, hu2, hargs⟩ := hargs
  rw [SRs] at hargs
  subst hargs
  have hu2' := hu2
  rw [SR] at hu1
  have e1 := hu1 false k (l.map cells) 0 hb1 (by simp)
  rw [SR, CR] at hu2
  obtain ⟨us3, e2, hu2⟩ := hu2
  rw [VR] at hu2
  subst hu2
  have hres := hM.res 1 _ hb1
  rw [RR] at hres
  rcases hres with ⟨hn, _⟩ | ⟨_, b, cap, cur, E, hloc, hB, hheap, hcap, hmax, hsz, hfx, hH, hK⟩
  · cases hn
  have hbs : b < w.heap.size := (Array.getElem?_eq_some_iff.1 hheap).1
  rw [List.length_map] at hloc hcap
  have hcall := h w b cap (holdsK_of hc hk hheap hH) hbs
  rw [e1, hloc, e2]
  refine hcall.mono ?_
  rintro e w' ⟨rfl, n, os, rfl⟩
  have hheap' : (Go.Proofs.sortWorldK enc k w b 0 n l'.toArray os).heap[b]? = some (.cells (Sort.putCells id 0 (Sort.flatK enc k l'.toArray) cur) E (0, 0)) := by
    unfold Go.Proofs.sortWorldK
    rw [Sort.heap_grow_old _ _ (by show b < (Sort.putRow id (Sort.ahead w n) b 0 _).heap.size; rw [Sort.size_putRow]; exact hbs)]
    show ((Sort.ahead w n).heap.modify b _)[b]? = _
    rw [Array.getElem?_modify, if_pos rfl]
    show Option.map _ w.heap[b]? = _
    rw [hheap]
    rfl
  have hother : ∀ q, q < w.heap.size → q ≠ b → (Go.Proofs.sortWorldK enc k w b 0 n l'.toArray os).heap[q]? = w.heap[q]? := by
    intro q hq hne
    unfold Go.Proofs.sortWorldK
    rw [Sort.heap_grow_old _ _ (by show q < (Sort.putRow id (Sort.ahead w n) b 0 _).heap.size; rw [Sort.size_putRow]; exact hq)]
    show ((Sort.ahead w n).heap.modify b _)[q]? = _
    rw [Array.getElem?_modify, if_neg (Ne.symm hne)]
    rfl
  have hsize : w.heap.size ≤ (Go.Proofs.sortWorldK enc k w b 0 n l'.toArray os).heap.size := by
    show w.heap.size ≤ (((Sort.ahead w n).heap.modify b _) ++ os).size
    rw [Array.size_append, Array.size_modify]
    exact Nat.le_add_right _ _
  have hlent : ∀ q, lent g [(1, Res.arr false k (l.map cells) 0)] q ↔ q = b := by
    intro q
    constructor
    · rintro ⟨i, r, hi, hq⟩
      have := (Prod.mk.inj (List.mem_singleton.1 (lk_mem hi))).1
      subst this
      rw [hloc] at hq
      simpa [blk] using hq.symm
    · rintro rfl
      exact ⟨1, _, hb1, by rw [hloc]; rfl⟩
  have hKb : ∀ o, ¬ g.K b o := fun o h => by have := (hK o).1 h; omega
  have hcell : ∀ q o, g.K q o → (Go.Proofs.sortWorldK enc k w b 0 n l'.toArray os).cell? ⟨q, o, none⟩ = w.cell? ⟨q, o, none⟩ := by
    intro q o h
    have hne : q ≠ b := fun e => hKb o (e ▸ h)
    unfold World.cell?
    simp only [hother q (hM.klt q o h) hne]
  have hk' : Keeps g.K w g.K (Go.Proofs.sortWorldK enc k w b 0 n l'.toArray os) := ⟨fun _ _ h => h, hcell⟩
  refine ⟨[], g, rfl, ⟨⟨rfl, rfl, rfl, hsize, fun q hq => ?_, Nat.le_add_right _ _⟩, fun _ _ h => h, fun _ _ h _ => h, fun q o h => Nat.lt_of_lt_of_le (hM.klt q o h) hsize, fun i r hi => ?_, fun i j r r' hi hj hne => ?_, fun q o h => hcell q o h⟩, rfl, ?_⟩
  · exact hother q hq.1 (fun e => hq.2 ((hlent q).2 e))
  · obtain ⟨rfl, rfl⟩ := Prod.mk.inj (List.mem_singleton.1 (lk_mem hi))
    rw [RR]
    refine .inr ⟨rfl, b, cap, _, E, ?_, hB, hheap', ?_, hmax, ?_, Nat.zero_le _, ?_, hK⟩
    · rw [List.length_map, hl]; exact hloc
    · rw [List.length_map, hl]; exact hcap
    · unfold Sort.putCells
      rw [Array.size_mapIdx]; exact hsz
    · exact holds_sorted hc hk h1 _ _ hsz (by rw [hl]; exact hcap)
  · obtain ⟨rfl, rfl⟩ := Prod.mk.inj (List.mem_singleton.1 (lk_mem hi))
    obtain ⟨rfl, rfl⟩ := Prod.mk.inj (List.mem_singleton.1 (lk_mem hj))
    exact absurd rfl hne
  · rw [SRs]
    refine ⟨_, _, rfl, ?_, ?_⟩
    · rw [SR]
      intro _ _ _ _ _ _
      exact hloc.symm
    rw [SRs]
    refine ⟨_, _, rfl, ?_, by rw [SRs]⟩
    rw [e2] at hu2'
    rw [SR] at hu2' ⊢
    exact CR.mono hk' _ _ hu2'

/-- a contract of a function that returns nothing and leaves the world -/
theorem Con.same {f : FuncId} {args : List S} (hf : callable P f = true) (h : ∀ (w : World) (K : Nat → Nat → Prop) (us : List Value), DRs K w args us → Calls P f us.toArray w fun e w' => e = .returned (.tuple #[]) ∧ w' = w) : Con P f args [] := by
  refine Con.of hf fun w K us hK hd => (h w K us hd).mono ?_
  rintro e w' ⟨rfl, rfl⟩
  refine ⟨[], rfl, BelowD.refl _ _, K, fun _ _ h => h, fun _ _ h _ => h, hK, rfl, fun k r v hr => ?_, fun j k r r' v v' _ hr => ?_⟩
  · simp at hr
  · simp at hr
end
end Go.VL
