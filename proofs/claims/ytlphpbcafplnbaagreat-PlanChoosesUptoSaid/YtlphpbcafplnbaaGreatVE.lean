/- Contracts of functions of the seat, proved in a logic on data over the model (part VE). -/
import Derived.Test.YtlphpbcafplnbaaGreatVC
import Derived.Shelf.GgSortFunc.InsertionK
import Derived.Sort.Grow
import Derived.Test.YtlphpbcafplnbaaGreatVB
set_option linter.unusedSimpArgs false
set_option linter.unusedVariables false
namespace Go.VL
open Go.RowKit
section
variable {P : Program} {α : Type} [Inhabited α]
theorem holdsK_of {enc : α → List Value} {k : Nat} {cells : α → List C} (hc : ∀ x, cells x = (enc x).map C.v) (hk : ∀ x, (enc x).length = k) {K : Nat → Nat → Prop} {w : World} {b : Nat} {cur : Array Value} {E : TypeId} {l : List α}
    (hh : w.heap[b]? = some (.cells cur E (0, 0))) (h : Holds K w k (l.map cells) cur) : Sort.HoldsK enc k w b 0 l.toArray := by
  intro j hj
  rw [Sort.size_flatK] at hj
  have hj' : j < l.length * k := by simpa using hj
  have k0 : 0 < k := by rcases Nat.eq_zero_or_pos k with h | h; · subst h; simp at hj'
                        · exact h
  have hq : j / k < l.length := (Nat.div_lt_iff_lt_mul k0).2 hj'
  have hm : j % k < k := Nat.mod_lt _ k0
  rw [Sort.get_flatK _ _ _ _ hj]
  obtain ⟨_, h2⟩ := h (j / k) (cells l[j / k]) (by rw [List.getElem?_map, List.getElem?_eq_getElem hq]; rfl)
  have hl : (enc l[j / k]).length = k := hk _
  obtain ⟨u, hu, hcr⟩ := h2 (j % k) (.v ((enc l[j / k])[j % k]'(by omega))) (by rw [hc, List.getElem?_map, List.getElem?_eq_getElem (by omega)]; rfl)
  rw [CR] at hcr
  rw [Nat.div_add_mod'] at hu
  have e1 : l.toArray[j / k]! = l[j / k] := by simp [hq]
  refine ⟨?_, ?_⟩
  · unfold World.cell?
    simp only [hh, Nat.zero_add]
    rw [e1, getElem!_pos _ _ (by omega)]
    simp [hu, hcr.1]
  · unfold World.frozen?
    simp [hh]
theorem holds_sorted {enc : α → List Value} {k : Nat} {cells : α → List C} (hc : ∀ x, cells x = (enc x).map C.v) (hk : ∀ x, (enc x).length = k) (h1 : ∀ x, ∀ v ∈ enc x, v.oneCell' = true) (K : Nat → Nat → Prop) (w : World) {cur : Array Value} {cap : Nat} {l : List α}
    (hs : cur.size = cap * k) (hcap : l.length ≤ cap) : Holds K w k (l.map cells) (Sort.putCells id 0 (Sort.flatK enc k l.toArray) cur) := by
  intro j e he
  rw [List.getElem?_map] at he
  cases hj : l[j]? with
  | none => rw [hj] at he; simp at he
  | some x =>
    rw [hj] at he
    simp only [Option.map_some, Option.some.injEq] at he
    subst he
    have hjl : j < l.length := (List.getElem?_eq_some_iff.1 hj).1
    have hx : l[j] = x := (List.getElem?_eq_some_iff.1 hj).2
    refine ⟨by rw [hc, List.length_map, hk], fun c y hy => ?_⟩
    rw [hc, List.getElem?_map] at hy
    cases hv : (enc x)[c]? with
    | none => rw [hv] at hy; simp at hy
    | some v =>
      rw [hv] at hy
      simp only [Option.map_some, Option.some.injEq] at hy
      subst hy
      have hck : c < k := by have := (List.getElem?_eq_some_iff.1 hv).1; rwa [hk] at this
      have hb : j * k + c < l.length * k := by
        have := Nat.mul_le_mul_right k (show j + 1 ≤ l.length from hjl)
        rw [Nat.add_mul, Nat.one_mul] at this; omega
      have hb2 : j * k + c < cur.size := by
        have := Nat.mul_le_mul_right k hcap
        omega
      have e1 : (j * k + c) / k = j := (Sort.blk_iff k j _ (by omega)).1 ⟨by omega, by omega⟩
      have e2 : (j * k + c) % k = c := by rw [Nat.mod_eq_sub_div_mul, e1]; omega
      refine ⟨v, ?_, by rw [CR]; exact ⟨rfl, h1 x v (List.mem_of_getElem? hv)⟩⟩
      unfold Sort.putCells
      rw [Array.getElem?_mapIdx, Array.getElem?_eq_getElem hb2]
      simp only [Option.map_some, Nat.zero_le, true_and, Nat.zero_add, Sort.size_flatK, Nat.sub_zero, id]
      rw [if_pos (by simpa using hb), Sort.get_flatK _ _ _ _ (by simpa using hb), e1, e2]
      simp [hjl, hx, hv]
theorem ConB.sort {f : FuncId} {fv : FuncId} {enc : α → List Value} {k : Nat} {cells : α → List C} (hc : ∀ x, cells x = (enc x).map C.v) (hk : ∀ x, (enc x).length = k) (h1 : ∀ x, ∀ v ∈ enc x, v.oneCell' = true) (hf : callable P f = true) (l l' : List α) (hl : l'.length = l.length)
    (h : ∀ (w : World) (b cap : Nat), Sort.HoldsK enc k w b 0 l.toArray → b < w.heap.size → Calls P f #[.slice (some ⟨b, 0, none⟩) l.toArray.size cap, .func (.func fv) #[] #[]] w fun e w' => e = .returned (.tuple #[]) ∧ ∃ n os, w' = Go.Proofs.sortWorldK enc k w b 0 n l'.toArray os) :
    ConB P f [.own 1 l.length, .c (.fn fv [])] [(1, .arr false k (l.map cells) 0)] [] [.own 1 l.length, .c (.fn fv [])] [(1, .arr false k (l'.map cells) 0)] := by
  refine ⟨hf, fun w g us hM hargs => ?_⟩
  have hb1 : lk [(1, Res.arr false k (l.map cells) 0)] 1 = some (.arr false k (l.map cells) 0) := rfl
  rw [SRs] at hargs
  obtain ⟨u1, us1, rfl, hu1, hargs⟩ := hargs
  rw [SRs] at hargs
  obtain ⟨u2, us2, rfl, hu2, hargs⟩ := hargs
  rw [SRs] at hargs
  subst hargs
  have hu2' := hu2
  rw [SR] at hu1
  have e1 := hu1 false k (l.map cells) 0 hb1 (by simp)
  rw [SR, CR] at hu2
  obtain ⟨us3, e2, hu2⟩ := hu2
  rw [VR] at hu2
  subst hu2
  have hres := hM.res 1 _ hb1
  rw [RR] at hres
  rcases hres with ⟨hn, _⟩ | ⟨_, b, cap, cur, E, hloc, hB, hheap, hcap, hmax, hsz, hfx, hH, hK⟩
  · cases hn
  have hbs : b < w.heap.size := (Array.getElem?_eq_some_iff.1 hheap).1
  rw [List.length_map] at hloc hcap
  have hcall := h w b cap (holdsK_of hc hk hheap hH) hbs
  rw [e1, hloc, e2]
  refine hcall.mono ?_
  rintro e w' ⟨rfl, n, os, rfl⟩
  have hheap' : (Go.Proofs.sortWorldK enc k w b 0 n l'.toArray os).heap[b]? = some (.cells (Sort.putCells id 0 (Sort.flatK enc k l'.toArray) cur) E (0, 0)) := by
    unfold Go.Proofs.sortWorldK
    rw [Sort.heap_grow_old _ _ (by show b < (Sort.putRow id (Sort.ahead w n) b 0 _).heap.size; rw [Sort.size_putRow]; exact hbs)]
    show ((Sort.ahead w n).heap.modify b _)[b]? = _
    rw [Array.getElem?_modify, if_pos rfl]
    show Option.map _ w.heap[b]? = _
    rw [hheap]
    rfl
  have hother : ∀ q, q < w.heap.size → q ≠ b → (Go.Proofs.sortWorldK enc k w b 0 n l'.toArray os).heap[q]? = w.heap[q]? := by
    intro q hq hne
    unfold Go.Proofs.sortWorldK
    rw [Sort.heap_grow_old _ _ (by show q < (Sort.putRow id (Sort.ahead w n) b 0 _).heap.size; rw [Sort.size_putRow]; exact hq)]
    show ((Sort.ahead w n).heap.modify b _)[q]? = _
    rw [Array.getElem?_modify, if_neg (Ne.symm hne)]
    rfl
  have hsize : w.heap.size ≤ (Go.Proofs.sortWorldK enc k w b 0 n l'.toArray os).heap.size := by
    show w.heap.size ≤ (((Sort.ahead w n).heap.modify b _) ++ os).size
    rw [Array.size_append, Array.size_modify]
    exact Nat.le_add_right _ _
  have hlent : ∀ q, lent g [(1, Res.arr false k (l.map cells) 0)] q ↔ q = b := by
    intro q
    constructor
    · rintro ⟨i, r, hi, hq⟩
      have := (Prod.mk.inj (List.mem_singleton.1 (lk_mem hi))).1
      subst this
      rw [hloc] at hq
      simpa [blk] using hq.symm
    · rintro rfl
      exact ⟨1, _, hb1, by rw [hloc]; rfl⟩
  have hKb : ∀ o, ¬ g.K b o := fun o h => by have := (hK o).1 h; omega
  have hcell : ∀ q o, g.K q o → (Go.Proofs.sortWorldK enc k w b 0 n l'.toArray os).cell? ⟨q, o, none⟩ = w.cell? ⟨q, o, none⟩ := by
    intro q o h
    have hne : q ≠ b := fun e => hKb o (e ▸ h)
    unfold World.cell?
    simp only [hother q (hM.klt q o h) hne]
  have hk' : Keeps g.K w g.K (Go.Proofs.sortWorldK enc k w b 0 n l'.toArray os) := ⟨fun _ _ h => h, hcell⟩
  refine ⟨[], g, rfl, ⟨⟨rfl, rfl, rfl, hsize, fun q hq => ?_, Nat.le_add_right _ _⟩, fun _ _ h => h, fun _ _ h _ => h, fun q o h => Nat.lt_of_lt_of_le (hM.klt q o h) hsize, fun i r hi => ?_, fun i j r r' hi hj hne => ?_, fun q o h => hcell q o h⟩, rfl, ?_⟩
  · exact hother q hq.1 (fun e => hq.2 ((hlent q).2 e))
  · obtain ⟨rfl, rfl⟩ := Prod.mk.inj (List.mem_singleton.1 (lk_mem hi))
    rw [RR]
    refine .inr ⟨rfl, b, cap, _, E, ?_, hB, hheap', ?_, hmax, ?_, Nat.zero_le _, ?_, hK⟩
    · rw [List.length_map, hl]; exact hloc
    · rw [List.length_map, hl]; exact hcap
    · unfold Sort.putCells
      rw [Array.size_mapIdx]; exact hsz
    · exact holds_sorted hc hk h1 _ _ hsz (by rw [hl]; exact hcap)
  · obtain ⟨rfl, rfl⟩ := Prod.mk.inj (List.mem_singleton.1 (lk_mem hi))
    obtain ⟨rfl, rfl⟩ := Prod.mk.inj (List.mem_singleton.1 (lk_mem hj))
    exact absurd rfl hne
  · rw [SRs]
    refine ⟨_, _, rfl, ?_, ?_⟩
    · rw [SR]
      intro _ _ _ _ _ _
      exact hloc.symm
    rw [SRs]
    refine ⟨_, _, rfl, ?_, by rw [SRs]⟩
    rw [e2] at hu2'
    rw [SR] at hu2' ⊢
    exact CR.mono hk' _ _ hu2'
theorem Con.same {f : FuncId} {args : List S} (hf : callable P f = true) (h : ∀ (w : World) (K : Nat → Nat → Prop) (us : List Value), DRs K w args us → Calls P f us.toArray w fun e w' => e = .returned (.tuple #[]) ∧ w' = w) : Con P f args [] := by
  refine Con.of hf fun w K us hK hd => (h w K us hd).mono ?_
  rintro e w' ⟨rfl, rfl⟩
  refine ⟨[], rfl, BelowD.refl _ _, K, fun _ _ h => h, fun _ _ h _ => h, hK, rfl, fun k r v hr => ?_, fun j k r r' v v' _ hr => ?_⟩
  · simp at hr
  · simp at hr
end
end Go.VL
set_option linter.unusedSimpArgs false
set_option linter.unusedVariables false
namespace Go.VL
open Go.RowKit
section
variable {P : Program}
theorem holds1_of {K : Nat → Nat → Prop} {w : World} {b : Nat} {cur : Array Value} {E : TypeId} {l : List Int}
    (hh : w.heap[b]? = some (.cells cur E (0, 0))) (h : Holds K w 1 (l.map fun x => [C.v (.int .i64 x)]) cur) : Sort.Holds (Value.int .i64) w b 0 l.toArray := by
  intro j hj
  have hj' : j < l.length := by simpa using hj
  obtain ⟨_, h2⟩ := h j [C.v (.int .i64 l[j])] (by rw [List.getElem?_map, List.getElem?_eq_getElem hj']; rfl)
  obtain ⟨u, hu, hcr⟩ := h2 0 _ rfl
  rw [CR] at hcr
  rw [Nat.mul_one, Nat.add_zero] at hu
  have e1 : l.toArray[j]! = l[j] := by simp [hj']
  refine ⟨?_, ?_⟩
  · unfold World.cell?
    simp only [hh, Nat.zero_add]
    rw [e1]
    simp [hu, hcr.1]
  · unfold World.frozen?
    simp [hh]
theorem holds1_put (K : Nat → Nat → Prop) (w : World) {cur : Array Value} {cap m : Nat} {d : List Int}
    (hs : cur.size = cap * 1) (hcap : d.length ≤ cap) : Holds K w 1 ((d.take m).map fun x => [C.v (.int .i64 x)]) (Sort.putCells (Value.int .i64) 0 d.toArray cur) := by
  intro j e he
  rw [List.getElem?_map] at he
  cases hj : (d.take m)[j]? with
  | none => rw [hj] at he; simp at he
  | some x =>
    rw [hj] at he
    simp only [Option.map_some, Option.some.injEq] at he
    subst he
    rw [List.getElem?_take] at hj
    split at hj
    · have hjl : j < d.length := (List.getElem?_eq_some_iff.1 hj).1
      have hx : d[j] = x := (List.getElem?_eq_some_iff.1 hj).2
      refine ⟨rfl, fun c y hy => ?_⟩
      cases c with
      | succ c => simp at hy
      | zero =>
        simp at hy
        subst hy
        refine ⟨.int .i64 x, ?_, by rw [CR]; exact ⟨rfl, rfl⟩⟩
        have hb2 : j * 1 + 0 < cur.size := by omega
        unfold Sort.putCells
        rw [Array.getElem?_mapIdx, Array.getElem?_eq_getElem hb2]
        simp only [Option.map_some, Nat.zero_le, true_and, Nat.zero_add, Nat.mul_one, Nat.add_zero, Nat.sub_zero, List.size_toArray]
        rw [if_pos hjl]
        simp [hjl, hx]
    · cases hj
theorem ConB.ints {f : FuncId} (hf : callable P f = true) (l d : List Int) (m : Nat) (hd : d.length = l.length) (hm : m ≤ l.length) (ret : Bool)
    (h : ∀ (w : World) (b cap : Nat), Sort.Holds (Value.int .i64) w b 0 l.toArray → b < w.heap.size → l.length ≤ cap → Calls P f #[.slice (some ⟨b, 0, none⟩) l.length cap] w fun e w' =>
      e = .returned (if ret then .slice (some ⟨b, 0, none⟩) m cap else .tuple #[]) ∧ ∃ n os, w' = Sort.grow (Sort.putRow (Value.int .i64) (Sort.ahead w n) b 0 d.toArray) os) :
    ConB P f [.own 1 l.length] [(1, .arr false 1 (l.map fun x => [C.v (.int .i64 x)]) 0)] (if ret then [.own 1 m] else []) [if m = l.length then .own 1 l.length else .un] [(1, .arr false 1 ((d.take m).map fun x => [C.v (.int .i64 x)]) 0)] := by
  refine ⟨hf, fun w g us hM hargs => ?_⟩
  have hb1 : lk [(1, Res.arr false 1 (l.map fun x => [C.v (.int .i64 x)]) 0)] 1 = some (.arr false 1 (l.map fun x => [C.v (.int .i64 x)]) 0) := rfl
  rw [SRs] at hargs
  obtain ⟨u1, us1, rfl, hu1, hargs⟩ := hargs
  rw [SRs] at hargs
  subst hargs
  rw [SR] at hu1
  have e1 := hu1 false 1 _ 0 hb1 (by simp)
  have hres := hM.res 1 _ hb1
  rw [RR] at hres
  rcases hres with ⟨hn, _⟩ | ⟨_, b, cap, cur, E, hloc, hB, hheap, hcap, hmax, hsz, hfx, hH, hK⟩
  · cases hn
  have hbs : b < w.heap.size := (Array.getElem?_eq_some_iff.1 hheap).1
  rw [List.length_map] at hloc hcap
  have hcall := h w b cap (holds1_of hheap hH) hbs hcap
  rw [e1, hloc]
  refine hcall.mono ?_
  rintro e w' ⟨rfl, n, os, rfl⟩
  generalize hw' : Sort.grow (Sort.putRow (Value.int .i64) (Sort.ahead w n) b 0 d.toArray) os = w'
  have hheap' : w'.heap[b]? = some (.cells (Sort.putCells (Value.int .i64) 0 d.toArray cur) E (0, 0)) := by
    rw [← hw', Sort.heap_grow_old _ _ (by rw [Sort.size_putRow]; exact hbs)]
    show ((Sort.ahead w n).heap.modify b _)[b]? = _
    rw [Array.getElem?_modify, if_pos rfl]
    show Option.map _ w.heap[b]? = _
    rw [hheap]
    rfl
  have hother : ∀ q, q < w.heap.size → q ≠ b → w'.heap[q]? = w.heap[q]? := by
    intro q hq hne
    rw [← hw', Sort.heap_grow_old _ _ (by rw [Sort.size_putRow]; exact hq)]
    show ((Sort.ahead w n).heap.modify b _)[q]? = _
    rw [Array.getElem?_modify, if_neg (Ne.symm hne)]
    rfl
  have hsize : w.heap.size ≤ w'.heap.size := by
    rw [← hw']
    show w.heap.size ≤ (((Sort.ahead w n).heap.modify b _) ++ os).size
    rw [Array.size_append, Array.size_modify]
    exact Nat.le_add_right _ _
  have hdr : w.drawn ≤ w'.drawn := by rw [← hw']; exact Nat.le_add_right _ _
  have hos : w'.os = w.os := by rw [← hw']; rfl
  have htp : w'.tape = w.tape := by rw [← hw']; rfl
  have hout : w'.output = w.output := by rw [← hw']; rfl
  clear hw' hcall h
  have hlent : ∀ q, lent g [(1, Res.arr false 1 (l.map fun x => [C.v (.int .i64 x)]) 0)] q ↔ q = b := by
    intro q
    constructor
    · rintro ⟨i, r, hi, hq⟩
      have := (Prod.mk.inj (List.mem_singleton.1 (lk_mem hi))).1
      subst this
      rw [hloc] at hq
      simpa [blk] using hq.symm
    · rintro rfl
      exact ⟨1, _, hb1, by rw [hloc]; rfl⟩
  have hKb : ∀ o, ¬ g.K b o := fun o h => by have := (hK o).1 h; omega
  have hcell : ∀ q o, g.K q o → w'.cell? ⟨q, o, none⟩ = w.cell? ⟨q, o, none⟩ := by
    intro q o h
    have hne : q ≠ b := fun e => hKb o (e ▸ h)
    unfold World.cell?
    simp only [hother q (hM.klt q o h) hne]
  have hlen2 : ((d.take m).map fun x => [C.v (.int .i64 x)]).length = m := by rw [List.length_map, List.length_take]; omega
  have hlk' : ∀ i r, lk [(1, Res.arr false 1 ((d.take m).map fun x => [C.v (.int .i64 x)]) 0)] i = some r → i = 1 ∧ r = .arr false 1 ((d.take m).map fun x => [C.v (.int .i64 x)]) 0 := fun i r hi => Prod.mk.inj (List.mem_singleton.1 (lk_mem hi))
  refine ⟨if ret then [.slice (some ⟨b, 0, none⟩) m cap] else [], ⟨g.K, fun _ => .slice (some ⟨b, 0, none⟩) m cap⟩, ?_, ⟨⟨hos, htp, hout, hsize, fun q hq => ?_, hdr⟩, fun _ _ h => h, fun _ _ h _ => h, fun q o h => Nat.lt_of_lt_of_le (hM.klt q o h) hsize, fun i r hi => ?_, fun i j r r' hi hj hne => ?_, fun q o h => hcell q o h⟩, ?_, ?_⟩
  · cases ret <;> rfl
  · exact hother q hq.1 (fun e => hq.2 ((hlent q).2 e))
  · obtain ⟨rfl, rfl⟩ := hlk' i r hi
    rw [RR]
    refine .inr ⟨rfl, b, cap, _, E, ?_, hB, hheap', ?_, hmax, ?_, Nat.zero_le _, ?_, hK⟩
    · rw [hlen2]
    · rw [hlen2]; omega
    · unfold Sort.putCells
      rw [Array.size_mapIdx]; exact hsz
    · exact holds1_put _ _ hsz (by omega)
  · obtain ⟨rfl, _⟩ := hlk' i r hi
    obtain ⟨rfl, _⟩ := hlk' j r' hj
    exact absurd rfl hne
  · cases ret with
    | false => rw [if_neg (by simp), if_neg (by simp), SRs]
    | true =>
      rw [if_pos rfl, if_pos rfl, SRs]
      refine ⟨_, _, rfl, ?_, by rw [SRs]⟩
      rw [SR]
      intro _ _ _ _ _ _
      rfl
  · rw [SRs]
    refine ⟨_, _, rfl, ?_, by rw [SRs]⟩
    split
    · rename_i hml
      rw [SR]
      intro _ _ _ _ _ _
      rw [hml]
    · rw [SR]; trivial
end
end Go.VL
set_option linter.unusedSimpArgs false
set_option linter.unusedVariables false
namespace Go.VL
open Go.RowKit
def plainRts (vs : List Value) : List Rt := vs.map fun v => .c (.v v)
def plainSs (vs : List Value) : List S := vs.map fun v => .c (.v v)
theorem ConB.seen {P : Program} {f : FuncId} (hc : callable P f = true) {nil : Bool} {sz : Nat} {xs : List (List C)} {fx : Nat} {ds : List S} {rvs : List Value} (hds : ∀ s ∈ ds, ∃ c, s = S.c c)
    (h : Con P f (.c (.sl nil xs) :: ds) (plainRts rvs)) :
    ConB P f (.own 1 xs.length :: ds) [(1, .arr nil sz xs fx)] (plainSs rvs) (.own 1 xs.length :: ds) [(1, .arr nil sz xs fx)] := by
  refine ⟨hc, fun w g us hM hargs => ?_⟩
  have hb1 : lk [(1, Res.arr nil sz xs fx)] 1 = some (.arr nil sz xs fx) := rfl
  rw [SRs] at hargs
  obtain ⟨u1, us1, rfl, hu1, hds1⟩ := hargs
  rw [SR] at hu1
  have e1 := hu1 nil sz xs fx hb1 rfl
  have hres := hM.res 1 _ hb1
  obtain ⟨K1, hsub, hlt1, hrow⟩ : ∃ K1 : Nat → Nat → Prop, (∀ b o, g.K b o → K1 b o) ∧ (∀ b o, K1 b o → b < w.heap.size) ∧ CR K1 w (.sl nil xs) (g.loc 1) := by
    rcases hres with ⟨h1, h2, h3, _⟩ | ⟨h0, b, cap, cur, E, q1, q2, q3, q4, q5, q6, q7, q8, q9⟩
    · exact ⟨g.K, fun _ _ h => h, hM.klt, by rw [CR]; exact .inl ⟨h1, h2, h3⟩⟩
    · have hbl : b < w.heap.size := (Array.getElem?_eq_some_iff.1 q3).1
      refine ⟨fun b' o => g.K b' o ∨ (b' = b ∧ o < xs.length * sz), fun _ _ h => .inl h, fun b' o hk => ?_, ?_⟩
      · rcases hk with hk | ⟨rfl, _⟩
        · exact hM.klt b' o hk
        · exact hbl
      · have kp : Keeps g.K w (fun b' o => g.K b' o ∨ (b' = b ∧ o < xs.length * sz)) w := ⟨fun _ _ h => .inl h, fun _ _ _ => rfl⟩
        have : RR ⟨fun b' o => g.K b' o ∨ (b' = b ∧ o < xs.length * sz), g.loc⟩ w (fun _ => none) (fun _ => True) 1 (.arr nil sz xs xs.length) := by
          refine .inr ⟨h0, b, cap, cur, E, q1, trivial, q3, q4, q5, q6, Nat.le_refl _, q8.mono kp, fun o => ⟨fun hk => ?_, fun ho => .inr ⟨rfl, ho⟩⟩⟩
          rcases hk with hk | ⟨_, hk⟩
          · have := (q9 o).1 hk
            have := Nat.mul_le_mul_right sz q7
            omega
          · exact hk
        exact this.datum
  have hdr : DRs K1 w (.c (.sl nil xs) :: ds) (u1 :: us1) := by
    unfold DRs
    rw [SRs]
    refine ⟨u1, us1, rfl, ?_, ?_⟩
    · rw [SR, e1]; exact hrow
    · rw [SRs_iff] at hds1 ⊢
      refine ⟨hds1.1, fun k s u hs hu => ?_⟩
      obtain ⟨c, rfl⟩ := hds s (List.mem_of_getElem? hs)
      have := hds1.2 k _ u hs hu
      rw [SR] at this ⊢
      exact CR.mono ⟨hsub, fun _ _ _ => rfl⟩ c u this
  refine ((h w K1 (u1 :: us1) hlt1 hdr).calls hc).mono fun e w' ⟨vs, he, hbel, K', p1, p2, p3, p4⟩ => ?_
  have hkeep : Keeps g.K w g.K w' := ⟨fun _ _ h => h, fun b o hk => by
    have := hM.klt b o hk
    simp only [World.cell?]; rw [hbel.block b this]⟩
  have hsz := hbel.size
  refine ⟨vs, g, he, ⟨⟨hbel.os, hbel.tape, hbel.output, hsz, fun k hk => hbel.block k hk.1, hbel.drawn⟩, fun _ _ h => h, hM.kold, fun b o hk => Nat.lt_of_lt_of_le (hM.klt b o hk) hsz, fun i r hi => ?_, hM.dis, fun b o hk => hkeep.cell b o hk⟩, ?_, ?_⟩
  · have hr := hM.res i r hi
    have hir : r = .arr nil sz xs fx := (Prod.mk.inj (List.mem_singleton.1 (lk_mem hi))).2
    subst hir
    refine RR.mono hkeep rfl (fun b hb => ⟨?_, fun _ h => h⟩) (fun fz ss e => by cases e) (fun v s e => by cases e) (fun m e => by cases e) hr
    have hlt : b < w.heap.size := hr.lt hb
    exact hbel.block b hlt
  · obtain ⟨r1, r2, _⟩ := p4
    rw [SRs_iff]
    unfold plainSs plainRts at *
    rw [List.length_map] at r1
    refine ⟨by rw [List.length_map]; exact r1, fun k s u hs hu => ?_⟩
    rw [List.getElem?_map] at hs
    cases hk : rvs[k]? with
    | none => rw [hk] at hs; simp at hs
    | some v =>
      rw [hk] at hs
      simp at hs
      subst hs
      have := r2 k (.c (.v v)) u (by rw [List.getElem?_map, hk]; rfl) hu
      rw [RtR, CR] at this
      rw [SR, CR]
      exact this
  · rw [SRs]
    refine ⟨u1, us1, rfl, ?_, ?_⟩
    · rw [SR]; intro nil' sz' xs' fx' hr hl; exact hu1 nil' sz' xs' fx' hr hl
    · rw [SRs_iff] at hds1 ⊢
      refine ⟨hds1.1, fun k s u hs hu => ?_⟩
      obtain ⟨c, rfl⟩ := hds s (List.mem_of_getElem? hs)
      have := hds1.2 k _ u hs hu
      rw [SR] at this ⊢
      exact CR.mono hkeep c u this
theorem renSs_c (τ : Nat → Nat) : ∀ cs : List C, renSs τ (cs.map S.c) = cs.map S.c
  | [] => rfl
  | c :: r => by rw [List.map_cons, renSs, renS, renSs_c τ r]
theorem nams_plain : ∀ rvs : List Value, S.nams (plainSs rvs) = []
  | [] => rfl
  | v :: r => by
    have := nams_plain r
    unfold plainSs at *
    rw [List.map_cons, S.nams, this]; rfl
theorem VCL.seen {P : Program} {st : St} {d : Option Nat} {K : St → Prop} {f : FuncId} {i n : Nat} {cs : List C} (nil : Bool) (sz : Nat) (xs : List (List C)) (fx : Nat) (rvs : List Value) (hc : callable P f = true)
    (h : Con P f (.c (.sl nil xs) :: cs.map S.c) (plainRts rvs)) (hn : n = xs.length) (hr : st.rs i = Option.some (Res.arr nil sz xs fx))
    (hk : force (tick ((lendSt st (fun _ => i) [] [(1, Res.arr nil sz xs fx)]).putd d (retS (fun _ => i) (plainSs rvs)))) K) : VCL P d st f [] (.own i n :: cs.map S.c) K .mk := by
  subst hn
  have hcon := ConB.seen hc (sz := sz) (fx := fx) (fun s hs => by
    obtain ⟨c, _, rfl⟩ := List.mem_map.1 hs
    exact ⟨c, rfl⟩) h
  refine VCL.lend [(1, Res.arr nil sz xs fx)] [(1, Res.arr nil sz xs fx)] (.own 1 xs.length :: cs.map S.c) _ _ (fun _ => i) [] ⟨hcon, ?_, ?_, ?_, ?_, ?_, ?_, ?_⟩ hk
  · rw [renSs, renS, renSs_c]
  · intro p hp; simp at hp; subst hp; exact hr
  · simp
  · simp
  · intro p hp; simp at hp; subst hp; simp [Res.nam]
  · intro j hj
    exfalso
    rw [nams_plain] at hj; simp at hj
  · intro p hp; simp at hp; subst hp
    right
    refine ⟨_, rfl, ?_⟩
    rw [keptP]
    exact .inl ⟨rfl, rfl, rfl, nil, sz, xs, fx, nil, xs, fx, rfl, rfl, rfl, rfl⟩
end Go.VL
