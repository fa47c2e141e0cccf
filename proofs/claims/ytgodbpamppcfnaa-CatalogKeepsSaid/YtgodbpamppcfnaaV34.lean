/-
  A logic on data over the model's walk, part 34: functions of the library that change a row of whole numbers, as contracts of this logic.
-/
import Derived.Test.YtgodbpamppcfnaaV32
import Derived.Sort.Grow
set_option linter.unusedSimpArgs false
set_option linter.unusedVariables false
namespace Go.VL
open Go.RowKit

section
variable {P : Program}

theorem holds1_of {K : Nat → Nat → Prop} {w : World} {b : Nat} {cur : Array Value} {E : TypeId} {l : List Int}
    (hh : w.heap[b]? = some (.cells cur E (0, 0))) (h : Holds K w 1 (l.map fun x => [C.v (.int .i64 x)]) cur) : Sort.Holds (Value.int .i64) w b 0 l.toArray := by
  intro j hj
  have hj' : j < l.length := by simpa using hj
  obtain ⟨_, h2⟩ := h j [C.v (.int .i64 l[j])] (by rw [List.getElem?_map, List.getElem?_eq_getElem hj']; rfl)
  obtain ⟨u, hu, hcr⟩ := h2 0 _ rfl
  rw [CR] at hcr
  rw [Nat.mul_one, Nat.add_zero] at hu
  have e1 : l.toArray[j]! = l[j] := by simp [hj']
  refine ⟨?_, ?_⟩
  · unfold World.cell?
    simp only [hh, Nat.zero_add]
    rw [e1]
    simp [hu, hcr.1]
  · unfold World.frozen?
    simp [hh]

theorem holds1_put (K : Nat → Nat → Prop) (w : World) {cur : Array Value} {cap m : Nat} {d : List Int}
    (hs : cur.size = cap * 1) (hcap : d.length ≤ cap) : Holds K w 1 ((d.take m).map fun x => [C.v (.int .i64 x)]) (Sort.putCells (Value.int .i64) 0 d.toArray cur) := by
  intro j e he
  rw [List.getElem?_map] at he
  cases hj : (d.take m)[j]? with
  | none => rw [hj] at he; simp at he
  | some x =>
    rw [hj] at he
    simp only [Option.map_some, Option.some.injEq] at he
    subst he
    rw [List.getElem?_take] at hj
    split at hj
    · have hjl : j < d.length := (List.getElem?_eq_some_iff.1 hj).1
      have hx : d[j] = x := (List.getElem?_eq_some_iff.1 hj).2
      refine ⟨rfl, fun c y hy => ?_⟩
      cases c with
      | succ c => simp at hy
      | zero =>
        simp at hy
        subst hy
        refine ⟨.int .i64 x, ?_, by rw [CR]; exact ⟨rfl, rfl⟩⟩
        have hb2 : j * 1 + 0 < cur.size := by omega
        unfold Sort.putCells
        rw [Array.getElem?_mapIdx, Array.getElem?_eq_getElem hb2]
        simp only [Option.map_some, Nat.zero_le, true_and, Nat.zero_add, Nat.mul_one, Nat.add_zero, Nat.sub_zero, List.size_toArray]
        rw [if_pos hjl]
        simp [hjl, hx]
    · cases hj

/-- A FUNCTION THAT CHANGES A ROW OF WHOLE NUMBERS, and may cut it -/
theorem ConB.ints {f : FuncId} (hf : callable P f = true) (l d : List Int) (m : Nat) (hd : d.length = l.length) (hm : m ≤ l.length) (ret : Bool)
    (h : ∀ (w : World) (b cap : Nat), Sort.Holds (Value.int .i64) w b 0 l.toArray → b < w.heap.size → l.length ≤ cap → Calls P f #[.slice (some ⟨b, 0, none⟩) l.length cap] w fun e w' =>
      e = .returned (if ret then .slice (some ⟨b, 0, none⟩) m cap else .tuple #[]) ∧ ∃ n os, w' = Sort.grow (Sort.putRow (Value.int .i64) (Sort.ahead w n) b 0 d.toArray) os) :
    ConB P f [.own 1 l.length] [(1, .arr false 1 (l.map fun x => [C.v (.int .i64 x)]) 0)] (if ret then [.own 1 m] else []) [if m = l.length then .own 1 l.length else .un] [(1, .arr false 1 ((d.take m).map fun x => [C.v (.int .i64 x)]) 0)] := by
  refine ⟨hf, fun w g us hM hargs => ?_⟩
  have hb1 : lk [(1, Res.arr false 1 (l.map fun x => [C.v (.int .i64 x)]) 0)] 1 = some (.arr false 1 (l.map fun x => [C.v (.int .i64 x)]) 0) := rfl
  rw [SRs] at hargs
  obtain ⟨u1, us1, rfl, hu1, hargs⟩ := hargs
  rw [SRs] at hargs
  subst hargs
  rw [SR] at hu1
  have e1 := hu1 false 1 _ 0 hb1 (by simp)
  have hres := hM.res 1 _ hb1
  rw [RR] at hres
  rcases hres with ⟨hn, _⟩ | ⟨_, b, cap, cur, E, hloc, hB, hheap, hcap, hmax, hsz, hfx, hH, hK⟩
  · cases hn
  have hbs : b < w.heap.size := (Array.getElem?_eq_some_iff.1 hheap).1
  rw [List.length_map] at hloc hcap
  have hcall := h w b cap (holds1_of hheap hH) hbs hcap
  rw [e1, hloc]
  refine hcall.mono ?_
  rintro e w' ⟨rfl, n, os, rfl⟩
  generalize hw' : Sort.grow (Sort.putRow (Value.int .i64) (Sort.ahead w n) b 0 d.toArray) os = w'
  have hheap' : w'.heap[b]? = some (.cells (Sort.putCells (Value.int .i64) 0 d.toArray cur) E (0, 0)) := by
    rw [← hw', Sort.heap_grow_old _ _ (by rw [Sort.size_putRow]; exact hbs)]
    show ((Sort.ahead w n).heap.modify b _)[b]? = _
    rw [Array.getElem?_modify, if_pos rfl]
    show Option.map _ w.heap[b]? = _
    rw [hheap]
    rfl
  have hother : ∀ q, q < w.heap.size → q ≠ b → w'.heap[q]? = w.heap[q]? := by
    intro q hq hne
    rw [← hw', Sort.heap_grow_old _ _ (by rw [Sort.size_putRow]; exact hq)]
    show ((Sort.ahead w n).heap.modify b _)[q]? = _
    rw [Array.getElem?_modify, if_neg (Ne.symm hne)]
    rfl
  have hsize : w.heap.size ≤ w'.heap.size := by
    rw [← hw']
    show w.heap.size ≤ (((Sort.ahead w n).heap.modify b _) ++ os).size
    rw [Array.size_append, Array.size_modify]
    exact Nat.le_add_right _ _
  have hdr : w.drawn ≤ w'.drawn := by rw [← hw']; exact Nat.le_add_right _ _
  have hos : w'.os = w.os := by rw [← hw']; rfl
  have htp : w'.tape = w.tape := by rw [← hw']; rfl
  have hout : w'.output = w.output := by rw [← hw']; rfl
  clear hw' hcall h
  have hlent : ∀ q, lent g [(1, Res.arr false 1 (l.map fun x => [C.v (.int .i64 x)]) 0)] q ↔ q = b := by
    intro q
    constructor
    · rintro ⟨i, r, hi, hq⟩
      have := (Prod.mk.inj (List.mem_singleton.1 (lk_mem hi))).1
      subst this
      rw [hloc] at hq
      simpa [blk] using hq.symm
    · rintro rfl
      exact ⟨1, _, hb1, by rw [hloc]; rfl⟩
  have hKb : ∀ o, ¬ g.K b o := fun o h => by have := (hK o).1 h; omega
  have hcell : ∀ q o, g.K q o → w'.cell? ⟨q, o, none⟩ = w.cell? ⟨q, o, none⟩ := by
    intro q o h
    have hne : q ≠ b := fun e => hKb o (e ▸ h)
    unfold World.cell?
    simp only [hother q (hM.klt q o h) hne]
  have hlen2 : ((d.take m).map fun x => [C.v (.int .i64 x)]).length = m := by rw [List.length_map, List.length_take]; omega
  have hlk' : ∀ i r, lk [(1, Res.arr false 1 ((d.take m).map fun x => [C.v (.int .i64 x)]) 0)] i = some r → i = 1 ∧ r = .arr false 1 ((d.take m).map fun x => [C.v (.int .i64 x)]) 0 := fun i r hi => Prod.mk.inj (List.mem_singleton.1 (lk_mem hi))
  refine ⟨if ret then [.slice (some ⟨b, 0, none⟩) m cap] else [], ⟨g.K, fun _ => .slice (some ⟨b, 0, none⟩) m cap⟩, ?_, ⟨⟨hos, htp, hout, hsize, fun q hq => ?_, hdr⟩, fun _ _ h => h, fun _ _ h _ => h, fun q o h => Nat.lt_of_lt_of_le (hM.klt q o h) hsize, fun i r hi => ?_, fun i j r r' hi hj hne => ?_, fun q o h => hcell q o h⟩, ?_, ?_⟩
  · cases ret <;> rfl
  · exact hother q hq.1 (fun e => hq.2 ((hlent q).2 e))
  · obtain ⟨rfl, rfl⟩ := hlk' i r hi
    rw [RR]
    refine .inr ⟨rfl, b, cap, _, E, ?_, hB, hheap', ?_, hmax, ?_, Nat.zero_le _, ?_, hK⟩
    · rw [hlen2]
    · rw [hlen2]; omega
    · unfold Sort.putCells
      rw [Array.size_mapIdx]; exact hsz
    · exact holds1_put _ _ hsz (by omega)
  · obtain ⟨rfl, _⟩ := hlk' i r hi
    obtain ⟨rfl, _⟩ := hlk' j r' hj
    exact absurd rfl hne
  · cases ret with
    | false => rw [if_neg (by simp), if_neg (by simp), SRs]
    | true =>
      rw [if_pos rfl, if_pos rfl, SRs]
      refine ⟨_, _, rfl, ?_, by rw [SRs]⟩
      rw [SR]
      intro _ _ _ _ _ _
      rfl
  · rw [SRs]
    refine ⟨_, _, rfl, ?_, by rw [SRs]⟩
    split
    · rename_i hml
      rw [SR]
      intro _ _ _ _ _ _
      rw [hml]
    · rw [SR]; trivial
end
end Go.VL
