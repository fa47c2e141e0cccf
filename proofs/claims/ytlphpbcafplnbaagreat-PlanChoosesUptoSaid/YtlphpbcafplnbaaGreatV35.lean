/- Contracts of functions of the seat, proved in a logic on data over the model (part V35). -/
import Derived.Test.YtlphpbcafplnbaaGreatVE
import Derived.Shelf.SlSortCmp.NoneTotal
set_option linter.unusedSimpArgs false
set_option linter.unusedVariables false
namespace Go.VL
open Go.RowKit Go.Shelf Go.Lib Go.Sort Go.Proofs
theorem BelowD.grown {w w' : World} (h : BelowD w.heap.size w w') : ∃ q os', w' = grow (w.drewN q) os' := by
  refine ⟨w'.drawn - w.drawn, w'.heap.extract w.heap.size w'.heap.size, ?_⟩
  have hheap : w'.heap = w.heap ++ w'.heap.extract w.heap.size w'.heap.size := by
    refine Array.ext_getElem? fun i => ?_
    rw [Array.getElem?_append]
    split
    · rename_i hi; exact h.block i hi
    · rename_i hi
      rw [Array.getElem?_extract]
      split
      · congr 1; omega
      · rw [Array.getElem?_eq_none]; omega
  have hd : w'.drawn = w.drawn + (w'.drawn - w.drawn) := by have := h.drawn; omega
  have h1 := h.os
  have h2 := h.tape
  have h3 := h.output
  cases w with
  | _ =>
    cases w' with
    | _ =>
      simp only at h1 h2 h3 hheap hd
      subst h1 h2 h3
      unfold grow World.drewN
      simp only
      rw [← hheap, ← hd]
theorem VR.keep {K K' : Nat → Nat → Prop} {w w' : World} (hk : Keeps K w K' w') {cs : List C} {us : List Value} (h : VR K w cs us) : VR K' w' cs us := by
  rw [VR_iff] at h ⊢
  exact ⟨h.1, fun k c u h1 h2 => CR.mono hk _ _ (h.2 k c u h1 h2)⟩
section
variable {P : Program} {α : Type}
abbrev Elem (K : Nat → Nat → Prop) (w : World) (cells : α → List C) (Q : α → Prop) : Type := { x : α × List Value // Q x.1 ∧ VR K w (cells x.1) x.2 }
theorem holdsK_ofD {K : Nat → Nat → Prop} {w : World} {cells : α → List C} {Q : α → Prop} [Inhabited (Elem K w cells Q)] {k : Nat} {b : Nat} {cur : Array Value} {E : TypeId} {d : List (Elem K w cells Q)} (hkd : ∀ x : Elem K w cells Q, x.1.2.length = k)
    (hh : w.heap[b]? = some (.cells cur E (0, 0))) (h : ∀ j, (hj : j < d.length) → ∀ c, c < k → cur[j * k + c]? = (d[j]).1.2[c]?) : Sort.HoldsK (fun x : Elem K w cells Q => x.1.2) k w b 0 d.toArray := by
  intro j hj
  rw [Sort.size_flatK] at hj
  have hj' : j < d.length * k := by simpa using hj
  have k0 : 0 < k := by rcases Nat.eq_zero_or_pos k with h | h; · subst h; simp at hj'
                        · exact h
  have hq : j / k < d.length := (Nat.div_lt_iff_lt_mul k0).2 hj'
  have hm : j % k < k := Nat.mod_lt _ k0
  rw [Sort.get_flatK _ _ _ _ hj]
  have h2 := h (j / k) hq (j % k) hm
  rw [Nat.div_add_mod'] at h2
  have hl := hkd d[j / k]
  have e1 : d.toArray[j / k]! = d[j / k] := by simp [hq]
  refine ⟨?_, ?_⟩
  · unfold World.cell?
    simp only [hh, Nat.zero_add]
    rw [e1, getElem!_pos _ _ (by omega), h2, List.getElem?_eq_getElem (by omega)]
    rfl
  · unfold World.frozen?
    simp [hh]
theorem holds_sortedD {K : Nat → Nat → Prop} {w w' : World} {cells : α → List C} {Q : α → Prop} [Inhabited (Elem K w cells Q)] {k : Nat} (hkd : ∀ x : Elem K w cells Q, x.1.2.length = k) (hck : ∀ x, (cells x).length = k) (hk : Keeps K w K w') {cur : Array Value} {cap : Nat} {l : List (Elem K w cells Q)}
    (hs : cur.size = cap * k) (hcap : l.length ≤ cap) : Holds K w' k ((l.map fun x => x.1.1).map cells) (Sort.putCells id 0 (Sort.flatK (fun x : Elem K w cells Q => x.1.2) k l.toArray) cur) := by
  intro j e he
  rw [List.getElem?_map, List.getElem?_map] at he
  cases hj : l[j]? with
  | none => rw [hj] at he; simp at he
  | some x =>
    rw [hj] at he
    simp only [Option.map_some, Option.some.injEq] at he
    subst he
    have hjl : j < l.length := (List.getElem?_eq_some_iff.1 hj).1
    have hx : l[j] = x := (List.getElem?_eq_some_iff.1 hj).2
    refine ⟨hck _, fun c y hy => ?_⟩
    have hcc : c < k := by have := (List.getElem?_eq_some_iff.1 hy).1; rwa [hck] at this
    have hxl : c < x.1.2.length := by rw [hkd]; exact hcc
    have hv := List.getElem?_eq_getElem hxl
    have hb : j * k + c < l.length * k := by
      have := Nat.mul_le_mul_right k (show j + 1 ≤ l.length from hjl)
      rw [Nat.add_mul, Nat.one_mul] at this; omega
    have hb2 : j * k + c < cur.size := by
      have := Nat.mul_le_mul_right k hcap
      omega
    have e1 : (j * k + c) / k = j := (Sort.blk_iff k j _ (by omega)).1 ⟨by omega, by omega⟩
    have e2 : (j * k + c) % k = c := by rw [Nat.mod_eq_sub_div_mul, e1]; omega
    refine ⟨x.1.2[c], ?_, CR.mono hk _ _ ((VR_iff _ _).1 x.2.2 |>.2 c y _ hy hv)⟩
    unfold Sort.putCells
    rw [Array.getElem?_mapIdx, Array.getElem?_eq_getElem hb2]
    simp only [Option.map_some, Nat.zero_le, true_and, Nat.zero_add, Sort.size_flatK, Nat.sub_zero, id]
    rw [if_pos (by simpa using hb), Sort.get_flatK _ _ _ _ (by simpa using hb), e1, e2]
    simp [hjl, hx, hxl]
theorem ConB.sortD {ρ : Go.Shelf.Ren} (L : Go.Proofs.SlLaysF0.n6 P ρ) {k : Nat} (aE : ∀ w, (isAgg (ρ.t 24)).run P w = .ok true w) (zE : ∀ w, (Go.sizeOf (ρ.t 24)).run P w = .ok k w) (hf : callable P (ρ.f 6) = true) {fv : FuncId}
    (eg : ∀ args w, (callFunc fv args).run P w = .ok (.enter fv args) w) {cells : α → List C} (hck : ∀ x, (cells x).length = k) {cf : α → α → Int} {Q : α → Prop} (hcon : ∀ x y, Q x → Q y → Con P fv [.agg (cells x), .agg (cells y)] [.c (.v (.int .i64 (cf x y)))])
    (hO : SWO (ltOf cf)) (l l' : List α) (hne : l ≠ []) (hq : ∀ x ∈ l, Q x) (hsz0 : l.length < 4611686018427387904) (huniq : ∀ m : List α, m.Perm l → (m.Pairwise fun x y => ltOf cf y x = false) → m = l') :
    ConB P (ρ.f 6) [.own 1 l.length, .c (.fn fv [])] [(1, .arr false k (l.map cells) 0)] [] [.own 1 l.length, .c (.fn fv [])] [(1, .arr false k (l'.map cells) 0)] := by
  refine ⟨hf, fun w g us hM hargs => ?_⟩
  have hb1 : lk [(1, Res.arr false k (l.map cells) 0)] 1 = some (.arr false k (l.map cells) 0) := rfl
  rw [SRs] at hargs
  obtain ⟨u1, us1, rfl, hu1, hargs⟩ := hargs
  rw [SRs] at hargs
  obtain ⟨u2, us2, rfl, hu2, hargs⟩ := hargs
  rw [SRs] at hargs
  subst hargs
  have hu2' := hu2
  rw [SR] at hu1
  have e1 := hu1 false k (l.map cells) 0 hb1 (by simp)
  rw [SR, CR] at hu2
  obtain ⟨us3, e2, hu2⟩ := hu2
  rw [VR] at hu2
  subst hu2
  have hres := hM.res 1 _ hb1
  rw [RR] at hres
  rcases hres with ⟨hn, _⟩ | ⟨_, b, cap, cur, E, hloc, hB, hheap, hcap, hmax, hsz, hfx, hH, hK⟩
  · cases hn
  have hbs : b < w.heap.size := (Array.getElem?_eq_some_iff.1 hheap).1
  rw [List.length_map] at hloc hcap
  have hKb : ∀ o, ¬ g.K b o := fun o h => by have := (hK o).1 h; omega
  let vals (j : Nat) : List Value := (List.range k).map fun c => cur[j * k + c]!
  have hvals : ∀ j, (hj : j < l.length) → VR g.K w (cells l[j]) (vals j) ∧ ∀ c, c < k → cur[j * k + c]? = (vals j)[c]? := by
    intro j hj
    obtain ⟨_, h2⟩ := hH j (cells l[j]) (by rw [List.getElem?_map, List.getElem?_eq_getElem hj]; rfl)
    have hcell : ∀ c, c < k → ∃ y u, (cells l[j])[c]? = some y ∧ cur[j * k + c]? = some u ∧ CR g.K w y u := by
      intro c hc
      have hc' : c < (cells l[j]).length := by rw [hck]; exact hc
      obtain ⟨u, hu, hcr⟩ := h2 c _ (List.getElem?_eq_getElem hc')
      exact ⟨_, u, List.getElem?_eq_getElem hc', hu, hcr⟩
    have hget : ∀ c, c < k → cur[j * k + c]? = (vals j)[c]? := by
      intro c hc
      obtain ⟨y, u, _, hu, _⟩ := hcell c hc
      have : (vals j)[c]? = some cur[j * k + c]! := by simp [vals, hc]
      rw [this, hu]
      congr 1
      rw [getElem!_def, hu]
    refine ⟨?_, hget⟩
    rw [VR_iff]
    refine ⟨by simp [vals, hck], fun c y u hy hu => ?_⟩
    have hc : c < k := by have := (List.getElem?_eq_some_iff.1 hy).1; rwa [hck] at this
    obtain ⟨y', u', hy', hu', hcr⟩ := hcell c hc
    rw [hy] at hy'
    cases hy'
    rw [← hget c hc, hu'] at hu
    cases hu
    exact hcr
  let d : List (Elem g.K w cells Q) := List.ofFn (n := l.length) fun j => ⟨(l[j.1], vals j.1), hq _ (List.getElem_mem j.2), (hvals j.1 j.2).1⟩
  have hdl : d.length = l.length := by simp [d]
  have hd1 : d.map (fun x => x.1.1) = l := by
    refine List.ext_getElem (by simp [d]) fun i h1 h2 => ?_
    simp [d]
  have hl0 : 0 < l.length := List.length_pos_iff.2 hne
  letI : Inhabited (Elem g.K w cells Q) := ⟨d[0]'(by omega)⟩
  have hkd : ∀ x : Elem g.K w cells Q, x.1.2.length = k := fun x => by rw [((VR_iff _ _).1 x.2.2).1, hck]
  have hone : ∀ x : Elem g.K w cells Q, ∀ v ∈ x.1.2, v.oneCell' = true := by
    intro x v hv
    obtain ⟨c, hc, rfl⟩ := List.getElem_of_mem hv
    have hl2 := ((VR_iff _ _).1 x.2.2).1
    have := ((VR_iff _ _).1 x.2.2).2 c _ _ (List.getElem?_eq_getElem (by omega)) (List.getElem?_eq_getElem hc)
    exact this.one
  have hHK : Sort.HoldsK (fun x : Elem g.K w cells Q => x.1.2) k w b 0 d.toArray := holdsK_ofD hkd hheap fun j hj c hc => by
    have hj' : j < l.length := by omega
    rw [(hvals j hj').2 c hc]
    simp [d]
  let cf' : Elem g.K w cells Q → Elem g.K w cells Q → Int := fun x y => cf x.1.1 y.1.1
  have hO' : SWO (ltOf cf') := { irrefl := fun x => hO.irrefl x.1.1, trans := fun x y z h1 h2 => hO.trans x.1.1 y.1.1 z.1.1 h1 h2, ntrans := fun x y z h1 h2 => hO.ntrans x.1.1 y.1.1 z.1.1 h1 h2 }
  have hother0 : ∀ (n : Nat) (dk : Array (Elem g.K w cells Q)) (os : Array Obj) q, q < w.heap.size → q ≠ b → (Go.Proofs.sortWorldK (fun x : Elem g.K w cells Q => x.1.2) k w b 0 n dk os).heap[q]? = w.heap[q]? := by
    intro n dk os q hq hne
    unfold Go.Proofs.sortWorldK
    rw [Sort.heap_grow_old _ _ (by show q < (Sort.putRow id (Sort.ahead w n) b 0 _).heap.size; rw [Sort.size_putRow]; exact hq)]
    show ((Sort.ahead w n).heap.modify b _)[q]? = _
    rw [Array.getElem?_modify, if_neg (Ne.symm hne)]
    rfl
  have hsize0 : ∀ (n : Nat) (dk : Array (Elem g.K w cells Q)) (os : Array Obj), w.heap.size ≤ (Go.Proofs.sortWorldK (fun x : Elem g.K w cells Q => x.1.2) k w b 0 n dk os).heap.size := by
    intro n dk os
    show w.heap.size ≤ (((Sort.ahead w n).heap.modify b _) ++ os).size
    rw [Array.size_append, Array.size_modify]
    exact Nat.le_add_right _ _
  have hcell0 : ∀ (n : Nat) (dk : Array (Elem g.K w cells Q)) (os : Array Obj) q o, g.K q o → (Go.Proofs.sortWorldK (fun x : Elem g.K w cells Q => x.1.2) k w b 0 n dk os).cell? ⟨q, o, none⟩ = w.cell? ⟨q, o, none⟩ := by
    intro n dk os q o h
    have hne : q ≠ b := fun e => hKb o (e ▸ h)
    unfold World.cell?
    simp only [hother0 n dk os q (hM.klt q o h) hne]
  have hcmp : CmpLays P fv #[] (fun x : Elem g.K w cells Q => x.1.2) k cf' b 0 d.toArray.size w := by
    intro m os dk hs x y
    have hkW : Keeps g.K w g.K (Go.Proofs.sortWorldK (fun x : Elem g.K w cells Q => x.1.2) k w b 0 m dk os) := ⟨fun _ _ h => h, fun q o h => hcell0 m dk os q o h⟩
    have hc := Runs.calls' (eg _ _) (hcon x.1.1 y.1.1 x.2.1 y.2.1 (Go.Proofs.sortWorldK (fun x : Elem g.K w cells Q => x.1.2) k w b 0 m dk os) g.K [.agg x.1.2.toArray, .agg y.1.2.toArray] (fun q o h => Nat.lt_of_lt_of_le (hM.klt q o h) (hsize0 m dk os)) (by
      unfold DRs
      rw [SRs]
      refine ⟨_, _, rfl, ?_, ?_⟩
      · rw [SR]; exact ⟨_, rfl, x.2.2.keep hkW⟩
      rw [SRs]
      refine ⟨_, _, rfl, ?_, by rw [SRs]⟩
      rw [SR]; exact ⟨_, rfl, y.2.2.keep hkW⟩))
    have eA : (#[Value.agg x.1.2.toArray, Value.agg y.1.2.toArray] ++ #[] : Array Value) = [Value.agg x.1.2.toArray, Value.agg y.1.2.toArray].toArray := by simp
    show Calls P fv (#[Value.agg x.1.2.toArray, Value.agg y.1.2.toArray] ++ #[]) _ _
    rw [eA]
    refine hc.mono ?_
    rintro e w' ⟨vs, rfl, hbel, K', _, _, _, hv1, hv2, _⟩
    have hvs : ∃ v, vs = [v] := by
      match vs, hv1 with
      | [v], _ => exact ⟨v, rfl⟩
      | [], h => simp at h
      | _ :: _ :: _, h => simp at h
    obtain ⟨v, rfl⟩ := hvs
    have hvv := hv2 0 _ v rfl rfl
    rw [RtR, CR] at hvv
    obtain ⟨rfl, _⟩ := hvv
    exact ⟨rfl, hbel.grown⟩
  have hcall := AnyQ.slices_SortFunc_eq L k aE zE (fun x : Elem g.K w cells Q => x.1.2) hkd hone cf' hO' fv #[] b 0 cap d.toArray w eg hcmp hHK hbs (by simpa [hdl] using hsz0)
  have hps := pdq_sorts (ltOf cf') hO' d.toArray 0 d.toArray.size (Lib.bitLen d.toArray.size) true true (Nat.zero_le _) (Nat.le_refl _) (Or.inl rfl)
  generalize pdq (ltOf cf') d.toArray 0 d.toArray.size (Lib.bitLen d.toArray.size) true true = p at hcall hps
  obtain ⟨hp1, hp2⟩ := hps
  have hpl : p.size = l.length := by rw [hp1.1]; simp [hdl]
  have hperm : p.toList.Perm d := by
    have h2 := hp1.2.2
    have e1 : p.extract 0 d.toArray.size = p := by rw [← hp1.1]; simp
    have e2 : d.toArray.extract 0 d.toArray.size = d.toArray := by simp
    rw [e1, e2] at h2
    simpa using h2
  have hl' : p.toList.map (fun x => x.1.1) = l' := by
    refine huniq _ (by have := hperm.map (fun x : Elem g.K w cells Q => x.1.1); rwa [hd1] at this) ?_
    rw [List.pairwise_map, List.pairwise_iff_getElem]
    intro i j hi hj hij
    simp only [Array.length_toList] at hi hj
    have := hp2 i j (Nat.zero_le _) hij (by rw [← hp1.1]; exact hj)
    rw [getElem!_pos p i hi, getElem!_pos p j hj] at this
    exact this
  have hl'l : l'.length = l.length := by rw [← hl', List.length_map, Array.length_toList, hpl]
  rw [e1, hloc, e2]
  have e0 : d.toArray.size = l.length := by simp [hdl]
  rw [e0] at hcall
  refine hcall.mono ?_
  rintro e w' ⟨rfl, n, os, rfl⟩
  have hheap' : (Go.Proofs.sortWorldK (fun x : Elem g.K w cells Q => x.1.2) k w b 0 n p os).heap[b]? = some (.cells (Sort.putCells id 0 (Sort.flatK (fun x : Elem g.K w cells Q => x.1.2) k p) cur) E (0, 0)) := by
    unfold Go.Proofs.sortWorldK
    rw [Sort.heap_grow_old _ _ (by show b < (Sort.putRow id (Sort.ahead w n) b 0 _).heap.size; rw [Sort.size_putRow]; exact hbs)]
    show ((Sort.ahead w n).heap.modify b _)[b]? = _
    rw [Array.getElem?_modify, if_pos rfl]
    show Option.map _ w.heap[b]? = _
    rw [hheap]
    rfl
  have hother := hother0 n p os
  have hsize := hsize0 n p os
  have hcell := hcell0 n p os
  have hlent : ∀ q, lent g [(1, Res.arr false k (l.map cells) 0)] q ↔ q = b := by
    intro q
    constructor
    · rintro ⟨i, r, hi, hq⟩
      have := (Prod.mk.inj (List.mem_singleton.1 (lk_mem hi))).1
      subst this
      rw [hloc] at hq
      simpa [blk] using hq.symm
    · rintro rfl
      exact ⟨1, _, hb1, by rw [hloc]; rfl⟩
  have hk' : Keeps g.K w g.K (Go.Proofs.sortWorldK (fun x : Elem g.K w cells Q => x.1.2) k w b 0 n p os) := ⟨fun _ _ h => h, hcell⟩
  refine ⟨[], g, rfl, ⟨⟨rfl, rfl, rfl, hsize, fun q hq => ?_, Nat.le_add_right _ _⟩, fun _ _ h => h, fun _ _ h _ => h, fun q o h => Nat.lt_of_lt_of_le (hM.klt q o h) hsize, fun i r hi => ?_, fun i j r r' hi hj hne => ?_, fun q o h => hcell q o h⟩, rfl, ?_⟩
  · exact hother q hq.1 (fun e => hq.2 ((hlent q).2 e))
  · obtain ⟨rfl, rfl⟩ := Prod.mk.inj (List.mem_singleton.1 (lk_mem hi))
    rw [RR]
    refine .inr ⟨rfl, b, cap, _, E, ?_, hB, hheap', ?_, hmax, ?_, Nat.zero_le _, ?_, hK⟩
    · rw [List.length_map, hl'l]; exact hloc
    · rw [List.length_map, hl'l]; exact hcap
    · unfold Sort.putCells
      rw [Array.size_mapIdx]; exact hsz
    · rw [← hl']
      have := holds_sortedD (l := p.toList) hkd hck hk' hsz (by rw [Array.length_toList, hpl]; exact hcap)
      rwa [Array.toArray_toList] at this
  · obtain ⟨rfl, rfl⟩ := Prod.mk.inj (List.mem_singleton.1 (lk_mem hi))
    obtain ⟨rfl, rfl⟩ := Prod.mk.inj (List.mem_singleton.1 (lk_mem hj))
    exact absurd rfl hne
  · rw [SRs]
    refine ⟨_, _, rfl, ?_, ?_⟩
    · rw [SR]
      intro _ _ _ _ _ _
      exact hloc.symm
    rw [SRs]
    refine ⟨_, _, rfl, ?_, by rw [SRs]⟩
    rw [e2] at hu2'
    rw [SR] at hu2' ⊢
    exact CR.mono hk' _ _ hu2'
end
end Go.VL
