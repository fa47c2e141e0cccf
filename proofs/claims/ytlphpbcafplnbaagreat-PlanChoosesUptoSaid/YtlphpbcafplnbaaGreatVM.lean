/- Contracts of functions of the seat, proved in a logic on data over the model (part VM). -/
import Derived.Test.YtlphpbcafplnbaaGreatVA
set_option linter.unusedSimpArgs false
set_option linter.unusedVariables false
namespace Go.VL
open Go.RowKit
def keq : Value → Value → Bool
  | .int j a, .int k b => j == k && a == b
  | .string a, .string b => a == b
  | .bool a, .bool b => a == b
  | _, _ => false
def kfits : TypeDesc → Value → Bool
  | .int q, .int k _ => k == q
  | .string, .string _ => true
  | .bool, .bool _ => true
  | _, _ => false
theorem sameNow_ok {d : TypeDesc} {k k' : Value} (h : kfits d k = true) (h' : kfits d k' = true) : Instr.sameNow d k k' = some (keq k k') := by
  unfold kfits at h h'
  split at h
  · rename_i q j n
    split at h'
    · rename_i q' j' n' _ _
      simp at h h'
      simp_all [Instr.sameNow, keq]
    · rename_i e1 e2; simp_all
    · rename_i e1 e2; simp_all
    · cases h'
  · split at h'
    · rename_i e1 e2; simp_all
    · simp [Instr.sameNow, keq]
    · rename_i e1 e2; simp_all
    · cases h'
  · split at h'
    · rename_i e1 e2; simp_all
    · rename_i e1 e2; simp_all
    · simp [Instr.sameNow, keq]
    · cases h'
  · cases h
def findK (k : Value) : List (Value × List S) → Option (Nat × List S)
  | [] => none
  | x :: r => if keq k x.1 then some (0, x.2) else (findK k r).map fun y => (y.1 + 1, y.2)
theorem findNow_ok {g : G} {w : World} {R : Nat → Option Res} {d : TypeDesc} {k : Value} (hk : kfits d k = true) : ∀ (kvs : List (Value × List S)) (es : List MapEntry) (i : Nat), MapR g w R kvs es → (kvs.all fun x => kfits d x.1) = true →
    (Instr.findNow d k es i = some none ∧ findK k kvs = none) ∨ (∃ j cs e, Instr.findNow d k es i = some (some (i + j, e.val)) ∧ findK k kvs = some (j, cs) ∧ es[j]? = some e ∧ kvs[j]? = some (e.key, cs) ∧ keq k e.key = true ∧ EntR g w R cs e.val)
  | [], es, i, h, _ => by
    have : es = [] := h
    subst this
    exact .inl ⟨rfl, rfl⟩
  | x :: r, es, i, h, ha => by
    obtain ⟨e, es', rfl, h2, h3, h4⟩ := h
    simp only [List.all_cons, Bool.and_eq_true] at ha
    have hs := sameNow_ok hk ha.1
    rw [← h2] at hs
    cases hq : keq k e.key with
    | true =>
      rw [hq] at hs
      refine .inr ⟨0, x.2, e, by simp [Instr.findNow, hs], ?_, rfl, by simp [h2], hq, h3⟩
      rw [findK, if_pos (by rw [← h2]; exact hq)]
    | false =>
      rw [hq] at hs
      rcases findNow_ok hk r es' (i + 1) h4 (by simpa using ha.2) with ⟨e1, e2⟩ | ⟨j, cs, e', e1, e2, e3, e4, e5, e6⟩
      · refine .inl ⟨by simp [Instr.findNow, hs, e1], ?_⟩
        rw [findK, if_neg (by rw [← h2, hq]; simp), e2]; rfl
      · refine .inr ⟨j + 1, cs, e', by simp [Instr.findNow, hs, e1]; omega, ?_, by simpa using e3, by simpa using e4, e5, e6⟩
        rw [findK, if_neg (by rw [← h2, hq]; simp), e2]; rfl
theorem MapR.len {g : G} {w : World} {R : Nat → Option Res} : ∀ (kvs : List (Value × List S)) (es : List MapEntry), MapR g w R kvs es → es.length = kvs.length
  | [], es, h => by have : es = [] := h; subst this; rfl
  | x :: r, es, h => by
    obtain ⟨e, es', rfl, _, _, h4⟩ := h
    simp [MapR.len r es' h4]
theorem MapR.at {g : G} {w : World} {R : Nat → Option Res} : ∀ (kvs : List (Value × List S)) (es : List MapEntry) (j : Nat) (e : MapEntry), MapR g w R kvs es → es[j]? = some e → ∃ cs, kvs[j]? = some (e.key, cs) ∧ EntR g w R cs e.val
  | [], es, j, e, h, he => by have : es = [] := h; subst this; simp at he
  | x :: r, es, 0, e, h, he => by
    obtain ⟨e', es', rfl, h2, h3, h4⟩ := h
    simp at he
    subst he
    exact ⟨x.2, by simp [h2], h3⟩
  | x :: r, es, j + 1, e, h, he => by
    obtain ⟨e', es', rfl, h2, h3, h4⟩ := h
    simpa using MapR.at r es' j e h4 (by simpa using he)
end Go.VL
set_option linter.unusedSimpArgs false
set_option linter.unusedVariables false
namespace Go.VL
open Go.RowKit
def mpT (P : Program) (t : TypeId) : Option (TypeId × TypeDesc × TypeId) :=
  match P.underlying t with
  | some (.map k e) => match P.underlying k with
    | some (.int q) => some (k, .int q, e)
    | some .string => some (k, .string, e)
    | some .bool => some (k, .bool, e)
    | _ => none
  | _ => none
theorem mpT_ok {P : Program} {t k e : TypeId} {d : TypeDesc} (h : mpT P t = some (k, d, e)) : P.underlying t = some (.map k e) ∧ P.underlying k = some d ∧ ((∃ q, d = .int q) ∨ d = .string ∨ d = .bool) := by
  unfold mpT at h
  cases hu : P.underlying t with
  | none => simp [hu] at h
  | some x =>
    cases x <;> simp [hu] at h
    rename_i k' e'
    cases hk : P.underlying k' with
    | none => simp [hk] at h
    | some y =>
      cases y <;> simp [hk] at h
      · obtain ⟨rfl, rfl, rfl⟩ := h; exact ⟨rfl, hk, by simp⟩
      · obtain ⟨rfl, rfl, rfl⟩ := h; exact ⟨rfl, hk, by simp⟩
      · obtain ⟨rfl, rfl, rfl⟩ := h; exact ⟨rfl, hk, by simp⟩
theorem run_checkKey {P : Program} {w : World} {k : TypeId} {d : TypeDesc} {v : Value} (em : Bool) (n : Nat) (hk : P.underlying k = some d) (hd : (∃ q, d = .int q) ∨ d = .string ∨ d = .bool) : (Instr.checkKey em (n + 1) k v).run P w = .ok () w := by
  rcases hd with ⟨q, rfl⟩ | rfl | rfl <;> simp [Instr.checkKey, run_underlying hk]
theorem run_findKey {P : Program} {w : World} {k : TypeId} {d : TypeDesc} {v : Value} {es : List MapEntry} {r : Option (Nat × Value)} (hk : P.underlying k = some d) (hf : Instr.findNow d v es 0 = some r) : (Instr.findKey k v es).run P w = .ok r w := by
  simp [Instr.findKey, run_underlying hk, hf]
theorem run_lookup {P : Program} {w : World} {t k e : TypeId} {d : TypeDesc} {b : Nat} {es : Array MapEntry} {ck : Nat} {v : Value} {r : Option (Nat × Value)} {z : Value} (ok : Bool) (h : mpT P t = some (k, d, e)) (hb : w.heap[b]? = some (.map es ck))
    (hf : Instr.findNow d v es.toList 0 = some r) (hz : zeroOf P e = some z) :
    (Instr.lookup t (.map (some b)) v ok).run P w = .ok (if ok then .tuple #[match r with | some x => x.2 | none => z, .bool r.isSome] else match r with | some x => x.2 | none => z) w := by
  obtain ⟨h1, h2, h3⟩ := mpT_ok h
  have hz' := run_zero (P := P) (w := w) hz
  have hg : (getObj b).run P w = .ok (.map es ck) w := by simp [getObj, Sem.run, hb]
  have hc := run_checkKey (w := w) (v := v) es.isEmpty 9999 h2 h3
  have hk := run_findKey (w := w) h2 hf
  cases r with
  | none => cases ok <;> simp [Instr.lookup, run_underlying h1, hg, hc, hk, hz']
  | some x => cases ok <;> simp [Instr.lookup, run_underlying h1, hg, hc, hk]
def setMap (w : World) (b : Nat) (es : Array MapEntry) (ck : Nat) : World := { w with heap := w.heap.setIfInBounds b (.map es ck) }
theorem run_setMap {P : Program} {w : World} {b : Nat} {es es' : Array MapEntry} {ck ck' : Nat} (hb : w.heap[b]? = some (.map es ck)) : (setObj b (.map es' ck')).run P w = .ok () (setMap w b es' ck') := by
  simp [setObj, Sem.run, hb, setMap]
theorem sameBits_keq {a b : Value} (n : Nat) (h : keq a b = true) : Instr.sameBits n b a = true ∧ a = b := by
  unfold keq at h
  split at h
  · rename_i j x k y
    simp at h
    obtain ⟨rfl, rfl⟩ := h
    exact ⟨by cases n <;> simp [Instr.sameBits], rfl⟩
  · rename_i x y
    have h1 : (x.data == y.data) = true := h
    have h2 := eq_of_beq h1
    have h3 : x = y := by cases x; cases y; simp_all
    subst h3
    have h4 : (x == x) = true := h
    exact ⟨by cases n <;> simp [Instr.sameBits, h4], rfl⟩
  · rename_i x y
    simp at h
    subst h
    exact ⟨by cases n <;> simp [Instr.sameBits], rfl⟩
  · cases h
theorem run_mapPut {P : Program} {w : World} {t k e : TypeId} {d : TypeDesc} {b : Nat} {es : Array MapEntry} {ck i : Nat} {v x y : Value} {e0 : MapEntry} (h : mpT P t = some (k, d, e)) (hb : w.heap[b]? = some (.map es ck))
    (hf : Instr.findNow d v es.toList 0 = some (some (i, y))) (hi : es[i]? = some e0) (hq : keq v e0.key = true) :
    (Instr.mapUpdate t (.map (some b)) v x).run P w = .ok () (setMap w b (es.modify i fun e => { e with key := v, val := x }) ck) := by
  obtain ⟨h1, h2, h3⟩ := mpT_ok h
  have hg : (getObj b).run P w = .ok (.map es ck) w := by simp [getObj, Sem.run, hb]
  have hc := run_checkKey (w := w) (v := v) false 9999 h2 h3
  have hk := run_findKey (w := w) h2 hf
  obtain ⟨hs, _⟩ := sameBits_keq 10000 hq
  simp [Instr.mapUpdate, run_underlying h1, hg, hc, hk, hi, Instr.keyThatStays, hs, run_setMap hb]
theorem run_mapNew {P : Program} {w : World} {t k e : TypeId} {d : TypeDesc} {b : Nat} {es : Array MapEntry} {ck : Nat} {v x : Value} (h : mpT P t = some (k, d, e)) (hb : w.heap[b]? = some (.map es ck))
    (hf : Instr.findNow d v es.toList 0 = some none) :
    (Instr.mapUpdate t (.map (some b)) v x).run P w = .ok () (setMap w b (es.push { key := v, val := x, born := ck }) (ck + 1)) := by
  obtain ⟨h1, h2, h3⟩ := mpT_ok h
  have hg : (getObj b).run P w = .ok (.map es ck) w := by simp [getObj, Sem.run, hb]
  have hc := run_checkKey (w := w) (v := v) false 9999 h2 h3
  have hk := run_findKey (w := w) h2 hf
  simp [Instr.mapUpdate, run_underlying h1, hg, hc, hk, run_setMap hb]
theorem run_makeMap {P : Program} {w : World} {t : TypeId} : (Instr.makeMap t none).run P w = .ok (.map (some w.heap.size)) (w.alloc (.map #[] 0)) := by
  simp [Instr.makeMap, run_newObj]
end Go.VL
set_option linter.unusedSimpArgs false
set_option linter.unusedVariables false
namespace Go.VL
open Go.RowKit
section
variable {P : Program} {w0 : World} {K0 : K0T} {nt : Nat} {st : St} {a : Act} {w : World} {g : G}
theorem T.newmap (h : T w0 K0 nt st a w g) (i : Nat) :
    ∃ g', T w0 K0 nt ((st.clr i).setR i (some (.map (.ents [])))) a (w.alloc (.map #[] 0)) g' ∧ g'.loc i = .map (some w.heap.size) ∧ (∀ j, j ≠ i → g'.loc j = g.loc j) ∧ g'.K = g.K := by
  refine ⟨{ g with loc := fun j => if j = i then .map (some w.heap.size) else g.loc j }, ?_, by simp, fun j hj => by simp [hj], rfl⟩
  have hB : w0.heap.size ≤ w.heap.size := h.below.size
  refine T.make h (g' := { g with loc := fun j => if j = i then .map (some w.heap.size) else g.loc j }) (Bel.of ((BelowD.refl _ _).alloc hB _)) ⟨fun _ _ k => k, fun b o k => World.cell?_alloc_lt _ _ _ (h.klt b o k)⟩ h.kold (fun b o k => by
      have := h.klt b o k; simp; omega) (fun j hj => by simp [hj]) (fun j r b hj hr hb => ⟨Below.heap_alloc _ _ _ ((h.res j r hr).lt hb), fun _ k => k⟩) (fun j r hj hr b hb hb2 => ?_) ?_
  · simp [blk] at hb
    have := (h.res j r hr).lt hb2
    omega
  · exact ⟨w.heap.size, #[], by simp, (fun e => absurd e.1 (by omega)), heap_alloc_new w _, rfl, fun j e he => by simp at he⟩
theorem setMap_other (w : World) (b k : Nat) (es : Array MapEntry) (ck : Nat) (h : k ≠ b) : (setMap w b es ck).heap[k]? = w.heap[k]? := by
  simp [setMap, Array.getElem?_setIfInBounds_ne (Ne.symm h)]
theorem setMap_same {w : World} {b : Nat} {es es' : Array MapEntry} {ck ck' : Nat} (hb : w.heap[b]? = some (.map es ck)) : (setMap w b es' ck').heap[b]? = some (.map es' ck') := by
  have := (Array.getElem?_eq_some_iff.1 hb).1
  simp [setMap, this]
theorem T.setmap (h : T w0 K0 nt st a w g) {i b : Nat} {kvs kvs' : List (Value × List S)} {es es' : Array MapEntry} {ck : Nat} (hi : st.rs i = some (.map (.ents kvs))) (hl : g.loc i = .map (some b)) (hb : w.heap[b]? = some (.map es ck))
    (hr : MapR g w st.rs kvs' es'.toList) (hbo : ∀ (j : Nat) (e : MapEntry), es'[j]? = some e → e.born = j) : T w0 K0 nt (st.setR i (some (.map (.ents kvs')))) a (setMap w b es' es'.size) g := by
  have hB := ((h.res i _ hi).block (b := b) (by rw [hl]; rfl)).1
  have hk : Keeps g.K w g.K (setMap w b es' es'.size) := ⟨fun _ _ k => k, fun b' o k => by
    by_cases e : b' = b
    · subst e
      simp only [World.cell?]
      rw [setMap_same hb, hb]
    · simp only [World.cell?]; rw [setMap_other _ _ _ _ _ e]⟩
  refine T.mod h hi ⟨rfl, rfl, rfl, by simp [setMap], fun k hk' => setMap_other _ _ _ _ _ (fun e => hB (e ▸ hk')), Nat.le_refl _⟩ hk h.kold (fun b' o k => by simpa [setMap] using h.klt b' o k) rfl
    (fun j r' b' hj hrj hbj => ⟨setMap_other _ _ _ _ _ (fun e => ?_), fun _ k => k⟩) (.inr (.inr ⟨_, _, rfl, rfl, rfl⟩)) (fun hc => ?_)
  · subst e
    exact h.dis i j _ r' hi hrj (Ne.symm hj) b' (by rw [hl]; rfl) hbj
  · exact ⟨b, es', hl, hB, setMap_same hb, MapR.mono hk _ _ hc hr, hbo⟩
end
end Go.VL
set_option linter.unusedSimpArgs false
set_option linter.unusedVariables false
namespace Go.VL
open Go.RowKit
def allCs : List S → Option (List C)
  | [] => some []
  | .c x :: r => (allCs r).map (x :: ·)
  | _ :: _ => none
def entS : List S → S
  | [c] => c
  | cs => match allCs cs with
    | some l => .agg l
    | none => .st cs
def entC (st : St) : S → Option (List S)
  | .agg cs => if cs.length = 1 then none else some (cs.map .c)
  | .st ss => if ss.length = 1 then none else some ss
  | s => cellsH st s
def vmkMap (dst : Option Nat) (st : St) (K : St → Prop) : Prop :=
  match dst with
  | some x => K (((st.clr (64 * x)).setR (64 * x) (some (.map (.ents [])))).put x (.mp (64 * x)))
  | none => False
def lkS (ok : Bool) (r : Option (Nat × List S)) (z : Value) : S :=
  if ok then .tup [match r with | some y => entS y.2 | none => ofConst z, .c (.v (.bool r.isSome))] else match r with | some y => entS y.2 | none => ofConst z
def vlkup (P : Program) (dst : Option Nat) (st : St) (t : TypeId) (m k : S) (ok : Bool) (K : St → Prop) : Prop :=
  match m, k with
  | .mp i, .c (.v kv) => match st.rs i, mpT P t with
    | some (.map (.ents kvs)), some (_, d, e) => match zeroOf P e with
      | some z => kfits d kv = true ∧ (kvs.all fun x => kfits d x.1) = true ∧ K (st.putd dst (lkS ok (findK kv kvs) z))
      | none => False
    | _, _ => False
  | _, _ => False
def putK (k : Value) (cs : List S) (kvs : List (Value × List S)) : List (Value × List S) :=
  match findK k kvs with
  | some y => kvs.set y.1 (k, cs)
  | none => kvs ++ [(k, cs)]
def vmapUp (P : Program) (dst : Option Nat) (st : St) (t : TypeId) (m k x : S) (K : St → Prop) : Prop :=
  match m, k, entC st x with
  | .mp i, .c (.v kv), some cs => match st.rs i, mpT P t with
    | some (.map (.ents kvs)), some (_, d, _) => kfits d kv = true ∧ (kvs.all fun x => kfits d x.1) = true ∧ K ((st.setR i (some (.map (.ents (putK kv cs kvs))))).putd dst .un)
    | _, _ => False
  | _, _, _ => False
def vrange (P : Program) (dst : Option Nat) (st : St) (t : TypeId) (m : S) (K : St → Prop) : Prop :=
  match dst, m with
  | some x, .mp i => match st.rs i, mpT P t with
    | some (.map (.ents kvs)), some _ => ∀ bm : Nat, K ((((((st.clr (64 * x + 1)).setR (64 * x + 1) (some (.pin (.map (some bm)) (S.clr (64 * x + 1) (.mp i))))).clr (64 * x)).setR (64 * x) (some (.map (.iter bm kvs.length []))))).put x (.mp (64 * x)))
    | _, _ => False
  | _, _ => False
def todoK (n : Nat) (seen : List Nat) : List Nat := (List.range n).filter fun j => !seen.contains j
def vnext (dst : Option Nat) (st : St) (it : S) (K : St → Prop) : Prop :=
  match it with
  | .mp y => match st.rs y, st.rs (y + 1) with
    | some (.map (.iter bm n seen)), some (.pin (.map (some bm')) (.mp i)) => match st.rs i with
      | some (.map (.ents kvs)) => bm = bm' ∧ n = kvs.length ∧ (kvs.all fun x => x.1.oneCell') = true ∧ (todoK n seen = [] → K (st.putd dst (.tup [.c (.v (.bool false))]))) ∧
          ∀ j k cs, j ∈ todoK n seen → kvs[j]? = some (k, cs) → K ((st.setR y (some (.map (.iter bm n (seen ++ [j]))))).putd dst (.tup [.c (.v (.bool true)), .c (.v k), entS cs]))
      | _ => False
    | _, _ => False
  | _ => False
def ventry (dst : Option Nat) (st : St) (it : S) (K : St → Prop) : Prop :=
  match it with
  | .mp y => match st.rs y, st.rs (y + 1) with
    | some (.map (.iter bm n seen)), some (.pin (.map (some bm')) (.mp i)) => match st.rs i, seen.getLast? with
      | some (.map (.ents kvs)), some j => match kvs[j]? with
        | some (k, cs) => bm = bm' ∧ n = kvs.length ∧ k.oneCell' = true ∧ K (st.putd dst (.tup [.c (.v k), entS cs]))
        | none => False
      | _, _ => False
    | _, _ => False
  | _ => False
end Go.VL
