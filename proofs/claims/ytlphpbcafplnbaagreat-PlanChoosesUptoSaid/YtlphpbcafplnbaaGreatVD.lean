/- Contracts of functions of the seat, proved in a logic on data over the model (part VD). -/
import Derived.Test.YtlphpbcafplnbaaGreatVB
import Derived.ChangeArms
import Derived.DataReads
import Derived.ChangeOld
import Derived.OpenShut
import Derived.WalkKit
import Derived.ProofKit
import Derived.JoinedCond
import Derived.Carry
set_option linter.unusedSimpArgs false
set_option linter.unusedVariables false
namespace Go.VL
open Go.RowKit
def Kw (w : World) : Nat → Nat → Prop := fun b _ => b < w.heap.size
def contig (P : Program) : Nat → List Field → Option Nat
  | o, [] => some o
  | o, f :: r => if f.offset = o then contig P (o + P.cellsOf f.type) r else none
def catF (F : TypeId → List C → Prop) : List Field → List C → Prop
  | [], xs => xs = []
  | f :: r, xs => ∃ a b, xs = a ++ b ∧ F f.type a ∧ catF F r b
def catA (F : List C → Prop) : Nat → List C → Prop
  | 0, xs => xs = []
  | k + 1, xs => ∃ a b, xs = a ++ b ∧ F a ∧ catA F k b
def Fits (P : Program) (R : Nat) : Nat → TypeId → List C → Prop
  | 0, _, _ => False
  | n + 1, t, xs => match P.underlying t with
    | some .bool => ∃ b, xs = [.v (.bool b)]
    | some (.int k) => ∃ m, xs = [.v (.int k m)] ∧ (Lit.int k m).wf = true
    | some .string => ∃ s : ByteArray, xs = [.v (.string s)] ∧ s.size ≤ maxLen ∧ s.size ≤ R
    | some (.slice e) => ∃ nil ys, xs = [.sl nil ys] ∧ (nil = true → ys = []) ∧ ys.length ≤ maxLen ∧ ys.length * P.bytesOf e ≤ R ∧ ∀ y ∈ ys, Fits P R n e y
    | some (.pointer e) => xs = [.v (.pointer none)] ∨ ∃ ys, xs = [.dp ys] ∧ Fits P R n e ys
    | some (.struct fs) => catF (Fits P R n) fs.toList xs
    | some (.array len e) => catA (Fits P R n e) len xs
    | _ => False
def FitsS (P : Program) (R n : Nat) (t : TypeId) (s : S) : Prop :=
  match P.underlying t with
  | some (.struct _) => ∃ xs, s = .agg xs ∧ Fits P R n t xs
  | some (.array _ _) => ∃ xs, s = .agg xs ∧ Fits P R n t xs
  | _ => ∃ x, s = .c x ∧ Fits P R n t [x]
theorem fits_bool {P : Program} {R n : Nat} {t : TypeId} {xs : List C} (hu : P.underlying t = some .bool) (h : Fits P R (n + 1) t xs) : ∃ b, xs = [.v (.bool b)] := by
  unfold Fits at h; rw [hu] at h; exact h
theorem fits_int {P : Program} {R n : Nat} {t : TypeId} {xs : List C} {k : IntKind} (hu : P.underlying t = some (.int k)) (h : Fits P R (n + 1) t xs) : ∃ m, xs = [.v (.int k m)] ∧ (Lit.int k m).wf = true := by
  unfold Fits at h; rw [hu] at h; exact h
theorem fits_i64 {P : Program} {R n : Nat} {t : TypeId} {xs : List C} (hu : P.underlying t = some (.int .i64)) (h : Fits P R (n + 1) t xs) : ∃ m : Int, xs = [.v (.int .i64 m)] ∧ -9223372036854775808 ≤ m ∧ m ≤ 9223372036854775807 := by
  obtain ⟨m, rfl, hm⟩ := fits_int hu h
  exact ⟨m, rfl, by simpa [Lit.wf, IntKind.min, IntKind.max, IntKind.signed, IntKind.bits] using hm⟩
theorem fits_string {P : Program} {R n : Nat} {t : TypeId} {xs : List C} (hu : P.underlying t = some .string) (h : Fits P R (n + 1) t xs) : ∃ l : List UInt8, xs = [.v (.string ⟨l.toArray⟩)] ∧ l.length ≤ R := by
  unfold Fits at h; rw [hu] at h
  obtain ⟨⟨⟨l⟩⟩, rfl, _, hm⟩ := h
  exact ⟨l, rfl, hm⟩
theorem fits_slice {P : Program} {R n : Nat} {t e : TypeId} {xs : List C} (hu : P.underlying t = some (.slice e)) (h : Fits P R (n + 1) t xs) :
    ∃ nil ys, xs = [.sl nil ys] ∧ (nil = true → ys = []) ∧ ys.length * P.bytesOf e ≤ R ∧ ∀ y ∈ ys, Fits P R n e y := by
  unfold Fits at h; rw [hu] at h
  obtain ⟨nil, ys, h1, h2, _, h3, h4⟩ := h
  exact ⟨nil, ys, h1, h2, h3, h4⟩
theorem fits_struct {P : Program} {R n : Nat} {t : TypeId} {xs : List C} {fs : Array Field} (hu : P.underlying t = some (.struct fs)) (h : Fits P R (n + 1) t xs) : catF (Fits P R n) fs.toList xs := by
  unfold Fits at h; rw [hu] at h; exact h
theorem fits_array {P : Program} {R n : Nat} {t : TypeId} {xs : List C} {len : Nat} {e : TypeId} (hu : P.underlying t = some (.array len e)) (h : Fits P R (n + 1) t xs) : catA (Fits P R n e) len xs := by
  unfold Fits at h; rw [hu] at h; exact h
theorem fits_list {P : Program} {R n : Nat} {e : TypeId} {ys : List (List C)} {α : Type} (f : α → List C) (Q : α → Prop) (hf : ∀ y, Fits P R n e y → ∃ a, y = f a ∧ Q a) (h : ∀ y ∈ ys, Fits P R n e y) : ∃ l : List α, ys = l.map f ∧ ∀ a ∈ l, Q a := by
  induction ys with
  | nil => exact ⟨[], rfl, by simp⟩
  | cons y r ih =>
    obtain ⟨l, rfl, h1⟩ := ih (fun z hz => h z (by simp [hz]))
    obtain ⟨a, rfl, h2⟩ := hf y (h y (by simp))
    refine ⟨a :: l, rfl, fun b hb => ?_⟩
    rcases List.mem_cons.1 hb with rfl | hb
    · exact h2
    · exact h1 b hb
theorem FitsS.struct {P : Program} {R n : Nat} {t : TypeId} {s : S} {fs : Array Field} (hu : P.underlying t = some (.struct fs)) (h : FitsS P R n t s) : ∃ xs, s = .agg xs ∧ Fits P R n t xs := by
  unfold FitsS at h; rw [hu] at h; exact h
section
variable {H : Type} {enc : TypeId × Value → H} {P : Program} {w : World} {base : Nat} {spare : Nat → Bool} {held : Bool}
theorem VR_one {K : Nat → Nat → Prop} {c : C} {u : Value} (h : CR K w c u) : VR K w [c] [u] := by
  rw [VR]; exact ⟨u, [], rfl, h, by rw [VR]⟩
theorem LR_of_cells {a : Addr} {n : Nat} {us : List Value} {xs : List C} (hc : w.cells? base a n = some us) (hv : VR (Kw w) w xs us) (hn : 0 < n) (off : Nat) (ho : off = a.off) :
    xs.length = n ∧ LR (Kw w) w a.block off xs ∧ a.spot = none := by
  obtain ⟨h1, h2, h3⟩ := World.cells?_some hc
  have hb := World.cells?_block hc hn
  obtain ⟨e1, e2⟩ := (VR_iff _ _).1 hv
  have hs : a.spot = none := by
    have := h3 0 hn
    rw [show a.add 0 = a from rfl] at this
    have hu : us[0]? = some us[0] := List.getElem?_eq_getElem (by omega)
    rw [hu] at this
    unfold World.cell? at this
    split at this
    · split at this
      · cases this
      · rename_i hsp; simpa using hsp
    · cases this
  subst ho
  refine ⟨by omega, ?_, hs⟩
  rw [LR_iff]
  intro k c hk
  have hlt : k < us.length := by have := (List.getElem?_eq_some_iff.1 hk).1; omega
  refine ⟨hb, us[k], ?_, e2 k c us[k] hk (List.getElem?_eq_getElem hlt)⟩
  have := h3 k (by omega)
  rw [List.getElem?_eq_getElem hlt] at this
  rw [← this]
  obtain ⟨b, o, s⟩ := a
  simp only at hs
  subst hs
  exact congrArg _ (add_lit b o k).symm
theorem cat_ok {F : TypeId → List C → Prop} (cs : List Value) : ∀ (fs : List Field) (o : Nat), contig P o fs = some cs.length →
    (∀ f ∈ fs, ∃ a, VR (Kw w) w a ((cs.drop f.offset).take (P.cellsOf f.type)) ∧ F f.type a) → ∃ xs, VR (Kw w) w xs (cs.drop o) ∧ catF F fs xs
  | [], o, h, _ => by
    simp only [contig, Option.some.injEq] at h
    exact ⟨[], by rw [h]; simp [VR], rfl⟩
  | f :: r, o, h, hf => by
    unfold contig at h
    split at h
    · rename_i ho
      obtain ⟨a, h1, h2⟩ := hf f (by simp)
      obtain ⟨b, h3, h4⟩ := cat_ok cs r _ h (fun g hg => hf g (by simp [hg]))
      refine ⟨a ++ b, ?_, a, b, rfl, h2, h4⟩
      have := VR_append h1 h3
      rw [ho, ← List.drop_drop, List.take_append_drop] at this
      exact this
    · cases h
theorem catA_ok {F : List C → Prop} (cs : List Value) (sz : Nat) : ∀ (k o : Nat), cs.length = o + k * sz →
    (∀ i, i < k → ∃ a, VR (Kw w) w a ((cs.drop (o + i * sz)).take sz) ∧ F a) → ∃ xs, VR (Kw w) w xs (cs.drop o) ∧ catA F k xs
  | 0, o, h, _ => ⟨[], by rw [List.drop_of_length_le (by omega), VR], rfl⟩
  | k + 1, o, h, hf => by
    obtain ⟨a, h1, h2⟩ := hf 0 (by omega)
    have e1 : o + (k + 1) * sz = (o + sz) + k * sz := by rw [Nat.add_mul]; omega
    obtain ⟨b, h3, h4⟩ := catA_ok cs sz k (o + sz) (by omega) (fun i hi => by
      have := hf (i + 1) (by omega)
      rwa [show o + (i + 1) * sz = o + sz + i * sz from by rw [Nat.add_mul]; omega] at this)
    refine ⟨a ++ b, ?_, a, b, rfl, h2, h4⟩
    have := VR_append h1 h3
    rw [Nat.zero_mul, Nat.add_zero, ← List.drop_drop, List.take_append_drop] at this
    exact this
theorem mem_weightsAll {e : TypeId} {m : Nat} : ∀ {l : List (DataW H)} {d : DataW H}, d ∈ l → m ∈ d.weights P e → m ∈ DataW.weightsAll P e l
  | x :: r, d, h, hm => by
    simp only [DataW.weightsAll, List.mem_append]
    rcases List.mem_cons.1 h with rfl | h
    · exact .inl hm
    · exact .inr (mem_weightsAll h hm)
theorem mem_weightsEach {m : Nat} : ∀ {ts : List TypeId} {l : List (DataW H)} {i : Nat} {t : TypeId} {d : DataW H}, ts[i]? = some t → l[i]? = some d → m ∈ d.weights P t → m ∈ DataW.weightsEach P ts l
  | [], _, _, _, _, h, _, _ => by simp at h
  | _ :: _, [], _, _, _, _, h, _ => by simp at h
  | _ :: _, _ :: _, 0, _, _, h1, h2, hm => by
    simp only [List.getElem?_cons_zero, Option.some.injEq] at h1 h2
    subst h1; subst h2
    simp only [DataW.weightsEach, List.mem_append]
    exact .inl hm
  | _ :: _, _ :: _, i + 1, _, _, h1, h2, hm => by
    simp only [DataW.weightsEach, List.mem_append]
    exact .inr (mem_weightsEach (by simpa using h1) (by simpa using h2) hm)
end
end Go.VL
set_option linter.unusedSimpArgs false
set_option linter.unusedVariables false
namespace Go.VL
open Go.RowKit Go.ChangeShapes Go.WideShapes
section
variable {H : Type} {enc : TypeId × Value → H} {P : Program} {w : World} {base : Nat} {spare : Nat → Bool} {held : Bool}
theorem VR_cells {K : Nat → Nat → Prop} {xs : List C} {u : Value} (h : VR K w xs [u]) : ∃ x, xs = [x] ∧ CR K w x u := by
  cases xs with
  | nil => rw [VR] at h; cases h
  | cons x r =>
    rw [VR] at h
    obtain ⟨u', us', e, h1, h2⟩ := h
    cases e
    cases r with
    | nil => exact ⟨x, rfl, h1⟩
    | cons y r => rw [VR] at h2; obtain ⟨_, _, e, _⟩ := h2; cases e
theorem args_back {W W' : World} (hl : laidOutB P = true) (hb : Below W.heap.size W W') {sp : Nat → Bool} : ∀ (ts : List TypeId) (vs : List Value) (ds : List (DataW H)) (ps : List MemPlace),
    (∀ t ∈ ts, P.readableRec t = true ∧ t < P.types.size) → DataW.TrodAll enc P W 0 (fun _ => true) true ts vs ds ps → (∀ p ∈ ps, p.block < W.heap.size) → (∀ p ∈ ps, sp p.block = true) → DataW.TrodAll enc P W' 0 sp true ts vs ds ps
  | [], vs, ds, ps, _, h, _, _ => by
    obtain ⟨rfl, rfl, rfl⟩ := trodAll_nil h
    rfl
  | t :: ts, vs, ds, ps, ht, h, hlt, hs => by
    obtain ⟨v, vs', d, ds', p, q, rfl, rfl, rfl, h1, h2⟩ := trodAll_cons h
    exact ⟨p, q, WideElems.Trod_stays hl (ht t (by simp)).1 (ht t (by simp)).2 h1 (fun x hx => hb.same (hlt x (by simp [hx]))) (fun x hx => hs x (by simp [hx])),
      args_back hl hb ts vs' ds' q (fun t h => ht t (by simp [h])) h2 (fun x hx => hlt x (by simp [hx])) (fun x hx => hs x (by simp [hx])), rfl⟩
end
end Go.VL
