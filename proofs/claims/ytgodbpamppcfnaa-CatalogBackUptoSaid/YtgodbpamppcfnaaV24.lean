/-
  A logic on data over the model's walk, part 24: a law's row out of a contract.
-/
import Derived.Test.YtgodbpamppcfnaaV23
import Derived.WalkKit
import Derived.ProofKit
import Derived.OpenShut
import Derived.JoinedCond
import Derived.Carry
set_option linter.unusedSimpArgs false
set_option linter.unusedVariables false
namespace Go.VL
open Go.RowKit Go.ChangeShapes Go.WideShapes

def FitsAll (P : Program) (R n : Nat) : List TypeId → List S → Prop
  | [], ss => ss = []
  | t :: ts, ss => ∃ s r, ss = s :: r ∧ FitsS P R n t s ∧ FitsAll P R n ts r

section
variable {H : Type} {enc : TypeId × Value → H} {P : Program} {w : World} {base : Nat} {spare : Nat → Bool} {held : Bool}

theorem VR_cells {K : Nat → Nat → Prop} {xs : List C} {u : Value} (h : VR K w xs [u]) : ∃ x, xs = [x] ∧ CR K w x u := by
  cases xs with
  | nil => rw [VR] at h; cases h
  | cons x r =>
    rw [VR] at h
    obtain ⟨u', us', e, h1, h2⟩ := h
    cases e
    cases r with
    | nil => exact ⟨x, rfl, h1⟩
    | cons y r => rw [VR] at h2; obtain ⟨_, _, e, _⟩ := h2; cases e

theorem arg_ok {R n : Nat} {t : TypeId} {b0 : Nat} {v : Value} {d : DataW H} {ps : List MemPlace} (hval : Value.okWide P w .any b0 t v) (h : DataW.Trod enc P w base spare held t v d ps) (hw : wfT P n t = true) (hwt : ∀ m ∈ d.weights P t, m ≤ R) :
    ∃ s, SR ⟨Kw w, fun _ => undef⟩ w (fun _ => none) s v ∧ FitsS P R n t s := by
  obtain ⟨fuel, hf⟩ := h
  obtain ⟨xs, h1, h2⟩ := trod_ok n fuel t _ _ hw hf hwt
  have one : (∀ u, v.cells = #[u] → v = u) → (∃ u, v.cells = #[u]) → (∀ fs, P.underlying t ≠ some (.struct fs)) → ∃ s, SR ⟨Kw w, fun _ => undef⟩ w (fun _ => none) s v ∧ FitsS P R n t s := by
    intro e1 ⟨u, e2⟩ hns
    obtain rfl := e1 u e2
    rw [e2] at h1
    obtain ⟨x, rfl, h3⟩ := VR_cells h1
    refine ⟨.c x, by rw [SR]; exact h3, ?_⟩
    unfold FitsS
    split
    · rename_i fs hu; exact absurd hu (hns fs)
    · exact ⟨x, rfl, h2⟩
  cases n with
  | zero => simp [wfT] at hw
  | succ n =>
    unfold wfT at hw
    split at hw
    · rename_i hu
      obtain ⟨b, rfl⟩ := okWide_bool hu hval
      exact one (fun u e => by simpa [Value.cells] using e) ⟨_, rfl⟩ (fun fs e => by rw [hu] at e; cases e)
    · rename_i k hu
      obtain ⟨b, rfl⟩ := okWide_int hu hval
      exact one (fun u e => by simpa [Value.cells] using e) ⟨_, rfl⟩ (fun fs e => by rw [hu] at e; cases e)
    · rename_i hu
      obtain ⟨b, rfl⟩ := okWide_string hu hval
      exact one (fun u e => by simpa [Value.cells] using e) ⟨_, rfl⟩ (fun fs e => by rw [hu] at e; cases e)
    · rename_i e hu
      have : ∃ a l c, v = .slice a l c := by
        simp only [Value.okWide, hu, Cell.okWide] at hval
        cases v <;> simp_all [Cell.ok]
      obtain ⟨a, l, c, rfl⟩ := this
      exact one (fun u e => by simpa [Value.cells] using e) ⟨_, rfl⟩ (fun fs e => by rw [hu] at e; cases e)
    · rename_i e hu
      have : ∃ a, v = .pointer a := by
        simp only [Value.okWide, hu, Cell.okWide] at hval
        cases v <;> simp_all [Cell.ok]
      obtain ⟨a, rfl⟩ := this
      exact one (fun u e => by simpa [Value.cells] using e) ⟨_, rfl⟩ (fun fs e => by rw [hu] at e; cases e)
    · rename_i fs hu
      obtain ⟨cs, rfl, _⟩ := okWide_struct hu hval
      refine ⟨.agg xs, by rw [SR]; exact ⟨cs.toList, by simp, h1⟩, ?_⟩
      unfold FitsS
      rw [hu]
      exact ⟨xs, rfl, h2⟩
    · cases hw

theorem args_ok {R n b0 : Nat} : ∀ (ts : List TypeId) (vs : List Value) (ds : List (DataW H)) (ps : List MemPlace), (∀ (j : Nat) t v, ts[j]? = some t → vs[j]? = some v → Value.okWide P w .any b0 t v) →
    DataW.TrodAll enc P w base spare held ts vs ds ps → (∀ t ∈ ts, wfT P n t = true) → (∀ m ∈ DataW.weightsEach P ts ds, m ≤ R) → ∃ ss, DRs (Kw w) w ss vs ∧ FitsAll P R n ts ss
  | [], vs, ds, ps, _, h, _, _ => by
    obtain ⟨rfl, _, _⟩ := trodAll_nil h
    exact ⟨[], by unfold DRs; rw [SRs], rfl⟩
  | t :: ts, vs, ds, ps, hv, h, hw, hwt => by
    obtain ⟨v, vs', d, ds', p, q, rfl, rfl, rfl, h1, h2⟩ := trodAll_cons h
    obtain ⟨s, e1, e2⟩ := arg_ok (hv 0 t v rfl rfl) h1 (hw t (by simp)) (fun m hm => hwt m (by simp only [DataW.weightsEach, List.mem_append]; exact .inl hm))
    obtain ⟨ss, e3, e4⟩ := args_ok ts vs' ds' q (fun j t v h1 h2 => hv (j + 1) t v (by simpa using h1) (by simpa using h2)) h2 (fun t ht => hw t (by simp [ht])) (fun m hm => hwt m (by simp only [DataW.weightsEach, List.mem_append]; exact .inr hm))
    refine ⟨s :: ss, ?_, s, ss, rfl, e2, e4⟩
    unfold DRs at e3 ⊢
    rw [SRs]
    exact ⟨v, vs', rfl, e1, e3⟩

theorem args_back {W W' : World} (hl : laidOutB P = true) (hb : Below W.heap.size W W') {sp : Nat → Bool} : ∀ (ts : List TypeId) (vs : List Value) (ds : List (DataW H)) (ps : List MemPlace),
    (∀ t ∈ ts, P.readableRec t = true ∧ t < P.types.size) → DataW.TrodAll enc P W 0 (fun _ => true) true ts vs ds ps → (∀ p ∈ ps, p.block < W.heap.size) → (∀ p ∈ ps, sp p.block = true) → DataW.TrodAll enc P W' 0 sp true ts vs ds ps
  | [], vs, ds, ps, _, h, _, _ => by
    obtain ⟨rfl, rfl, rfl⟩ := trodAll_nil h
    rfl
  | t :: ts, vs, ds, ps, ht, h, hlt, hs => by
    obtain ⟨v, vs', d, ds', p, q, rfl, rfl, rfl, h1, h2⟩ := trodAll_cons h
    exact ⟨p, q, WideElems.Trod_stays hl (ht t (by simp)).1 (ht t (by simp)).2 h1 (fun x hx => hb.same (hlt x (by simp [hx]))) (fun x hx => hs x (by simp [hx])),
      args_back hl hb ts vs' ds' q (fun t h => ht t (by simp [h])) h2 (fun x hx => hlt x (by simp [hx])) (fun x hx => hs x (by simp [hx])), rfl⟩

/-- THE LAW's STEP: a contract that says true, of every argument of the types -/
theorem law_calls {f : FuncId} {fn : Func} {s : ChangeSpec} {tb : TypeId} {R : Nat} (n : Nat) (hl : laidOutB P = true) (ht : fn.params.toList.all (fun t => P.readableRec t && decide (t < P.types.size) && wfT P n t) = true) (hvars : s.vars = [])
    (hfn : ∀ ds : List (DataW H), ds.length = fn.params.toList.length → s.fn H ds = { results := [.lit (.bool true)], args := ds }) (hres : fn.resultTypes = #[tb]) (htb : P.underlying tb = some .bool)
    {W : World} {args : Array Value} {ds gs : List (DataW H)} {before : List MemPlace} {b0 : Nat} {apart fresh handsOn again : Bool}
    (con : ∀ ss, FitsAll P R n fn.params.toList ss → DRs (Kw W) W ss args.toList → Con P f ss [.c (.v (.bool true))])
    (hval : ∀ (j : Nat) t v, fn.params[j]? = some t → args[j]? = some v → Value.okWide P W .any b0 t v)
    (hW : DataW.Whole enc P fn.params.toList s.vars apart W args.toList ds gs before) (hwt0 : (DataW.weightsEach P (fn.params.toList ++ s.plain.varTypes P) (ds ++ gs)).all (· ≤ R) = true) :
    Calls P f args W fun e W' => ∃ v, e = .returned v ∧ s.post enc P fn apart fresh handsOn again W args v W' := by
  simp only [List.all_eq_true, Bool.and_eq_true, decide_eq_true_eq] at ht
  have hW' := hW
  obtain ⟨p, q, hA, hV, rfl, hfz, hnd⟩ := hW
  rw [hvars] at hV
  have hgs : gs = [] ∧ q = [] := by
    cases gs with
    | nil => exact ⟨rfl, hV⟩
    | cons g gs => exact hV.elim
  obtain ⟨rfl, rfl⟩ := hgs
  have hwt : ∀ m ∈ DataW.weightsEach P fn.params.toList ds, m ≤ R := by
    have e : s.plain.varTypes P = [] := by simp [DataSpec.varTypes, ChangeSpec.plain, hvars]
    rw [e, List.append_nil, List.append_nil] at hwt0
    simpa using hwt0
  obtain ⟨ss, e1, e2⟩ := args_ok (n := n) fn.params.toList args.toList ds p (fun j t v h1 h2 => hval j t v (by simpa using h1) (by simpa using h2)) hA (fun t h => (ht t h).2) hwt
  have hc := (con ss e2 e1).2 W (Kw W) args.toList (fun b o h => h) e1
  rw [Array.toArray_toList] at hc
  have hlen : ds.length = fn.params.toList.length := by
    clear hW' hV hfz hnd e1 e2 hc con hval hfn hwt hwt0
    generalize fn.params.toList = ts at hA ht
    generalize args.toList = vs at hA
    induction ts generalizing vs ds p with
    | nil => obtain ⟨_, rfl, _⟩ := trodAll_nil hA; rfl
    | cons t ts ih =>
      obtain ⟨v, vs', d, ds', p', q', rfl, rfl, rfl, h1, h2⟩ := trodAll_cons hA
      simp only [List.length_cons]
      rw [ih q' (fun t h => ht t (by simp [h])) _ h2]
  have hf := hfn ds hlen
  refine hc.mono fun e W' ⟨vs, he, hbl, K', _, _, _, hr⟩ => ?_
  obtain ⟨hv1, hv2, _⟩ := hr
  obtain ⟨v, rfl⟩ : ∃ v, vs = [v] := by
    cases vs with
    | nil => simp at hv1
    | cons v r => cases r with
      | nil => exact ⟨v, rfl⟩
      | cons _ _ => simp at hv1
  have hvv := hv2 0 _ v rfl rfl
  rw [RtR, CR] at hvv
  obtain ⟨rfl, _⟩ := hvv
  have hlt : ∀ x ∈ p, x.block < W.heap.size := fun x hx => by simpa using hW'.lt x (by simpa using hx)
  have hb : Below W.heap.size W W' := hbl
  have hr1 : ∀ (b : Nat) (sp : Nat → Bool) (hd : Bool), DataW.TrodAll enc P W' b sp hd fn.resultTypes.toList ((retV [Value.bool true]).resultList fn.resultTypes.size) (s.fn H (ds ++ [])).results [] := by
    intro b sp hd
    rw [List.append_nil, hf, hres]
    exact trodAll_cons_mk (shut_bool htb _) trodAll_mk0
  have ha1 : ∀ sp : Nat → Bool, (∀ x ∈ p, sp x.block = true) → DataW.TrodAll enc P W' 0 sp true fn.params.toList args.toList (s.fn H (ds ++ [])).args p := by
    intro sp hs
    rw [List.append_nil, hf]
    exact args_back hl hb _ _ _ _ (fun t h => (ht t h).1) hA hlt hs
  have hv1 : ∀ sp : Nat → Bool, DataW.TrodVars enc P W' sp s.vars (s.fn H (ds ++ [])).vars [] := by
    intro sp
    rw [List.append_nil, hf, hvars]
    rfl
  refine ⟨_, he, ds, [], p ++ [], [], p, [], hW', hr1 _ _ _, ha1 _ (fun x hx => by simpa using hlt x hx), hv1 _, World.keptBut_mono (fun x hx => ⟨hx, ?_⟩) (hb.frame (· ∈ p ++ [])), fun _ => ?_⟩
  · simpa using hx
  · refine ⟨ok_one hres (by rfl) (okWide_bool_mk htb _), _, _, ([] ++ p) ++ [], ⟨[] ++ p, [], trodAll_append (ha1 _ (fun _ _ => rfl)) (hr1 _ _ _), hv1 _, rfl, ?_, ?_⟩, ?_⟩
    · intro b off hp
      have hp' : MemPlace.cell b off ∈ p := by simpa using hp
      rw [hb.frozen (p := ⟨b, off, none⟩) (hlt _ hp')]
      exact hfz b off (by simpa using hp')
    · intro ha
      have := hnd ha
      simpa using this
    · intro x hx _
      simpa using hx
end
end Go.VL
