/- Proved: CatalogFull: sixteen tables may be made and no more, a name is taken once, numbers rise by one; for every list of names, no condition. -/
import Derived.Test.YtgodbpamppcfnaaC18
import Derived.Test.YtgodbpamppcfnaaC11
import Derived.Test.YtgodbpamppcfnaaC12
import Derived.Test.YtgodbpamppcfnaaC20
set_option linter.unusedSimpArgs false
set_option linter.unusedVariables false
namespace Go.Proofs.Ytgodbpamppcfnaa
open Go.VL Go.RowKit

def colA : Col := ⟨[65], 2⟩
def tabF (ts : List Tab) (s : List UInt8) : Tab := ⟨ts.length + 1, s, false, [colA], true, [], false⟩
theorem tabF_ok (ts : List Tab) (s : List UInt8) : (tabF ts s).Ok := ⟨by simp [tabF], by simp [tabF], by simp [tabF], by simp [tabF]⟩
theorem chk_tabF (ts : List Tab) (s : List UInt8) : chk (tabF ts s) = if long s then 173 else 0 := by
  have h1 : long [65] = false := by decide
  have h2 : tw [[65]] = false := by decide
  have h3 : tw [] = false := by decide
  unfold chk
  simp [tabF, Tab.names, colA, h1, h2, h3, badKind]
/-- the tables behind one name more -/
def nxt (ts : List Tab) (s : List UInt8) : List Tab := creT ts (tabF ts s)
def fT (names : List (List UInt8)) : List Tab := names.foldl nxt []
/-- numbers, and names apart -/
structure Gd (ts : List Tab) : Prop where
  ok : ∀ t ∈ ts, t.Ok
  len : ts.length ≤ 16
theorem Gd.nxt {ts : List Tab} (h : Gd ts) (s : List UInt8) : Gd (nxt ts s) := by
  unfold Go.Proofs.Ytgodbpamppcfnaa.nxt creT
  split
  · rename_i hc
    refine ⟨fun t ht => ?_, ?_⟩
    · rcases List.mem_append.1 ht with ht | ht
      · exact h.ok t ht
      · simp at ht; subst ht; exact tabF_ok ts s
    · have : ts.length ≠ 16 := by
        intro e
        unfold creE at hc
        simp only [e, if_true] at hc
        split at hc
        · rename_i q; exact q hc
        · split at hc <;> simp at hc
      have := h.len
      simp; omega
  · exact h
theorem fT_take (names : List (List UInt8)) (k : Nat) (hk : k < names.length) : fT (names.take (k + 1)) = nxt (fT (names.take k)) names[k] := by
  unfold fT
  rw [List.take_add_one, List.getElem?_eq_getElem hk]
  simp only [Option.toList_some, List.foldl_append, List.foldl_cons, List.foldl_nil]
theorem fT_gd (names : List (List UInt8)) : ∀ k, Gd (fT (names.take k))
  | 0 => ⟨by simp [fT], by simp [fT]⟩
  | k + 1 => by
    by_cases hk : k < names.length
    · rw [fT_take _ _ hk]; exact (fT_gd names k).nxt _
    · have : names.take (k + 1) = names.take k := by rw [List.take_of_length_le (by omega), List.take_of_length_le (by omega)]
      rw [this]; exact fT_gd names k

def catF (ts : List Tab) : List (Nat × Res) := catB ts.isEmpty (if ts.isEmpty then 0 else 5) ts 0
def seenF (ts : List Tab) : List (Value × List C) := ts.map fun t => (.string ⟨t.name.toArray⟩, [bln true])
theorem findE_eq (ts : List Tab) (s : List UInt8) : findE ts s = if (ts.any fun t => decide (t.name = s)) = true then 0 else 160 := by
  unfold findE
  have : (ts.find? fun t => decide (t.name = s)).isSome = ts.any fun t => decide (t.name = s) := by
    rw [Bool.eq_iff_iff, List.find?_isSome, List.any_eq_true]
  simp only [this]
theorem seen_find (ts : List Tab) (s : List UInt8) : ((findK (.string ⟨s.toArray⟩) (mpE (seenF ts))).isSome = (ts.any fun t => decide (t.name = s))) ∧ ∀ y, findK (.string ⟨s.toArray⟩) (mpE (seenF ts)) = some y → y.2 = [.c (bln true)] := by
  induction ts with
  | nil => simp [seenF, mpE, findK]
  | cons t r ih =>
    have e : mpE (seenF (t :: r)) = (.string ⟨t.name.toArray⟩, [.c (bln true)]) :: mpE (seenF r) := by simp [seenF, mpE]
    rw [e, findK]
    have hk : keq (.string ⟨s.toArray⟩) (.string ⟨t.name.toArray⟩) = decide (t.name = s) := by
      show (ByteArray.mk s.toArray == ByteArray.mk t.name.toArray) = _
      rw [str_beq]
      by_cases h : s = t.name
      · subst h; simp
      · rw [decide_eq_false (fun e => h e.symm)]
        simpa using h
    simp only [hk]
    by_cases h : t.name = s
    · simp [h]
    · simp only [h, decide_false, Bool.false_eq_true, if_false, List.any_cons, Bool.false_or]
      refine ⟨by rw [← ih.1]; simp, fun y hy => ?_⟩
      simp only [Option.map_eq_some_iff] at hy
      obtain ⟨z, h1, rfl⟩ := hy
      exact ih.2 z h1
theorem kfits_seen (ts : List Tab) : ((mpE (seenF ts)).all fun x => kfits .string x.1) = true := by
  simp [mpE, seenF, kfits]
theorem put_seen (ts : List Tab) (s : List UInt8) (h : (ts.any fun t => decide (t.name = s)) = false) (id : Int) (nc : Bool) (cols : List Col) (nk : Bool) (keys : List (List UInt8)) (ix : Bool) :
    putK (.string ⟨s.toArray⟩) [.c (bln true)] (mpE (seenF ts)) = mpE (seenF (ts ++ [⟨id, s, nc, cols, nk, keys, ix⟩])) := by
  unfold putK
  have := (seen_find ts s).1
  rw [h] at this
  cases hf : findK (.string ⟨s.toArray⟩) (mpE (seenF ts)) with
  | some y => rw [hf] at this; cases this
  | none => simp [seenF, mpE]

theorem cre_F (ts : List Tab) (s : List UInt8) (h : Gd ts) :
    ConB Try.prog 23 [.ptr 1 0, .c (str s), .c (.sl false [[str [65], i64 2]]), .c (.sl true [])] (catF ts) [.c (i64 (creN ts (tabF ts s))), .c (i64 (creE ts (tabF ts s)))]
      [.ptr 1 0, .c (str s), .c (.sl false [[str [65], i64 2]]), .c (.sl true [])] (catF (nxt ts s)) := by
  have hc := create_spec ts.isEmpty (if ts.isEmpty then 0 else 5) ts (tabF ts s) rfl rfl (by simp) (by simp) h.ok (tabF_ok ts s) (by have := h.len; omega)
  have e : catB (ts.isEmpty && decide (creE ts (tabF ts s) ≠ 0)) (if creE ts (tabF ts s) = 0 then 5 else (if ts.isEmpty then 0 else 5)) (creT ts (tabF ts s)) 0 = catF (nxt ts s) := by
    unfold catF nxt creT
    by_cases q : creE ts (tabF ts s) = 0
    · simp only [q, if_true, ne_eq, not_true_eq_false, decide_false, Bool.and_false]
      rw [show (ts ++ [tabF ts s]).isEmpty = false from by simp]
      simp
    · simp [q]
  rw [e] at hc
  exact hc
theorem tables_F (ts : List Tab) (h : Gd ts) : ConB Try.prog 25 [.ptr 1 0] (catF ts) [.own 192 ts.length] [.ptr 1 0] (catF ts ++ [(192, .arr ts.isEmpty (if ts.isEmpty then 0 else 5) (ts.map Tab.cells) 0)]) :=
  tables_spec _ _ ts 0 (by simp) (by simp) h.ok (by have := h.len; omega)
theorem lend_F {st : St} {f : FuncId} {args a0 rs a1 : List S} {ts ts' : List Tab} (con : ConB Try.prog f (.ptr 1 0 :: a0) (catF ts) rs (.ptr 1 0 :: a1) (catF ts'))
    (h0 : args = renSs id (.ptr 1 0 :: a0)) (h1 : st.rs 1 = some (.box false [.own 2 ts.length])) (h2 : st.rs 2 = some (.arr ts.isEmpty (if ts.isEmpty then 0 else 5) (ts.map Tab.cells) 0)) (hr : ∀ j ∈ S.nams rs, j = 1 ∨ j = 2) :
    LendOk Try.prog st f args (catF ts) (catF ts') (.ptr 1 0 :: a0) rs (.ptr 1 0 :: a1) id [2] := lend_cat con h0 h1 h2 hr

theorem cases_F (ts : List Tab) (s : List UInt8) : (long s = true ∧ creE ts (tabF ts s) = 173 ∧ nxt ts s = ts) ∨
    (long s = false ∧ (ts.any fun t => decide (t.name = s)) = true ∧ creE ts (tabF ts s) = 162 ∧ nxt ts s = ts) ∨
    (long s = false ∧ (ts.any fun t => decide (t.name = s)) = false ∧ ts.length = 16 ∧ creE ts (tabF ts s) = 3 ∧ nxt ts s = ts) ∨
    (long s = false ∧ (ts.any fun t => decide (t.name = s)) = false ∧ ts.length ≠ 16 ∧ creE ts (tabF ts s) = 0 ∧ nxt ts s = ts ++ [tabF ts s]) := by
  have hn : (tabF ts s).name = s := rfl
  cases hl : long s with
  | true =>
    have e : creE ts (tabF ts s) = 173 := by unfold creE; rw [chk_tabF, hl]; rfl
    exact .inl ⟨rfl, e, by unfold nxt creT; rw [e]; rfl⟩
  | false =>
    have h0 : chk (tabF ts s) = 0 := by rw [chk_tabF, hl]; rfl
    cases ha : ts.any fun t => decide (t.name = s) with
    | true =>
      have e : creE ts (tabF ts s) = 162 := by unfold creE; rw [h0, hn, findE_eq, ha]; rfl
      exact .inr (.inl ⟨rfl, rfl, e, by unfold nxt creT; rw [e]; rfl⟩)
    | false =>
      by_cases h16 : ts.length = 16
      · have e : creE ts (tabF ts s) = 3 := by unfold creE; rw [h0, hn, findE_eq, ha, if_pos h16]; rfl
        exact .inr (.inr (.inl ⟨rfl, rfl, h16, e, by unfold nxt creT; rw [e]; rfl⟩))
      · have e : creE ts (tabF ts s) = 0 := by unfold creE; rw [h0, hn, findE_eq, ha, if_neg h16]; rfl
        exact .inr (.inr (.inr ⟨rfl, rfl, h16, e, by unfold nxt creT; rw [e, if_pos rfl]⟩))

def stF (nil : Bool) (names : List (List UInt8)) (k : Nat) : St :=
  ⟨[(16, .c (i64 k)), (15, .c (i64 names.length)), (14, .c (.sl nil (names.map keyc))), (0, .c (.sl nil (names.map keyc))), (3, .ptr 1 0), (4, .mp 832), (5, .c (i64 (fT (names.take k)).length))],
   [(1, some (.box false [.own 2 (fT (names.take k)).length])), (2, some (.arr (fT (names.take k)).isEmpty (if (fT (names.take k)).isEmpty then 0 else 5) ((fT (names.take k)).map Tab.cells) 0)), (832, some (.map (.ents (mpE (seenF (fT (names.take k)))))))]⟩

set_option maxRecDepth 4000 in
set_option maxHeartbeats 8000000 in
theorem full_spec (nil : Bool) (names : List (List UInt8)) (hl : names.length ≤ 140737488355328) : Con Try.prog 6 [.c (.sl nil (names.map keyc))] [.c (bln true)] := by
  refine spec_of Try.func6 rfl (by kernel_rfl) (by simp [Try.f6]) (fun w0 K0 => vc_ok _ _ _ (by kernel_rfl) ?_)
  simp only [Try.f6]
  simp -dsimp
  refine VC.mk _ awake_spec ?_
  simp -dsimp
  refine VC.lend [] (catB true 0 [] 0) [] _ _ id [1, 2] ⟨new_spec, by simp [renSs], by simp, by simp [catB], by simp, by simp [catB, Res.nam, S.nams, S.nam], by simp [catB, S.nams, S.nam], by simp [catB]⟩ ?_
  simp -dsimp [catB, retS, renSs, renS]
  refine VL.loop (stF nil names) (fun k => k ≤ names.length) (fun k => names.length - k) 0 (by kernel_rfl) (by simp) (by simp [St.le, stF, fT, seenF, mpE]) ?_
  intro k hk
  obtain ⟨ts, hts⟩ : ∃ ts, ts = fT (names.take k) := ⟨_, rfl⟩
  have hg : Gd ts := by rw [hts]; exact fT_gd names k
  have hlen := hg.len
  unfold stF
  rw [← hts]
  simp -dsimp
  refine VIf.mk (fun h => ?_) (fun h => ?_)
  · have hlt : k < names.length := by simpa using h
    have hw : IntKind.i64.wrap ((k : Int) + 1) = (k : Int) + 1 := IntWalk.i64_in _ (by omega)
    have hw2 : IntKind.i64.wrap ((ts.length : Int) + 1) = (ts.length : Int) + 1 := IntWalk.i64_in _ (by omega)
    simp -dsimp [hlt, keyc]
    refine ⟨by simp [maxLen], ?_⟩
    refine VCL.some [false, false, true, false] ?_
    simp -dsimp
    refine VLD.lend _ _ _ _ _ id [2] (lend_F (cre_F ts names[k] hg) (by simp [renSs, renS]) (by simp) (by simp) (by simp [S.nams, S.nam])) ?_
    simp -dsimp [catF, catB, retS, renSs, renS]
    have hnx : fT (names.take (k + 1)) = nxt ts names[k] := by rw [fT_take _ _ hlt, ← hts]
    have hcreN : creN ts (tabF ts names[k]) = if creE ts (tabF ts names[k]) = 0 then (ts.length : Int) + 1 else 0 := rfl
    obtain ⟨s, hs⟩ : ∃ s, s = names[k] := ⟨_, rfl⟩
    rw [← hs] at hnx hcreN ⊢
    rw [hcreN]
    obtain ⟨hsf1, hsf2⟩ := seen_find ts s
    have hks := kfits_seen ts
    have hL : (decide (s = []) || decide ((24 : Int) < (s.length : Int))) = long s := by
      unfold long
      congr 1
      exact decide_eq_decide.2 (by omega)
    have hks' : ((mpE (seenF ts)).all fun x => kfits TypeDesc.string x.1) = true := hks
    have hkf : kfits TypeDesc.string (.string ⟨s.toArray⟩) = true := rfl
    rcases cases_F ts s with ⟨c1, c2, c3⟩ | ⟨c1, c2, c3, c4⟩ | ⟨c1, c2, c3, c4, c5⟩ | ⟨c1, c2, c3, c4, c5⟩
    · rw [c3] at hnx ⊢
      rw [c2]
      refine VIf.mk (fun g1 => ?_) (fun g1 => ?_)
      · simp -dsimp [hw]
        refine ⟨k + 1, by omega, ?_, by omega⟩
        rw [hnx]
        simp [St.le]
      · rw [hL, c1] at g1; cases g1
    · rw [c4] at hnx ⊢
      rw [c3]
      refine VIf.mk (fun g1 => ?_) (fun g1 => ?_)
      · rw [hL, c1] at g1; cases g1
      · rw [c2] at hsf1
        obtain ⟨y, hy⟩ := Option.isSome_iff_exists.1 hsf1
        have hy2 := hsf2 y hy
        simp -dsimp [hks', hkf, hy, hy2, lkS, hw]
        refine ⟨k + 1, by omega, ?_, by omega⟩
        rw [hnx]
        simp [St.le]
    · rw [c5] at hnx ⊢
      rw [c4]
      refine VIf.mk (fun g1 => ?_) (fun g1 => ?_)
      · rw [hL, c1] at g1; cases g1
      · rw [c2] at hsf1
        have hy : findK (.string ⟨s.toArray⟩) (mpE (seenF ts)) = none := by
          cases hf : findK (.string ⟨s.toArray⟩) (mpE (seenF ts)) with
          | none => rfl
          | some y => rw [hf] at hsf1; cases hsf1
        have hlk : lkS false (findK (.string ⟨s.toArray⟩) (mpE (seenF ts))) (.bool false) = .c (bln false) := by rw [hy]; rfl
        simp -dsimp [hks', hkf, hlk, hw]
        refine VIf.mk (fun g2 => ?_) (fun g2 => ?_)
        · simp -dsimp [hw]
          refine ⟨k + 1, by omega, ?_, by omega⟩
          rw [hnx]
          simp [St.le]
        · simp at g2; omega
    · rw [c5] at hnx ⊢
      rw [c4]
      refine VIf.mk (fun g1 => ?_) (fun g1 => ?_)
      · rw [hL, c1] at g1; cases g1
      · rw [c2] at hsf1
        have hy : findK (.string ⟨s.toArray⟩) (mpE (seenF ts)) = none := by
          cases hf : findK (.string ⟨s.toArray⟩) (mpE (seenF ts)) with
          | none => rfl
          | some y => rw [hf] at hsf1; cases hsf1
        have hlk : lkS false (findK (.string ⟨s.toArray⟩) (mpE (seenF ts))) (.bool false) = .c (bln false) := by rw [hy]; rfl
        have hput := put_seen ts s c2 (ts.length + 1) false [colA] true [] false
        simp -dsimp [hks', hkf, hlk, hw]
        refine VIf.mk (fun g2 => ?_) (fun g2 => ?_)
        · simp at g2; omega
        · simp -dsimp [hks', hkf, hput, hw, hw2]
          refine ⟨k + 1, by omega, ?_, by omega⟩
          rw [hnx]
          simp [St.le, tabF]
  · simp at h
    obtain rfl : k = names.length := by omega
    simp -dsimp
    refine VCL.lend (catF ts) (catF ts ++ [(192, .arr ts.isEmpty (if ts.isEmpty then 0 else 5) (ts.map Tab.cells) 0)]) [.ptr 1 0] _ _ id [2, 192] ⟨tables_F ts hg, ?_, ?_, ?_, ?_, ?_, ?_, ?_⟩ ?_
    · simp [renSs, renS]
    · simp [catF, catB, renR, renSs, renS]
    · simp [catF, catB]
    · simp [catF, catB]
    · simp [catF, catB, Res.nam, S.nams, S.nam]
    · simp [catF, catB, S.nams, S.nam]
    · simp [catF, catB, lk, keptP]
    simp -dsimp [catF, catB, retS, renSs, renS]

theorem open_names (R : Nat) (s : S) (h : FitsS Try.prog R 6 23 s) : ∃ nl names, s = .c (.sl nl (List.map keyc names)) ∧ names.length * 16 ≤ R := by
  unfold FitsS at h
  rw [Try.underlying23] at h
  obtain ⟨x, rfl, h2⟩ := h
  obtain ⟨nl, ys, e, hn, hl, hys⟩ := fits_slice Try.underlying23 h2
  obtain ⟨keys, rfl, _⟩ := fits_list keyc (fun _ => True) (fun y hy => by
    obtain ⟨l, rfl, _⟩ := open_str R 4 y hy
    exact ⟨l, rfl, trivial⟩) hys
  rw [bytes9] at hl
  cases e
  refine ⟨nl, keys, rfl, ?_⟩
  simp only [List.length_map] at hl
  omega
theorem full_con (ss : List S) (h : FitsAll Try.prog reachBytes 6 [23] ss) : Con Try.prog 6 ss [.c (.v (.bool true))] := by
  obtain ⟨s1, _, rfl, h1, rfl⟩ := h
  obtain ⟨nl, names, rfl, h2⟩ := open_names _ s1 h1
  have e : reachBytes = 140737488351232 := rfl
  exact full_spec nl names (by omega)

set_option maxRecDepth 100000 in
theorem full_lifted (os : Os) (started : os.Started) (H : Type) (enc : TypeId × Value → H) :
    ReturnsInHanded {} Try.checked os 6 .any (Rows.catalogFullSpec.pre6 enc Try.prog Try.f6 [] false) (Rows.catalogFullSpec.post enc Try.prog Try.f6 false true false false) := by
  refine returnsInHanded_of_change_shaped (C := Try.checked) own started (by kernel_rfl) Try.func6
    (ChangeSpec.witness6 (enc := enc) (C := Try.checked) (s := Rows.catalogFullSpec) false ⟨#[], #[.slice none 0 0], []⟩ 8 (by kernel_rfl) (by kernel_rfl) (by kernel_rfl) (by kernel_rfl)) ?_
  intro W base args ds gs before hval hW _ hwt _ _
  exact law_calls 6 laid (by kernel_rfl) rfl (fun ds hds => by
    match ds, hds with
    | [_], _ => rfl) rfl Try.underlying4 (fun ss h _ => full_con ss h) hval hW hwt

theorem full_holds : Rows.CatalogFullSaid :=
  OpenClaim.holds_of_wide 6 Try.f6 rfl rfl rfl rfl rfl rfl rfl ⟨rfl, rfl, rfl, rfl, rfl⟩ rfl rfl rfl rfl rfl (by kernel_rfl) Try.func6 (by kernel_rfl)
    (of_decide_eq_true (by kernel_rfl)) (by unfold Func.isWrapper; first | (rw [if_pos (by decide +kernel)]; kernel_rfl) | (rw [if_neg (by decide +kernel)]; exact ⟨rfl, rfl⟩))
    (fun os started H enc _ => full_lifted os started H enc)
end Go.Proofs.Ytgodbpamppcfnaa
