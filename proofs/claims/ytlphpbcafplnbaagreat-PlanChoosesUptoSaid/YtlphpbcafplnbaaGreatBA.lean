/- Contracts of functions of the seat, proved in a logic on data over the model (part BA). -/
import Derived.Test.YtlphpbcafplnbaaGreatXA
import Derived.Test.YtlphpbcafplnbaaGreatQA
import Derived.Test.YtlphpbcafplnbaaGreatEA
set_option linter.unusedSimpArgs false
set_option linter.unusedVariables false
namespace Go.Proofs.YtlphpbcafplnbaaGreat
open Go.VL Go.RowKit
structure Cmp {α : Type} (c : α → α → Int) : Prop where
  anti : ∀ a b, c b a = - c a b
  trans : ∀ a b d, c a b ≤ 0 → c b d ≤ 0 → c a d ≤ 0
theorem Cmp.self {α : Type} {c : α → α → Int} (h : Cmp c) (a : α) : c a a = 0 := by have := h.anti a a; omega
theorem Cmp.lt {α : Type} {c : α → α → Int} (h : Cmp c) {a b d : α} (h1 : c a b < 0) (h2 : c b d ≤ 0) : c a d < 0 := by
  have h3 := h.trans a b d (by omega) h2
  rcases Int.lt_or_eq_of_le h3 with h4 | h4
  · exact h4
  · have e := h.anti a d
    have := h.trans b d a h2 (by omega)
    have := h.anti a b
    omega
theorem Cmp.lt' {α : Type} {c : α → α → Int} (h : Cmp c) {a b d : α} (h1 : c a b ≤ 0) (h2 : c b d < 0) : c a d < 0 := by
  have h3 := h.trans a b d h1 (by omega)
  rcases Int.lt_or_eq_of_le h3 with h4 | h4
  · exact h4
  · have e := h.anti a d
    have := h.trans d a b (by omega) h1
    have := h.anti b d
    omega
theorem Cmp.eq {α : Type} {c : α → α → Int} (h : Cmp c) {a b d : α} (h1 : c a b = 0) (h2 : c b d = 0) : c a d = 0 := by
  have h3 := h.trans a b d (by omega) (by omega)
  have e1 := h.anti a b
  have e2 := h.anti b d
  have e3 := h.anti a d
  have := h.trans d b a (by omega) (by omega)
  omega
theorem Cmp.on {α β : Type} {c : α → α → Int} (h : Cmp c) (f : β → α) : Cmp fun x y => c (f x) (f y) := ⟨fun a b => h.anti _ _, fun a b d => h.trans _ _ _⟩
def lexC {α : Type} (c d : α → α → Int) (a b : α) : Int := if c a b = 0 then d a b else c a b
theorem Cmp.lex {α : Type} {c d : α → α → Int} (h : Cmp c) (k : Cmp d) : Cmp (lexC c d) := by
  constructor
  · intro a b
    have := h.anti a b
    unfold lexC
    by_cases e : c a b = 0
    · rw [if_pos e, if_pos (by omega)]; exact k.anti a b
    · rw [if_neg e, if_neg (by omega)]; exact this
  · intro x y z h1 h2
    unfold lexC at *
    by_cases e1 : c x y = 0
    · rw [if_pos e1] at h1
      by_cases e2 : c y z = 0
      · rw [if_pos e2] at h2
        rw [if_pos (h.eq e1 e2)]
        exact k.trans x y z h1 h2
      · rw [if_neg e2] at h2
        have := h.lt' (a := x) (b := y) (d := z) (by omega) (by omega)
        rw [if_neg (by omega)]; omega
    · rw [if_neg e1] at h1
      by_cases e2 : c y z = 0
      · have := h.lt (a := x) (b := y) (d := z) (by omega) (by omega)
        rw [if_neg (by omega)]; omega
      · rw [if_neg e2] at h2
        have := h.lt (a := x) (b := y) (d := z) (by omega) (by omega)
        rw [if_neg (by omega)]; omega
theorem Cmp.int : Cmp cmpI := by
  constructor
  · intro a b; unfold cmpI
    by_cases h1 : a < b <;> by_cases h2 : b < a <;> simp [h1, h2] <;> omega
  · intro a b d h1 h2
    have e1 : a ≤ b := by unfold cmpI at h1; split at h1 <;> first | omega | (split at h1 <;> omega)
    have e2 : b ≤ d := by unfold cmpI at h2; split at h2 <;> first | omega | (split at h2 <;> omega)
    unfold cmpI
    split
    · omega
    · rw [if_neg (by omega)]; omega
def listC {α : Type} (c : α → α → Int) : List α → List α → Int
  | [], [] => 0
  | [], _ :: _ => -1
  | _ :: _, [] => 1
  | a :: l, b :: m => if c a b = 0 then listC c l m else c a b
theorem listC_anti {α : Type} {c : α → α → Int} (h : Cmp c) : ∀ a b : List α, listC c b a = - listC c a b
  | [], [] => rfl
  | [], _ :: _ => rfl
  | _ :: _, [] => rfl
  | a :: l, b :: m => by
    have := h.anti a b
    rw [listC, listC]
    by_cases e : c a b = 0
    · rw [if_pos e, if_pos (by omega)]; exact listC_anti h l m
    · rw [if_neg e, if_neg (by omega)]; exact this
theorem listC_trans {α : Type} {c : α → α → Int} (h : Cmp c) : ∀ a b d : List α, listC c a b ≤ 0 → listC c b d ≤ 0 → listC c a d ≤ 0
  | [], _, [], _, _ => by simp [listC]
  | [], _, _ :: _, _, _ => by simp [listC]
  | _ :: _, [], _, h1, _ => by simp [listC] at h1
  | _ :: _, _ :: _, [], _, h2 => by simp [listC] at h2
  | a :: l, b :: m, d :: n, h1, h2 => by
    rw [listC] at h1 h2 ⊢
    by_cases e1 : c a b = 0
    · rw [if_pos e1] at h1
      by_cases e2 : c b d = 0
      · rw [if_pos e2] at h2
        rw [if_pos (h.eq e1 e2)]
        exact listC_trans h l m n h1 h2
      · rw [if_neg e2] at h2
        have := h.lt' (a := a) (b := b) (d := d) (by omega) (by omega)
        rw [if_neg (by omega)]; omega
    · rw [if_neg e1] at h1
      by_cases e2 : c b d = 0
      · have := h.lt (a := a) (b := b) (d := d) (by omega) (by omega)
        rw [if_neg (by omega)]; omega
      · rw [if_neg e2] at h2
        have := h.lt (a := a) (b := b) (d := d) (by omega) (by omega)
        rw [if_neg (by omega)]; omega
theorem Cmp.list {α : Type} {c : α → α → Int} (h : Cmp c) : Cmp (listC c) := ⟨listC_anti h, listC_trans h⟩
def cmp8 (a b : UInt8) : Int := cmpI a.toNat b.toNat
theorem Cmp.u8 : Cmp cmp8 := Cmp.int.on fun a : UInt8 => (a.toNat : Int)
theorem cmpI_or (x y : Int) : cmpI x y = -1 ∨ cmpI x y = 0 ∨ cmpI x y = 1 := by unfold cmpI; split <;> first | omega | (split <;> omega)
theorem cmpI_0 (x y : Int) : cmpI x y = 0 ↔ x = y := by unfold cmpI; split <;> first | omega | (split <;> omega)
theorem cmpI_neg (x y : Int) : cmpI x y = -1 ↔ x < y := by unfold cmpI; split <;> first | omega | (split <;> omega)
theorem cmpB_list : ∀ a b : List UInt8, cmpB a b = listC cmp8 a b
  | [], [] => by simp [cmpB, listC, Op.bytesLess]
  | [], b :: m => by simp [cmpB, listC, Op.bytesLess]
  | a :: l, [] => by simp [cmpB, listC, Op.bytesLess]
  | a :: l, b :: m => by
    have ih := cmpB_list l m
    rw [listC]
    unfold cmpB at ih ⊢
    rw [Op.bytesLess]
    by_cases e : a = b
    · subst e
      have e0 : cmp8 a a = 0 := Cmp.u8.self a
      rw [if_pos e0, ← ih]
      have : ¬ a < a := UInt8.lt_irrefl a
      simp [this]
    · have e1 : cmp8 a b ≠ 0 := by
        unfold cmp8; rw [Ne, cmpI_0]
        intro h; exact e (UInt8.toNat.inj (by omega))
      rw [if_neg e1]
      have hne : (a == b) = false := by simpa using e
      by_cases hl : a < b
      · have : cmp8 a b = -1 := by unfold cmp8; rw [cmpI_neg]; have := UInt8.lt_iff_toNat_lt.1 hl; omega
        simp [hl, this]
      · have h1 : cmp8 a b = 1 := by
          unfold cmp8 at e1 ⊢
          rcases cmpI_or (a.toNat : Int) b.toNat with h | h | h
          · rw [cmpI_neg] at h; exact absurd (UInt8.lt_iff_toNat_lt.2 (by omega)) hl
          · exact absurd h e1
          · exact h
        simp [hl, hne, e, h1]
theorem Cmp.bytes : Cmp cmpB := by rw [show cmpB = listC cmp8 from funext fun a => funext (cmpB_list a)]; exact Cmp.u8.list
theorem cmpV_eq (a b : Val) : cmpV a b = lexC (fun x y : Val => cmpI x.kind y.kind) (lexC (fun x y : Val => cmpI x.int y.int) fun x y => cmpB x.text y.text) a b := by
  unfold lexC cmpV ltV
  by_cases h1 : a.kind = b.kind
  · rw [if_pos ((cmpI_0 _ _).2 h1)]
    by_cases h2 : a.int = b.int
    · rw [if_pos ((cmpI_0 _ _).2 h2)]
      have e : (a = b) ↔ (a.text = b.text) := by cases a; cases b; simp at h1 h2; simp [h1, h2]
      simp [h1, h2, cmpB, e]
    · have hne : ¬ cmpI a.int b.int = 0 := fun h => h2 ((cmpI_0 _ _).1 h)
      rw [if_neg hne]
      have e : ¬ a = b := by rintro rfl; exact h2 rfl
      by_cases h3 : a.int < b.int
      · simp [h1, h3, (cmpI_neg _ _).2 h3]
      · have : cmpI a.int b.int = 1 := by
          rcases cmpI_or a.int b.int with h | h | h
          · rw [cmpI_neg] at h; omega
          · exact absurd h hne
          · exact h
        simp [h1, h2, h3, e, this]
  · have hne : ¬ cmpI a.kind b.kind = 0 := fun h => h1 ((cmpI_0 _ _).1 h)
    rw [if_neg hne]
    have e : ¬ a = b := by rintro rfl; exact h1 rfl
    by_cases h3 : a.kind < b.kind
    · simp [h3, (cmpI_neg _ _).2 h3]
    · have : cmpI a.kind b.kind = 1 := by
        rcases cmpI_or a.kind b.kind with h | h | h
        · rw [cmpI_neg] at h; omega
        · exact absurd h hne
        · exact h
      simp [h1, h3, e, this]
theorem Cmp.val : Cmp cmpV := by
  rw [show cmpV = _ from funext fun a => funext (cmpV_eq a)]
  exact (Cmp.int.on fun x : Val => x.kind).lex ((Cmp.int.on fun x : Val => x.int).lex (Cmp.bytes.on fun x : Val => x.text))
theorem cmpR_list : ∀ a b : List Val, cmpR a b = listC cmpV a b
  | [], [] => rfl
  | [], _ :: _ => rfl
  | _ :: _, [] => rfl
  | a :: l, b :: m => by rw [cmpR, listC, cmpR_list l m]
theorem Cmp.row : Cmp cmpR := by rw [show cmpR = listC cmpV from funext fun a => funext (cmpR_list a)]; exact Cmp.val.list
def ordF : Fact → Fact → Int := lexC (fun f g => cmpR f.row g.row) (lexC (fun f g => cmpI f.p.f g.p.f) fun f g => cmpI f.p.t g.p.t)
theorem Cmp.fact : Cmp ordF := (Cmp.row.on Fact.row).lex ((Cmp.int.on fun f : Fact => f.p.f).lex (Cmp.int.on fun f : Fact => f.p.t))
theorem ordF_0 {f g : Fact} : ordF f g = 0 ↔ f.row = g.row ∧ f.p = g.p := by
  unfold ordF lexC
  constructor
  · intro h
    split at h
    · rename_i h1
      split at h
      · rename_i h2
        rw [cmpR_0] at h1; rw [cmpI_0] at h2 h
        exact ⟨h1, by cases hf : f.p; cases hg : g.p; rw [hf, hg] at h2 h; simp at h2 h; simp [h2, h]⟩
      · rename_i h2; exact absurd h h2
    · rename_i h1; exact absurd h h1
  · rintro ⟨h1, h2⟩
    rw [if_pos ((cmpR_0 _ _).2 h1), if_pos ((cmpI_0 _ _).2 (by rw [h2]))]
    exact (cmpI_0 _ _).2 (by rw [h2])
theorem uniq_sorted {α : Type} {le : α → α → Prop} : ∀ {l m : List α}, l.Perm m → l.Pairwise le → m.Pairwise le → (∀ a, a ∈ l → ∀ b, b ∈ l → le a b → le b a → a = b) → l = m
  | [], m, h, _, _, _ => (List.perm_nil.1 h.symm).symm
  | a :: l, [], h, _, _, _ => absurd h.length_eq (by simp)
  | a :: l, b :: m, h, hl, hm, hanti => by
    obtain ⟨l1, l2⟩ := List.pairwise_cons.1 hl
    obtain ⟨m1, m2⟩ := List.pairwise_cons.1 hm
    have hb : b ∈ a :: l := h.mem_iff.2 (by simp)
    have ha : a ∈ b :: m := h.mem_iff.1 (by simp)
    have e : a = b := by
      rcases List.mem_cons.1 hb with e | hb'
      · exact e.symm
      · rcases List.mem_cons.1 ha with e | ha'
        · exact e
        · exact hanti a (by simp) b hb (l1 b hb') (m1 a ha')
    subst e
    congr 1
    exact uniq_sorted ((List.perm_cons a).1 h) l2 m2 fun x hx y hy => hanti x (by simp [hx]) y (by simp [hy])
def norm (f : Fact) : Fact := ⟨f.row.isEmpty, f.row, f.p⟩
def Normed (f : Fact) : Prop := f.nl = f.row.isEmpty
theorem Normed.ext {f g : Fact} (hf : Normed f) (hg : Normed g) (h : ordF f g = 0) : f = g := by
  obtain ⟨h1, h2⟩ := ordF_0.1 h
  unfold Normed at hf hg
  cases f; cases g; simp at h1 h2 hf hg; subst h1 h2; simp [hf, hg]
def sortF (l : List Fact) : List Fact := l.mergeSort fun f g => decide (ordF f g ≤ 0)
theorem sortF_perm (l : List Fact) : (sortF l).Perm l := List.mergeSort_perm _ _
theorem sortF_len (l : List Fact) : (sortF l).length = l.length := (sortF_perm l).length_eq
theorem sortF_sorted (l : List Fact) : (sortF l).Pairwise fun f g => ordF f g ≤ 0 := by
  have := List.pairwise_mergeSort (le := fun f g : Fact => decide (ordF f g ≤ 0)) (fun a b c h1 h2 => by
    simp only [decide_eq_true_eq] at *; exact Cmp.fact.trans a b c h1 h2) (fun a b => by
    simp only [Bool.or_eq_true, decide_eq_true_eq]
    have := Cmp.fact.anti a b
    omega) l
  exact this.imp (by simp)
theorem sortF_uniq {l m : List Fact} (hn : ∀ f ∈ l, Normed f) (hp : m.Perm l) (hs : m.Pairwise fun f g => ordF f g ≤ 0) : m = sortF l := by
  refine uniq_sorted (hp.trans (sortF_perm l).symm) hs (sortF_sorted l) fun a ha b hb h1 h2 => ?_
  have ha' := hn a (hp.mem_iff.1 ha)
  have hb' := hn b (hp.mem_iff.1 hb)
  exact ha'.ext hb' (by have := Cmp.fact.anti a b; omega)
end Go.Proofs.YtlphpbcafplnbaaGreat
set_option linter.unusedSimpArgs false
set_option linter.unusedVariables false
namespace Go.Proofs.YtlphpbcafplnbaaGreat
open Go.VL Go.RowKit
def alikeR (r : List Val) (f : Fact) : Bool := decide (f.row = r)
def groupsL : List Fact → List (List Val × List Per)
  | [] => []
  | f :: l => (f.row, f.p :: (l.takeWhile (alikeR f.row)).map Fact.p) :: groupsL (l.dropWhile (alikeR f.row))
termination_by l => l.length
decreasing_by
  have := (List.dropWhile_sublist (alikeR f.row) (l := l)).length_le
  simp; omega
theorem groupsL_nil : groupsL [] = [] := by rw [groupsL]
theorem groupsL_cons (f : Fact) (l : List Fact) : groupsL (f :: l) = (f.row, f.p :: (l.takeWhile (alikeR f.row)).map Fact.p) :: groupsL (l.dropWhile (alikeR f.row)) := by rw [groupsL]
theorem mem_tw {α : Type} {p : α → Bool} {x : α} : ∀ {l : List α}, x ∈ l.takeWhile p → p x = true
  | [], h => by simp at h
  | y :: l, h => by
    rw [List.takeWhile_cons] at h
    split at h
    · rename_i hp
      rcases List.mem_cons.1 h with rfl | h
      · exact hp
      · exact mem_tw h
    · simp at h
def RowsUp (l : List Fact) : Prop := l.Pairwise fun f g => cmpR f.row g.row ≤ 0
theorem sortF_up (l : List Fact) : RowsUp (sortF l) := by
  refine (sortF_sorted l).imp fun {f g} h => ?_
  simp only [ordF, lexC] at h
  split at h <;> omega
theorem groups_ok : ∀ (n : Nat) (l : List Fact), l.length ≤ n → RowsUp l →
    (groupsL l).Pairwise (fun x y => cmpR x.1 y.1 < 0) ∧ (∀ x ∈ groupsL l, x.2 = (l.filter (alikeR x.1)).map Fact.p ∧ ∃ f ∈ l, f.row = x.1) ∧ ∀ f ∈ l, ∃ x ∈ groupsL l, x.1 = f.row
  | n, [], _, _ => by rw [groupsL_nil]; simp
  | 0, f :: l, h, _ => by simp at h
  | n + 1, f :: l, h, hu => by
    obtain ⟨u1, u2⟩ := List.pairwise_cons.1 hu
    have hsub := List.dropWhile_sublist (alikeR f.row) (l := l)
    have hlen := hsub.length_le
    obtain ⟨i1, i2, i3⟩ := groups_ok n (l.dropWhile (alikeR f.row)) (by simp at h; omega) (u2.sublist hsub)
    rw [groupsL_cons]
    have hlater : ∀ g ∈ l.dropWhile (alikeR f.row), cmpR f.row g.row < 0 := by
      intro g hg
      have key : ∀ m : List Fact, (∀ g ∈ m, cmpR f.row g.row ≤ 0) → RowsUp m → ∀ g ∈ m.dropWhile (alikeR f.row), cmpR f.row g.row < 0 := by
        intro m
        induction m with
        | nil => intro _ _ g hg; simp at hg
        | cons x m ih =>
          intro hm hup g hg
          obtain ⟨p1, p2⟩ := List.pairwise_cons.1 hup
          rw [List.dropWhile_cons] at hg
          split at hg
          · exact ih (fun y hy => hm y (by simp [hy])) p2 g hg
          · rename_i hx
            have hx' : ¬ cmpR f.row x.row = 0 := by
              intro e; rw [cmpR_0] at e
              exact hx (by simp [alikeR, e])
            have h1 := hm x (by simp)
            rcases List.mem_cons.1 hg with rfl | hg
            · omega
            · exact Cmp.row.lt (b := x.row) (by omega) (p1 g hg)
      exact key l u1 u2 g hg
    have hsplit : ∀ r, cmpR f.row r < 0 → (f :: l).filter (alikeR r) = (l.dropWhile (alikeR f.row)).filter (alikeR r) := by
      intro r hr
      have hne : f.row ≠ r := by rintro rfl; rw [Cmp.row.self] at hr; omega
      conv => lhs; rw [← List.takeWhile_append_dropWhile (p := alikeR f.row) (l := l)]
      rw [List.filter_cons, if_neg (by simp [alikeR, hne]), List.filter_append]
      have : (l.takeWhile (alikeR f.row)).filter (alikeR r) = [] := by
        rw [List.filter_eq_nil_iff]
        intro x hx
        have := mem_tw hx
        simp only [alikeR, decide_eq_true_eq] at this ⊢
        rw [this]; exact hne
      rw [this, List.nil_append]
    have hself : (f :: l).filter (alikeR f.row) = f :: l.takeWhile (alikeR f.row) := by
      rw [List.filter_cons, if_pos (by simp [alikeR])]
      congr 1
      conv => lhs; rw [← List.takeWhile_append_dropWhile (p := alikeR f.row) (l := l)]
      rw [List.filter_append]
      have e1 : (l.takeWhile (alikeR f.row)).filter (alikeR f.row) = l.takeWhile (alikeR f.row) := by
        rw [List.filter_eq_self]
        intro x hx; exact mem_tw hx
      have e2 : (l.dropWhile (alikeR f.row)).filter (alikeR f.row) = [] := by
        rw [List.filter_eq_nil_iff]
        intro x hx
        have := hlater x hx
        simp only [alikeR, decide_eq_true_eq]
        intro e; rw [e, Cmp.row.self] at this; omega
      rw [e1, e2, List.append_nil]
    refine ⟨?_, ?_, ?_⟩
    · rw [List.pairwise_cons]
      refine ⟨fun x hx => ?_, i1⟩
      obtain ⟨_, g, hg, e⟩ := i2 x hx
      rw [← e]; exact hlater g hg
    · intro x hx
      rcases List.mem_cons.1 hx with rfl | hx
      · exact ⟨by rw [hself]; rfl, f, by simp, rfl⟩
      · obtain ⟨j1, g, hg, e⟩ := i2 x hx
        refine ⟨?_, g, ?_, e⟩
        · rw [hsplit x.1 (by rw [← e]; exact hlater g hg)]; exact j1
        · exact List.mem_cons_of_mem _ (hsub.subset hg)
    · intro g hg
      rcases List.mem_cons.1 hg with rfl | hg
      · exact ⟨_, List.mem_cons_self, rfl⟩
      · rw [← List.takeWhile_append_dropWhile (p := alikeR f.row) (l := l)] at hg
        rcases List.mem_append.1 hg with hg | hg
        · have := mem_tw hg
          simp only [alikeR, decide_eq_true_eq] at this
          exact ⟨_, List.mem_cons_self, this.symm⟩
        · obtain ⟨x, hx, e⟩ := i3 g hg
          exact ⟨x, by simp [hx], e⟩
def cntP (ps : List Per) (t : Int) : Nat := (ps.filter fun p => has p t).length
def stepsL (plus minus : List Per) : List (Per × Int) :=
  (List.range ((edgesL (plus ++ minus)).length - 1)).map fun i => (⟨(edgesL (plus ++ minus))[i]!, (edgesL (plus ++ minus))[i + 1]!⟩, (cntP plus (edgesL (plus ++ minus))[i]! : Int) - cntP minus (edgesL (plus ++ minus))[i]!)
def here (st : List (Per × Int)) (k : Nat) : List Per := (st.filter fun s => decide ((k : Int) ≤ s.2)).map Prod.fst
def maxN (st : List (Per × Int)) : Nat := st.foldl (fun m s => max m s.2.toNat) 0
def mkF (row : List Val) (p : Per) : Fact := ⟨row.isEmpty, row, p⟩
end Go.Proofs.YtlphpbcafplnbaaGreat
set_option linter.unusedSimpArgs false
set_option linter.unusedVariables false
namespace Go.Proofs.YtlphpbcafplnbaaGreat
open Go.VL Go.RowKit
theorem rise_le {E : List Int} (hE : Rise E) {i j : Nat} (hij : i ≤ j) (hj : j < E.length) : E[i]! ≤ E[j]! := by
  rw [getElem!_pos E i (by omega), getElem!_pos E j hj]
  rcases Nat.lt_or_eq_of_le hij with h | rfl
  · exact Int.le_of_lt (List.pairwise_iff_getElem.1 hE i j (by omega) hj h)
  · exact Int.le_refl _
theorem rise_between {E : List Int} (hE : Rise E) {t : Int} {i : Nat} : ∀ j, j < E.length → i < E.length → E[i]! ≤ t → t < E[j]! → ∃ i, i + 1 < E.length ∧ E[i]! ≤ t ∧ t < E[i + 1]!
  | 0, hj, hi, h1, h2 => by have := rise_le hE (Nat.zero_le i) hi; omega
  | j + 1, hj, hi, h1, h2 => by
    by_cases h : E[j]! ≤ t
    · exact ⟨j, hj, h, h2⟩
    · exact rise_between hE j (by omega) hi h1 (by omega)
theorem mem_get! {E : List Int} {a : Int} (h : a ∈ E) : ∃ j, j < E.length ∧ E[j]! = a := by
  obtain ⟨j, hj, rfl⟩ := List.getElem_of_mem h
  exact ⟨j, hj, getElem!_pos E j hj⟩
theorem has_between {ps : List Per} {p : Per} (hp : p ∈ ps) (hr : right p = true) {i : Nat} (hi : i + 1 < (edgesL ps).length) {t : Int} (h1 : (edgesL ps)[i]! ≤ t) (h2 : t < (edgesL ps)[i + 1]!) : has p (edgesL ps)[i]! = has p t := by
  obtain ⟨hE, hm⟩ := edgesL_ok ps
  obtain ⟨jf, f1, f2⟩ := mem_get! ((hm p.f).2 ((mem_endsOf ps _).2 ⟨p, hp, hr, .inl rfl⟩))
  obtain ⟨jt, t1, t2⟩ := mem_get! ((hm p.t).2 ((mem_endsOf ps _).2 ⟨p, hp, hr, .inr rfl⟩))
  generalize edgesL ps = E at *
  have key : ∀ j, j < E.length → (E[j]! ≤ E[i]! ↔ E[j]! ≤ t) := by
    intro j hj
    constructor
    · intro h; omega
    · intro h
      by_cases e : j ≤ i
      · exact rise_le hE e (by omega)
      · have := rise_le hE (show i + 1 ≤ j by omega) hj; omega
  have kf := key jf f1
  have kt := key jt t1
  rw [f2] at kf; rw [t2] at kt
  rw [Bool.eq_iff_iff, has_iff, has_iff]
  omega
structure StepsOf (st : List (Per × Int)) (c : Int → Int) : Prop where
  some : ∀ (t : Int) (k : Nat), 1 ≤ k → someP (here st k) t = decide ((k : Int) ≤ c t)
theorem cntP_pos {ps : List Per} {t : Int} (h : 0 < cntP ps t) : ∃ p ∈ ps, has p t = true := by
  unfold cntP at h
  obtain ⟨p, hp⟩ := List.exists_mem_of_length_pos h
  obtain ⟨h1, h2⟩ := List.mem_filter.1 hp
  exact ⟨p, h1, h2⟩
theorem cntP_between {ps qs : List Per} (hsub : ∀ p ∈ qs, p ∈ ps) (hr : ∀ p ∈ qs, right p = true) {i : Nat} (hi : i + 1 < (edgesL ps).length) {t : Int} (h1 : (edgesL ps)[i]! ≤ t) (h2 : t < (edgesL ps)[i + 1]!) : cntP qs (edgesL ps)[i]! = cntP qs t := by
  unfold cntP
  congr 1
  refine List.filter_congr fun p hp => has_between (hsub p hp) (hr p hp) hi h1 h2
theorem edge_right {ps : List Per} {i : Nat} (hi : i + 1 < (edgesL ps).length) : right ⟨(edgesL ps)[i]!, (edgesL ps)[i + 1]!⟩ = true := by
  obtain ⟨hE, hm⟩ := edgesL_ok ps
  have bound : ∀ t ∈ edgesL ps, 0 ≤ t ∧ t ≤ 1099511627776 := by
    intro t ht
    obtain ⟨p, _, hr, e⟩ := (mem_endsOf ps t).1 ((hm t).1 ht)
    have := (right_iff p).1 hr
    rcases e with rfl | rfl <;> omega
  rw [right_iff]
  rw [getElem!_pos _ i (by omega), getElem!_pos _ (i + 1) hi]
  have b1 := bound _ (List.getElem_mem (h := (by omega : i < (edgesL ps).length)))
  have b2 := bound _ (List.getElem_mem (h := hi))
  have := List.pairwise_iff_getElem.1 hE i (i + 1) (by omega) hi (by omega)
  simp only
  omega
theorem stepsL_ok {plus minus : List Per} (hp : ∀ p ∈ plus, right p = true) (hm : ∀ p ∈ minus, right p = true) : StepsOf (stepsL plus minus) fun t => (cntP plus t : Int) - cntP minus t := by
  refine ⟨fun t k hk => ?_⟩
  have hedge := fun i => @edge_right (plus ++ minus) i
  have hb1 := fun i (hi : i + 1 < (edgesL (plus ++ minus)).length) (t : Int) => cntP_between (ps := plus ++ minus) (qs := plus) (by intro p h; simp [h]) hp hi (t := t)
  have hb2 := fun i (hi : i + 1 < (edgesL (plus ++ minus)).length) (t : Int) => cntP_between (ps := plus ++ minus) (qs := minus) (by intro p h; simp [h]) hm hi (t := t)
  rw [Bool.eq_iff_iff]
  unfold someP here stepsL
  rw [List.any_eq_true]
  simp only [List.mem_map, List.mem_filter, List.mem_range, decide_eq_true_eq, Bool.and_eq_true, has_iff]
  constructor
  · rintro ⟨_, ⟨_, ⟨⟨i, hi, rfl⟩, hk⟩, rfl⟩, hr, h1, h2⟩
    simp only at hk h1 h2
    rw [hb1 i (by omega) t h1 h2, hb2 i (by omega) t h1 h2] at hk
    exact hk
  · intro h
    obtain ⟨p, hp1, hp2⟩ := cntP_pos (ps := plus) (t := t) (by omega)
    rw [has_iff] at hp2
    obtain ⟨hE, hmE⟩ := edgesL_ok (plus ++ minus)
    obtain ⟨jf, f1, f2⟩ := mem_get! ((hmE p.f).2 ((mem_endsOf _ _).2 ⟨p, by simp [hp1], hp p hp1, .inl rfl⟩))
    obtain ⟨jt, t1, t2⟩ := mem_get! ((hmE p.t).2 ((mem_endsOf _ _).2 ⟨p, by simp [hp1], hp p hp1, .inr rfl⟩))
    obtain ⟨i, i1, i2, i3⟩ := rise_between hE (t := t) (i := jf) jt t1 f1 (by omega) (by omega)
    refine ⟨_, ⟨_, ⟨⟨i, by omega, rfl⟩, ?_⟩, rfl⟩, hedge i i1, i2, i3⟩
    simp only
    rw [hb1 i i1 t i2 i3, hb2 i i1 t i2 i3]
    exact h
section
variable {sortP : List Per → List Per}
theorem unionL_nil (hs : Sorts sortP) : unionL sortP [] = [] := by
  unfold unionL
  have : sortP ([].filter right) = [] := by
    have := hs.len []
    simpa using this
  rw [this]; rfl
def layersN (sortP : List Per → List Per) (row : List Val) (st : List (Per × Int)) (N : Nat) : List Fact := (List.range N).flatMap fun k => (unionL sortP (here st (k + 1))).map (mkF row)
def layersL (sortP : List Per → List Per) (row : List Val) (st : List (Per × Int)) : List Fact := layersN sortP row st (maxN st)
theorem layersN_succ (row : List Val) (st : List (Per × Int)) (N : Nat) : layersN sortP row st (N + 1) = layersN sortP row st N ++ (unionL sortP (here st (N + 1))).map (mkF row) := by
  unfold layersN; rw [List.range_succ, List.flatMap_append]; simp
theorem maxN_le (st : List (Per × Int)) : ∀ (m : Nat), m ≤ st.foldl (fun m s => max m s.2.toNat) m ∧ ∀ s ∈ st, s.2.toNat ≤ st.foldl (fun m s => max m s.2.toNat) m := by
  induction st with
  | nil => intro m; simp
  | cons x st ih =>
    intro m
    rw [List.foldl_cons]
    obtain ⟨h1, h2⟩ := ih (max m x.2.toNat)
    refine ⟨by omega, fun s hs => ?_⟩
    rcases List.mem_cons.1 hs with rfl | hs
    · omega
    · exact h2 s hs
theorem here_big {st : List (Per × Int)} {k : Nat} (h : maxN st < k) : here st k = [] := by
  unfold here
  rw [List.map_eq_nil_iff, List.filter_eq_nil_iff]
  intro s hs
  have := (maxN_le st 0).2 s hs
  unfold maxN at h
  simp only [decide_eq_true_eq]
  omega
theorem here_mono {st : List (Per × Int)} {k m : Nat} (hkm : k ≤ m) (h : here st k = []) : here st m = [] := by
  unfold here at *
  rw [List.map_eq_nil_iff, List.filter_eq_nil_iff] at *
  intro s hs
  have := h s hs
  simp only [decide_eq_true_eq] at *
  omega
theorem layersN_more (hs : Sorts sortP) (row : List Val) (st : List (Per × Int)) {N : Nat} (h : here st (N + 1) = []) : ∀ d, layersN sortP row st (N + d) = layersN sortP row st N
  | 0 => rfl
  | d + 1 => by
    rw [← Nat.add_assoc, layersN_succ, here_mono (show N + 1 ≤ N + d + 1 by omega) h, unionL_nil hs, layersN_more hs row st h d]
    simp
theorem layersN_stop (hs : Sorts sortP) (row : List Val) (st : List (Per × Int)) {N : Nat} (h : here st (N + 1) = []) : layersN sortP row st N = layersL sortP row st := by
  unfold layersL
  rcases Nat.le_total N (maxN st) with e | e
  · obtain ⟨d, hd⟩ := Nat.exists_eq_add_of_le e
    rw [hd, layersN_more hs row st h]
  · obtain ⟨d, hd⟩ := Nat.exists_eq_add_of_le e
    rw [hd, layersN_more hs row st (here_big (by omega))]
theorem StepsOf.union {st : List (Per × Int)} {c : Int → Int} (h : StepsOf st c) (hs : Sorts sortP) (k : Nat) : Canon (unionL sortP (here st (k + 1))) ∧ ∀ t, inL (unionL sortP (here st (k + 1))) t = decide ((k : Int) + 1 ≤ c t) := by
  obtain ⟨h1, h2⟩ := unionL_ok hs (here st (k + 1))
  exact ⟨h1, fun t => (h2 t).trans (h.some t (k + 1) (by omega))⟩
theorem layers_ext (hs : Sorts sortP) (row : List Val) {st st' : List (Per × Int)} {c c' : Int → Int} (h : StepsOf st c) (h' : StepsOf st' c') (e : ∀ t, (c t).toNat = (c' t).toNat) : layersL sortP row st = layersL sortP row st' := by
  rw [← layersN_stop hs row st (N := max (maxN st) (maxN st')) (here_big (by omega)), ← layersN_stop hs row st' (N := max (maxN st) (maxN st')) (here_big (by omega))]
  unfold layersN
  congr 1
  funext k
  congr 1
  obtain ⟨a1, a2⟩ := h.union hs k
  obtain ⟨b1, b2⟩ := h'.union hs k
  refine a1.ext b1 fun t => ?_
  rw [a2, b2]
  refine decide_eq_decide.2 ?_
  have := e t
  omega
theorem layers_nil (hs : Sorts sortP) (row : List Val) {st : List (Per × Int)} {c : Int → Int} (h : StepsOf st c) (e : ∀ t, c t ≤ 0) : layersL sortP row st = [] := by
  have h0 : StepsOf [] fun _ => 0 := ⟨fun t k hk => by
    unfold here someP
    simp; omega⟩
  rw [layers_ext hs row h h0 (fun t => by have := e t; omega)]
  rfl
def cnt (l : List Fact) (r : List Val) (t : Int) : Nat := (l.filter fun f => decide (f.row = r) && validAt f t).length
theorem cnt_perm {l m : List Fact} (h : l.Perm m) (r : List Val) (t : Int) : cnt l r t = cnt m r t := (h.filter _).length_eq
@[simp] theorem cnt_nil (r : List Val) (t : Int) : cnt [] r t = 0 := rfl
theorem cnt_append (l m : List Fact) (r : List Val) (t : Int) : cnt (l ++ m) r t = cnt l r t + cnt m r t := by unfold cnt; rw [List.filter_append, List.length_append]
theorem cnt_sortF (l : List Fact) (r : List Val) (t : Int) : cnt (sortF l) r t = cnt l r t := cnt_perm (sortF_perm l) r t
theorem cnt_none {l : List Fact} {r : List Val} (h : ∀ f ∈ l, f.row ≠ r) (t : Int) : cnt l r t = 0 := by
  unfold cnt
  rw [List.length_eq_zero_iff, List.filter_eq_nil_iff]
  intro f hf
  simp [h f hf]
theorem canon_cnt {u : List Per} (hu : Canon u) (t : Int) : (u.filter fun p => has p t).length = if inL u t then 1 else 0 := by
  induction u with
  | nil => rfl
  | cons p u ih =>
    have ih := ih hu.tail
    rw [List.filter_cons, inL_cons]
    by_cases h : has p t = true
    · rw [if_pos h, List.length_cons, ih, h, Bool.true_or, if_pos rfl]
      have : inL u t = false := by
        rw [Bool.eq_false_iff]; intro e
        have := hu.head e
        rw [has_iff] at h; omega
      rw [this]; rfl
    · rw [if_neg h, ih]
      simp only [Bool.not_eq_true] at h
      rw [h, Bool.false_or]
theorem cnt_mkF {u : List Per} (hu : Canon u) (row r : List Val) (t : Int) : cnt (u.map (mkF row)) r t = if row = r ∧ inL u t = true then 1 else 0 := by
  by_cases h : row = r
  · subst h
    have e := canon_cnt hu t
    unfold cnt
    rw [List.filter_map, List.length_map]
    have e2 : u.filter ((fun f => decide (f.row = row) && validAt f t) ∘ mkF row) = u.filter fun p => has p t := by
      refine List.filter_congr fun p hp => ?_
      simp [mkF, validAt, hu.ok p hp]
    rw [e2, e]
    simp
  · rw [if_neg (fun e => h e.1)]
    refine cnt_none (fun f hf => ?_) t
    obtain ⟨p, _, rfl⟩ := List.mem_map.1 hf
    exact h
theorem cnt_layersN (hs : Sorts sortP) (row : List Val) {st : List (Per × Int)} {c : Int → Int} (h : StepsOf st c) (r : List Val) (t : Int) : ∀ N, cnt (layersN sortP row st N) r t = if row = r then min N (c t).toNat else 0
  | 0 => by simp [layersN]
  | N + 1 => by
    obtain ⟨u1, u2⟩ := h.union hs N
    rw [layersN_succ, cnt_append, cnt_layersN hs row h r t N, cnt_mkF u1, u2]
    by_cases e : row = r
    · rw [if_pos e, if_pos e]
      by_cases e2 : (N : Int) + 1 ≤ c t
      · rw [if_pos ⟨e, by simpa using e2⟩]; omega
      · rw [if_neg (by simp [e2])]; omega
    · rw [if_neg e, if_neg e, if_neg (fun x => e x.1)]
theorem cnt_layers (hs : Sorts sortP) (row : List Val) {st : List (Per × Int)} {c : Int → Int} (h : StepsOf st c) (r : List Val) (t : Int) : cnt (layersL sortP row st) r t = if row = r then (c t).toNat else 0 := by
  rw [← layersN_stop hs row st (N := max (maxN st) (c t).toNat) (here_big (by omega)), cnt_layersN hs row h r t]
  have : min (max (maxN st) (c t).toNat) (c t).toNat = (c t).toNat := by omega
  rw [this]
theorem layers_row {row : List Val} {st : List (Per × Int)} {f : Fact} (h : f ∈ layersL sortP row st) : f.row = row ∧ Normed f := by
  unfold layersL layersN at h
  obtain ⟨k, _, h⟩ := List.mem_flatMap.1 h
  obtain ⟨p, _, rfl⟩ := List.mem_map.1 h
  exact ⟨rfl, rfl⟩
theorem layers_right (hs : Sorts sortP) {row : List Val} {st : List (Per × Int)} {f : Fact} (h : f ∈ layersL sortP row st) : right f.p = true := by
  unfold layersL layersN at h
  obtain ⟨k, _, h⟩ := List.mem_flatMap.1 h
  obtain ⟨p, hp, rfl⟩ := List.mem_map.1 h
  exact (unionL_ok hs _).1.ok p hp
def RSort (rows : List (List Val)) : Prop := rows.Pairwise fun a b => cmpR a b < 0
theorem RSort.ext : ∀ {l m : List (List Val)}, RSort l → RSort m → (∀ r, r ∈ l ↔ r ∈ m) → l = m
  | [], [], _, _, _ => rfl
  | [], y :: m, _, _, h => by have := (h y).2 (by simp); simp at this
  | x :: l, [], _, _, h => by have := (h x).1 (by simp); simp at this
  | x :: l, y :: m, hl, hm, h => by
    obtain ⟨l1, l2⟩ := List.pairwise_cons.1 hl
    obtain ⟨m1, m2⟩ := List.pairwise_cons.1 hm
    have hx := (h x).1 (by simp)
    have hy := (h y).2 (by simp)
    have hanti := Cmp.row.anti x y
    have e : x = y := by
      rcases List.mem_cons.1 hx with e | e
      · exact e
      · rcases List.mem_cons.1 hy with e2 | e2
        · exact e2.symm
        · have := l1 y e2; have := m1 x e; omega
    subst e
    have hself := Cmp.row.self x
    congr 1
    refine RSort.ext l2 m2 fun t => ⟨fun ht => ?_, fun ht => ?_⟩
    · rcases List.mem_cons.1 ((h t).1 (by simp [ht])) with e | e
      · have := l1 t ht; subst e; omega
      · exact e
    · rcases List.mem_cons.1 ((h t).2 (by simp [ht])) with e | e
      · have := m1 t ht; subst e; omega
      · exact e
theorem RSort.nodup {rows : List (List Val)} (h : RSort rows) : rows.Nodup := h.imp fun {a b} hab e => by subst e; rw [Cmp.row.self] at hab; omega
theorem cnt_flatMap (G : List Val → List Fact) (hG : ∀ r, ∀ f ∈ G r, f.row = r) (r : List Val) (t : Int) : ∀ (rows : List (List Val)), rows.Nodup → cnt (rows.flatMap G) r t = if r ∈ rows then cnt (G r) r t else 0
  | [], _ => by simp
  | x :: rows, hn => by
    obtain ⟨n1, n2⟩ := List.nodup_cons.1 hn
    rw [List.flatMap_cons, cnt_append, cnt_flatMap G hG r t rows n2]
    by_cases e : r = x
    · subst e; rw [if_neg n1, if_pos (by simp)]; omega
    · rw [cnt_none (l := G x) (fun f hf => by rw [hG x f hf]; exact fun h => e h.symm)]
      by_cases h : r ∈ rows
      · rw [if_pos h, if_pos (by simp [h])]; omega
      · rw [if_neg h, if_neg (by simp [h, e])]
def formL (sortP : List Per → List Per) (rows : List (List Val)) (S : List Val → List (Per × Int)) : List Fact := sortF (rows.flatMap fun r => layersL sortP r (S r))
structure IsForm (sortP : List Per → List Per) (m : List Fact) (rows : List (List Val)) (S : List Val → List (Per × Int)) (c : List Val → Int → Int) : Prop where
  rws : RSort rows
  stp : ∀ r ∈ rows, StepsOf (S r) (c r)
  eqn : m = formL sortP rows S
theorem IsForm.cnt {m : List Fact} {rows : List (List Val)} {S : List Val → List (Per × Int)} {c : List Val → Int → Int} (h : IsForm sortP m rows S c) (hs : Sorts sortP) (r : List Val) (t : Int) : Go.Proofs.YtlphpbcafplnbaaGreat.cnt m r t = if r ∈ rows then (c r t).toNat else 0 := by
  rw [h.eqn]
  unfold formL
  rw [cnt_sortF, cnt_flatMap _ (fun r f hf => (layers_row hf).1) r t rows h.rws.nodup]
  by_cases e : r ∈ rows
  · rw [if_pos e, if_pos e, cnt_layers hs r (h.stp r e), if_pos rfl]
  · rw [if_neg e, if_neg e]
theorem flatMap_congr' {α β : Type} {G H : α → List β} : ∀ {l : List α}, (∀ x ∈ l, G x = H x) → l.flatMap G = l.flatMap H
  | [], _ => rfl
  | x :: l, h => by rw [List.flatMap_cons, List.flatMap_cons, h x (by simp), flatMap_congr' fun y hy => h y (by simp [hy])]
theorem flatMap_filter {α β : Type} (G : α → List β) (q : α → Bool) : ∀ (l : List α), (∀ x ∈ l, q x = false → G x = []) → l.flatMap G = (l.filter q).flatMap G
  | [], _ => rfl
  | x :: l, h => by
    rw [List.flatMap_cons, flatMap_filter G q l (fun y hy => h y (by simp [hy])), List.filter_cons]
    by_cases e : q x = true
    · rw [if_pos e, List.flatMap_cons]
    · rw [if_neg e, h x (by simp) (by simpa using e), List.nil_append]
open Classical in
theorem IsForm.ext {m m' : List Fact} {rows rows' : List (List Val)} {S S' : List Val → List (Per × Int)} {c c' : List Val → Int → Int} (h : IsForm sortP m rows S c) (h' : IsForm sortP m' rows' S' c') (hs : Sorts sortP)
    (e : ∀ r t, Go.Proofs.YtlphpbcafplnbaaGreat.cnt m r t = Go.Proofs.YtlphpbcafplnbaaGreat.cnt m' r t) : m = m' := by
  have e1 := h.cnt hs
  have e2 := h'.cnt hs
  have e3 : ∀ r t, (if r ∈ rows then (c r t).toNat else 0) = if r ∈ rows' then (c' r t).toNat else 0 := fun r t => by rw [← e1, ← e2, e]
  rw [h.eqn, h'.eqn]
  unfold formL
  congr 1
  rw [flatMap_filter _ (fun r => decide (∃ t, 0 < c r t)) rows (fun r hr hq => layers_nil hs r (h.stp r hr) fun t => by
    simp only [decide_eq_false_iff_not, not_exists] at hq
    have := hq t; omega)]
  rw [flatMap_filter _ (fun r => decide (∃ t, 0 < c' r t)) rows' (fun r hr hq => layers_nil hs r (h'.stp r hr) fun t => by
    simp only [decide_eq_false_iff_not, not_exists] at hq
    have := hq t; omega)]
  have er : rows.filter (fun r => decide (∃ t, 0 < c r t)) = rows'.filter (fun r => decide (∃ t, 0 < c' r t)) := by
    refine RSort.ext (h.rws.sublist List.filter_sublist) (h'.rws.sublist List.filter_sublist) fun r => ?_
    simp only [List.mem_filter, decide_eq_true_eq]
    constructor
    · rintro ⟨hr, t, ht⟩
      have := e3 r t
      rw [if_pos hr] at this
      by_cases hr' : r ∈ rows'
      · rw [if_pos hr'] at this
        exact ⟨hr', t, by omega⟩
      · rw [if_neg hr'] at this; omega
    · rintro ⟨hr, t, ht⟩
      have := e3 r t
      rw [if_pos hr] at this
      by_cases hr' : r ∈ rows
      · rw [if_pos hr'] at this
        exact ⟨hr', t, by omega⟩
      · rw [if_neg hr'] at this; omega
  rw [← er]
  refine flatMap_congr' fun r hr => ?_
  have hr1 := (List.mem_filter.1 hr).1
  have hr2 := (List.mem_filter.1 (er ▸ hr)).1
  refine layers_ext hs r (h.stp r hr1) (h'.stp r hr2) fun t => ?_
  have := e3 r t
  rwa [if_pos hr1, if_pos hr2] at this
theorem IsForm.right {m : List Fact} {rows : List (List Val)} {S : List Val → List (Per × Int)} {c : List Val → Int → Int} (h : IsForm sortP m rows S c) (hs : Sorts sortP) : ∀ f ∈ m, Go.Proofs.YtlphpbcafplnbaaGreat.right f.p = true := by
  rw [h.eqn]
  intro f hf
  have := (sortF_perm _).mem_iff.1 hf
  obtain ⟨r, _, h⟩ := List.mem_flatMap.1 this
  exact layers_right hs h
def rightL (l : List Fact) : List Fact := sortF ((l.filter fun f => Go.Proofs.YtlphpbcafplnbaaGreat.right f.p).map norm)
theorem rightL_mem {l : List Fact} {f : Fact} : f ∈ rightL l ↔ ∃ g ∈ l, Go.Proofs.YtlphpbcafplnbaaGreat.right g.p = true ∧ norm g = f := by
  unfold rightL
  rw [(sortF_perm _).mem_iff]
  simp [and_assoc]
theorem rightL_cnt (l : List Fact) (r : List Val) (t : Int) : cnt (rightL l) r t = cnt l r t := by
  unfold rightL
  rw [cnt_sortF]
  unfold cnt
  rw [List.filter_map, List.length_map, List.filter_filter]
  congr 1
  refine List.filter_congr fun f _ => ?_
  simp only [Function.comp, norm, validAt]
  cases Go.Proofs.YtlphpbcafplnbaaGreat.right f.p <;> simp <;> rfl
theorem rightL_len (l : List Fact) : (rightL l).length ≤ l.length := by
  unfold rightL
  rw [sortF_len, List.length_map]; exact List.length_filter_le _ _
def rowsOf (l : List Fact) : List (List Val) := (groupsL (rightL l)).map Prod.fst
def perOf (l : List Fact) (r : List Val) : List Per := ((rightL l).filter (alikeR r)).map Fact.p
theorem perOf_right (l : List Fact) (r : List Val) : ∀ p ∈ perOf l r, Go.Proofs.YtlphpbcafplnbaaGreat.right p = true := by
  intro p hp
  obtain ⟨f, hf, rfl⟩ := List.mem_map.1 hp
  obtain ⟨g, _, h1, rfl⟩ := rightL_mem.1 (List.mem_filter.1 hf).1
  exact h1
theorem perOf_cnt (l : List Fact) (r : List Val) (t : Int) : cntP (perOf l r) t = cnt l r t := by
  rw [← rightL_cnt]
  unfold cntP perOf cnt
  rw [List.filter_map, List.length_map, List.filter_filter]
  congr 1
  refine List.filter_congr fun f hf => ?_
  obtain ⟨g, _, h1, rfl⟩ := rightL_mem.1 hf
  have h2 : Go.Proofs.YtlphpbcafplnbaaGreat.right (norm g).p = true := h1
  simp [alikeR, validAt, h2, Bool.and_comm]
theorem rowsOf_ok (l : List Fact) : RSort (rowsOf l) ∧ ∀ r t, 0 < cnt l r t → r ∈ rowsOf l := by
  obtain ⟨h1, h2, h3⟩ := groups_ok _ (rightL l) (Nat.le_refl _) (sortF_up _)
  refine ⟨List.pairwise_map.2 h1, fun r t h => ?_⟩
  rw [← rightL_cnt] at h
  unfold cnt at h
  obtain ⟨f, hf⟩ := List.exists_mem_of_length_pos h
  obtain ⟨hf, hv⟩ := List.mem_filter.1 hf
  simp at hv
  obtain ⟨x, hx, e⟩ := h3 f hf
  exact List.mem_map.2 ⟨x, hx, by rw [e, hv.1]⟩
theorem groups_flatMap {β : Type} (l : List Fact) (G : List Val → List Per → List β) : ((groupsL (rightL l)).flatMap fun x => G x.1 x.2) = (rowsOf l).flatMap fun r => G r (perOf l r) := by
  obtain ⟨_, h2, _⟩ := groups_ok _ (rightL l) (Nat.le_refl _) (sortF_up _)
  unfold rowsOf
  rw [List.flatMap_map]
  refine flatMap_congr' fun x hx => ?_
  rw [(h2 x hx).1]; rfl
def normalL (sortP : List Per → List Per) (l : List Fact) : List Fact := sortF ((groupsL (rightL l)).flatMap fun x => layersL sortP x.1 (stepsL x.2 []))
theorem normal_form (l : List Fact) : IsForm sortP (normalL sortP l) (rowsOf l) (fun r => stepsL (perOf l r) []) fun r t => cnt l r t := by
  refine ⟨(rowsOf_ok l).1, fun r _ => ?_, ?_⟩
  · have := stepsL_ok (plus := perOf l r) (minus := []) (perOf_right l r) (by simp)
    have e : (fun t => (cntP (perOf l r) t : Int) - cntP [] t) = fun t => (cnt l r t : Int) := by funext t; rw [perOf_cnt]; simp [cntP]
    rwa [e] at this
  · unfold normalL formL
    rw [groups_flatMap l fun r ps => layersL sortP r (stepsL ps [])]
theorem normal_cnt (hs : Sorts sortP) (l : List Fact) (r : List Val) (t : Int) : cnt (normalL sortP l) r t = cnt l r t := by
  rw [(normal_form l).cnt hs r t]
  by_cases h : r ∈ rowsOf l
  · rw [if_pos h]; simp
  · rw [if_neg h]
    rcases Nat.eq_zero_or_pos (cnt l r t) with e | e
    · exact e.symm
    · exact absurd ((rowsOf_ok l).2 r t e) h
end
end Go.Proofs.YtlphpbcafplnbaaGreat
