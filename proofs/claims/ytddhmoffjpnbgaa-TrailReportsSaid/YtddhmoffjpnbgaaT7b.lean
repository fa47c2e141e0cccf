/- What Analyse reckons, entry by entry. -/
import Derived.Test.YtddhmoffjpnbgaaT7a
set_option linter.unusedSimpArgs false
set_option linter.unusedVariables false
namespace Go.Proofs.Ytddhmoffjpnbgaa
open Go.VL Go.RowKit

abbrev str (l : List UInt8) : C := .v (.string ⟨l.toArray⟩)
def u8c (b : UInt8) : List C := [.v (.int .u8 b.toNat)]
structure Ent where
  kind : Int
  txn : Int
  page : Int
  slot : Int
  stamp : Int
  nil : Bool
  data : List UInt8
def Ent.cells (e : Ent) : List C := [i64 e.kind, i64 e.txn, i64 e.page, i64 e.slot, i64 e.stamp, .sl e.nil (e.data.map u8c)]
instance : Inhabited Ent := ⟨⟨0, 0, 0, 0, 0, true, []⟩⟩

/-- two numbers: a transaction and how often, or its stamp -/
abbrev Two := Int × Int
def two (x : Two) : List C := [i64 x.1, i64 x.2]
def one (x : Two) : List C := [i64 x.2]
def cget (c : List Two) (t : Int) : Int := match kFnd Prod.fst t c with
  | some y => y.2.2
  | none => 0
structure AS where
  done : List Two
  seen : List Two
  pages : List Tou
  coms : List Two
  last : Int
def markOf (ms : List Int) (k : Nat) : Int := ms[k]?.getD 0
def touch (pages : List Tou) (p m : Int) : Tou := match kFnd Tou.page p pages with
  | some y => ⟨y.2.page, y.2.first, m⟩
  | none => ⟨p, m, m⟩
theorem touch_page (pages : List Tou) (p m : Int) : (touch pages p m).page = p := by
  unfold touch
  split
  · rename_i y h; exact (kFnd_some Tou.page (j := y.1) (x := y.2) h).2
  · rfl
def AS.step (ms : List Int) (s : AS) (x : Ent × Nat) : AS :=
  let s1 : AS := { s with last := max s.last x.1.txn, seen := kPut Prod.fst (x.1.txn, cget s.seen x.1.txn + 1) s.seen }
  if x.1.kind = 3 then { s1 with coms := if cget s.done x.1.txn = 0 then s.coms ++ [(x.1.txn, x.1.stamp)] else s.coms, done := kPut Prod.fst (x.1.txn, cget s.done x.1.txn + 1) s.done }
  else { s1 with pages := kPut Tou.page (touch s.pages x.1.page (markOf ms x.2)) s.pages }
def AS.init : AS := ⟨[], [], [], [], 0⟩
def runA (ms : List Int) (l : List Ent) : AS := l.zipIdx.foldl (AS.step ms) .init
theorem runA_snoc (ms : List Int) (l : List Ent) {k : Nat} (h : k < l.length) : runA ms (l.take (k + 1)) = AS.step ms (runA ms (l.take k)) (l[k], k) := by
  unfold runA
  rw [List.take_succ_eq_append_getElem h, List.zipIdx_append, List.foldl_append]
  simp [Nat.min_eq_left (Nat.le_of_lt h)]

/-- what holds of it always -/
structure AS.Ok (k : Nat) (s : AS) : Prop where
  done : ∀ x ∈ s.done, 1 ≤ x.2 ∧ x.2 ≤ k
  seen : ∀ x ∈ s.seen, 1 ≤ x.2 ∧ x.2 ≤ k
  ld : s.done.length ≤ k
  ls : s.seen.length ≤ k
  lp : s.pages.length ≤ k
  lc : s.coms.length ≤ k
  nd : (s.done.map Prod.fst).Nodup
  ns : (s.seen.map Prod.fst).Nodup
  np : (s.pages.map Tou.page).Nodup
theorem cget_le {k : Nat} {c : List Two} (h : ∀ x ∈ c, 1 ≤ x.2 ∧ x.2 ≤ (k : Int)) (t : Int) : 0 ≤ cget c t ∧ cget c t ≤ k := by
  unfold cget
  split
  · rename_i y hy
    obtain ⟨h1, _⟩ := kFnd_some Prod.fst (j := y.1) (x := y.2) hy
    have := h y.2 (List.mem_of_getElem? h1)
    omega
  · omega
theorem put_ok {k : Nat} {c : List Two} (h : ∀ x ∈ c, 1 ≤ x.2 ∧ x.2 ≤ (k : Int)) (t : Int) : ∀ x ∈ kPut Prod.fst (t, cget c t + 1) c, 1 ≤ x.2 ∧ x.2 ≤ ((k + 1 : Nat) : Int) := by
  intro x hx
  have := cget_le h t
  rcases kPut_mem Prod.fst hx with rfl | hx
  · simp; omega
  · have := h x hx; omega
theorem AS.Ok.step {ms : List Int} {k : Nat} {s : AS} (h : s.Ok k) (x : Ent × Nat) : (AS.step ms s x).Ok (k + 1) := by
  have p1 := kPut_len Prod.fst (x.1.txn, cget s.seen x.1.txn + 1) s.seen
  have p2 := kPut_len Prod.fst (x.1.txn, cget s.done x.1.txn + 1) s.done
  have p3 := kPut_len Tou.page (touch s.pages x.1.page (markOf ms x.2)) s.pages
  obtain ⟨h1, h2, h3, h4, h5, h6, h7, h8, h9⟩ := h
  unfold AS.step
  split
  · refine ⟨put_ok h1 _, put_ok h2 _, ?_, ?_, ?_, ?_, kPut_nodup _ _ _ h7, kPut_nodup _ _ _ h8, h9⟩
    · first | omega | (simp only; omega)
    · first | omega | (simp only; omega)
    · first | omega | (simp only; omega)
    · split <;> simp <;> omega
  · refine ⟨fun y hy => ?_, put_ok h2 _, ?_, ?_, ?_, ?_, h7, kPut_nodup _ _ _ h8, kPut_nodup _ _ _ h9⟩
    · have := h1 y hy; omega
    · first | omega | (simp only; omega)
    · first | omega | (simp only; omega)
    · first | omega | (simp only; omega)
    · first | omega | (simp only; omega)
theorem runA_ok (ms : List Int) (l : List Ent) : ∀ k, k ≤ l.length → (runA ms (l.take k)).Ok k
  | 0, _ => by
    simp only [List.take_zero]
    exact ⟨by simp [runA, AS.init], by simp [runA, AS.init], by simp [runA, AS.init], by simp [runA, AS.init], by simp [runA, AS.init], by simp [runA, AS.init], by simp [runA, AS.init], by simp [runA, AS.init], by simp [runA, AS.init]⟩
  | k + 1, h => by
    rw [runA_snoc ms l h]
    exact (runA_ok ms l k (by omega)).step _
/-- who lost -/
def losers (s : AS) : List Int := (s.seen.map Prod.fst).filter fun t => cget s.done t == 0
end Go.Proofs.Ytddhmoffjpnbgaa
