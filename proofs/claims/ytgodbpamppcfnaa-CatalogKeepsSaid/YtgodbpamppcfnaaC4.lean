/- Contracts of functions of the seat, proved in a logic on data over the model (part C4). -/
import Derived.Test.YtgodbpamppcfnaaC3
set_option linter.unusedSimpArgs false
set_option linter.unusedVariables false
namespace Go.Proofs.Ytgodbpamppcfnaa
open Go.VL Go.RowKit

instance : Inhabited Val := ⟨⟨0, 0, []⟩⟩
def badVal (v : Val) (want : Int) : Bool := v.kind != want || (v.kind == 1 && !decide (v.text = [])) || (v.kind == 2 && v.int != 0)
def badAt (l : List Val) (ws : List Int) (i : Nat) : Bool := badVal l[i]! (ws[i % ws.length]!)
/-- what the inner function kinds answers -/
def kindsOk (l : List Val) (ws : List Int) : Bool := decide (∀ i, i < l.length → badAt l ws i = false)
def icell (n : Int) : List C := [i64 n]

set_option maxRecDepth 4000 in
set_option maxHeartbeats 8000000 in
theorem kinds_spec (nl nw : Bool) (l : List Val) (ws : List Int) (hl : l.length ≤ 140737488355328) (h0 : 0 < ws.length) (h1 : ws.length ≤ 4) :
    Con Try.prog 29 [.c (.sl nl (l.map Val.cells)), .c (.sl nw (ws.map icell))] [.c (bln (kindsOk l ws))] := by
  refine spec_of Try.func29 rfl (by kernel_rfl) (by simp [Try.f29]) (fun w0 K0 => vc_ok _ _ _ (by kernel_rfl) ?_)
  simp only [Try.f29]
  simp -dsimp
  refine VL.loop (fun k : Nat => ⟨[(9, .c (i64 k)), (8, .c (i64 l.length)), (7, .c (.sl nl (l.map Val.cells))), (1, .c (.sl nw (ws.map icell)))], []⟩) (fun k => k ≤ l.length ∧ ∀ i, i < k → badAt l ws i = false) (fun k => l.length - k) 0 (by kernel_rfl) (by simp) (by simp [St.le]) ?_
  intro k ⟨hk, hb⟩
  simp -dsimp
  refine VIf.mk (fun h => ?_) (fun h => ?_)
  · have hlt : k < l.length := by simpa using h
    have hw : IntKind.i64.wrap ((k : Int) + 1) = (k : Int) + 1 := IntWalk.i64_in _ (by omega)
    simp -dsimp [hlt, Val.cells]
    refine VL.draw (by kernel_rfl) [(0, false), (1, false), (0, false), (0, false), (0, false), (16, false), (56, false), (124, false), (252, false), (511, true), (1023, true), (2047, true), (4095, true), (8191, true), (16383, true), (32767, true), (65535, true), (131071, true), (262143, true), (524287, true), (1048575, true), (2097151, true), (4194303, true), (8388607, true), (16777215, true), (33554431, true), (67108863, true), (134217727, true), (268435455, true), (536870911, true)] (by kernel_rfl) ?_
    have hm : (k : Int).tmod (ws.length : Int) = ((k % ws.length : Nat) : Int) := (Int.ofNat_tmod k ws.length).symm
    have hml : k % ws.length < ws.length := Nat.mod_lt _ h0
    have hne : ¬ ws = [] := by rintro rfl; simp at h0
    have hb1 := hb
    have hq : badAt l ws k = badVal l[k] (ws[k % ws.length]'hml) := by rw [badAt, getElem!_pos l k hlt, getElem!_pos ws _ hml]
    generalize k % ws.length = m at hm hml hq
    simp -dsimp [icell, hm, hml, hne]
    refine ⟨fun a => ⟨a, fun b => ⟨a, b⟩⟩, fun a b => ⟨⟨a, b⟩, fun c => ⟨⟨a, b⟩, c⟩⟩, fun a b => ⟨a, by by_cases h : l[k].kind = 1; exact .inr (b h); exact .inl h⟩, ?_⟩
    refine VIf.mk (fun h2 => ?_) (fun h2 => ?_)
    · simp -dsimp
      have : ¬ ∀ i, i < l.length → badAt l ws i = false := fun hn => by
        have := hn k hlt
        rw [hq] at this
        simp [badVal, h2] at this
      simp only [kindsOk, this, decide_false]
    · simp -dsimp [hw]
      refine ⟨k + 1, ⟨by omega, fun i hi => ?_⟩, ?_, by omega⟩
      · by_cases e : i = k
        · subst e
          rw [hq]; exact h2
        · exact hb i (by omega)
      · simp [St.le]
  · simp at h
    obtain rfl : k = l.length := by omega
    simp -dsimp
    simp only [kindsOk, decide_eq_true hb]
end Go.Proofs.Ytgodbpamppcfnaa
