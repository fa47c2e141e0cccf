/- Contracts of functions of the seat, proved in a logic on data over the model (part C2). -/
import Derived.Test.YtgodbpamppcfnaaC1
set_option linter.unusedSimpArgs false
set_option linter.unusedVariables false
namespace Go.Proofs.Ytgodbpamppcfnaa
open Go.VL Go.RowKit

/-- is something in a list twice? -/
def tw (l : List (List UInt8)) : Bool := !decide l.Nodup
theorem contains2 (nil : Bool) (xs : List (List C)) (l : List (List UInt8)) (x : List UInt8) (hx : xs = l.map keyc) (hl : l.length ≤ 140737488355328) :
    Con Try.prog 46 [.c (.sl nil xs), .c (str x)] [.c (bln (l.any fun y => decide (x = y)))] := by rw [hx]; exact contains_spec nil l x hl

set_option maxRecDepth 4000 in
set_option maxHeartbeats 4000000 in
theorem twice_spec (nil : Bool) (l : List (List UInt8)) (hl : l.length ≤ 140737488355328) : Con Try.prog 36 [.c (.sl nil (l.map keyc))] [.c (bln (tw l))] := by
  refine spec_of Try.func36 rfl (by kernel_rfl) (by simp [Try.f36]) (fun w0 K0 => vc_ok _ _ _ (by kernel_rfl) ?_)
  simp only [Try.f36]
  simp -dsimp
  refine VL.loop (fun k : Nat => ⟨[(7, .c (i64 k)), (6, .c (i64 l.length)), (5, .c (.sl nil (l.map keyc))), (0, .c (.sl nil (l.map keyc)))], []⟩) (fun k => k ≤ l.length ∧ (l.take k).Nodup) (fun k => l.length - k) 0 (by kernel_rfl) (by simp) (by simp [St.le]) ?_
  intro k ⟨hk, hnd⟩
  simp -dsimp
  refine VIf.mk (fun h => ?_) (fun h => ?_)
  · have hlt : k < l.length := by simpa using h
    have hw : IntKind.i64.wrap ((k : Int) + 1) = (k : Int) + 1 := IntWalk.i64_in _ (by omega)
    simp -dsimp [hlt, keyc]
    refine ⟨by omega, ?_⟩
    refine VC.mk _ (contains2 _ _ (l.take k) l[k] (by simp) (by simp; omega)) ?_
    have hsplit : l.take (k + 1) = l.take k ++ [l[k]] := by rw [List.take_add_one, List.getElem?_eq_getElem hlt]; rfl
    simp -dsimp
    refine VIf.mk (fun h2 => ?_) (fun h2 => ?_)
    · simp -dsimp
      have : ¬ l.Nodup := fun hn => by
        have h3 : (l.take (k + 1)).Nodup := hn.sublist (List.take_sublist _ _)
        rw [hsplit] at h3
        simp at h2
        rw [List.nodup_append] at h3
        exact h3.2.2 _ h2 _ (by simp) rfl
      simp [tw, this]
    · simp -dsimp [hw]
      refine ⟨k + 1, ⟨by omega, ?_⟩, ?_, by omega⟩
      · rw [hsplit, List.nodup_append]
        simp at h2
        exact ⟨hnd, by simp, fun a ha b hb e => by simp at hb; subst hb; subst e; exact h2 _ ha rfl⟩
      · simp [St.le]
  · simp at h
    rw [List.take_of_length_le h] at hnd
    simp -dsimp
    simp [tw, hnd]

def long (s : List UInt8) : Bool := decide (s = []) || decide (24 < s.length)
set_option maxRecDepth 4000 in
set_option maxHeartbeats 4000000 in
theorem long_spec (s : List UInt8) : Con Try.prog 32 [.c (str s)] [.c (bln (long s))] := by
  refine spec_of Try.func32 rfl (by kernel_rfl) (by simp [Try.f32]) (fun w0 K0 => vc_ok _ _ _ (by kernel_rfl) ?_)
  simp only [Try.f32]
  simp -dsimp
  unfold long
  congr 1
  exact decide_eq_decide.2 (by omega)
def badKind (c : Col) : Bool := c.kind != 1 && c.kind != 2
set_option maxRecDepth 4000 in
set_option maxHeartbeats 4000000 in
theorem kind_spec (c : Col) : Con Try.prog 35 [.agg c.cells] [.c (bln (badKind c))] := by
  refine spec_of Try.func35 rfl (by kernel_rfl) (by simp [Try.f35]) (fun w0 K0 => vc_ok _ _ _ (by kernel_rfl) ?_)
  simp only [Try.f35]
  simp -dsimp [Col.cells, badKind]
set_option maxRecDepth 4000 in
set_option maxHeartbeats 4000000 in
theorem missing_spec (t : Tab) (k : List UInt8) (hl : t.cols.length ≤ 140737488355328) : Con Try.prog 37 [.c (str k), .c (.dp t.cells)] [.c (bln (decide (place t k < 0)))] := by
  refine spec_of Try.func37 rfl (by kernel_rfl) (by simp [Try.f37]) (fun w0 K0 => vc_ok _ _ _ (by kernel_rfl) ?_)
  simp only [Try.f37]
  simp -dsimp [Tab.cells]
  refine VC.mk _ (column_spec t k hl) ?_
  simp -dsimp

theorem rng_t (n : Nat) (h : ((n : Int) == 0 || decide (8 < (n : Int))) = true) : n = 0 ∨ 8 < n := by simp at h; omega
theorem rng_f (n : Nat) (h : ((n : Int) == 0 || decide (8 < (n : Int))) = false) : ¬ (n = 0 ∨ 8 < n) := by simp at h; omega
def Tab.names (t : Tab) : List (List UInt8) := t.cols.map Col.name
@[simp] theorem names_len (t : Tab) : t.names.length = t.cols.length := by simp [Tab.names]
/-- what Check answers -/
def chk (t : Tab) : Int :=
  if long t.name || t.names.any long then 173
  else if t.cols.length = 0 ∨ 8 < t.cols.length then 1
  else if t.cols.any badKind then 21
  else if tw t.names || tw t.keys then 162
  else if t.keys.any (fun k => decide (place t k < 0)) then 161
  else 0

set_option maxRecDepth 4000 in
set_option maxHeartbeats 8000000 in
theorem check_spec (t : Tab) (hc : t.cols.length ≤ 8000000000000) (hk0 : t.keys.length ≤ 140737488355328) : Con Try.prog 12 [.agg t.cells] [.c (i64 (chk t))] := by
  refine spec_of Try.func12 rfl (by kernel_rfl) (by simp [Try.f12]) (fun w0 K0 => vc_ok _ _ _ (by kernel_rfl) ?_)
  simp only [Try.f12]
  simp -dsimp [Tab.cells]
  refine VL.loopF [192] (fun i : LI => ⟨[(10, .c (i64 i.k)), (9, .c (i64 t.cols.length)), (8, .c (.sl t.nc (t.cols.map Col.cells))), (3, .own 192 i.k), (1, .ptr 64 0)],
      [(192, some (.arr i.nl i.sz ((t.cols.take i.k).map fun c => keyc c.name) i.k)), (64, some (.box false [.c (i64 t.id), .c (str t.name), .c (.sl t.nc (t.cols.map Col.cells)), .c (.sl t.nk (t.keys.map keyc)), .c (bln t.ix)]))]⟩)
    (fun i => i.k ≤ t.cols.length ∧ (i.nl = false → i.sz = 1)) (fun i => t.cols.length - i.k) ⟨0, true, 0⟩ (by kernel_rfl) (by simp) (by simp [St.le]) ?_
  intro ⟨k, nl, sz⟩ ⟨hk, hsz⟩
  simp at hk hsz
  have hmin : min k t.cols.length = k := by omega
  simp -dsimp
  refine VIf.mk (fun h => ?_) (fun h => ?_)
  · have hlt : k < t.cols.length := by simpa using h
    have hw : IntKind.i64.wrap ((k : Int) + 1) = (k : Int) + 1 := IntWalk.i64_in _ (by omega)
    simp -dsimp [hlt, Col.cells, hmin, hw, maxLen]
    refine ⟨hsz, by omega, ⟨k + 1, false, 1⟩, ⟨by simp only; omega, by simp⟩, ?_, by simp only; omega⟩
    have e : (t.cols.map fun c => keyc c.name).take (k + 1) = (t.cols.map fun c => keyc c.name).take k ++ [keyc t.cols[k].name] := by
      rw [List.take_add_one, List.getElem?_map, List.getElem?_eq_getElem hlt]; rfl
    simp [St.le]
    rw [e]; rfl
  · simp at h
    obtain rfl : k = t.cols.length := by omega
    have e1 : (t.cols.map fun c => keyc c.name).take t.cols.length = t.names.map keyc := by
      rw [List.take_of_length_le (by simp)]; simp [Tab.names, Function.comp_def]
    simp -dsimp [e1]
    refine VC.mk _ (long_spec t.name) ?_
    simp -dsimp
    refine VGL.not _ ?_
    simp -dsimp
    refine VG.mk _ _ (fun _ => anyStr_spec nl t.names 32 [] long (fun c _ => long_spec c) (by simp; omega)) rfl ?_
    simp -dsimp
    refine VIf.mk (fun h1 => ?_) (fun h1 => ?_)
    · simp -dsimp
      simp [chk, h1]
    · simp -dsimp
      refine VIf.mk (fun h2 => ?_) (fun h2 => ?_)
      · have h2' : t.cols.length = 0 ∨ 8 < t.cols.length := rng_t _ h2
        simp -dsimp
        unfold chk; rw [if_neg (by simp [h1]), if_pos h2']
      · have h2' : ¬ (t.cols.length = 0 ∨ 8 < t.cols.length) := rng_f _ h2
        simp -dsimp
        refine VC.mk _ (anyCol_spec t.nc t.cols 35 [] badKind (fun c _ => kind_spec c) (by omega)) ?_
        simp -dsimp
        refine VIf.mk (fun h3 => ?_) (fun h3 => ?_)
        · simp -dsimp
          unfold chk; rw [if_neg (by simp [h1]), if_neg h2', if_pos h3]
        · simp -dsimp
          refine VCL.snap ?_
          simp -dsimp
          refine VC.mk _ (twice_spec nl t.names (by simp; omega)) ?_
          simp -dsimp
          refine VG.mk _ _ (fun _ => twice_spec t.nk t.keys hk0) rfl ?_
          simp -dsimp
          refine VIf.mk (fun h4 => ?_) (fun h4 => ?_)
          · simp -dsimp
            unfold chk; rw [if_neg (by simp [h1]), if_neg h2', if_neg (by simp [h3]), if_pos h4]
          · simp -dsimp
            refine VC.mk _ (anyStr_spec t.nk t.keys 37 [.dp t.cells] (fun k => decide (place t k < 0)) (fun k _ => missing_spec t k (by omega)) hk0) ?_
            simp -dsimp
            refine VIf.mk (fun h5 => ?_) (fun h5 => ?_)
            · simp -dsimp
              unfold chk; rw [if_neg (by simp [h1]), if_neg h2', if_neg (by simp [h3]), if_neg (by simp [h4]), if_pos h5]
            · simp -dsimp
              unfold chk; rw [if_neg (by simp [h1]), if_neg h2', if_neg (by simp [h3]), if_neg (by simp [h4]), if_neg (by simp [h5])]
end Go.Proofs.Ytgodbpamppcfnaa
