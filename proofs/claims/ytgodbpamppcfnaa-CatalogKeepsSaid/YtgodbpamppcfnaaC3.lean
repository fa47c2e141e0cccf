/- Contracts of functions of the seat, proved in a logic on data over the model (part C3). -/
import Derived.Test.YtgodbpamppcfnaaC2
set_option linter.unusedSimpArgs false
set_option linter.unusedVariables false
namespace Go.Proofs.Ytgodbpamppcfnaa
open Go.VL Go.RowKit

structure Val where
  kind : Int
  int : Int
  text : List UInt8
def Val.cells (v : Val) : List C := [i64 v.kind, i64 v.int, str v.text]
@[simp] theorem Val.len (v : Val) : v.cells.length = 3 := rfl
def num (n : Int) : Val := ⟨1, n, []⟩
def txt (s : List UInt8) : Val := ⟨2, 0, s⟩
def rowHead (t : Tab) : List Val := [num t.id, txt t.name, num (if t.ix then 1 else 0), num t.cols.length]
def rowCols (l : List Col) : List Val := l.flatMap fun c => [txt c.name, num c.kind]
def rowOf (t : Tab) : List Val := rowHead t ++ rowCols t.cols ++ t.keys.map txt

@[simp] theorem rowHead_len (t : Tab) : (rowHead t).length = 4 := rfl
@[simp] theorem rowCols_len (l : List Col) : (rowCols l).length = 2 * l.length := by
  induction l with
  | nil => rfl
  | cons c r ih =>
    simp [rowCols] at ih ⊢
    omega
theorem rowCols_snoc (l : List Col) (c : Col) : rowCols (l ++ [c]) = rowCols l ++ [txt c.name, num c.kind] := by simp [rowCols]

set_option maxRecDepth 4000 in
set_option maxHeartbeats 8000000 in
theorem plain_spec (t : Tab) : Con Try.prog 14 [.agg t.cells] [.ag t.cells] := by
  refine spec_of Try.func14 rfl (by kernel_rfl) (by simp [Try.f14]) (fun w0 K0 => vc_ok _ _ _ (by kernel_rfl) ?_)
  simp only [Try.f14]
  simp -dsimp [Tab.cells]

set_option maxRecDepth 4000 in
set_option maxHeartbeats 8000000 in
theorem num_spec (n : Int) : Con Try.prog 30 [.c (i64 n)] [.ag (num n).cells] := by
  refine spec_of Try.func30 rfl (by kernel_rfl) (by simp [Try.f30]) (fun w0 K0 => vc_ok _ _ _ (by kernel_rfl) ?_)
  simp only [Try.f30]
  simp -dsimp [num, Val.cells]

set_option maxRecDepth 4000 in
set_option maxHeartbeats 8000000 in
theorem txt_spec (s : List UInt8) : Con Try.prog 31 [.c (str s)] [.ag (txt s).cells] := by
  refine spec_of Try.func31 rfl (by kernel_rfl) (by simp [Try.f31]) (fun w0 K0 => vc_ok _ _ _ (by kernel_rfl) ?_)
  simp only [Try.f31]
  simp -dsimp [txt, Val.cells]

set_option maxRecDepth 4000 in
set_option maxHeartbeats 8000000 in
theorem row_spec (t : Tab) (hc : t.cols.length ≤ 800000000000) (hk : t.keys.length ≤ 800000000000) : Con Try.prog 11 [.agg t.cells] [.fr false 3 ((rowOf t).map Val.cells) 0] := by
  refine spec_of Try.func11 rfl (by kernel_rfl) (by simp [Try.f11]) (fun w0 K0 => vc_ok _ _ _ (by kernel_rfl) ?_)
  simp only [Try.f11]
  simp -dsimp [Tab.cells]
  refine VIf.mk (fun hix => ?_) (fun hix => ?_)
  all_goals simp -dsimp
  all_goals refine VL.draw (by kernel_rfl) [(0, false), (0, false), (2, false), (7, false), (0, false), (0, false), (32, false), (127, false), (0, false), (0, false), (1023, false), (0, false), (0, false), (4096, false), (12288, false), (32767, true), (65535, true), (131071, true)] (by kernel_rfl) ?_
  all_goals simp -dsimp
  all_goals refine VCE.mk _ (num_spec t.id) ?_
  all_goals simp -dsimp [num, Val.cells]
  all_goals refine VCE.mk _ (txt_spec t.name) ?_
  all_goals simp -dsimp [txt, Val.cells]
  all_goals (first | refine VCE.mk _ (num_spec 1) ?_ | refine VCE.mk _ (num_spec 0) ?_)
  all_goals simp -dsimp [num, Val.cells]
  all_goals refine VC.mk _ (num_spec t.cols.length) ?_
  all_goals simp -dsimp [num, Val.cells]
  all_goals refine ⟨by decide, ?_⟩
  all_goals refine VL.loop (fun k : Nat => ⟨[(33, .c (i64 k)), (32, .c (i64 t.cols.length)), (31, .c (.sl t.nc (t.cols.map Col.cells))), (6, .own 1856 (4 + 2 * k)), (4, .c (.fn 31 [])), (3, .c (.fn 30 [])), (1, .ptr 64 0)], [(1856, some (.arr false 3 ((rowHead t ++ rowCols (t.cols.take k)).map Val.cells) 0)), (64, some (.box false [.c (i64 t.id), .c (str t.name), .c (.sl t.nc (t.cols.map Col.cells)), .c (.sl t.nk (t.keys.map keyc)), .c (bln t.ix)]))]⟩) (fun k => k ≤ t.cols.length) (fun k => t.cols.length - k) 0 (by kernel_rfl) (by simp) (by simp [St.le, rowHead, rowCols, num, txt, Val.cells, hix]) ?_
  all_goals intro k hk
  all_goals have hmin : min k t.cols.length = k := by omega
  all_goals simp -dsimp
  all_goals refine VIf.mk (fun h => ?_) (fun h => ?_)
  · have hlt : k < t.cols.length := by simpa using h
    have hw : IntKind.i64.wrap ((k : Int) + 1) = (k : Int) + 1 := IntWalk.i64_in _ (by omega)
    simp -dsimp [hlt, Col.cells]
    refine VL.draw (by kernel_rfl) [(0, false), (0, false), (0, false), (4, false), (14, false), (0, false), (0, false), (64, false), (254, false), (510, false), (1023, true), (2047, true)] (by kernel_rfl) ?_
    simp -dsimp
    refine VCE.mk _ (txt_spec t.cols[k].name) ?_
    simp -dsimp [txt, Val.cells]
    refine VCE.mk _ (num_spec t.cols[k].kind) ?_
    simp -dsimp [num, Val.cells, hmin, hw, maxLen]
    refine ⟨by omega, k + 1, by omega, ?_, by omega⟩
    have e : t.cols.take (k + 1) = t.cols.take k ++ [t.cols[k]] := by rw [List.take_add_one, List.getElem?_eq_getElem hlt]; rfl
    rw [e, rowCols_snoc]
    simp [St.le, txt, num, Val.cells]
    omega
  · simp at h
    obtain rfl : k = t.cols.length := by omega
    simp -dsimp
    refine VL.loop (fun k : Nat => ⟨[(52, .c (i64 k)), (51, .c (i64 t.keys.length)), (50, .c (.sl t.nk (t.keys.map keyc))), (6, .own 1856 (4 + 2 * t.cols.length + k)), (4, .c (.fn 31 []))], [(1856, some (.arr false 3 ((rowHead t ++ rowCols t.cols ++ (t.keys.take k).map txt).map Val.cells) 0))]⟩) (fun k => k ≤ t.keys.length) (fun k => t.keys.length - k) 0 (by kernel_rfl) (by simp) (by simp [St.le]) ?_
    intro k hk
    have hmink : min k t.keys.length = k := by omega
    simp -dsimp
    refine VIf.mk (fun h2 => ?_) (fun h2 => ?_)
    · have hlt : k < t.keys.length := by simpa using h2
      have hw : IntKind.i64.wrap ((k : Int) + 1) = (k : Int) + 1 := IntWalk.i64_in _ (by omega)
      simp -dsimp [hlt, keyc]
      refine VC.mk _ (txt_spec t.keys[k]) ?_
      simp -dsimp [txt, Val.cells, hmink, hw, maxLen]
      refine ⟨by omega, by omega, k + 1, by omega, ?_, by omega⟩
      have e : List.take (k + 1) (List.map (Val.cells ∘ txt) t.keys) = List.take k (List.map (Val.cells ∘ txt) t.keys) ++ [(txt t.keys[k]).cells] := by
        rw [List.take_add_one, List.getElem?_map, List.getElem?_eq_getElem hlt]; rfl
      rw [e]
      simp [St.le, txt, Val.cells]
      omega
    · simp at h2
      obtain rfl : k = t.keys.length := by omega
      simp -dsimp
      have e1 : List.take t.keys.length (List.map (Val.cells ∘ txt) t.keys) = List.map (Val.cells ∘ txt) t.keys := List.take_of_length_le (by simp)
      simp [e1, rowOf]
      try omega
  · have hlt : k < t.cols.length := by simpa using h
    have hw : IntKind.i64.wrap ((k : Int) + 1) = (k : Int) + 1 := IntWalk.i64_in _ (by omega)
    simp -dsimp [hlt, Col.cells]
    refine VL.draw (by kernel_rfl) [(0, false), (0, false), (0, false), (4, false), (14, false), (0, false), (0, false), (64, false), (254, false), (510, false), (1023, true), (2047, true)] (by kernel_rfl) ?_
    simp -dsimp
    refine VCE.mk _ (txt_spec t.cols[k].name) ?_
    simp -dsimp [txt, Val.cells]
    refine VCE.mk _ (num_spec t.cols[k].kind) ?_
    simp -dsimp [num, Val.cells, hmin, hw, maxLen]
    refine ⟨by omega, k + 1, by omega, ?_, by omega⟩
    have e : t.cols.take (k + 1) = t.cols.take k ++ [t.cols[k]] := by rw [List.take_add_one, List.getElem?_eq_getElem hlt]; rfl
    rw [e, rowCols_snoc]
    simp [St.le, txt, num, Val.cells]
    omega
  · simp at h
    obtain rfl : k = t.cols.length := by omega
    simp -dsimp
    refine VL.loop (fun k : Nat => ⟨[(52, .c (i64 k)), (51, .c (i64 t.keys.length)), (50, .c (.sl t.nk (t.keys.map keyc))), (6, .own 1856 (4 + 2 * t.cols.length + k)), (4, .c (.fn 31 []))], [(1856, some (.arr false 3 ((rowHead t ++ rowCols t.cols ++ (t.keys.take k).map txt).map Val.cells) 0))]⟩) (fun k => k ≤ t.keys.length) (fun k => t.keys.length - k) 0 (by kernel_rfl) (by simp) (by simp [St.le]) ?_
    intro k hk
    have hmink : min k t.keys.length = k := by omega
    simp -dsimp
    refine VIf.mk (fun h2 => ?_) (fun h2 => ?_)
    · have hlt : k < t.keys.length := by simpa using h2
      have hw : IntKind.i64.wrap ((k : Int) + 1) = (k : Int) + 1 := IntWalk.i64_in _ (by omega)
      simp -dsimp [hlt, keyc]
      refine VC.mk _ (txt_spec t.keys[k]) ?_
      simp -dsimp [txt, Val.cells, hmink, hw, maxLen]
      refine ⟨by omega, by omega, k + 1, by omega, ?_, by omega⟩
      have e : List.take (k + 1) (List.map (Val.cells ∘ txt) t.keys) = List.take k (List.map (Val.cells ∘ txt) t.keys) ++ [(txt t.keys[k]).cells] := by
        rw [List.take_add_one, List.getElem?_map, List.getElem?_eq_getElem hlt]; rfl
      rw [e]
      simp [St.le, txt, Val.cells]
      omega
    · simp at h2
      obtain rfl : k = t.keys.length := by omega
      simp -dsimp
      have e1 : List.take t.keys.length (List.map (Val.cells ∘ txt) t.keys) = List.map (Val.cells ∘ txt) t.keys := List.take_of_length_le (by simp)
      simp [e1, rowOf]
      try omega
end Go.Proofs.Ytgodbpamppcfnaa
