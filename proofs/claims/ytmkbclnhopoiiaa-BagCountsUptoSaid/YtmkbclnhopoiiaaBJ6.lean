/- Contract: BagSlices. -/
import Derived.Test.YtmkbclnhopoiiaaBSA
import Derived.Test.YtmkbclnhopoiiaaBJ2
set_option linter.unusedSimpArgs false
set_option linter.unusedVariables false
namespace Go.Proofs.Ytmkbclnhopoiiaa
open Go.VL Go.RowKit

theorem rowsE_W (rs : List (List Val)) : rowsE rs = rowsW List.isEmpty rs := rfl
theorem rowsC_W (rs : List (List Val)) : rowsC rs = rowsW (fun _ => false) rs := rfl
theorem sameW_true (fa fb : List Val → Bool) (na nb : Bool) (A B : List (List Val)) (h : A = B) (hl : A.length ≤ 140737488355328) (hr : ∀ r ∈ A, r.length ≤ 4398046511104) :
    Con Try.prog 14 [.c (.sl na (rowsW fa A)), .c (.sl nb (rowsW fb B))] [.c (bln true)] := by
  have := sameRows_spec na nb (A.map fun r => (fa r, r)) (B.map fun r => (fb r, r)) (by rw [List.length_map]; exact hl) (fun x hx => by
    obtain ⟨r, hr0, rfl⟩ := List.mem_map.1 hx
    exact hr r hr0)
  have e : ∀ (f : List Val → Bool) (L : List (List Val)), (L.map fun r => (f r, r)).map rowV = rowsW f L := fun f L => by unfold rowsW; rw [List.map_map]; rfl
  have e2 : ∀ (f : List Val → Bool) (L : List (List Val)), (L.map fun r => (f r, r)).map Prod.snd = L := fun f L => by rw [List.map_map]; exact List.map_id' L
  rw [e, e, e2, e2, decide_eq_true h] at this
  exact this
theorem rowsW_nil (fl : List Val → Bool) : rowsW fl [] = [] := rfl
theorem rowsW_one (fl : List Val → Bool) (r : List Val) : rowsW fl [r] = [[.sl (fl r) (vals r)]] := rfl
theorem sliceW_spec (hf : SortsF) (nl : Bool) (l : List Fact) (t : Int) (hl : l.length ≤ 3518437208883) (hr : Rows1 l) :
    Con Try.prog 15 [.c (.sl nl (facts l)), .c (i64 t)] [.c (.sl (sliceL l t).isEmpty (rowsW List.isEmpty (sliceL l t)))] := slice_spec hf nl l t hl hr

set_option maxRecDepth 4000 in
set_option maxHeartbeats 32000000 in
theorem slices_spec {sortP : List Per → List Per} (hs : Sorts sortP) (hi : SortsI) (hf : SortsF) (na nb : Bool) (a b : List Fact) (t : Int) (la : a.length ≤ 1048576) (lb : b.length ≤ 1048576) (ra : ∀ f ∈ a, f.row.length ≤ 1000000000) (rb : ∀ f ∈ b, f.row.length ≤ 1000000000) :
    Con Try.prog 8 [.c (.sl na (facts a)), .c (.sl nb (facts b)), .c (i64 t)] [.c (bln true)] := by
  refine spec_of Try.func8 rfl (by kernel_rfl) (by simp [Try.f8]) (fun w0 K0 => vc_ok _ _ _ (by kernel_rfl) ?_)
  simp only [Try.f8]
  have ra1 : Rows1 a := fun f hf => by have := ra f hf; omega
  have rb1 : Rows1 b := fun f hf => by have := rb f hf; omega
  have ka := sliceW_spec hf na a t (by omega) ra1
  have kb := sliceW_spec hf nb b t (by omega) rb1
  have lx := slice_len a t
  have ly := slice_len b t
  have rx : ∀ r ∈ sliceL a t, r.length ≤ 1000000000 := fun r hr => by obtain ⟨f, hf, rfl⟩ := slice_row hr; exact ra f hf
  have ry : ∀ r ∈ sliceL b t, r.length ≤ 1000000000 := fun r hr => by obtain ⟨f, hf, rfl⟩ := slice_row hr; exact rb f hf
  have hmul : (sliceL a t).length * (sliceL b t).length ≤ 1048576 * 1048576 := Nat.mul_le_mul (by omega) (by omega)
  have hml : a.length * b.length ≤ 1048576 * 1048576 := Nat.mul_le_mul (by omega) (by omega)
  have kpr := pairs_spec List.isEmpty List.isEmpty (sliceL a t).isEmpty (sliceL b t).isEmpty (sliceL a t) (sliceL b t) (by omega) (by omega) (by omega) (fun x hx y hy => by have := rx x hx; have := ry y hy; omega)
  have lpr := pairs_len (sliceL b t) (sliceL a t)
  have rpr : ∀ r ∈ pairsL (sliceL a t) (sliceL b t), r.length ≤ 2000000000 := fun r hr => by
    obtain ⟨x, hx, hr⟩ := List.mem_flatMap.1 hr
    obtain ⟨y, hy, rfl⟩ := List.mem_map.1 hr
    have := rx x hx; have := ry y hy
    rw [List.length_append]; omega
  have kc := count_spec hs hi hf na a (by omega) ra1
  have lc := normal_len hs (countP a)
  have lcp := countP_len a
  have rc := normal_rows1 (sortP := sortP) (countP_rows a)
  have ksc := sliceW_spec hf (countL sortP a).isEmpty (countL sortP a) t (by unfold countL; omega) rc
  rw [sl_count hs] at ksc
  have kn2 := normal_two hs hi hf _ na nb a b rfl (by omega) (by omega) ra1 rb1
  have ln2 := normal_len hs (a ++ b)
  rw [List.length_append] at ln2
  have rab : Rows1 (a ++ b) := fun f hf => by
    rcases List.mem_append.1 hf with h | h
    · exact ra1 f h
    · exact rb1 f h
  have ks2 := sliceW_spec hf (normalL sortP (a ++ b)).isEmpty (normalL sortP (a ++ b)) t (by omega) (normal_rows1 rab)
  rw [sl_both hs] at ks2
  have kx := except_con hs hi hf na nb _ _ a b rfl rfl (by omega) (by omega) ra1 rb1
  have lex := except_len hs a b
  have ksx := sliceW_spec hf (exceptL sortP a b).isEmpty (exceptL sortP a b) t (by omega) (except_rows1 ra1)
  rw [sl_less hs] at ksx
  have klx := less_spec List.isEmpty List.isEmpty (sliceL a t).isEmpty (sliceL b t).isEmpty (sliceL a t) (sliceL b t) (by omega) (by omega) (fun r hr => by have := rx r hr; omega)
  have llx := less_len (sliceL a t) (sliceL b t)
  have ksl := sameW_true List.isEmpty List.isEmpty (lessL (sliceL a t) (sliceL b t)).isEmpty (lessL (sliceL a t) (sliceL b t)).isEmpty (lessL (sliceL a t) (sliceL b t)) (lessL (sliceL a t) (sliceL b t)) rfl (by omega) (fun r hr => by have := rx r ((less_sub _ _).subset hr); omega)
  have r2 : Rows2 a b := fun x hx y hy => by have := ra x hx; have := rb y hy; omega
  have lj := joinP_len a b
  have kj := join_spec hs hi hf na nb a b (by omega) (by omega) (by omega) r2
  have lJ := normal_len hs (joinP a b)
  have ksj := sliceW_spec hf (joinL sortP a b).isEmpty (joinL sortP a b) t (by unfold joinL; omega) (normal_rows1 (join_rows1 r2))
  rw [sl_pairs hs] at ksj
  have kn := normal_con hs hi hf false na _ a rfl (by omega) ra1
  have lna := normal_len hs a
  have ksn := sliceW_spec hf (normalL sortP a).isEmpty (normalL sortP a) t (by omega) (normal_rows1 ra1)
  rw [sl_self hs] at ksn
  have kss := sameW_true List.isEmpty List.isEmpty (sliceL a t).isEmpty (sliceL a t).isEmpty (sliceL a t) (sliceL a t) rfl (by omega) (fun r hr => by have := rx r hr; omega)
  generalize sliceL a t = x at *
  generalize sliceL b t = y at *
  rw [rowsC_W] at kpr
  generalize normalL sortP (a ++ b) = n2 at *
  generalize normalL sortP a = n1 at *
  generalize exceptL sortP a b = ex at *
  generalize joinL sortP a b = jn at *
  generalize countL sortP a = cn at *
  have hP := lpr
  generalize pairsL x y = P at *
  simp -dsimp
  refine VC.mk _ (awake_spec hs hi hf) ?_
  simp -dsimp
  refine VC.mk _ ka ?_
  simp -dsimp
  refine VC.mk _ kb ?_
  simp -dsimp
  refine VL.loop (fun k : Nat => ⟨[(27, .c (i64 k)), (26, .c (i64 y.length)), (25, .c (.sl y.isEmpty (rowsW List.isEmpty y))), (9, .c (.sl (decide (k = 0) && x.isEmpty) (rowsW List.isEmpty (putAll x (y.take k))))), (7, .c (.sl x.isEmpty (rowsW List.isEmpty x))), (8, .c (.sl y.isEmpty (rowsW List.isEmpty y))), (0, .c (.sl na (facts a))), (1, .c (.sl nb (facts b))), (2, .c (i64 t))], []⟩)
    (fun k => k ≤ y.length) (fun k => y.length - k) 0 (by kernel_rfl) (by simp) (by simp [St.le, putAll]) ?_
  intro k hk
  by_cases h1 : k < y.length
  · have hw : IntKind.i64.wrap ((k : Int) + 1) = (k : Int) + 1 := IntWalk.i64_in _ (by omega)
    have hsn := putAll_snoc x y h1
    have hlp := putAll_len x (y.take k)
    rw [List.length_take] at hlp
    have hry := ry _ (List.getElem_mem h1)
    simp -dsimp [h1]
    refine VC.mk _ (put_spec List.isEmpty _ (putAll x (y.take k)) y[k] (by omega) (by omega)) ?_
    simp -dsimp [hw]
    refine ⟨k + 1, by omega, ?_, by omega⟩
    simp [St.le, hsn]
  obtain rfl : k = y.length := by omega
  rw [List.take_length]
  have hlb := putAll_len x y
  simp -dsimp
  refine VC.mk _ kpr ?_
  simp -dsimp
  refine VL.snap 12 ?_
  simp -dsimp
  refine VL.loop (fun k : Nat => ⟨[(39, .c (i64 k)), (38, .c (i64 P.length)), (37, .c (.sl P.isEmpty (rowsW (fun _ => false) P))), (12, .c (.sl (decide (k = 0)) (rowsW (fun _ => false) (putAll [] (P.take k))))), (9, .c (.sl (decide (y.length = 0) && x.isEmpty) (rowsW List.isEmpty (putAll x y)))), (7, .c (.sl x.isEmpty (rowsW List.isEmpty x))), (8, .c (.sl y.isEmpty (rowsW List.isEmpty y))), (0, .c (.sl na (facts a))), (1, .c (.sl nb (facts b))), (2, .c (i64 t))], []⟩)
    (fun k => k ≤ P.length) (fun k => P.length - k) 0 (by kernel_rfl) (by simp) (by simp [St.le, putAll, rowsW]) ?_
  intro k hk
  by_cases h1 : k < P.length
  · have hw : IntKind.i64.wrap ((k : Int) + 1) = (k : Int) + 1 := IntWalk.i64_in _ (by omega)
    have hsn := putAll_snoc [] P h1
    have hlp := putAll_len [] (P.take k)
    rw [List.length_take, List.length_nil] at hlp
    have hry := rpr _ (List.getElem_mem h1)
    simp -dsimp [h1]
    refine VC.mk _ (put_spec (fun _ => false) _ (putAll [] (P.take k)) P[k] (by omega) (by omega)) ?_
    simp -dsimp [hw]
    refine ⟨k + 1, by omega, ?_, by omega⟩
    simp [St.le, hsn]
  obtain rfl : k = P.length := by omega
  rw [List.take_length]
  have hlq := putAll_len [] P
  rw [List.length_nil] at hlq
  simp -dsimp
  refine VC.mk _ kc ?_
  simp -dsimp
  refine VC.mk _ ksc ?_
  have rb2 : ∀ r ∈ putAll x y, r.length ≤ 4398046511104 := fun r hr => by
    rcases List.mem_append.1 ((putAll_perm y x).mem_iff.1 hr) with h | h
    · have := ry r h; omega
    · have := rx r h; omega
  have rq2 : ∀ r ∈ putAll [] P, r.length ≤ 4398046511104 := fun r hr => by
    rcases List.mem_append.1 ((putAll_perm P []).mem_iff.1 hr) with h | h
    · have := rpr r h; omega
    · simp at h
  rcases Nat.eq_zero_or_pos x.length with h0 | h0
  · rw [if_neg (by omega)]
    simp -dsimp [h0, rowsW_nil]
    refine ⟨by decide, VCL.snap ?_⟩
    simp -dsimp
    refine VC.mk _ kn2 ?_
    simp -dsimp
    refine VC.mk _ ks2 ?_
    simp -dsimp
    refine VC.mk _ (sameW_true List.isEmpty List.isEmpty _ _ (putAll x y) (putAll x y) rfl (by omega) rb2) ?_
    simp -dsimp
    refine VG.mk [.c (.sl ex.isEmpty (facts ex))] _ (fun _ => kx) rfl ?_
    simp -dsimp
    refine VG.mk [.c (.sl (lessL x y).isEmpty (rowsW List.isEmpty (lessL x y)))] _ (fun _ => ksx) rfl ?_
    simp -dsimp
    refine VG.mk [.c (.sl (lessL x y).isEmpty (rowsW List.isEmpty (lessL x y)))] _ (fun _ => klx) rfl ?_
    simp -dsimp
    refine VG.mk [.c (bln true)] _ (fun _ => ksl) rfl ?_
    simp -dsimp
    refine VG.mk [.c (.sl jn.isEmpty (facts jn))] _ (fun _ => kj) rfl ?_
    simp -dsimp
    refine VG.mk [.c (.sl (putAll [] P).isEmpty (rowsW List.isEmpty (putAll [] P)))] _ (fun _ => ksj) rfl ?_
    simp -dsimp
    refine VG.mk [.c (bln true)] _ (fun _ => sameW_true List.isEmpty (fun _ => false) _ _ (putAll [] P) (putAll [] P) rfl (by omega) rq2) rfl ?_
    simp -dsimp
    refine ⟨by decide, VGL.call (args := [.tmp 117]) _ _ _ _ _ rfl rfl rfl ?_⟩
    simp -dsimp
    refine VCL.snap ?_
    simp -dsimp
    refine VC.mk _ kn ?_
    simp -dsimp
    refine VG.mk [.c (.sl x.isEmpty (rowsW List.isEmpty x))] _ (fun _ => ksn) rfl ?_
    simp -dsimp
    refine VG.mk [.c (bln true)] _ (fun _ => kss) rfl ?_
    simp -dsimp
  · have hx : (x = []) = False := by simp; intro e; simp [e] at h0
    have hx0 : (0 < x.length) = True := by simpa using h0
    have hxl : ((x.length : Int) == 0) = false := by rw [beq_eq_false_iff_ne]; omega
    rw [if_pos h0]
    simp -dsimp [hx, hx0, hxl, rowsW_one, num, Val.cells]
    refine ⟨by decide, VCL.snap ?_⟩
    simp -dsimp
    refine VC.mk _ kn2 ?_
    simp -dsimp
    refine VC.mk _ ks2 ?_
    simp -dsimp
    refine VC.mk _ (sameW_true List.isEmpty List.isEmpty _ _ (putAll x y) (putAll x y) rfl (by omega) rb2) ?_
    simp -dsimp
    refine VG.mk [.c (.sl ex.isEmpty (facts ex))] _ (fun _ => kx) rfl ?_
    simp -dsimp
    refine VG.mk [.c (.sl (lessL x y).isEmpty (rowsW List.isEmpty (lessL x y)))] _ (fun _ => ksx) rfl ?_
    simp -dsimp
    refine VG.mk [.c (.sl (lessL x y).isEmpty (rowsW List.isEmpty (lessL x y)))] _ (fun _ => klx) rfl ?_
    simp -dsimp
    refine VG.mk [.c (bln true)] _ (fun _ => ksl) rfl ?_
    simp -dsimp
    refine VG.mk [.c (.sl jn.isEmpty (facts jn))] _ (fun _ => kj) rfl ?_
    simp -dsimp
    refine VG.mk [.c (.sl (putAll [] P).isEmpty (rowsW List.isEmpty (putAll [] P)))] _ (fun _ => ksj) rfl ?_
    simp -dsimp
    refine VG.mk [.c (bln true)] _ (fun _ => sameW_true List.isEmpty (fun _ => false) _ _ (putAll [] P) (putAll [] P) rfl (by omega) rq2) rfl ?_
    simp -dsimp
    refine ⟨by decide, VGL.call (args := [.tmp 117]) _ _ _ _ _ rfl rfl rfl ?_⟩
    simp -dsimp
    refine VCL.snap ?_
    simp -dsimp
    refine VC.mk _ kn ?_
    simp -dsimp
    refine VG.mk [.c (.sl x.isEmpty (rowsW List.isEmpty x))] _ (fun _ => ksn) rfl ?_
    simp -dsimp
    refine VG.mk [.c (bln true)] _ (fun _ => kss) rfl ?_
    simp -dsimp
end Go.Proofs.Ytmkbclnhopoiiaa
