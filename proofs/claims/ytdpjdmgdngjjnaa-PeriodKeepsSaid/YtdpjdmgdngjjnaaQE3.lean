/- Contracts of period.Edges and of the document's Edges. -/
import Derived.Test.YtdpjdmgdngjjnaaQE2
import Derived.Test.YtdpjdmgdngjjnaaQ6
import Derived.Test.YtdpjdmgdngjjnaaV31
set_option linter.unusedSimpArgs false
set_option linter.unusedVariables false
namespace Go.Proofs.Ytdpjdmgdngjjnaa
open Go.VL Go.RowKit

def ints (l : List Int) : List (List C) := l.map fun x => [C.v (.int .i64 x)]
@[simp] theorem ints_len (l : List Int) : (ints l).length = l.length := by simp [ints]
@[simp] theorem ints_app (l m : List Int) : ints (l ++ m) = ints l ++ ints m := by simp [ints]
@[simp] theorem ints_nil : ints [] = [] := rfl
theorem ints_get (l : List Int) (k : Nat) (h : k < l.length) : (ints l)[k]?.getD [] = [i64 l[k]] := by
  simp [ints, List.getElem?_eq_getElem h]
@[simp] theorem ints_at (l : List Int) (k : Nat) (h : k < (ints l).length) : (ints l)[k] = [i64 (l[k]'(by simpa using h))] := by simp [ints]
def rowI (i : Nat) (l : List Int) : List (Nat × Res) := [(i, .arr false 1 (ints l) 0)]
def ez (m : List Int) : Nat := if m.isEmpty then 0 else 1

/-- the library's Sort and Compact of whole numbers -/
structure SortsI : Prop where
  con : ∀ l : List Int, l.length ≤ 140737488355328 → ConB Try.prog 33 [.own 1 l.length] (rowI 1 l) [] [.own 1 l.length] (rowI 1 (sortI l))
  nil : Con Try.prog 33 [.c (.sl true [])] []
  cmp : ∀ l : List Int, l.length ≤ 140737488355328 → ConB Try.prog 34 [.own 1 l.length] (rowI 1 l) [.own 1 (Go.Lib.compact l).length] [if (Go.Lib.compact l).length = l.length then .own 1 l.length else .un] (rowI 1 (Go.Lib.compact l))
  cnil : Con Try.prog 34 [.c (.sl true [])] [.c (.sl true [])]

set_option maxRecDepth 4000 in
set_option maxHeartbeats 4000000 in
theorem compact_nil : Con Try.prog 34 [.c (.sl true [])] [.c (.sl true [])] := by
  refine spec_of Try.func34 rfl (by kernel_rfl) (by simp [Try.f34]) (fun w0 K0 => vc_ok _ _ _ (by kernel_rfl) ?_)
  simp only [Try.f34]
  simp -dsimp

theorem check_at' (cs : List C) (p : Per) (h : cs = p.cells) : Con Try.prog 15 [.agg cs] [.c (i64 (checkOf p))] := by rw [h]; exact check_spec p

set_option maxRecDepth 4000 in
set_option maxHeartbeats 8000000 in
theorem edges_spec (hi : SortsI) (nl : Bool) (l : List Per) (_ : nl = true → l = []) (hl : l.length ≤ 8796093022207) :
    Con Try.prog 23 [.c (.sl nl (l.map Per.cells))] [.fr (edgesL l).isEmpty (ez (edgesL l)) (ints (edgesL l)) 0] := by
  refine spec_of Try.func23 rfl (by kernel_rfl) (by simp [Try.f23]) (fun w0 K0 => vc_ok _ _ _ (by kernel_rfl) ?_)
  simp only [Try.f23]
  simp -dsimp
  refine VL.loop (fun i : LI => ⟨[(8, .c (i64 i.k)), (7, .c (i64 l.length)), (6, .c (.sl nl (l.map Per.cells))), (3, .own 192 (endsOf (l.take i.k)).length)],
      [(192, some (.arr i.nl i.sz (ints (endsOf (l.take i.k))) 0))]⟩)
    (fun i => i.k ≤ l.length ∧ i.nl = (endsOf (l.take i.k)).isEmpty ∧ i.sz = ez (endsOf (l.take i.k))) (fun i => l.length - i.k) ⟨0, true, 0⟩ (by kernel_rfl) (by simp [endsOf, ez]) (by simp [St.le, endsOf]) ?_
  intro ⟨k, nl', sz⟩ ⟨hk, hnl, hsz⟩
  simp only at hk hnl hsz
  have hol := endsOf_len (l.take k)
  have hlk : (l.take k).length = k := by rw [List.length_take]; omega
  have hsu := fun h : k < l.length => endsOf_snoc l h
  generalize ho : endsOf (l.take k) = out at *
  simp -dsimp
  refine VIf.mk (fun h => ?_) (fun h => ?_)
  · have hlt : k < l.length := by simpa using h
    have hw : IntKind.i64.wrap ((k : Int) + 1) = (k : Int) + 1 := IntWalk.i64_in _ (by omega)
    have hsu := hsu hlt
    simp -dsimp [hlt, Per.cells]
    refine VC.mk _ (check_at' _ l[k] rfl) ?_
    simp -dsimp
    refine VIf.mk (fun h2 => ?_) (fun h2 => ?_)
    · have hr : right l[k] = true := by simpa using h2
      rw [if_pos hr] at hsu
      simp -dsimp [maxLen, hw]
      refine ⟨fun e => ?_, by omega, ⟨k + 1, false, 1⟩, ⟨hlt, ?_, ?_⟩, ?_, by simp; omega⟩
      · rw [hsz]; rw [hnl] at e; simp [ez, e]
      · rw [hsu]; simp
      · rw [hsu]; simp [ez]
      · simp [St.le, hsu, ints]
    · have hr : right l[k] = false := by simpa using h2
      rw [hr, if_neg (by simp), List.append_nil] at hsu
      simp -dsimp [hw]
      refine ⟨⟨k + 1, nl', sz⟩, ⟨hlt, by rw [hsu]; exact hnl, by rw [hsu]; exact hsz⟩, ?_, by simp; omega⟩
      simp [St.le, hsu]
  · simp at h
    obtain rfl : k = l.length := by omega
    rw [List.take_length] at ho
    have hed : edgesL l = Go.Lib.compact (sortI out) := by unfold edgesL; rw [ho]
    rw [hed]
    rcases List.eq_nil_or_concat out with rfl | ⟨ini, q, hq⟩
    · obtain rfl : nl' = true := hnl
      have e : sortI [] = [] := by simp [sortI]
      have e2 : Go.Lib.compact (sortI []) = [] := by rw [e]; rfl
      rw [e2]
      simp -dsimp
      refine VCL.snap ?_
      simp -dsimp
      refine VC.mk _ hi.nil ?_
      simp -dsimp
      refine VCL.snap ?_
      simp -dsimp
      refine VC.mk _ hi.cnil ?_
      simp -dsimp [ez]
    · have hne : out.isEmpty = false := by rw [hq]; simp
      have hnl2 : nl' = false := by rw [hnl, hne]
      have hsz2 : sz = 1 := by rw [hsz]; simp [ez, hne]
      subst hnl2 hsz2
      have hcne : (Go.Lib.compact (sortI out)).isEmpty = false := by
        have hm := (compact_ok (sortI out) (sortI_sorted out)).2 q
        have : q ∈ Go.Lib.compact (sortI out) := hm.2 ((sortI_perm out).mem_iff.2 (by rw [hq]; simp))
        rw [List.isEmpty_eq_false_iff]
        intro e; rw [e] at this; simp at this
      clear hq ho hsu hnl hsz hed
      have hcs := hi.con out (by omega)
      have hlen := sortI_len out
      have hcc := hi.cmp (sortI out) (by omega)
      generalize sortI out = so at *
      have hcl := compact_len so
      generalize Go.Lib.compact so = co at *
      simp -dsimp
      refine VCL.lend (rowI 1 out) (rowI 1 so) [.own 1 out.length] _ _ (fun _ => 192) [] ⟨hcs, ?_, ?_, ?_, ?_, ?_, ?_, ?_⟩ ?_
      · simp [renSs, renS]
      · simp [rowI, renR]
      · simp [rowI]
      · simp [rowI]
      · simp [rowI, Res.nam]
      · simp [S.nams]
      · simp [rowI, lk, keptP]
        exact ⟨1, _, ⟨rfl, rfl⟩, _, ⟨rfl, rfl⟩, by simp, by simp [hlen]⟩
      simp -dsimp [rowI, retS, renSs]
      refine VCL.lend (rowI 1 so) (rowI 1 co) [.own 1 so.length] _ _ (fun _ => 192) [192] ⟨hcc, ?_, ?_, ?_, ?_, ?_, ?_, ?_⟩ ?_
      · simp [renSs, renS, hlen]
      · simp [rowI, renR]
      · simp [rowI]
      · simp [rowI]
      · simp [rowI, Res.nam]
      · simp [rowI, S.nams, S.nam]
      · simp [rowI]
      simp -dsimp [rowI, retS, renSs, renS]
      have hc2 : co ≠ [] := List.isEmpty_eq_false_iff.1 hcne
      simp [ez, hcne, hc2]

theorem refRight_at' (cs : List C) (p : Per) (h : cs = p.cells) : Con Try.prog 21 [.agg cs] [.c (bln (right p))] := by rw [h]; exact refRight_spec p
/-- the two ends, the first j of them -/
def two (p : Per) (j : Nat) : List Int := [p.f, p.t].take j

set_option maxRecDepth 4000 in
set_option maxHeartbeats 16000000 in
theorem refEdges_spec (nl : Bool) (l : List Per) (hl : l.length ≤ 8796093022207) :
    Con Try.prog 24 [.c (.sl nl (l.map Per.cells))] [.fr (edgesL l).isEmpty (ez (edgesL l)) (ints (edgesL l)) 0] := by
  refine spec_of Try.func24 rfl (by kernel_rfl) (by simp [Try.f24]) (fun w0 K0 => vc_ok _ _ _ (by kernel_rfl) ?_)
  simp only [Try.f24]
  simp -dsimp
  have hnext := fun k hk => nextL_edge l (k := k) hk
  have hel := edgesL_len l
  have hpos0 : ∀ t ∈ edgesL l, 0 ≤ t := fun t ht => endsOf_pos l (((edgesL_ok l).2 t).1 ht)
  generalize edgesL l = E at *
  refine VL.loop (fun i : LI => ⟨[(3, .own 192 (E.take i.k).length), (0, .c (.sl nl (l.map Per.cells)))], [(192, some (.arr i.nl i.sz (ints (E.take i.k)) 0))]⟩)
    (fun i => i.k ≤ E.length ∧ i.nl = (E.take i.k).isEmpty ∧ i.sz = ez (E.take i.k)) (fun i => E.length - i.k) ⟨0, true, 0⟩ (by kernel_rfl) (by simp [ez]) (by simp [St.le]) ?_
  intro ⟨k, nl', sz⟩ ⟨hk, hnl, hsz⟩
  simp only at hk hnl hsz
  have hnx := hnext k hk
  have hsn := fun h : k < E.length => take_snoc (l := E) (k := k) h
  have hol : (E.take k).length = k := by rw [List.length_take]; omega
  generalize ho : E.take k = out at *
  simp -dsimp
  refine VL.loop (fun i : Nat => ⟨[(5, .c (i64 i)), (4, .c (i64 (nextL out (endsOf (l.take i))))), (3, .own 192 out.length), (0, .c (.sl nl (l.map Per.cells)))], [(192, some (.arr nl' sz (ints out) 0))]⟩)
    (fun i => i ≤ l.length) (fun i => l.length - i) 0 (by kernel_rfl) (by simp) (by simp [St.le, nextL, endsOf]) ?_
  intro i hi
  by_cases hlt : i < l.length
  · have hw : IntKind.i64.wrap ((i : Int) + 1) = (i : Int) + 1 := IntWalk.i64_in _ (by omega)
    have hes := endsOf_snoc l hlt
    simp -dsimp [hlt, Per.cells]
    refine VC.mk _ (refRight_at' _ l[i] rfl) ?_
    simp -dsimp
    refine VIf.mk (fun h2 => ?_) (fun h2 => ?_)
    · have hr : right l[i] = false := by simpa using h2
      rw [hr, if_neg (by simp), List.append_nil] at hes
      simp -dsimp [hw]
      refine ⟨i + 1, by omega, ?_, by omega⟩
      simp [St.le, hes]
    · have hr : right l[i] = true := by simpa using h2
      rw [hr, if_pos rfl] at hes
      simp -dsimp [hlt, Per.cells]
      refine VL.draw (by kernel_rfl) [(0, false), (0, false), (3, false), (7, false), (15, false), (0, false), (0, false), (96, false), (224, false), (480, false), (1023, false), (0, false)] (by kernel_rfl) ?_
      simp -dsimp [hlt, Per.cells]
      refine VL.loop (fun j : Nat => ⟨[(32, .c (i64 j)), (31, .agg [i64 l[i].f, i64 l[i].t]), (5, .c (i64 i)), (4, .c (i64 (nextL out (endsOf (l.take i) ++ two l[i] j)))), (3, .own 192 out.length), (0, .c (.sl nl (l.map Per.cells)))], [(192, some (.arr nl' sz (ints out) 0))]⟩)
        (fun j => j ≤ 2) (fun j => 2 - j) 0 (by kernel_rfl) (by simp) (by simp [St.le, two]) ?_
      intro j hj
      have hws : IntKind.i64.wrap ((out.length : Int) - 1) = (out.length : Int) - 1 := IntWalk.i64_in _ (by omega)
      have h012 : j = 0 ∨ j = 1 ∨ j = 2 := by omega
      rcases h012 with rfl | rfl | rfl
      · have hn2 : nextL out (endsOf (l.take i) ++ two l[i] 1) = nextS out (nextL out (endsOf (l.take i) ++ two l[i] 0)) l[i].f := by
          rw [← nextL_snoc]; simp [two]
        generalize nextL out (endsOf (l.take i) ++ two l[i] 0) = n at *
        simp -dsimp
        match out, hnl, hn2, hol, hsz, hnext, ho, hnx, hws with
        | [], hnl, hn2, hol, _, _, _, _, _ =>
          simp -dsimp [defC]
          refine VIf.mk (fun h => ?_) (fun h => ?_)
          · refine ⟨1, by omega, ?_, by omega⟩
            have e : nextS [] n l[i].f = l[i].f := by
              unfold nextS
              rw [if_pos]
              simp [laterB] at h ⊢; omega
            simp [St.le, hn2, e]
          · refine ⟨1, by omega, ?_, by omega⟩
            have e : nextS [] n l[i].f = n := by
              unfold nextS
              rw [if_neg]
              simp [laterB] at h ⊢; omega
            simp [St.le, hn2, e]
        | x :: r, hnl, hn2, hol, hsz, _, _, _, hws =>
          generalize hout : x :: r = out at *
          have hne : 0 < out.length := by rw [← hout]; simp
          have hT : IntKind.i64.wrap ((out.length : Int) - 1) = ((out.length - 1 : Nat) : Int) := by rw [hws]; omega
          have hl1 : out.length - 1 < out.length := by omega
          have hg : (ints out)[out.length - 1]?.getD [] = [i64 out[out.length - 1]] := ints_get _ _ hl1
          have hlast : out[out.length - 1]! = out[out.length - 1] := getElem!_pos out _ hl1
          have hn0 : ((out.length : Int) == 0) = false := by simp; intro e; rw [e] at hne; simp at hne
          have hnl2 : nl' = false := by rw [hnl, ← hout]; rfl
          have hsz2 : sz = 1 := by rw [hsz, ← hout]; rfl
          subst hnl2 hsz2
          have hd : nextS out n l[i].f = if laterB out l[i].f = true ∧ (n < 0 ∨ l[i].f < n) then l[i].f else n := by
            unfold nextS; simp
          have hlb : laterB out l[i].f = decide (out[out.length - 1] < l[i].f) := by
            unfold laterB; rw [hlast]; simp; intro e; rw [e] at hne; simp at hne
          simp -dsimp [hn0, hT, hl1]
          refine ⟨fun a => ⟨a, fun b => ⟨a, b⟩⟩, VIf.mk (fun h => ?_) (fun h => ?_)⟩
          · refine ⟨1, by omega, ?_, by omega⟩
            have e : nextS out n l[i].f = l[i].f := by
              rw [hd, if_pos]
              rw [hlb]
              simp at h ⊢; omega
            simp [St.le, hn2, e]
          · refine ⟨1, by omega, ?_, by omega⟩
            have e : nextS out n l[i].f = n := by
              rw [hd, if_neg]
              rw [hlb]
              simp at h ⊢; omega
            simp [St.le, hn2, e]
      · have hn2 : nextL out (endsOf (l.take i) ++ two l[i] 2) = nextS out (nextL out (endsOf (l.take i) ++ two l[i] 1)) l[i].t := by
          rw [← nextL_snoc]; simp [two]
        generalize nextL out (endsOf (l.take i) ++ two l[i] 1) = n at *
        simp -dsimp
        match out, hnl, hn2, hol, hsz, hnext, ho, hnx, hws with
        | [], hnl, hn2, hol, _, _, _, _, _ =>
          simp -dsimp [defC]
          refine VIf.mk (fun h => ?_) (fun h => ?_)
          · refine ⟨2, by omega, ?_, by omega⟩
            have e : nextS [] n l[i].t = l[i].t := by
              unfold nextS
              rw [if_pos]
              simp [laterB] at h ⊢; omega
            simp [St.le, hn2, e]
          · refine ⟨2, by omega, ?_, by omega⟩
            have e : nextS [] n l[i].t = n := by
              unfold nextS
              rw [if_neg]
              simp [laterB] at h ⊢; omega
            simp [St.le, hn2, e]
        | x :: r, hnl, hn2, hol, hsz, _, _, _, hws =>
          generalize hout : x :: r = out at *
          have hne : 0 < out.length := by rw [← hout]; simp
          have hT : IntKind.i64.wrap ((out.length : Int) - 1) = ((out.length - 1 : Nat) : Int) := by rw [hws]; omega
          have hl1 : out.length - 1 < out.length := by omega
          have hg : (ints out)[out.length - 1]?.getD [] = [i64 out[out.length - 1]] := ints_get _ _ hl1
          have hlast : out[out.length - 1]! = out[out.length - 1] := getElem!_pos out _ hl1
          have hn0 : ((out.length : Int) == 0) = false := by simp; intro e; rw [e] at hne; simp at hne
          have hnl2 : nl' = false := by rw [hnl, ← hout]; rfl
          have hsz2 : sz = 1 := by rw [hsz, ← hout]; rfl
          subst hnl2 hsz2
          have hd : nextS out n l[i].t = if laterB out l[i].t = true ∧ (n < 0 ∨ l[i].t < n) then l[i].t else n := by
            unfold nextS; simp
          have hlb : laterB out l[i].t = decide (out[out.length - 1] < l[i].t) := by
            unfold laterB; rw [hlast]; simp; intro e; rw [e] at hne; simp at hne
          simp -dsimp [hn0, hT, hl1]
          refine ⟨fun a => ⟨a, fun b => ⟨a, b⟩⟩, VIf.mk (fun h => ?_) (fun h => ?_)⟩
          · refine ⟨2, by omega, ?_, by omega⟩
            have e : nextS out n l[i].t = l[i].t := by
              rw [hd, if_pos]
              rw [hlb]
              simp at h ⊢; omega
            simp [St.le, hn2, e]
          · refine ⟨2, by omega, ?_, by omega⟩
            have e : nextS out n l[i].t = n := by
              rw [hd, if_neg]
              rw [hlb]
              simp at h ⊢; omega
            simp [St.le, hn2, e]
      · have hn2 : nextL out (endsOf (l.take i) ++ two l[i] 2) = nextL out (endsOf (l.take (i + 1))) := by rw [hes]; rfl
        simp -dsimp [hw]
        refine ⟨i + 1, by omega, ?_, by omega⟩
        simp [St.le, hn2]
  · obtain rfl : i = l.length := by omega
    rw [List.take_length, hnx]
    simp -dsimp
    by_cases hkl : k < E.length
    · have hpos : 0 ≤ E[k] := hpos0 _ (List.getElem_mem hkl)
      rw [dif_pos hkl]
      have hsn := hsn hkl
      have hd : decide (E[k] < 0) = false := by simp; omega
      simp -dsimp [hd, maxLen]
      refine ⟨fun e => by rw [hsz]; rw [hnl] at e; simp [ez, e], by omega, ⟨k + 1, false, 1⟩, ⟨hkl, ?_, ?_⟩, ?_, by simp; omega⟩
      · rw [hsn]; simp
      · rw [hsn]; simp [ez]
      · simp [St.le, hsn, ints]
        omega
    · rw [dif_neg hkl]
      obtain rfl : k = E.length := by omega
      rw [List.take_length] at ho
      subst ho
      simp -dsimp
      exact ⟨hnl, hsz⟩
end Go.Proofs.Ytdpjdmgdngjjnaa
