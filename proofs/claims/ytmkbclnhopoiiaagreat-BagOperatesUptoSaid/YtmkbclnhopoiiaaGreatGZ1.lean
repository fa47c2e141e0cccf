/- BagOperates: what raw facts come to, in their normal form, by each operation, is the document's, which looks at each instant by itself. Over every argument whose bulk is at most 2^20. -/
import Derived.Test.YtmkbclnhopoiiaaGreatBZV
import Derived.Test.YtmkbclnhopoiiaaGreatGJ1
set_option linter.unusedSimpArgs false
set_option linter.unusedVariables false
namespace Go.Proofs.YtmkbclnhopoiiaaGreat
open Go.VL Go.RowKit

set_option maxRecDepth 100000 in
theorem open_ask (R : Nat) (s : S) (h : FitsS Tryz.prog R 8 27 s) : ∃ (p : Per) (t : Int) (nc : Bool) (cs : List Int) (c : Int), s = .agg [i64 p.f, i64 p.t, i64 t, .sl nc (ints cs), i64 c] ∧ cs.length * 8 ≤ R := by
  obtain ⟨xs, rfl, h0⟩ := FitsS.struct Tryz.underlying27 h
  obtain ⟨a1, _, rfl, h1, a2, _, rfl, h2, a3, _, rfl, h3, a4, _, rfl, h4, rfl⟩ := fits_struct Tryz.underlying27 h0
  obtain ⟨p, rfl, _⟩ := open_per R _ _ h1
  obtain ⟨t, rfl, _⟩ := fits_i64 Tryz.underlying2 h2
  obtain ⟨nc, ys, rfl, _, hl, hys⟩ := fits_slice Tryz.underlying25 h3
  obtain ⟨cs, rfl, _⟩ := fits_list (fun c : Int => [i64 c]) (fun _ => True) (fun xs hx => by
    obtain ⟨k, rfl, _⟩ := fits_i64 Tryz.underlying3 hx
    exact ⟨k, rfl, trivial⟩) hys
  obtain ⟨c, rfl, _⟩ := fits_i64 Tryz.underlying3 h4
  rw [show Tryz.prog.bytesOf 3 = 8 from by kernel_rfl] at hl
  exact ⟨p, t, nc, cs, c, rfl, by simpa using hl⟩

set_option maxRecDepth 100000 in
theorem operates_con (ss : List S) (h : FitsAll Tryz.prog 41943040 8 [22, 22, 27] ss) : Con Tryz.prog 3 ss [.c (.v (.bool true))] := by
  obtain ⟨s1, _, rfl, h1, s2, _, rfl, h2, s3, _, rfl, h3, rfl⟩ := h
  obtain ⟨nl1, l1, rfl, hn1, hl1, hr1, hv1⟩ := open_factsV _ s1 h1
  obtain ⟨nl2, l2, rfl, hn2, hl2, hr2, hv2⟩ := open_factsV _ s2 h2
  obtain ⟨p, t, nc, cs, c, rfl, hc⟩ := open_ask _ s3 h3
  exact operates_spec sorts_ok sortsI_ok sortsF_ok nl1 nl2 nc l1 l2 p t cs c (by omega) (by omega) (by omega) (fun f hf => by have := hr1 f hf; omega) (fun f hf => by have := hr2 f hf; omega) hv1

set_option maxRecDepth 100000 in
theorem operates_lifted (os : Os) (started : os.Started) (H : Type) (enc : TypeId × Value → H) (F : Stop.Interp) :
    ReturnsInHanded {} Tryz.checked os 3 .any ((Rows.OpenSpec.upto Rows.bagOperatesSpec).pre6 enc Tryz.prog Tryz.f3 Rows.bagOperatesUptoRow.domain false) (((Rows.OpenSpec.upto Rows.bagOperatesSpec).at F).post enc Tryz.prog Tryz.f3 false true false false) := by
  refine returnsInHanded_of_cond (C := Tryz.checked) (s := Rows.OpenSpec.upto Rows.bagOperatesSpec) (k := Rows.uptoSmall) rfl own started (by kernel_rfl) Tryz.func3
    (OpenSpec.witness (enc := enc) (C := Tryz.checked) (s := Rows.OpenSpec.upto Rows.bagOperatesSpec) (k := Rows.uptoSmall) rfl false ⟨#[], #[.slice none 0 0, .slice none 0 0, .agg #[.int .i64 0, .int .i64 0, .int .i64 0, .slice none 0 0, .int .i64 0]], []⟩ 8 (by kernel_rfl) (by kernel_rfl) (by kernel_rfl)
      (x := ([.nil, .nil, .agg [.agg [.lit (.int .i64 0), .lit (.int .i64 0)], .lit (.int .i64 0), .nil, .lit (.int .i64 0)]], [], [])) (by kernel_rfl) rfl (by kernel_rfl)) ?_
  intro W base args ds gs before hval hW _ hk _
  exact law_calls 8 laid (by kernel_rfl) rfl (fun ds hds => by
    match ds, hds with
    | [_, _, _], _ => rfl) rfl Tryz.underlying4 (fun ss h _ => operates_con ss h) hval hW (upto_weights40 8 (by kernel_rfl) hk)

set_option maxRecDepth 100000 in
theorem operates_holds : Rows.BagOperatesUptoSaid :=
  OpenClaim.holds_of_cond 3 Tryz.f3 rfl rfl rfl rfl rfl rfl rfl ⟨rfl, rfl, rfl, rfl, rfl⟩ rfl rfl rfl rfl rfl (by kernel_rfl) Tryz.func3 (by kernel_rfl)
    (of_decide_eq_true (by kernel_rfl)) (by unfold Func.isWrapper; first | (rw [if_pos (by decide +kernel)]; kernel_rfl) | (rw [if_neg (by decide +kernel)]; exact ⟨rfl, rfl⟩))
    (fun os started H enc _ F => operates_lifted os started H enc F)
end Go.Proofs.YtmkbclnhopoiiaaGreat
