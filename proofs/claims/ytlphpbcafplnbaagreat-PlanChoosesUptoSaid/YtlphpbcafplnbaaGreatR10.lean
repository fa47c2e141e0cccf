/- Contracts of functions of the seat, proved in a logic on data over the model (part R10). -/
import Derived.Test.YtlphpbcafplnbaaGreatRC
import Derived.Test.YtlphpbcafplnbaaGreatP16
import Derived.HandedShaped
import Derived.JoinedCond
set_option linter.unusedSimpArgs false
set_option linter.unusedVariables false
namespace Go.Proofs.YtlphpbcafplnbaaGreat
open Go.VL Go.RowKit
theorem dry_good {w : Qn} (h : w.Sm) (hc : checkQ (askQ w) = 0) : (dryQ w).Good (scQ w).length where
  good := ask_good h hc
  chk := hc
  len := taken_len _ _
  sc := by show (scQ w).length ≤ 1000; unfold scQ; cases w.two <;> decide
  fit := fun e he => by
    have h1 := (List.mem_filter.1 (show e ∈ takenK w w.cs.length from he)).1
    rw [List.take_length] at h1
    exact h.fit e h1
  own := fun fr n => own_any (scQ w) (scQ w).length fr n _ (termK_bd w w.cs.length)
set_option maxRecDepth 100000 in
theorem open_pln (R n : Nat) (s : S) (h : FitsS Tryz.prog R n 87 s) : ∃ p : Pln, s = .agg p.cells := by
  obtain ⟨xs, rfl, h0⟩ := FitsS.struct Tryz.underlying87 h
  obtain ⟨n, rfl⟩ := fits_pos h0
  obtain ⟨a1, _, rfl, h1, a2, _, rfl, h2, a3, _, rfl, h3, a4, _, rfl, h4, rfl⟩ := fits_struct Tryz.underlying87 h0
  obtain ⟨sw, rfl⟩ := fit_bool h1
  obtain ⟨way, rfl, _⟩ := fit_i64 Tryz.underlying3 h2
  obtain ⟨pu, rfl⟩ := fit_bool h3
  obtain ⟨ea, rfl⟩ := fit_bool h4
  exact ⟨⟨sw, way, pu, ea⟩, rfl⟩
set_option maxRecDepth 100000 in
theorem chooses_con (ss : List S) (h : FitsAllR Tryz.prog 4294967296 [85, 3, 87] ss) : Con Tryz.prog 10 ss [.c (.v (.bool true))] := by
  obtain ⟨s1, _, n1, rfl, h1, s2, _, n2, rfl, h2, s3, _, n3, rfl, h3, rfl⟩ := h
  obtain ⟨w, rfl, hw⟩ := open_qn _ n1 rfl s1 h1
  obtain ⟨o, rfl⟩ := open_int3 _ n2 s2 h2
  obtain ⟨p, rfl⟩ := open_pln _ n3 s3 h3
  exact chooses_spec sorts_ok sortsI_ok sortsF_ok sortsJ_ok w (scQ w).length o p hw.c hw.fit (ask_fit hw) (dry_good hw)
set_option maxRecDepth 100000 in
theorem chooses_lifted (os : Os) (started : os.Started) (H : Type) (enc : TypeId × Value → H) (F : Stop.Interp) :
    ReturnsInHanded {} Tryz.checked os 10 .any ((Rows.OpenSpec.upto Rows.planChoosesSpec).pre6 enc Tryz.prog Tryz.f10 Rows.planChoosesUptoRow.domain false) (((Rows.OpenSpec.upto Rows.planChoosesSpec).at F).post enc Tryz.prog Tryz.f10 false true false false) := by
  refine returnsInHanded_of_cond (C := Tryz.checked) (s := Rows.OpenSpec.upto Rows.planChoosesSpec) (k := Rows.uptoSmall) rfl own started (by kernel_rfl) Tryz.func10
    (OpenSpec.witness (enc := enc) (C := Tryz.checked) (s := Rows.OpenSpec.upto Rows.planChoosesSpec) (k := Rows.uptoSmall) rfl false ⟨#[], #[.agg #[.slice none 0 0, .slice none 0 0, .bool false, .bool false, .bool false, .slice none 0 0, .slice none 0 0, .int .i64 0, .bool false], .int .i64 0, .agg #[.bool false, .int .i64 0, .bool false, .bool false]], []⟩ 8 (by kernel_rfl) (by kernel_rfl) (by kernel_rfl)
      (x := ([.agg [.nil, .nil, .lit (.bool false), .agg [.lit (.bool false), .lit (.bool false)], .nil, .nil, .lit (.int .i64 0), .lit (.bool false)], .lit (.int .i64 0), .agg [.lit (.bool false), .lit (.int .i64 0), .lit (.bool false), .lit (.bool false)]], [], [])) (by kernel_rfl) rfl (by kernel_rfl)) ?_
  intro W base args ds gs before hval hW _ hk _
  exact law_callsR [85, 3, 87, 22, 40, 36, 58, 38, 2, 9, 4, 82, 60, 65, 83] (by kernel_rfl) laid (by kernel_rfl) rfl (fun ds hds => by
    match ds, hds with
    | [_, _, _], _ => rfl) rfl Tryz.underlying4 (fun ss h _ => chooses_con ss h) hval hW (upto_weightsR [85, 3, 87, 22, 40, 36, 58, 38, 2, 9, 4, 82, 60, 65, 83] (by kernel_rfl) (by kernel_rfl) hk)
end Go.Proofs.YtlphpbcafplnbaaGreat
