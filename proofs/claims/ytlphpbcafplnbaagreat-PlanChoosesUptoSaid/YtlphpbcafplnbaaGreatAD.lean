/- Contracts of functions of the seat, proved in a logic on data over the model (part AD). -/
import Derived.Test.YtlphpbcafplnbaaGreatVC
import Derived.Test.YtlphpbcafplnbaaGreatProg
import Derived.KernelRfl
set_option linter.unusedSimpArgs false
set_option linter.unusedVariables false
namespace Go.Proofs.YtlphpbcafplnbaaGreat
open Go.VL Go.RowKit
@[simp] theorem ft_tySz_0 : tySz Tryz.prog 0 = some (false, 1) := by kernel_rfl
@[simp] theorem ft_dfl_0 : dflC Tryz.prog 0 = .v (.int .i64 0) := by kernel_rfl
@[simp] theorem ft_zeroOf_0 : zeroOf Tryz.prog 0 = some (Value.tuple [].toArray) := by kernel_rfl
@[simp] theorem ft_isIface_0 : isIface Tryz.prog 0 = false := by kernel_rfl
@[simp] theorem ft_und_0 : (Tryz.prog.underlying 0).isSome = true := by kernel_rfl
@[simp] theorem ft_tySz_1 : tySz Tryz.prog 1 = some (false, 1) := by kernel_rfl
@[simp] theorem ft_dfl_1 : dflC Tryz.prog 1 = .v (.int .i64 0) := by kernel_rfl
@[simp] theorem ft_zeroOf_1 : zeroOf Tryz.prog 1 = some Value.nilFunc := by kernel_rfl
@[simp] theorem ft_isIface_1 : isIface Tryz.prog 1 = false := by kernel_rfl
@[simp] theorem ft_und_1 : (Tryz.prog.underlying 1).isSome = true := by kernel_rfl
@[simp] theorem ft_tySz_2 : tySz Tryz.prog 2 = some (false, 1) := by kernel_rfl
@[simp] theorem ft_dfl_2 : dflC Tryz.prog 2 = .v (.int .i64 0) := by kernel_rfl
@[simp] theorem ft_intOfTy_2 : intOfTy Tryz.prog 2 = some IntKind.i64 := by kernel_rfl
@[simp] theorem ft_zeroOf_2 : zeroOf Tryz.prog 2 = some (Value.int IntKind.i64 (0)) := by kernel_rfl
@[simp] theorem ft_isIface_2 : isIface Tryz.prog 2 = false := by kernel_rfl
@[simp] theorem ft_und_2 : (Tryz.prog.underlying 2).isSome = true := by kernel_rfl
@[simp] theorem ft_tySz_3 : tySz Tryz.prog 3 = some (false, 1) := by kernel_rfl
@[simp] theorem ft_dfl_3 : dflC Tryz.prog 3 = .v (.int .i64 0) := by kernel_rfl
@[simp] theorem ft_intOfTy_3 : intOfTy Tryz.prog 3 = some IntKind.i64 := by kernel_rfl
@[simp] theorem ft_zeroOf_3 : zeroOf Tryz.prog 3 = some (Value.int IntKind.i64 (0)) := by kernel_rfl
@[simp] theorem ft_isIface_3 : isIface Tryz.prog 3 = false := by kernel_rfl
@[simp] theorem ft_und_3 : (Tryz.prog.underlying 3).isSome = true := by kernel_rfl
@[simp] theorem ft_tySz_4 : tySz Tryz.prog 4 = some (false, 1) := by kernel_rfl
@[simp] theorem ft_dfl_4 : dflC Tryz.prog 4 = .v (.bool false) := by kernel_rfl
@[simp] theorem ft_zeroOf_4 : zeroOf Tryz.prog 4 = some (Value.bool false) := by kernel_rfl
@[simp] theorem ft_isIface_4 : isIface Tryz.prog 4 = false := by kernel_rfl
@[simp] theorem ft_und_4 : (Tryz.prog.underlying 4).isSome = true := by kernel_rfl
@[simp] theorem ft_tySz_5 : tySz Tryz.prog 5 = some (false, 1) := by kernel_rfl
@[simp] theorem ft_dfl_5 : dflC Tryz.prog 5 = .v (.int .i64 0) := by kernel_rfl
@[simp] theorem ft_intOfTy_5 : intOfTy Tryz.prog 5 = some IntKind.u8 := by kernel_rfl
@[simp] theorem ft_zeroOf_5 : zeroOf Tryz.prog 5 = some (Value.int IntKind.u8 (0)) := by kernel_rfl
@[simp] theorem ft_isIface_5 : isIface Tryz.prog 5 = false := by kernel_rfl
@[simp] theorem ft_und_5 : (Tryz.prog.underlying 5).isSome = true := by kernel_rfl
@[simp] theorem ft_tySz_6 : tySz Tryz.prog 6 = some (false, 1) := by kernel_rfl
@[simp] theorem ft_dfl_6 : dflC Tryz.prog 6 = .v (.int .i64 0) := by kernel_rfl
@[simp] theorem ft_intOfTy_6 : intOfTy Tryz.prog 6 = some IntKind.u8 := by kernel_rfl
@[simp] theorem ft_zeroOf_6 : zeroOf Tryz.prog 6 = some (Value.int IntKind.u8 (0)) := by kernel_rfl
@[simp] theorem ft_isIface_6 : isIface Tryz.prog 6 = false := by kernel_rfl
@[simp] theorem ft_und_6 : (Tryz.prog.underlying 6).isSome = true := by kernel_rfl
@[simp] theorem ft_tySz_7 : tySz Tryz.prog 7 = some (true, 4) := by kernel_rfl
@[simp] theorem ft_dfl_7 : dflC Tryz.prog 7 = .v (.int .i64 0) := by kernel_rfl
@[simp] theorem ft_zeroOf_7 : zeroOf Tryz.prog 7 = some (Value.agg [Value.int IntKind.i64 (0), Value.int IntKind.i64 (0), Value.bool false, Value.int IntKind.u8 (0)].toArray) := by kernel_rfl
@[simp] theorem ft_plOf_7 : plOf Tryz.prog 7 = some (Sum.inl [(0, 1), (1, 1), (2, 1), (3, 1)]) := by kernel_rfl
@[simp] theorem ft_eqT_7 : eqT Tryz.prog 7 = some [FK.i, FK.i, FK.b, FK.i] := by kernel_rfl
@[simp] theorem ft_isIface_7 : isIface Tryz.prog 7 = false := by kernel_rfl
@[simp] theorem ft_und_7 : (Tryz.prog.underlying 7).isSome = true := by kernel_rfl
@[simp] theorem ft_fldOf_7_0 : fldOf Tryz.prog 7 0 = some (0, false, 1) := by kernel_rfl
@[simp] theorem ft_fldOf_7_1 : fldOf Tryz.prog 7 1 = some (1, false, 1) := by kernel_rfl
@[simp] theorem ft_fldOf_7_2 : fldOf Tryz.prog 7 2 = some (2, false, 1) := by kernel_rfl
@[simp] theorem ft_fldOf_7_3 : fldOf Tryz.prog 7 3 = some (3, false, 1) := by kernel_rfl
@[simp] theorem ft_tySz_9 : tySz Tryz.prog 9 = some (false, 1) := by kernel_rfl
@[simp] theorem ft_dfl_9 : dflC Tryz.prog 9 = .v (.int .i64 0) := by kernel_rfl
@[simp] theorem ft_zeroOf_9 : zeroOf Tryz.prog 9 = some (Value.string ⟨#[]⟩) := by kernel_rfl
@[simp] theorem ft_isIface_9 : isIface Tryz.prog 9 = false := by kernel_rfl
@[simp] theorem ft_und_9 : (Tryz.prog.underlying 9).isSome = true := by kernel_rfl
@[simp] theorem ft_tySz_20 : tySz Tryz.prog 20 = some (false, 1) := by kernel_rfl
@[simp] theorem ft_dfl_20 : dflC Tryz.prog 20 = .v (.int .i64 0) := by kernel_rfl
@[simp] theorem ft_zeroOf_20 : zeroOf Tryz.prog 20 = some Value.nilIface := by kernel_rfl
@[simp] theorem ft_isIf_20 : isIf Tryz.prog 20 = true := by kernel_rfl
@[simp] theorem ft_und_20 : (Tryz.prog.underlying 20).isSome = true := by kernel_rfl
@[simp] theorem ft_tySz_22 : tySz Tryz.prog 22 = some (false, 1) := by kernel_rfl
@[simp] theorem ft_esz_22 : esz Tryz.prog 22 = some 3 := by kernel_rfl
@[simp] theorem ft_dfl_22 : dflC Tryz.prog 22 = .sl true [] := by kernel_rfl
@[simp] theorem ft_isSl_22 : isSl Tryz.prog 22 = true := by kernel_rfl
@[simp] theorem ft_zeroOf_22 : zeroOf Tryz.prog 22 = some (Value.slice none 0 0) := by kernel_rfl
@[simp] theorem ft_elZ_22 : elZ Tryz.prog 22 = some (3, [C.sl true [], C.v (Value.int IntKind.i64 (0)), C.v (Value.int IntKind.i64 (0))]) := by kernel_rfl
@[simp] theorem ft_slT_22 : slT Tryz.prog 22 = some (3, 40) := by kernel_rfl
@[simp] theorem ft_apT_22 : apT Tryz.prog 22 22 = some (3, 40) := by kernel_rfl
@[simp ↓] theorem ft_vmk_22 (l c : S) (y : Nat) (st : St) (K : St → Prop) : vmk Tryz.prog 22 l c y st K = force (tick (sint l)) fun l => force (tick (sint c)) fun c => vmkZ (some (3, [C.sl true [], C.v (Value.int IntKind.i64 (0)), C.v (Value.int IntKind.i64 (0))])) (some (3, 40)) l c y st K := vmk_iff st K 22 l c y ft_elZ_22 ft_slT_22
@[simp] theorem ft_isIface_22 : isIface Tryz.prog 22 = false := by kernel_rfl
@[simp] theorem ft_und_22 : (Tryz.prog.underlying 22).isSome = true := by kernel_rfl
@[simp] theorem ft_tySz_26 : tySz Tryz.prog 26 = some (false, 1) := by kernel_rfl
@[simp] theorem ft_dfl_26 : dflC Tryz.prog 26 = .v (.int .i64 0) := by kernel_rfl
@[simp] theorem ft_zeroOf_26 : zeroOf Tryz.prog 26 = some Value.nilIface := by kernel_rfl
@[simp] theorem ft_isIf_26 : isIf Tryz.prog 26 = true := by kernel_rfl
@[simp] theorem ft_und_26 : (Tryz.prog.underlying 26).isSome = true := by kernel_rfl
@[simp] theorem ft_tySz_27 : tySz Tryz.prog 27 = some (false, 1) := by kernel_rfl
@[simp] theorem ft_dfl_27 : dflC Tryz.prog 27 = .v (.int .i64 0) := by kernel_rfl
@[simp] theorem ft_intOfTy_27 : intOfTy Tryz.prog 27 = some IntKind.i64 := by kernel_rfl
@[simp] theorem ft_zeroOf_27 : zeroOf Tryz.prog 27 = some (Value.int IntKind.i64 (0)) := by kernel_rfl
@[simp] theorem ft_isIface_27 : isIface Tryz.prog 27 = false := by kernel_rfl
@[simp] theorem ft_und_27 : (Tryz.prog.underlying 27).isSome = true := by kernel_rfl
@[simp] theorem ft_tySz_28 : tySz Tryz.prog 28 = some (false, 1) := by kernel_rfl
@[simp] theorem ft_dfl_28 : dflC Tryz.prog 28 = .v (.int .i64 0) := by kernel_rfl
@[simp] theorem ft_zeroOf_28 : zeroOf Tryz.prog 28 = some (Value.tuple [Value.nilIface, Value.int IntKind.i64 (0)].toArray) := by kernel_rfl
@[simp] theorem ft_isIface_28 : isIface Tryz.prog 28 = false := by kernel_rfl
@[simp] theorem ft_und_28 : (Tryz.prog.underlying 28).isSome = true := by kernel_rfl
@[simp] theorem ft_tySz_36 : tySz Tryz.prog 36 = some (false, 1) := by kernel_rfl
@[simp] theorem ft_esz_36 : esz Tryz.prog 36 = some 3 := by kernel_rfl
@[simp] theorem ft_dfl_36 : dflC Tryz.prog 36 = .sl true [] := by kernel_rfl
@[simp] theorem ft_isSl_36 : isSl Tryz.prog 36 = true := by kernel_rfl
@[simp] theorem ft_zeroOf_36 : zeroOf Tryz.prog 36 = some (Value.slice none 0 0) := by kernel_rfl
@[simp] theorem ft_elZ_36 : elZ Tryz.prog 36 = some (3, [C.v (Value.int IntKind.i64 (0)), C.v (Value.int IntKind.i64 (0)), C.v (Value.string ⟨#[]⟩)]) := by kernel_rfl
@[simp] theorem ft_slT_36 : slT Tryz.prog 36 = some (3, 32) := by kernel_rfl
@[simp] theorem ft_apT_36 : apT Tryz.prog 36 36 = some (3, 32) := by kernel_rfl
@[simp ↓] theorem ft_vmk_36 (l c : S) (y : Nat) (st : St) (K : St → Prop) : vmk Tryz.prog 36 l c y st K = force (tick (sint l)) fun l => force (tick (sint c)) fun c => vmkZ (some (3, [C.v (Value.int IntKind.i64 (0)), C.v (Value.int IntKind.i64 (0)), C.v (Value.string ⟨#[]⟩)])) (some (3, 32)) l c y st K := vmk_iff st K 36 l c y ft_elZ_36 ft_slT_36
@[simp] theorem ft_isIface_36 : isIface Tryz.prog 36 = false := by kernel_rfl
@[simp] theorem ft_und_36 : (Tryz.prog.underlying 36).isSome = true := by kernel_rfl
@[simp] theorem ft_tySz_38 : tySz Tryz.prog 38 = some (true, 2) := by kernel_rfl
@[simp] theorem ft_dfl_38 : dflC Tryz.prog 38 = .v (.int .i64 0) := by kernel_rfl
@[simp] theorem ft_zeroOf_38 : zeroOf Tryz.prog 38 = some (Value.agg [Value.int IntKind.i64 (0), Value.int IntKind.i64 (0)].toArray) := by kernel_rfl
@[simp] theorem ft_plOf_38 : plOf Tryz.prog 38 = some (Sum.inl [(0, 1), (1, 1)]) := by kernel_rfl
@[simp] theorem ft_eqT_38 : eqT Tryz.prog 38 = some [FK.i, FK.i] := by kernel_rfl
@[simp] theorem ft_isIface_38 : isIface Tryz.prog 38 = false := by kernel_rfl
@[simp] theorem ft_und_38 : (Tryz.prog.underlying 38).isSome = true := by kernel_rfl
@[simp] theorem ft_fldOf_38_0 : fldOf Tryz.prog 38 0 = some (0, false, 1) := by kernel_rfl
@[simp] theorem ft_fldOf_38_1 : fldOf Tryz.prog 38 1 = some (1, false, 1) := by kernel_rfl
@[simp] theorem ft_tySz_40 : tySz Tryz.prog 40 = some (true, 3) := by kernel_rfl
@[simp] theorem ft_dfl_40 : dflC Tryz.prog 40 = .v (.int .i64 0) := by kernel_rfl
@[simp] theorem ft_zeroOf_40 : zeroOf Tryz.prog 40 = some (Value.agg [Value.slice none 0 0, Value.int IntKind.i64 (0), Value.int IntKind.i64 (0)].toArray) := by kernel_rfl
@[simp] theorem ft_plOf_40 : plOf Tryz.prog 40 = some (Sum.inl [(0, 1), (1, 2)]) := by kernel_rfl
@[simp] theorem ft_isIface_40 : isIface Tryz.prog 40 = false := by kernel_rfl
@[simp] theorem ft_und_40 : (Tryz.prog.underlying 40).isSome = true := by kernel_rfl
@[simp] theorem ft_fldOf_40_0 : fldOf Tryz.prog 40 0 = some (0, false, 1) := by kernel_rfl
@[simp] theorem ft_fldOf_40_1 : fldOf Tryz.prog 40 1 = some (1, true, 2) := by kernel_rfl
@[simp] theorem ft_tySz_45 : tySz Tryz.prog 45 = some (false, 1) := by kernel_rfl
@[simp] theorem ft_esz_45 : esz Tryz.prog 45 = some 1 := by kernel_rfl
@[simp] theorem ft_dfl_45 : dflC Tryz.prog 45 = .sl true [] := by kernel_rfl
@[simp] theorem ft_isSl_45 : isSl Tryz.prog 45 = true := by kernel_rfl
@[simp] theorem ft_zeroOf_45 : zeroOf Tryz.prog 45 = some (Value.slice none 0 0) := by kernel_rfl
@[simp] theorem ft_elZ_45 : elZ Tryz.prog 45 = some (1, [C.sl true []]) := by kernel_rfl
@[simp] theorem ft_slT_45 : slT Tryz.prog 45 = some (1, 24) := by kernel_rfl
@[simp] theorem ft_apT_45 : apT Tryz.prog 45 45 = some (1, 24) := by kernel_rfl
@[simp ↓] theorem ft_vmk_45 (l c : S) (y : Nat) (st : St) (K : St → Prop) : vmk Tryz.prog 45 l c y st K = force (tick (sint l)) fun l => force (tick (sint c)) fun c => vmkZ (some (1, [C.sl true []])) (some (1, 24)) l c y st K := vmk_iff st K 45 l c y ft_elZ_45 ft_slT_45
@[simp] theorem ft_isIface_45 : isIface Tryz.prog 45 = false := by kernel_rfl
@[simp] theorem ft_und_45 : (Tryz.prog.underlying 45).isSome = true := by kernel_rfl
@[simp] theorem ft_tySz_53 : tySz Tryz.prog 53 = some (false, 1) := by kernel_rfl
@[simp] theorem ft_esz_53 : esz Tryz.prog 53 = some 1 := by kernel_rfl
@[simp] theorem ft_dfl_53 : dflC Tryz.prog 53 = .sl true [] := by kernel_rfl
@[simp] theorem ft_isSl_53 : isSl Tryz.prog 53 = true := by kernel_rfl
@[simp] theorem ft_zeroOf_53 : zeroOf Tryz.prog 53 = some (Value.slice none 0 0) := by kernel_rfl
@[simp] theorem ft_elZ_53 : elZ Tryz.prog 53 = some (1, [C.v (Value.int IntKind.i64 (0))]) := by kernel_rfl
@[simp] theorem ft_slT_53 : slT Tryz.prog 53 = some (1, 8) := by kernel_rfl
@[simp] theorem ft_apT_53 : apT Tryz.prog 53 53 = some (1, 8) := by kernel_rfl
@[simp ↓] theorem ft_vmk_53 (l c : S) (y : Nat) (st : St) (K : St → Prop) : vmk Tryz.prog 53 l c y st K = force (tick (sint l)) fun l => force (tick (sint c)) fun c => vmkZ (some (1, [C.v (Value.int IntKind.i64 (0))])) (some (1, 8)) l c y st K := vmk_iff st K 53 l c y ft_elZ_53 ft_slT_53
@[simp] theorem ft_isIface_53 : isIface Tryz.prog 53 = false := by kernel_rfl
@[simp] theorem ft_und_53 : (Tryz.prog.underlying 53).isSome = true := by kernel_rfl
@[simp] theorem ft_tySz_58 : tySz Tryz.prog 58 = some (true, 3) := by kernel_rfl
@[simp] theorem ft_dfl_58 : dflC Tryz.prog 58 = .v (.int .i64 0) := by kernel_rfl
@[simp] theorem ft_zeroOf_58 : zeroOf Tryz.prog 58 = some (Value.agg [Value.int IntKind.i64 (0), Value.int IntKind.i64 (0), Value.string ⟨#[]⟩].toArray) := by kernel_rfl
@[simp] theorem ft_plOf_58 : plOf Tryz.prog 58 = some (Sum.inl [(0, 1), (1, 1), (2, 1)]) := by kernel_rfl
@[simp] theorem ft_eqT_58 : eqT Tryz.prog 58 = some [FK.i, FK.i, FK.s] := by kernel_rfl
@[simp] theorem ft_isIface_58 : isIface Tryz.prog 58 = false := by kernel_rfl
@[simp] theorem ft_und_58 : (Tryz.prog.underlying 58).isSome = true := by kernel_rfl
@[simp] theorem ft_fldOf_58_0 : fldOf Tryz.prog 58 0 = some (0, false, 1) := by kernel_rfl
@[simp] theorem ft_fldOf_58_1 : fldOf Tryz.prog 58 1 = some (1, false, 1) := by kernel_rfl
@[simp] theorem ft_fldOf_58_2 : fldOf Tryz.prog 58 2 = some (2, false, 1) := by kernel_rfl
@[simp] theorem ft_tySz_60 : tySz Tryz.prog 60 = some (false, 1) := by kernel_rfl
@[simp] theorem ft_esz_60 : esz Tryz.prog 60 = some 5 := by kernel_rfl
@[simp] theorem ft_dfl_60 : dflC Tryz.prog 60 = .sl true [] := by kernel_rfl
@[simp] theorem ft_isSl_60 : isSl Tryz.prog 60 = true := by kernel_rfl
@[simp] theorem ft_zeroOf_60 : zeroOf Tryz.prog 60 = some (Value.slice none 0 0) := by kernel_rfl
@[simp] theorem ft_elZ_60 : elZ Tryz.prog 60 = some (5, [C.v (Value.string ⟨#[]⟩), C.v (Value.int IntKind.i64 (0)), C.v (Value.string ⟨#[]⟩), C.v (Value.string ⟨#[]⟩), C.sl true []]) := by kernel_rfl
@[simp] theorem ft_slT_60 : slT Tryz.prog 60 = some (5, 80) := by kernel_rfl
@[simp] theorem ft_apT_60 : apT Tryz.prog 60 60 = some (5, 80) := by kernel_rfl
@[simp ↓] theorem ft_vmk_60 (l c : S) (y : Nat) (st : St) (K : St → Prop) : vmk Tryz.prog 60 l c y st K = force (tick (sint l)) fun l => force (tick (sint c)) fun c => vmkZ (some (5, [C.v (Value.string ⟨#[]⟩), C.v (Value.int IntKind.i64 (0)), C.v (Value.string ⟨#[]⟩), C.v (Value.string ⟨#[]⟩), C.sl true []])) (some (5, 80)) l c y st K := vmk_iff st K 60 l c y ft_elZ_60 ft_slT_60
@[simp] theorem ft_isIface_60 : isIface Tryz.prog 60 = false := by kernel_rfl
@[simp] theorem ft_und_60 : (Tryz.prog.underlying 60).isSome = true := by kernel_rfl
@[simp] theorem ft_tySz_63 : tySz Tryz.prog 63 = some (false, 1) := by kernel_rfl
@[simp] theorem ft_esz_63 : esz Tryz.prog 63 = some 7 := by kernel_rfl
@[simp] theorem ft_dfl_63 : dflC Tryz.prog 63 = .sl true [] := by kernel_rfl
@[simp] theorem ft_isSl_63 : isSl Tryz.prog 63 = true := by kernel_rfl
@[simp] theorem ft_zeroOf_63 : zeroOf Tryz.prog 63 = some (Value.slice none 0 0) := by kernel_rfl
@[simp] theorem ft_elZ_63 : elZ Tryz.prog 63 = some (7, [C.v (Value.string ⟨#[]⟩), C.v (Value.int IntKind.i64 (0)), C.v (Value.int IntKind.i64 (0)), C.v (Value.int IntKind.i64 (0)), C.v (Value.string ⟨#[]⟩), C.v (Value.int IntKind.i64 (0)), C.sl true []]) := by kernel_rfl
@[simp] theorem ft_slT_63 : slT Tryz.prog 63 = some (7, 88) := by kernel_rfl
@[simp] theorem ft_apT_63 : apT Tryz.prog 63 63 = some (7, 88) := by kernel_rfl
@[simp ↓] theorem ft_vmk_63 (l c : S) (y : Nat) (st : St) (K : St → Prop) : vmk Tryz.prog 63 l c y st K = force (tick (sint l)) fun l => force (tick (sint c)) fun c => vmkZ (some (7, [C.v (Value.string ⟨#[]⟩), C.v (Value.int IntKind.i64 (0)), C.v (Value.int IntKind.i64 (0)), C.v (Value.int IntKind.i64 (0)), C.v (Value.string ⟨#[]⟩), C.v (Value.int IntKind.i64 (0)), C.sl true []])) (some (7, 88)) l c y st K := vmk_iff st K 63 l c y ft_elZ_63 ft_slT_63
@[simp] theorem ft_isIface_63 : isIface Tryz.prog 63 = false := by kernel_rfl
@[simp] theorem ft_und_63 : (Tryz.prog.underlying 63).isSome = true := by kernel_rfl
@[simp] theorem ft_tySz_65 : tySz Tryz.prog 65 = some (true, 5) := by kernel_rfl
@[simp] theorem ft_dfl_65 : dflC Tryz.prog 65 = .v (.int .i64 0) := by kernel_rfl
@[simp] theorem ft_zeroOf_65 : zeroOf Tryz.prog 65 = some (Value.agg [Value.string ⟨#[]⟩, Value.int IntKind.i64 (0), Value.string ⟨#[]⟩, Value.string ⟨#[]⟩, Value.slice none 0 0].toArray) := by kernel_rfl
@[simp] theorem ft_plOf_65 : plOf Tryz.prog 65 = some (Sum.inl [(0, 1), (1, 1), (2, 1), (3, 1), (4, 1)]) := by kernel_rfl
@[simp] theorem ft_isIface_65 : isIface Tryz.prog 65 = false := by kernel_rfl
@[simp] theorem ft_und_65 : (Tryz.prog.underlying 65).isSome = true := by kernel_rfl
@[simp] theorem ft_fldOf_65_0 : fldOf Tryz.prog 65 0 = some (0, false, 1) := by kernel_rfl
@[simp] theorem ft_fldOf_65_1 : fldOf Tryz.prog 65 1 = some (1, false, 1) := by kernel_rfl
@[simp] theorem ft_fldOf_65_2 : fldOf Tryz.prog 65 2 = some (2, false, 1) := by kernel_rfl
@[simp] theorem ft_fldOf_65_3 : fldOf Tryz.prog 65 3 = some (3, false, 1) := by kernel_rfl
@[simp] theorem ft_fldOf_65_4 : fldOf Tryz.prog 65 4 = some (4, false, 1) := by kernel_rfl
@[simp] theorem ft_tySz_67 : tySz Tryz.prog 67 = some (true, 7) := by kernel_rfl
@[simp] theorem ft_dfl_67 : dflC Tryz.prog 67 = .v (.int .i64 0) := by kernel_rfl
@[simp] theorem ft_zeroOf_67 : zeroOf Tryz.prog 67 = some (Value.agg [Value.string ⟨#[]⟩, Value.int IntKind.i64 (0), Value.int IntKind.i64 (0), Value.int IntKind.i64 (0), Value.string ⟨#[]⟩, Value.int IntKind.i64 (0), Value.slice none 0 0].toArray) := by kernel_rfl
@[simp] theorem ft_plOf_67 : plOf Tryz.prog 67 = some (Sum.inl [(0, 1), (1, 1), (2, 3), (5, 1), (6, 1)]) := by kernel_rfl
@[simp] theorem ft_isIface_67 : isIface Tryz.prog 67 = false := by kernel_rfl
@[simp] theorem ft_und_67 : (Tryz.prog.underlying 67).isSome = true := by kernel_rfl
@[simp] theorem ft_fldOf_67_0 : fldOf Tryz.prog 67 0 = some (0, false, 1) := by kernel_rfl
@[simp] theorem ft_fldOf_67_1 : fldOf Tryz.prog 67 1 = some (1, false, 1) := by kernel_rfl
@[simp] theorem ft_fldOf_67_2 : fldOf Tryz.prog 67 2 = some (2, true, 3) := by kernel_rfl
@[simp] theorem ft_fldOf_67_3 : fldOf Tryz.prog 67 3 = some (5, false, 1) := by kernel_rfl
@[simp] theorem ft_fldOf_67_4 : fldOf Tryz.prog 67 4 = some (6, false, 1) := by kernel_rfl
@[simp] theorem ft_tySz_68 : tySz Tryz.prog 68 = some (false, 1) := by kernel_rfl
@[simp] theorem ft_dfl_68 : dflC Tryz.prog 68 = .v (.int .i64 0) := by kernel_rfl
@[simp] theorem ft_zeroOf_68 : zeroOf Tryz.prog 68 = some (Value.tuple [Value.agg [Value.string ⟨#[]⟩, Value.int IntKind.i64 (0), Value.int IntKind.i64 (0), Value.int IntKind.i64 (0), Value.string ⟨#[]⟩, Value.int IntKind.i64 (0), Value.slice none 0 0].toArray, Value.int IntKind.i64 (0)].toArray) := by kernel_rfl
@[simp] theorem ft_isIface_68 : isIface Tryz.prog 68 = false := by kernel_rfl
@[simp] theorem ft_und_68 : (Tryz.prog.underlying 68).isSome = true := by kernel_rfl
@[simp] theorem ft_tySz_70 : tySz Tryz.prog 70 = some (false, 1) := by kernel_rfl
@[simp] theorem ft_esz_70 : esz Tryz.prog 70 = some 3 := by kernel_rfl
@[simp] theorem ft_dfl_70 : dflC Tryz.prog 70 = .sl true [] := by kernel_rfl
@[simp] theorem ft_isSl_70 : isSl Tryz.prog 70 = true := by kernel_rfl
@[simp] theorem ft_zeroOf_70 : zeroOf Tryz.prog 70 = some (Value.slice none 0 0) := by kernel_rfl
@[simp] theorem ft_elZ_70 : elZ Tryz.prog 70 = some (3, [C.v (Value.string ⟨#[]⟩), C.v (Value.string ⟨#[]⟩), C.v (Value.int IntKind.i64 (0))]) := by kernel_rfl
@[simp] theorem ft_slT_70 : slT Tryz.prog 70 = some (3, 40) := by kernel_rfl
@[simp] theorem ft_apT_70 : apT Tryz.prog 70 70 = some (3, 40) := by kernel_rfl
@[simp ↓] theorem ft_vmk_70 (l c : S) (y : Nat) (st : St) (K : St → Prop) : vmk Tryz.prog 70 l c y st K = force (tick (sint l)) fun l => force (tick (sint c)) fun c => vmkZ (some (3, [C.v (Value.string ⟨#[]⟩), C.v (Value.string ⟨#[]⟩), C.v (Value.int IntKind.i64 (0))])) (some (3, 40)) l c y st K := vmk_iff st K 70 l c y ft_elZ_70 ft_slT_70
@[simp] theorem ft_isIface_70 : isIface Tryz.prog 70 = false := by kernel_rfl
@[simp] theorem ft_und_70 : (Tryz.prog.underlying 70).isSome = true := by kernel_rfl
@[simp] theorem ft_tySz_72 : tySz Tryz.prog 72 = some (false, 1) := by kernel_rfl
@[simp] theorem ft_esz_72 : esz Tryz.prog 72 = some 2 := by kernel_rfl
@[simp] theorem ft_dfl_72 : dflC Tryz.prog 72 = .sl true [] := by kernel_rfl
@[simp] theorem ft_isSl_72 : isSl Tryz.prog 72 = true := by kernel_rfl
@[simp] theorem ft_zeroOf_72 : zeroOf Tryz.prog 72 = some (Value.slice none 0 0) := by kernel_rfl
@[simp] theorem ft_elZ_72 : elZ Tryz.prog 72 = some (2, [C.v (Value.string ⟨#[]⟩), C.v (Value.int IntKind.i64 (0))]) := by kernel_rfl
@[simp] theorem ft_slT_72 : slT Tryz.prog 72 = some (2, 24) := by kernel_rfl
@[simp] theorem ft_apT_72 : apT Tryz.prog 72 72 = some (2, 24) := by kernel_rfl
@[simp ↓] theorem ft_vmk_72 (l c : S) (y : Nat) (st : St) (K : St → Prop) : vmk Tryz.prog 72 l c y st K = force (tick (sint l)) fun l => force (tick (sint c)) fun c => vmkZ (some (2, [C.v (Value.string ⟨#[]⟩), C.v (Value.int IntKind.i64 (0))])) (some (2, 24)) l c y st K := vmk_iff st K 72 l c y ft_elZ_72 ft_slT_72
@[simp] theorem ft_isIface_72 : isIface Tryz.prog 72 = false := by kernel_rfl
@[simp] theorem ft_und_72 : (Tryz.prog.underlying 72).isSome = true := by kernel_rfl
@[simp] theorem ft_tySz_75 : tySz Tryz.prog 75 = some (true, 5) := by kernel_rfl
@[simp] theorem ft_dfl_75 : dflC Tryz.prog 75 = .v (.int .i64 0) := by kernel_rfl
@[simp] theorem ft_zeroOf_75 : zeroOf Tryz.prog 75 = some (Value.agg [Value.int IntKind.i64 (0), Value.string ⟨#[]⟩, Value.slice none 0 0, Value.slice none 0 0, Value.bool false].toArray) := by kernel_rfl
@[simp] theorem ft_plOf_75 : plOf Tryz.prog 75 = some (Sum.inl [(0, 1), (1, 1), (2, 1), (3, 1), (4, 1)]) := by kernel_rfl
@[simp] theorem ft_isIface_75 : isIface Tryz.prog 75 = false := by kernel_rfl
@[simp] theorem ft_und_75 : (Tryz.prog.underlying 75).isSome = true := by kernel_rfl
@[simp] theorem ft_fldOf_75_0 : fldOf Tryz.prog 75 0 = some (0, false, 1) := by kernel_rfl
@[simp] theorem ft_fldOf_75_1 : fldOf Tryz.prog 75 1 = some (1, false, 1) := by kernel_rfl
@[simp] theorem ft_fldOf_75_2 : fldOf Tryz.prog 75 2 = some (2, false, 1) := by kernel_rfl
@[simp] theorem ft_fldOf_75_3 : fldOf Tryz.prog 75 3 = some (3, false, 1) := by kernel_rfl
@[simp] theorem ft_fldOf_75_4 : fldOf Tryz.prog 75 4 = some (4, false, 1) := by kernel_rfl
@[simp] theorem ft_tySz_78 : tySz Tryz.prog 78 = some (false, 1) := by kernel_rfl
@[simp] theorem ft_esz_78 : esz Tryz.prog 78 = some 3 := by kernel_rfl
@[simp] theorem ft_dfl_78 : dflC Tryz.prog 78 = .sl true [] := by kernel_rfl
@[simp] theorem ft_isSl_78 : isSl Tryz.prog 78 = true := by kernel_rfl
@[simp] theorem ft_zeroOf_78 : zeroOf Tryz.prog 78 = some (Value.slice none 0 0) := by kernel_rfl
@[simp] theorem ft_elZ_78 : elZ Tryz.prog 78 = some (3, [C.v (Value.string ⟨#[]⟩), C.v (Value.string ⟨#[]⟩), C.v (Value.int IntKind.i64 (0))]) := by kernel_rfl
@[simp] theorem ft_slT_78 : slT Tryz.prog 78 = some (3, 40) := by kernel_rfl
@[simp] theorem ft_apT_78 : apT Tryz.prog 78 78 = some (3, 40) := by kernel_rfl
@[simp ↓] theorem ft_vmk_78 (l c : S) (y : Nat) (st : St) (K : St → Prop) : vmk Tryz.prog 78 l c y st K = force (tick (sint l)) fun l => force (tick (sint c)) fun c => vmkZ (some (3, [C.v (Value.string ⟨#[]⟩), C.v (Value.string ⟨#[]⟩), C.v (Value.int IntKind.i64 (0))])) (some (3, 40)) l c y st K := vmk_iff st K 78 l c y ft_elZ_78 ft_slT_78
@[simp] theorem ft_isIface_78 : isIface Tryz.prog 78 = false := by kernel_rfl
@[simp] theorem ft_und_78 : (Tryz.prog.underlying 78).isSome = true := by kernel_rfl
@[simp] theorem ft_tySz_82 : tySz Tryz.prog 82 = some (true, 2) := by kernel_rfl
@[simp] theorem ft_dfl_82 : dflC Tryz.prog 82 = .v (.int .i64 0) := by kernel_rfl
@[simp] theorem ft_zeroOf_82 : zeroOf Tryz.prog 82 = some (Value.agg [Value.bool false, Value.bool false].toArray) := by kernel_rfl
@[simp] theorem ft_plOf_82 : plOf Tryz.prog 82 = some (Sum.inr 1) := by kernel_rfl
@[simp] theorem ft_arrOf_82 : arrOf Tryz.prog 82 = some (2, false, 1) := by kernel_rfl
@[simp] theorem ft_isIface_82 : isIface Tryz.prog 82 = false := by kernel_rfl
@[simp] theorem ft_und_82 : (Tryz.prog.underlying 82).isSome = true := by kernel_rfl
@[simp] theorem ft_tySz_83 : tySz Tryz.prog 83 = some (false, 1) := by kernel_rfl
@[simp] theorem ft_esz_83 : esz Tryz.prog 83 = some 2 := by kernel_rfl
@[simp] theorem ft_dfl_83 : dflC Tryz.prog 83 = .sl true [] := by kernel_rfl
@[simp] theorem ft_isSl_83 : isSl Tryz.prog 83 = true := by kernel_rfl
@[simp] theorem ft_zeroOf_83 : zeroOf Tryz.prog 83 = some (Value.slice none 0 0) := by kernel_rfl
@[simp] theorem ft_elZ_83 : elZ Tryz.prog 83 = some (2, [C.v (Value.int IntKind.i64 (0)), C.v (Value.int IntKind.i64 (0))]) := by kernel_rfl
@[simp] theorem ft_slT_83 : slT Tryz.prog 83 = some (2, 16) := by kernel_rfl
@[simp] theorem ft_apT_83 : apT Tryz.prog 83 83 = some (2, 16) := by kernel_rfl
@[simp ↓] theorem ft_vmk_83 (l c : S) (y : Nat) (st : St) (K : St → Prop) : vmk Tryz.prog 83 l c y st K = force (tick (sint l)) fun l => force (tick (sint c)) fun c => vmkZ (some (2, [C.v (Value.int IntKind.i64 (0)), C.v (Value.int IntKind.i64 (0))])) (some (2, 16)) l c y st K := vmk_iff st K 83 l c y ft_elZ_83 ft_slT_83
@[simp] theorem ft_isIface_83 : isIface Tryz.prog 83 = false := by kernel_rfl
@[simp] theorem ft_und_83 : (Tryz.prog.underlying 83).isSome = true := by kernel_rfl
@[simp] theorem ft_tySz_85 : tySz Tryz.prog 85 = some (true, 9) := by kernel_rfl
@[simp] theorem ft_dfl_85 : dflC Tryz.prog 85 = .v (.int .i64 0) := by kernel_rfl
@[simp] theorem ft_zeroOf_85 : zeroOf Tryz.prog 85 = some (Value.agg [Value.slice none 0 0, Value.slice none 0 0, Value.bool false, Value.bool false, Value.bool false, Value.slice none 0 0, Value.slice none 0 0, Value.int IntKind.i64 (0), Value.bool false].toArray) := by kernel_rfl
@[simp] theorem ft_plOf_85 : plOf Tryz.prog 85 = some (Sum.inl [(0, 1), (1, 1), (2, 1), (3, 2), (5, 1), (6, 1), (7, 1), (8, 1)]) := by kernel_rfl
@[simp] theorem ft_isIface_85 : isIface Tryz.prog 85 = false := by kernel_rfl
@[simp] theorem ft_und_85 : (Tryz.prog.underlying 85).isSome = true := by kernel_rfl
@[simp] theorem ft_fldOf_85_0 : fldOf Tryz.prog 85 0 = some (0, false, 1) := by kernel_rfl
@[simp] theorem ft_fldOf_85_1 : fldOf Tryz.prog 85 1 = some (1, false, 1) := by kernel_rfl
@[simp] theorem ft_fldOf_85_2 : fldOf Tryz.prog 85 2 = some (2, false, 1) := by kernel_rfl
@[simp] theorem ft_fldOf_85_3 : fldOf Tryz.prog 85 3 = some (3, true, 2) := by kernel_rfl
@[simp] theorem ft_fldOf_85_4 : fldOf Tryz.prog 85 4 = some (5, false, 1) := by kernel_rfl
@[simp] theorem ft_fldOf_85_5 : fldOf Tryz.prog 85 5 = some (6, false, 1) := by kernel_rfl
@[simp] theorem ft_fldOf_85_6 : fldOf Tryz.prog 85 6 = some (7, false, 1) := by kernel_rfl
@[simp] theorem ft_fldOf_85_7 : fldOf Tryz.prog 85 7 = some (8, false, 1) := by kernel_rfl
@[simp] theorem ft_tySz_87 : tySz Tryz.prog 87 = some (true, 4) := by kernel_rfl
@[simp] theorem ft_dfl_87 : dflC Tryz.prog 87 = .v (.int .i64 0) := by kernel_rfl
@[simp] theorem ft_zeroOf_87 : zeroOf Tryz.prog 87 = some (Value.agg [Value.bool false, Value.int IntKind.i64 (0), Value.bool false, Value.bool false].toArray) := by kernel_rfl
@[simp] theorem ft_plOf_87 : plOf Tryz.prog 87 = some (Sum.inl [(0, 1), (1, 1), (2, 1), (3, 1)]) := by kernel_rfl
@[simp] theorem ft_eqT_87 : eqT Tryz.prog 87 = some [FK.b, FK.i, FK.b, FK.b] := by kernel_rfl
@[simp] theorem ft_isIface_87 : isIface Tryz.prog 87 = false := by kernel_rfl
@[simp] theorem ft_und_87 : (Tryz.prog.underlying 87).isSome = true := by kernel_rfl
@[simp] theorem ft_fldOf_87_0 : fldOf Tryz.prog 87 0 = some (0, false, 1) := by kernel_rfl
@[simp] theorem ft_fldOf_87_1 : fldOf Tryz.prog 87 1 = some (1, false, 1) := by kernel_rfl
@[simp] theorem ft_fldOf_87_2 : fldOf Tryz.prog 87 2 = some (2, false, 1) := by kernel_rfl
@[simp] theorem ft_fldOf_87_3 : fldOf Tryz.prog 87 3 = some (3, false, 1) := by kernel_rfl
@[simp] theorem ft_tySz_88 : tySz Tryz.prog 88 = some (false, 1) := by kernel_rfl
@[simp] theorem ft_esz_88 : esz Tryz.prog 88 = some 3 := by kernel_rfl
@[simp] theorem ft_dfl_88 : dflC Tryz.prog 88 = .sl true [] := by kernel_rfl
@[simp] theorem ft_isSl_88 : isSl Tryz.prog 88 = true := by kernel_rfl
@[simp] theorem ft_zeroOf_88 : zeroOf Tryz.prog 88 = some (Value.slice none 0 0) := by kernel_rfl
@[simp] theorem ft_elZ_88 : elZ Tryz.prog 88 = some (3, [C.sl true [], C.v (Value.int IntKind.i64 (0)), C.v (Value.bool false)]) := by kernel_rfl
@[simp] theorem ft_slT_88 : slT Tryz.prog 88 = some (3, 40) := by kernel_rfl
@[simp] theorem ft_apT_88 : apT Tryz.prog 88 88 = some (3, 40) := by kernel_rfl
@[simp ↓] theorem ft_vmk_88 (l c : S) (y : Nat) (st : St) (K : St → Prop) : vmk Tryz.prog 88 l c y st K = force (tick (sint l)) fun l => force (tick (sint c)) fun c => vmkZ (some (3, [C.sl true [], C.v (Value.int IntKind.i64 (0)), C.v (Value.bool false)])) (some (3, 40)) l c y st K := vmk_iff st K 88 l c y ft_elZ_88 ft_slT_88
@[simp] theorem ft_isIface_88 : isIface Tryz.prog 88 = false := by kernel_rfl
@[simp] theorem ft_und_88 : (Tryz.prog.underlying 88).isSome = true := by kernel_rfl
@[simp] theorem ft_tySz_90 : tySz Tryz.prog 90 = some (true, 3) := by kernel_rfl
@[simp] theorem ft_dfl_90 : dflC Tryz.prog 90 = .v (.int .i64 0) := by kernel_rfl
@[simp] theorem ft_zeroOf_90 : zeroOf Tryz.prog 90 = some (Value.agg [Value.slice none 0 0, Value.slice none 0 0, Value.slice none 0 0].toArray) := by kernel_rfl
@[simp] theorem ft_plOf_90 : plOf Tryz.prog 90 = some (Sum.inl [(0, 1), (1, 1), (2, 1)]) := by kernel_rfl
@[simp] theorem ft_isIface_90 : isIface Tryz.prog 90 = false := by kernel_rfl
@[simp] theorem ft_und_90 : (Tryz.prog.underlying 90).isSome = true := by kernel_rfl
@[simp] theorem ft_fldOf_90_0 : fldOf Tryz.prog 90 0 = some (0, false, 1) := by kernel_rfl
@[simp] theorem ft_fldOf_90_1 : fldOf Tryz.prog 90 1 = some (1, false, 1) := by kernel_rfl
@[simp] theorem ft_fldOf_90_2 : fldOf Tryz.prog 90 2 = some (2, false, 1) := by kernel_rfl
@[simp] theorem ft_tySz_91 : tySz Tryz.prog 91 = some (false, 1) := by kernel_rfl
@[simp] theorem ft_esz_91 : esz Tryz.prog 91 = some 3 := by kernel_rfl
@[simp] theorem ft_dfl_91 : dflC Tryz.prog 91 = .sl true [] := by kernel_rfl
@[simp] theorem ft_isSl_91 : isSl Tryz.prog 91 = true := by kernel_rfl
@[simp] theorem ft_zeroOf_91 : zeroOf Tryz.prog 91 = some (Value.slice none 0 0) := by kernel_rfl
@[simp] theorem ft_elZ_91 : elZ Tryz.prog 91 = some (3, [C.sl true [], C.v (Value.int IntKind.i64 (0)), C.v (Value.bool false)]) := by kernel_rfl
@[simp] theorem ft_slT_91 : slT Tryz.prog 91 = some (3, 40) := by kernel_rfl
@[simp] theorem ft_apT_91 : apT Tryz.prog 91 91 = some (3, 40) := by kernel_rfl
@[simp ↓] theorem ft_vmk_91 (l c : S) (y : Nat) (st : St) (K : St → Prop) : vmk Tryz.prog 91 l c y st K = force (tick (sint l)) fun l => force (tick (sint c)) fun c => vmkZ (some (3, [C.sl true [], C.v (Value.int IntKind.i64 (0)), C.v (Value.bool false)])) (some (3, 40)) l c y st K := vmk_iff st K 91 l c y ft_elZ_91 ft_slT_91
@[simp] theorem ft_isIface_91 : isIface Tryz.prog 91 = false := by kernel_rfl
@[simp] theorem ft_und_91 : (Tryz.prog.underlying 91).isSome = true := by kernel_rfl
@[simp] theorem ft_tySz_93 : tySz Tryz.prog 93 = some (true, 4) := by kernel_rfl
@[simp] theorem ft_dfl_93 : dflC Tryz.prog 93 = .v (.int .i64 0) := by kernel_rfl
@[simp] theorem ft_zeroOf_93 : zeroOf Tryz.prog 93 = some (Value.agg [Value.slice none 0 0, Value.slice none 0 0, Value.slice none 0 0, Value.slice none 0 0].toArray) := by kernel_rfl
@[simp] theorem ft_plOf_93 : plOf Tryz.prog 93 = some (Sum.inl [(0, 1), (1, 1), (2, 1), (3, 1)]) := by kernel_rfl
@[simp] theorem ft_isIface_93 : isIface Tryz.prog 93 = false := by kernel_rfl
@[simp] theorem ft_und_93 : (Tryz.prog.underlying 93).isSome = true := by kernel_rfl
@[simp] theorem ft_fldOf_93_0 : fldOf Tryz.prog 93 0 = some (0, false, 1) := by kernel_rfl
@[simp] theorem ft_fldOf_93_1 : fldOf Tryz.prog 93 1 = some (1, false, 1) := by kernel_rfl
@[simp] theorem ft_fldOf_93_2 : fldOf Tryz.prog 93 2 = some (2, false, 1) := by kernel_rfl
@[simp] theorem ft_fldOf_93_3 : fldOf Tryz.prog 93 3 = some (3, false, 1) := by kernel_rfl
@[simp] theorem ft_tySz_94 : tySz Tryz.prog 94 = some (false, 1) := by kernel_rfl
@[simp] theorem ft_dfl_94 : dflC Tryz.prog 94 = .v (.int .i64 0) := by kernel_rfl
@[simp] theorem ft_zeroOf_94 : zeroOf Tryz.prog 94 = some (Value.tuple [Value.agg [Value.slice none 0 0, Value.slice none 0 0, Value.slice none 0 0].toArray, Value.agg [Value.slice none 0 0, Value.slice none 0 0, Value.slice none 0 0, Value.slice none 0 0].toArray].toArray) := by kernel_rfl
@[simp] theorem ft_isIface_94 : isIface Tryz.prog 94 = false := by kernel_rfl
@[simp] theorem ft_und_94 : (Tryz.prog.underlying 94).isSome = true := by kernel_rfl
@[simp] theorem ft_tySz_96 : tySz Tryz.prog 96 = some (false, 1) := by kernel_rfl
@[simp] theorem ft_esz_96 : esz Tryz.prog 96 = some 4 := by kernel_rfl
@[simp] theorem ft_dfl_96 : dflC Tryz.prog 96 = .sl true [] := by kernel_rfl
@[simp] theorem ft_isSl_96 : isSl Tryz.prog 96 = true := by kernel_rfl
@[simp] theorem ft_zeroOf_96 : zeroOf Tryz.prog 96 = some (Value.slice none 0 0) := by kernel_rfl
@[simp] theorem ft_elZ_96 : elZ Tryz.prog 96 = some (4, [C.v (Value.bool false), C.v (Value.int IntKind.i64 (0)), C.v (Value.bool false), C.v (Value.bool false)]) := by kernel_rfl
@[simp] theorem ft_slT_96 : slT Tryz.prog 96 = some (4, 24) := by kernel_rfl
@[simp] theorem ft_apT_96 : apT Tryz.prog 96 96 = some (4, 24) := by kernel_rfl
@[simp ↓] theorem ft_vmk_96 (l c : S) (y : Nat) (st : St) (K : St → Prop) : vmk Tryz.prog 96 l c y st K = force (tick (sint l)) fun l => force (tick (sint c)) fun c => vmkZ (some (4, [C.v (Value.bool false), C.v (Value.int IntKind.i64 (0)), C.v (Value.bool false), C.v (Value.bool false)])) (some (4, 24)) l c y st K := vmk_iff st K 96 l c y ft_elZ_96 ft_slT_96
@[simp] theorem ft_isIface_96 : isIface Tryz.prog 96 = false := by kernel_rfl
@[simp] theorem ft_und_96 : (Tryz.prog.underlying 96).isSome = true := by kernel_rfl
@[simp] theorem ft_tySz_97 : tySz Tryz.prog 97 = some (false, 1) := by kernel_rfl
@[simp] theorem ft_dfl_97 : dflC Tryz.prog 97 = .v (.int .i64 0) := by kernel_rfl
@[simp] theorem ft_zeroOf_97 : zeroOf Tryz.prog 97 = some (Value.tuple [Value.slice none 0 0, Value.int IntKind.i64 (0)].toArray) := by kernel_rfl
@[simp] theorem ft_isIface_97 : isIface Tryz.prog 97 = false := by kernel_rfl
@[simp] theorem ft_und_97 : (Tryz.prog.underlying 97).isSome = true := by kernel_rfl
@[simp] theorem ft_tySz_103 : tySz Tryz.prog 103 = some (false, 1) := by kernel_rfl
@[simp] theorem ft_dfl_103 : dflC Tryz.prog 103 = .v (.int .i64 0) := by kernel_rfl
@[simp] theorem ft_zeroOf_103 : zeroOf Tryz.prog 103 = some (Value.tuple [Value.int IntKind.i64 (0), Value.int IntKind.i64 (0)].toArray) := by kernel_rfl
@[simp] theorem ft_isIface_103 : isIface Tryz.prog 103 = false := by kernel_rfl
@[simp] theorem ft_und_103 : (Tryz.prog.underlying 103).isSome = true := by kernel_rfl
@[simp] theorem ft_tySz_105 : tySz Tryz.prog 105 = some (false, 1) := by kernel_rfl
@[simp] theorem ft_dfl_105 : dflC Tryz.prog 105 = .v (.int .i64 0) := by kernel_rfl
@[simp] theorem ft_zeroOf_105 : zeroOf Tryz.prog 105 = some (Value.tuple [Value.agg [Value.bool false, Value.int IntKind.i64 (0), Value.bool false, Value.bool false].toArray, Value.int IntKind.i64 (0)].toArray) := by kernel_rfl
@[simp] theorem ft_isIface_105 : isIface Tryz.prog 105 = false := by kernel_rfl
@[simp] theorem ft_und_105 : (Tryz.prog.underlying 105).isSome = true := by kernel_rfl
@[simp] theorem ft_tySz_108 : tySz Tryz.prog 108 = some (false, 1) := by kernel_rfl
@[simp] theorem ft_esz_108 : esz Tryz.prog 108 = some 4 := by kernel_rfl
@[simp] theorem ft_dfl_108 : dflC Tryz.prog 108 = .sl true [] := by kernel_rfl
@[simp] theorem ft_isSl_108 : isSl Tryz.prog 108 = true := by kernel_rfl
@[simp] theorem ft_zeroOf_108 : zeroOf Tryz.prog 108 = some (Value.slice none 0 0) := by kernel_rfl
@[simp] theorem ft_elZ_108 : elZ Tryz.prog 108 = some (4, [C.v (Value.bool false), C.v (Value.int IntKind.i64 (0)), C.v (Value.bool false), C.v (Value.bool false)]) := by kernel_rfl
@[simp] theorem ft_slT_108 : slT Tryz.prog 108 = some (4, 24) := by kernel_rfl
@[simp] theorem ft_apT_108 : apT Tryz.prog 108 108 = some (4, 24) := by kernel_rfl
@[simp ↓] theorem ft_vmk_108 (l c : S) (y : Nat) (st : St) (K : St → Prop) : vmk Tryz.prog 108 l c y st K = force (tick (sint l)) fun l => force (tick (sint c)) fun c => vmkZ (some (4, [C.v (Value.bool false), C.v (Value.int IntKind.i64 (0)), C.v (Value.bool false), C.v (Value.bool false)])) (some (4, 24)) l c y st K := vmk_iff st K 108 l c y ft_elZ_108 ft_slT_108
@[simp] theorem ft_isIface_108 : isIface Tryz.prog 108 = false := by kernel_rfl
@[simp] theorem ft_und_108 : (Tryz.prog.underlying 108).isSome = true := by kernel_rfl
@[simp] theorem ft_tySz_110 : tySz Tryz.prog 110 = some (true, 4) := by kernel_rfl
@[simp] theorem ft_dfl_110 : dflC Tryz.prog 110 = .v (.int .i64 0) := by kernel_rfl
@[simp] theorem ft_zeroOf_110 : zeroOf Tryz.prog 110 = some (Value.agg [Value.bool false, Value.int IntKind.i64 (0), Value.bool false, Value.bool false].toArray) := by kernel_rfl
@[simp] theorem ft_plOf_110 : plOf Tryz.prog 110 = some (Sum.inl [(0, 1), (1, 1), (2, 1), (3, 1)]) := by kernel_rfl
@[simp] theorem ft_eqT_110 : eqT Tryz.prog 110 = some [FK.b, FK.i, FK.b, FK.b] := by kernel_rfl
@[simp] theorem ft_isIface_110 : isIface Tryz.prog 110 = false := by kernel_rfl
@[simp] theorem ft_und_110 : (Tryz.prog.underlying 110).isSome = true := by kernel_rfl
@[simp] theorem ft_fldOf_110_0 : fldOf Tryz.prog 110 0 = some (0, false, 1) := by kernel_rfl
@[simp] theorem ft_fldOf_110_1 : fldOf Tryz.prog 110 1 = some (1, false, 1) := by kernel_rfl
@[simp] theorem ft_fldOf_110_2 : fldOf Tryz.prog 110 2 = some (2, false, 1) := by kernel_rfl
@[simp] theorem ft_fldOf_110_3 : fldOf Tryz.prog 110 3 = some (3, false, 1) := by kernel_rfl
@[simp] theorem ft_tySz_112 : tySz Tryz.prog 112 = some (false, 1) := by kernel_rfl
@[simp] theorem ft_dfl_112 : dflC Tryz.prog 112 = .v (.int .i64 0) := by kernel_rfl
@[simp] theorem ft_zeroOf_112 : zeroOf Tryz.prog 112 = some (Value.tuple [Value.int IntKind.i64 (0), Value.int IntKind.i64 (0)].toArray) := by kernel_rfl
@[simp] theorem ft_isIface_112 : isIface Tryz.prog 112 = false := by kernel_rfl
@[simp] theorem ft_und_112 : (Tryz.prog.underlying 112).isSome = true := by kernel_rfl
@[simp] theorem ft_tySz_118 : tySz Tryz.prog 118 = some (true, 3) := by kernel_rfl
@[simp] theorem ft_dfl_118 : dflC Tryz.prog 118 = .v (.int .i64 0) := by kernel_rfl
@[simp] theorem ft_zeroOf_118 : zeroOf Tryz.prog 118 = some (Value.agg [Value.slice none 0 0, Value.int IntKind.i64 (0), Value.bool false].toArray) := by kernel_rfl
@[simp] theorem ft_plOf_118 : plOf Tryz.prog 118 = some (Sum.inl [(0, 1), (1, 1), (2, 1)]) := by kernel_rfl
@[simp] theorem ft_isIface_118 : isIface Tryz.prog 118 = false := by kernel_rfl
@[simp] theorem ft_und_118 : (Tryz.prog.underlying 118).isSome = true := by kernel_rfl
@[simp] theorem ft_fldOf_118_0 : fldOf Tryz.prog 118 0 = some (0, false, 1) := by kernel_rfl
@[simp] theorem ft_fldOf_118_1 : fldOf Tryz.prog 118 1 = some (1, false, 1) := by kernel_rfl
@[simp] theorem ft_fldOf_118_2 : fldOf Tryz.prog 118 2 = some (2, false, 1) := by kernel_rfl
@[simp] theorem ft_tySz_123 : tySz Tryz.prog 123 = some (true, 2) := by kernel_rfl
@[simp] theorem ft_dfl_123 : dflC Tryz.prog 123 = .v (.int .i64 0) := by kernel_rfl
@[simp] theorem ft_zeroOf_123 : zeroOf Tryz.prog 123 = some (Value.agg [Value.nilIface, Value.nilIface].toArray) := by kernel_rfl
@[simp] theorem ft_plOf_123 : plOf Tryz.prog 123 = some (Sum.inl [(0, 1), (1, 1)]) := by kernel_rfl
@[simp] theorem ft_isIface_123 : isIface Tryz.prog 123 = false := by kernel_rfl
@[simp] theorem ft_und_123 : (Tryz.prog.underlying 123).isSome = true := by kernel_rfl
@[simp] theorem ft_fldOf_123_0 : fldOf Tryz.prog 123 0 = some (0, false, 1) := by kernel_rfl
@[simp] theorem ft_fldOf_123_1 : fldOf Tryz.prog 123 1 = some (1, false, 1) := by kernel_rfl
@[simp] theorem ft_tySz_125 : tySz Tryz.prog 125 = some (true, 2) := by kernel_rfl
@[simp] theorem ft_dfl_125 : dflC Tryz.prog 125 = .v (.int .i64 0) := by kernel_rfl
@[simp] theorem ft_zeroOf_125 : zeroOf Tryz.prog 125 = some (Value.agg [Value.nilIface, Value.nilIface].toArray) := by kernel_rfl
@[simp] theorem ft_plOf_125 : plOf Tryz.prog 125 = some (Sum.inl [(0, 2)]) := by kernel_rfl
@[simp] theorem ft_isIface_125 : isIface Tryz.prog 125 = false := by kernel_rfl
@[simp] theorem ft_und_125 : (Tryz.prog.underlying 125).isSome = true := by kernel_rfl
@[simp] theorem ft_fldOf_125_0 : fldOf Tryz.prog 125 0 = some (0, true, 2) := by kernel_rfl
@[simp] theorem ft_tySz_126 : tySz Tryz.prog 126 = some (true, 2) := by kernel_rfl
@[simp] theorem ft_dfl_126 : dflC Tryz.prog 126 = .v (.int .i64 0) := by kernel_rfl
@[simp] theorem ft_zeroOf_126 : zeroOf Tryz.prog 126 = some (Value.agg [Value.nilIface, Value.nilIface].toArray) := by kernel_rfl
@[simp] theorem ft_plOf_126 : plOf Tryz.prog 126 = some (Sum.inl [(0, 2)]) := by kernel_rfl
@[simp] theorem ft_isIface_126 : isIface Tryz.prog 126 = false := by kernel_rfl
@[simp] theorem ft_und_126 : (Tryz.prog.underlying 126).isSome = true := by kernel_rfl
@[simp] theorem ft_fldOf_126_0 : fldOf Tryz.prog 126 0 = some (0, true, 2) := by kernel_rfl
@[simp] theorem ft_tySz_127 : tySz Tryz.prog 127 = some (true, 2) := by kernel_rfl
@[simp] theorem ft_dfl_127 : dflC Tryz.prog 127 = .v (.int .i64 0) := by kernel_rfl
@[simp] theorem ft_zeroOf_127 : zeroOf Tryz.prog 127 = some (Value.agg [Value.nilIface, Value.nilIface].toArray) := by kernel_rfl
@[simp] theorem ft_plOf_127 : plOf Tryz.prog 127 = some (Sum.inl [(0, 2)]) := by kernel_rfl
@[simp] theorem ft_isIface_127 : isIface Tryz.prog 127 = false := by kernel_rfl
@[simp] theorem ft_und_127 : (Tryz.prog.underlying 127).isSome = true := by kernel_rfl
@[simp] theorem ft_fldOf_127_0 : fldOf Tryz.prog 127 0 = some (0, true, 2) := by kernel_rfl
@[simp] theorem ft_tySz_128 : tySz Tryz.prog 128 = some (true, 2) := by kernel_rfl
@[simp] theorem ft_dfl_128 : dflC Tryz.prog 128 = .v (.int .i64 0) := by kernel_rfl
@[simp] theorem ft_zeroOf_128 : zeroOf Tryz.prog 128 = some (Value.agg [Value.nilIface, Value.nilIface].toArray) := by kernel_rfl
@[simp] theorem ft_plOf_128 : plOf Tryz.prog 128 = some (Sum.inl [(0, 2)]) := by kernel_rfl
@[simp] theorem ft_isIface_128 : isIface Tryz.prog 128 = false := by kernel_rfl
@[simp] theorem ft_und_128 : (Tryz.prog.underlying 128).isSome = true := by kernel_rfl
@[simp] theorem ft_fldOf_128_0 : fldOf Tryz.prog 128 0 = some (0, true, 2) := by kernel_rfl
@[simp] theorem ft_tySz_130 : tySz Tryz.prog 130 = some (true, 1) := by kernel_rfl
@[simp] theorem ft_dfl_130 : dflC Tryz.prog 130 = .v (.int .i64 0) := by kernel_rfl
@[simp] theorem ft_zeroOf_130 : zeroOf Tryz.prog 130 = some (Value.agg [Value.slice none 0 0].toArray) := by kernel_rfl
@[simp] theorem ft_plOf_130 : plOf Tryz.prog 130 = some (Sum.inl [(0, 1)]) := by kernel_rfl
@[simp] theorem ft_isIface_130 : isIface Tryz.prog 130 = false := by kernel_rfl
@[simp] theorem ft_und_130 : (Tryz.prog.underlying 130).isSome = true := by kernel_rfl
@[simp] theorem ft_fldOf_130_0 : fldOf Tryz.prog 130 0 = some (0, false, 1) := by kernel_rfl
@[simp] theorem ft_tySz_134 : tySz Tryz.prog 134 = some (false, 1) := by kernel_rfl
@[simp] theorem ft_dfl_134 : dflC Tryz.prog 134 = .v (.int .i64 0) := by kernel_rfl
@[simp] theorem ft_zeroOf_134 : zeroOf Tryz.prog 134 = some Value.nilFunc := by kernel_rfl
@[simp] theorem ft_isIface_134 : isIface Tryz.prog 134 = false := by kernel_rfl
@[simp] theorem ft_und_134 : (Tryz.prog.underlying 134).isSome = true := by kernel_rfl
@[simp] theorem ft_tySz_139 : tySz Tryz.prog 139 = some (true, 1) := by kernel_rfl
@[simp] theorem ft_dfl_139 : dflC Tryz.prog 139 = .v (.int .i64 0) := by kernel_rfl
@[simp] theorem ft_zeroOf_139 : zeroOf Tryz.prog 139 = some (Value.agg [Value.nilIface].toArray) := by kernel_rfl
@[simp] theorem ft_plOf_139 : plOf Tryz.prog 139 = some (Sum.inl [(0, 1)]) := by kernel_rfl
@[simp] theorem ft_isIface_139 : isIface Tryz.prog 139 = false := by kernel_rfl
@[simp] theorem ft_und_139 : (Tryz.prog.underlying 139).isSome = true := by kernel_rfl
@[simp] theorem ft_fldOf_139_0 : fldOf Tryz.prog 139 0 = some (0, false, 1) := by kernel_rfl
@[simp] theorem ft_tySz_143 : tySz Tryz.prog 143 = some (true, 3) := by kernel_rfl
@[simp] theorem ft_dfl_143 : dflC Tryz.prog 143 = .v (.int .i64 0) := by kernel_rfl
@[simp] theorem ft_zeroOf_143 : zeroOf Tryz.prog 143 = some (Value.agg [Value.nilIface, Value.int IntKind.i64 (0), Value.int IntKind.i64 (0)].toArray) := by kernel_rfl
@[simp] theorem ft_plOf_143 : plOf Tryz.prog 143 = some (Sum.inl [(0, 1), (1, 2)]) := by kernel_rfl
@[simp] theorem ft_isIface_143 : isIface Tryz.prog 143 = false := by kernel_rfl
@[simp] theorem ft_und_143 : (Tryz.prog.underlying 143).isSome = true := by kernel_rfl
@[simp] theorem ft_fldOf_143_0 : fldOf Tryz.prog 143 0 = some (0, true, 1) := by kernel_rfl
@[simp] theorem ft_fldOf_143_1 : fldOf Tryz.prog 143 1 = some (1, true, 2) := by kernel_rfl
@[simp] theorem ft_tySz_148 : tySz Tryz.prog 148 = some (false, 1) := by kernel_rfl
@[simp] theorem ft_dfl_148 : dflC Tryz.prog 148 = .v (.int .i64 0) := by kernel_rfl
@[simp] theorem ft_zeroOf_148 : zeroOf Tryz.prog 148 = some Value.nilFunc := by kernel_rfl
@[simp] theorem ft_isIface_148 : isIface Tryz.prog 148 = false := by kernel_rfl
@[simp] theorem ft_und_148 : (Tryz.prog.underlying 148).isSome = true := by kernel_rfl
@[simp] theorem ft_tySz_150 : tySz Tryz.prog 150 = some (false, 1) := by kernel_rfl
@[simp] theorem ft_dfl_150 : dflC Tryz.prog 150 = .v (.int .i64 0) := by kernel_rfl
@[simp] theorem ft_zeroOf_150 : zeroOf Tryz.prog 150 = some (Value.tuple [Value.int IntKind.i64 (0), Value.int IntKind.i64 (0)].toArray) := by kernel_rfl
@[simp] theorem ft_isIface_150 : isIface Tryz.prog 150 = false := by kernel_rfl
@[simp] theorem ft_und_150 : (Tryz.prog.underlying 150).isSome = true := by kernel_rfl
@[simp] theorem ft_tySz_153 : tySz Tryz.prog 153 = some (true, 2) := by kernel_rfl
@[simp] theorem ft_dfl_153 : dflC Tryz.prog 153 = .v (.int .i64 0) := by kernel_rfl
@[simp] theorem ft_zeroOf_153 : zeroOf Tryz.prog 153 = some (Value.agg [Value.string ⟨#[]⟩, Value.int IntKind.i64 (0)].toArray) := by kernel_rfl
@[simp] theorem ft_plOf_153 : plOf Tryz.prog 153 = some (Sum.inl [(0, 1), (1, 1)]) := by kernel_rfl
@[simp] theorem ft_eqT_153 : eqT Tryz.prog 153 = some [FK.s, FK.i] := by kernel_rfl
@[simp] theorem ft_isIface_153 : isIface Tryz.prog 153 = false := by kernel_rfl
@[simp] theorem ft_und_153 : (Tryz.prog.underlying 153).isSome = true := by kernel_rfl
@[simp] theorem ft_fldOf_153_0 : fldOf Tryz.prog 153 0 = some (0, false, 1) := by kernel_rfl
@[simp] theorem ft_fldOf_153_1 : fldOf Tryz.prog 153 1 = some (1, false, 1) := by kernel_rfl
@[simp] theorem ft_tySz_155 : tySz Tryz.prog 155 = some (true, 3) := by kernel_rfl
@[simp] theorem ft_dfl_155 : dflC Tryz.prog 155 = .v (.int .i64 0) := by kernel_rfl
@[simp] theorem ft_zeroOf_155 : zeroOf Tryz.prog 155 = some (Value.agg [Value.string ⟨#[]⟩, Value.string ⟨#[]⟩, Value.int IntKind.i64 (0)].toArray) := by kernel_rfl
@[simp] theorem ft_plOf_155 : plOf Tryz.prog 155 = some (Sum.inl [(0, 1), (1, 2)]) := by kernel_rfl
@[simp] theorem ft_isIface_155 : isIface Tryz.prog 155 = false := by kernel_rfl
@[simp] theorem ft_und_155 : (Tryz.prog.underlying 155).isSome = true := by kernel_rfl
@[simp] theorem ft_fldOf_155_0 : fldOf Tryz.prog 155 0 = some (0, false, 1) := by kernel_rfl
@[simp] theorem ft_fldOf_155_1 : fldOf Tryz.prog 155 1 = some (1, true, 2) := by kernel_rfl
@[simp] theorem ft_tySz_156 : tySz Tryz.prog 156 = some (false, 1) := by kernel_rfl
@[simp] theorem ft_dfl_156 : dflC Tryz.prog 156 = .v (.int .i64 0) := by kernel_rfl
@[simp] theorem ft_zeroOf_156 : zeroOf Tryz.prog 156 = some (Value.tuple [Value.int IntKind.i64 (0), Value.bool false].toArray) := by kernel_rfl
@[simp] theorem ft_isIface_156 : isIface Tryz.prog 156 = false := by kernel_rfl
@[simp] theorem ft_und_156 : (Tryz.prog.underlying 156).isSome = true := by kernel_rfl
@[simp] theorem ft_tySz_158 : tySz Tryz.prog 158 = some (false, 1) := by kernel_rfl
@[simp] theorem ft_esz_158 : esz Tryz.prog 158 = some 5 := by kernel_rfl
@[simp] theorem ft_dfl_158 : dflC Tryz.prog 158 = .sl true [] := by kernel_rfl
@[simp] theorem ft_isSl_158 : isSl Tryz.prog 158 = true := by kernel_rfl
@[simp] theorem ft_zeroOf_158 : zeroOf Tryz.prog 158 = some (Value.slice none 0 0) := by kernel_rfl
@[simp] theorem ft_elZ_158 : elZ Tryz.prog 158 = some (5, [C.v (Value.int IntKind.i64 (0)), C.v (Value.string ⟨#[]⟩), C.sl true [], C.sl true [], C.v (Value.bool false)]) := by kernel_rfl
@[simp] theorem ft_slT_158 : slT Tryz.prog 158 = some (5, 80) := by kernel_rfl
@[simp] theorem ft_apT_158 : apT Tryz.prog 158 158 = some (5, 80) := by kernel_rfl
@[simp ↓] theorem ft_vmk_158 (l c : S) (y : Nat) (st : St) (K : St → Prop) : vmk Tryz.prog 158 l c y st K = force (tick (sint l)) fun l => force (tick (sint c)) fun c => vmkZ (some (5, [C.v (Value.int IntKind.i64 (0)), C.v (Value.string ⟨#[]⟩), C.sl true [], C.sl true [], C.v (Value.bool false)])) (some (5, 80)) l c y st K := vmk_iff st K 158 l c y ft_elZ_158 ft_slT_158
@[simp] theorem ft_isIface_158 : isIface Tryz.prog 158 = false := by kernel_rfl
@[simp] theorem ft_und_158 : (Tryz.prog.underlying 158).isSome = true := by kernel_rfl
@[simp] theorem ft_tySz_159 : tySz Tryz.prog 159 = some (false, 1) := by kernel_rfl
@[simp] theorem ft_esz_159 : esz Tryz.prog 159 = some 1 := by kernel_rfl
@[simp] theorem ft_dfl_159 : dflC Tryz.prog 159 = .sl true [] := by kernel_rfl
@[simp] theorem ft_isSl_159 : isSl Tryz.prog 159 = true := by kernel_rfl
@[simp] theorem ft_zeroOf_159 : zeroOf Tryz.prog 159 = some (Value.slice none 0 0) := by kernel_rfl
@[simp] theorem ft_elZ_159 : elZ Tryz.prog 159 = some (1, [C.sl true []]) := by kernel_rfl
@[simp] theorem ft_slT_159 : slT Tryz.prog 159 = some (1, 24) := by kernel_rfl
@[simp] theorem ft_apT_159 : apT Tryz.prog 159 159 = some (1, 24) := by kernel_rfl
@[simp ↓] theorem ft_vmk_159 (l c : S) (y : Nat) (st : St) (K : St → Prop) : vmk Tryz.prog 159 l c y st K = force (tick (sint l)) fun l => force (tick (sint c)) fun c => vmkZ (some (1, [C.sl true []])) (some (1, 24)) l c y st K := vmk_iff st K 159 l c y ft_elZ_159 ft_slT_159
@[simp] theorem ft_isIface_159 : isIface Tryz.prog 159 = false := by kernel_rfl
@[simp] theorem ft_und_159 : (Tryz.prog.underlying 159).isSome = true := by kernel_rfl
@[simp] theorem ft_tySz_165 : tySz Tryz.prog 165 = some (false, 1) := by kernel_rfl
@[simp] theorem ft_esz_165 : esz Tryz.prog 165 = some 5 := by kernel_rfl
@[simp] theorem ft_dfl_165 : dflC Tryz.prog 165 = .sl true [] := by kernel_rfl
@[simp] theorem ft_isSl_165 : isSl Tryz.prog 165 = true := by kernel_rfl
@[simp] theorem ft_zeroOf_165 : zeroOf Tryz.prog 165 = some (Value.slice none 0 0) := by kernel_rfl
@[simp] theorem ft_elZ_165 : elZ Tryz.prog 165 = some (5, [C.v (Value.int IntKind.i64 (0)), C.v (Value.string ⟨#[]⟩), C.sl true [], C.sl true [], C.v (Value.bool false)]) := by kernel_rfl
@[simp] theorem ft_slT_165 : slT Tryz.prog 165 = some (5, 80) := by kernel_rfl
@[simp] theorem ft_apT_165 : apT Tryz.prog 165 165 = some (5, 80) := by kernel_rfl
@[simp ↓] theorem ft_vmk_165 (l c : S) (y : Nat) (st : St) (K : St → Prop) : vmk Tryz.prog 165 l c y st K = force (tick (sint l)) fun l => force (tick (sint c)) fun c => vmkZ (some (5, [C.v (Value.int IntKind.i64 (0)), C.v (Value.string ⟨#[]⟩), C.sl true [], C.sl true [], C.v (Value.bool false)])) (some (5, 80)) l c y st K := vmk_iff st K 165 l c y ft_elZ_165 ft_slT_165
@[simp] theorem ft_isIface_165 : isIface Tryz.prog 165 = false := by kernel_rfl
@[simp] theorem ft_und_165 : (Tryz.prog.underlying 165).isSome = true := by kernel_rfl
@[simp] theorem ft_tySz_166 : tySz Tryz.prog 166 = some (true, 5) := by kernel_rfl
@[simp] theorem ft_dfl_166 : dflC Tryz.prog 166 = .v (.int .i64 0) := by kernel_rfl
@[simp] theorem ft_zeroOf_166 : zeroOf Tryz.prog 166 = some (Value.agg [Value.int IntKind.i64 (0), Value.string ⟨#[]⟩, Value.slice none 0 0, Value.slice none 0 0, Value.bool false].toArray) := by kernel_rfl
@[simp] theorem ft_plOf_166 : plOf Tryz.prog 166 = some (Sum.inl [(0, 1), (1, 1), (2, 1), (3, 1), (4, 1)]) := by kernel_rfl
@[simp] theorem ft_isIface_166 : isIface Tryz.prog 166 = false := by kernel_rfl
@[simp] theorem ft_und_166 : (Tryz.prog.underlying 166).isSome = true := by kernel_rfl
@[simp] theorem ft_fldOf_166_0 : fldOf Tryz.prog 166 0 = some (0, false, 1) := by kernel_rfl
@[simp] theorem ft_fldOf_166_1 : fldOf Tryz.prog 166 1 = some (1, false, 1) := by kernel_rfl
@[simp] theorem ft_fldOf_166_2 : fldOf Tryz.prog 166 2 = some (2, false, 1) := by kernel_rfl
@[simp] theorem ft_fldOf_166_3 : fldOf Tryz.prog 166 3 = some (3, false, 1) := by kernel_rfl
@[simp] theorem ft_fldOf_166_4 : fldOf Tryz.prog 166 4 = some (4, false, 1) := by kernel_rfl
@[simp] theorem ft_tySz_170 : tySz Tryz.prog 170 = some (true, 2) := by kernel_rfl
@[simp] theorem ft_dfl_170 : dflC Tryz.prog 170 = .v (.int .i64 0) := by kernel_rfl
@[simp] theorem ft_zeroOf_170 : zeroOf Tryz.prog 170 = some (Value.agg [Value.nilIface, Value.slice none 0 0].toArray) := by kernel_rfl
@[simp] theorem ft_plOf_170 : plOf Tryz.prog 170 = some (Sum.inl [(0, 1), (1, 1)]) := by kernel_rfl
@[simp] theorem ft_isIface_170 : isIface Tryz.prog 170 = false := by kernel_rfl
@[simp] theorem ft_und_170 : (Tryz.prog.underlying 170).isSome = true := by kernel_rfl
@[simp] theorem ft_fldOf_170_0 : fldOf Tryz.prog 170 0 = some (0, true, 1) := by kernel_rfl
@[simp] theorem ft_fldOf_170_1 : fldOf Tryz.prog 170 1 = some (1, false, 1) := by kernel_rfl
@[simp] theorem ft_tySz_172 : tySz Tryz.prog 172 = some (true, 3) := by kernel_rfl
@[simp] theorem ft_dfl_172 : dflC Tryz.prog 172 = .v (.int .i64 0) := by kernel_rfl
@[simp] theorem ft_zeroOf_172 : zeroOf Tryz.prog 172 = some (Value.agg [Value.slice none 0 0, Value.int IntKind.i64 (0), Value.bool false].toArray) := by kernel_rfl
@[simp] theorem ft_plOf_172 : plOf Tryz.prog 172 = some (Sum.inl [(0, 1), (1, 1), (2, 1)]) := by kernel_rfl
@[simp] theorem ft_isIface_172 : isIface Tryz.prog 172 = false := by kernel_rfl
@[simp] theorem ft_und_172 : (Tryz.prog.underlying 172).isSome = true := by kernel_rfl
@[simp] theorem ft_fldOf_172_0 : fldOf Tryz.prog 172 0 = some (0, false, 1) := by kernel_rfl
@[simp] theorem ft_fldOf_172_1 : fldOf Tryz.prog 172 1 = some (1, false, 1) := by kernel_rfl
@[simp] theorem ft_fldOf_172_2 : fldOf Tryz.prog 172 2 = some (2, false, 1) := by kernel_rfl
@[simp] theorem ft_tySz_173 : tySz Tryz.prog 173 = some (false, 1) := by kernel_rfl
@[simp] theorem ft_esz_173 : esz Tryz.prog 173 = some 1 := by kernel_rfl
@[simp] theorem ft_dfl_173 : dflC Tryz.prog 173 = .sl true [] := by kernel_rfl
@[simp] theorem ft_isSl_173 : isSl Tryz.prog 173 = true := by kernel_rfl
@[simp] theorem ft_zeroOf_173 : zeroOf Tryz.prog 173 = some (Value.slice none 0 0) := by kernel_rfl
@[simp] theorem ft_elZ_173 : elZ Tryz.prog 173 = some (1, [C.v (Value.bool false)]) := by kernel_rfl
@[simp] theorem ft_slT_173 : slT Tryz.prog 173 = some (1, 1) := by kernel_rfl
@[simp] theorem ft_apT_173 : apT Tryz.prog 173 173 = some (1, 1) := by kernel_rfl
@[simp ↓] theorem ft_vmk_173 (l c : S) (y : Nat) (st : St) (K : St → Prop) : vmk Tryz.prog 173 l c y st K = force (tick (sint l)) fun l => force (tick (sint c)) fun c => vmkZ (some (1, [C.v (Value.bool false)])) (some (1, 1)) l c y st K := vmk_iff st K 173 l c y ft_elZ_173 ft_slT_173
@[simp] theorem ft_isIface_173 : isIface Tryz.prog 173 = false := by kernel_rfl
@[simp] theorem ft_und_173 : (Tryz.prog.underlying 173).isSome = true := by kernel_rfl
@[simp] theorem ft_tySz_179 : tySz Tryz.prog 179 = some (false, 1) := by kernel_rfl
@[simp] theorem ft_dfl_179 : dflC Tryz.prog 179 = .v (.int .i64 0) := by kernel_rfl
@[simp] theorem ft_intOfTy_179 : intOfTy Tryz.prog 179 = some IntKind.u64 := by kernel_rfl
@[simp] theorem ft_zeroOf_179 : zeroOf Tryz.prog 179 = some (Value.int IntKind.u64 (0)) := by kernel_rfl
@[simp] theorem ft_isIface_179 : isIface Tryz.prog 179 = false := by kernel_rfl
@[simp] theorem ft_und_179 : (Tryz.prog.underlying 179).isSome = true := by kernel_rfl
@[simp] theorem ft_tySz_180 : tySz Tryz.prog 180 = some (true, 2) := by kernel_rfl
@[simp] theorem ft_dfl_180 : dflC Tryz.prog 180 = .v (.int .i64 0) := by kernel_rfl
@[simp] theorem ft_zeroOf_180 : zeroOf Tryz.prog 180 = some (Value.agg [Value.int IntKind.i64 (0), Value.int IntKind.i64 (0)].toArray) := by kernel_rfl
@[simp] theorem ft_plOf_180 : plOf Tryz.prog 180 = some (Sum.inr 1) := by kernel_rfl
@[simp] theorem ft_arrOf_180 : arrOf Tryz.prog 180 = some (2, false, 1) := by kernel_rfl
@[simp] theorem ft_isIface_180 : isIface Tryz.prog 180 = false := by kernel_rfl
@[simp] theorem ft_und_180 : (Tryz.prog.underlying 180).isSome = true := by kernel_rfl
@[simp] theorem ft_tySz_185 : tySz Tryz.prog 185 = some (false, 1) := by kernel_rfl
@[simp] theorem ft_esz_185 : esz Tryz.prog 185 = some 1 := by kernel_rfl
@[simp] theorem ft_dfl_185 : dflC Tryz.prog 185 = .sl true [] := by kernel_rfl
@[simp] theorem ft_isSl_185 : isSl Tryz.prog 185 = true := by kernel_rfl
@[simp] theorem ft_zeroOf_185 : zeroOf Tryz.prog 185 = some (Value.slice none 0 0) := by kernel_rfl
@[simp] theorem ft_elZ_185 : elZ Tryz.prog 185 = some (1, [C.v (Value.int IntKind.i64 (0))]) := by kernel_rfl
@[simp] theorem ft_slT_185 : slT Tryz.prog 185 = some (1, 8) := by kernel_rfl
@[simp] theorem ft_apT_185 : apT Tryz.prog 185 185 = some (1, 8) := by kernel_rfl
@[simp ↓] theorem ft_vmk_185 (l c : S) (y : Nat) (st : St) (K : St → Prop) : vmk Tryz.prog 185 l c y st K = force (tick (sint l)) fun l => force (tick (sint c)) fun c => vmkZ (some (1, [C.v (Value.int IntKind.i64 (0))])) (some (1, 8)) l c y st K := vmk_iff st K 185 l c y ft_elZ_185 ft_slT_185
@[simp] theorem ft_isIface_185 : isIface Tryz.prog 185 = false := by kernel_rfl
@[simp] theorem ft_und_185 : (Tryz.prog.underlying 185).isSome = true := by kernel_rfl
@[simp] theorem ft_tySz_189 : tySz Tryz.prog 189 = some (false, 1) := by kernel_rfl
@[simp] theorem ft_esz_189 : esz Tryz.prog 189 = some 3 := by kernel_rfl
@[simp] theorem ft_dfl_189 : dflC Tryz.prog 189 = .sl true [] := by kernel_rfl
@[simp] theorem ft_isSl_189 : isSl Tryz.prog 189 = true := by kernel_rfl
@[simp] theorem ft_zeroOf_189 : zeroOf Tryz.prog 189 = some (Value.slice none 0 0) := by kernel_rfl
@[simp] theorem ft_elZ_189 : elZ Tryz.prog 189 = some (3, [C.v (Value.int IntKind.i64 (0)), C.v (Value.int IntKind.i64 (0)), C.v (Value.int IntKind.i64 (0))]) := by kernel_rfl
@[simp] theorem ft_slT_189 : slT Tryz.prog 189 = some (3, 24) := by kernel_rfl
@[simp] theorem ft_apT_189 : apT Tryz.prog 189 189 = some (3, 24) := by kernel_rfl
@[simp ↓] theorem ft_vmk_189 (l c : S) (y : Nat) (st : St) (K : St → Prop) : vmk Tryz.prog 189 l c y st K = force (tick (sint l)) fun l => force (tick (sint c)) fun c => vmkZ (some (3, [C.v (Value.int IntKind.i64 (0)), C.v (Value.int IntKind.i64 (0)), C.v (Value.int IntKind.i64 (0))])) (some (3, 24)) l c y st K := vmk_iff st K 189 l c y ft_elZ_189 ft_slT_189
@[simp] theorem ft_isIface_189 : isIface Tryz.prog 189 = false := by kernel_rfl
@[simp] theorem ft_und_189 : (Tryz.prog.underlying 189).isSome = true := by kernel_rfl
@[simp] theorem ft_tySz_191 : tySz Tryz.prog 191 = some (false, 1) := by kernel_rfl
@[simp] theorem ft_dfl_191 : dflC Tryz.prog 191 = .v (.int .i64 0) := by kernel_rfl
@[simp] theorem ft_zeroOf_191 : zeroOf Tryz.prog 191 = some Value.nilFunc := by kernel_rfl
@[simp] theorem ft_isIface_191 : isIface Tryz.prog 191 = false := by kernel_rfl
@[simp] theorem ft_und_191 : (Tryz.prog.underlying 191).isSome = true := by kernel_rfl
@[simp] theorem ft_tySz_197 : tySz Tryz.prog 197 = some (false, 1) := by kernel_rfl
@[simp] theorem ft_dfl_197 : dflC Tryz.prog 197 = .v (.int .i64 0) := by kernel_rfl
@[simp] theorem ft_zeroOf_197 : zeroOf Tryz.prog 197 = some Value.nilFunc := by kernel_rfl
@[simp] theorem ft_isIface_197 : isIface Tryz.prog 197 = false := by kernel_rfl
@[simp] theorem ft_und_197 : (Tryz.prog.underlying 197).isSome = true := by kernel_rfl
@[simp] theorem ft_tySz_198 : tySz Tryz.prog 198 = some (false, 1) := by kernel_rfl
@[simp] theorem ft_dfl_198 : dflC Tryz.prog 198 = .v (.int .i64 0) := by kernel_rfl
@[simp] theorem ft_zeroOf_198 : zeroOf Tryz.prog 198 = some Value.nilFunc := by kernel_rfl
@[simp] theorem ft_isIface_198 : isIface Tryz.prog 198 = false := by kernel_rfl
@[simp] theorem ft_und_198 : (Tryz.prog.underlying 198).isSome = true := by kernel_rfl
@[simp] theorem ft_tySz_203 : tySz Tryz.prog 203 = some (true, 3) := by kernel_rfl
@[simp] theorem ft_dfl_203 : dflC Tryz.prog 203 = .v (.int .i64 0) := by kernel_rfl
@[simp] theorem ft_zeroOf_203 : zeroOf Tryz.prog 203 = some (Value.agg [Value.string ⟨#[]⟩, Value.string ⟨#[]⟩, Value.int IntKind.i64 (0)].toArray) := by kernel_rfl
@[simp] theorem ft_plOf_203 : plOf Tryz.prog 203 = some (Sum.inl [(0, 1), (1, 1), (2, 1)]) := by kernel_rfl
@[simp] theorem ft_eqT_203 : eqT Tryz.prog 203 = some [FK.s, FK.s, FK.i] := by kernel_rfl
@[simp] theorem ft_isIface_203 : isIface Tryz.prog 203 = false := by kernel_rfl
@[simp] theorem ft_und_203 : (Tryz.prog.underlying 203).isSome = true := by kernel_rfl
@[simp] theorem ft_fldOf_203_0 : fldOf Tryz.prog 203 0 = some (0, false, 1) := by kernel_rfl
@[simp] theorem ft_fldOf_203_1 : fldOf Tryz.prog 203 1 = some (1, false, 1) := by kernel_rfl
@[simp] theorem ft_fldOf_203_2 : fldOf Tryz.prog 203 2 = some (2, false, 1) := by kernel_rfl
@[simp] theorem ft_tySz_205 : tySz Tryz.prog 205 = some (false, 1) := by kernel_rfl
@[simp] theorem ft_dfl_205 : dflC Tryz.prog 205 = .v (.int .i64 0) := by kernel_rfl
@[simp] theorem ft_intOfTy_205 : intOfTy Tryz.prog 205 = some IntKind.u64 := by kernel_rfl
@[simp] theorem ft_zeroOf_205 : zeroOf Tryz.prog 205 = some (Value.int IntKind.u64 (0)) := by kernel_rfl
@[simp] theorem ft_isIface_205 : isIface Tryz.prog 205 = false := by kernel_rfl
@[simp] theorem ft_und_205 : (Tryz.prog.underlying 205).isSome = true := by kernel_rfl
@[simp] theorem ft_tySz_207 : tySz Tryz.prog 207 = some (false, 1) := by kernel_rfl
@[simp] theorem ft_dfl_207 : dflC Tryz.prog 207 = .v (.int .i64 0) := by kernel_rfl
@[simp] theorem ft_zeroOf_207 : zeroOf Tryz.prog 207 = some Value.nilFunc := by kernel_rfl
@[simp] theorem ft_isIface_207 : isIface Tryz.prog 207 = false := by kernel_rfl
@[simp] theorem ft_und_207 : (Tryz.prog.underlying 207).isSome = true := by kernel_rfl
@[simp] theorem ft_tySz_214 : tySz Tryz.prog 214 = some (true, 3) := by kernel_rfl
@[simp] theorem ft_dfl_214 : dflC Tryz.prog 214 = .v (.int .i64 0) := by kernel_rfl
@[simp] theorem ft_zeroOf_214 : zeroOf Tryz.prog 214 = some (Value.agg [Value.int IntKind.i64 (0), Value.int IntKind.i64 (0), Value.int IntKind.i64 (0)].toArray) := by kernel_rfl
@[simp] theorem ft_plOf_214 : plOf Tryz.prog 214 = some (Sum.inl [(0, 2), (2, 1)]) := by kernel_rfl
@[simp] theorem ft_isIface_214 : isIface Tryz.prog 214 = false := by kernel_rfl
@[simp] theorem ft_und_214 : (Tryz.prog.underlying 214).isSome = true := by kernel_rfl
@[simp] theorem ft_fldOf_214_0 : fldOf Tryz.prog 214 0 = some (0, true, 2) := by kernel_rfl
@[simp] theorem ft_fldOf_214_1 : fldOf Tryz.prog 214 1 = some (2, false, 1) := by kernel_rfl
@[simp] theorem ft_tySz_221 : tySz Tryz.prog 221 = some (false, 1) := by kernel_rfl
@[simp] theorem ft_dfl_221 : dflC Tryz.prog 221 = .v (.int .i64 0) := by kernel_rfl
@[simp] theorem ft_zeroOf_221 : zeroOf Tryz.prog 221 = some (Value.tuple [Value.int IntKind.i64 (0), Value.int IntKind.i64 (0)].toArray) := by kernel_rfl
@[simp] theorem ft_isIface_221 : isIface Tryz.prog 221 = false := by kernel_rfl
@[simp] theorem ft_und_221 : (Tryz.prog.underlying 221).isSome = true := by kernel_rfl
@[simp] theorem ft_tySz_231 : tySz Tryz.prog 231 = some (false, 1) := by kernel_rfl
@[simp] theorem ft_dfl_231 : dflC Tryz.prog 231 = .v (.int .i64 0) := by kernel_rfl
@[simp] theorem ft_zeroOf_231 : zeroOf Tryz.prog 231 = some Value.nilFunc := by kernel_rfl
@[simp] theorem ft_isIface_231 : isIface Tryz.prog 231 = false := by kernel_rfl
@[simp] theorem ft_und_231 : (Tryz.prog.underlying 231).isSome = true := by kernel_rfl
@[simp] theorem ft_tySz_234 : tySz Tryz.prog 234 = some (false, 1) := by kernel_rfl
@[simp] theorem ft_dfl_234 : dflC Tryz.prog 234 = .v (.int .i64 0) := by kernel_rfl
@[simp] theorem ft_intOfTy_234 : intOfTy Tryz.prog 234 = some IntKind.i64 := by kernel_rfl
@[simp] theorem ft_zeroOf_234 : zeroOf Tryz.prog 234 = some (Value.int IntKind.i64 (0)) := by kernel_rfl
@[simp] theorem ft_isIface_234 : isIface Tryz.prog 234 = false := by kernel_rfl
@[simp] theorem ft_und_234 : (Tryz.prog.underlying 234).isSome = true := by kernel_rfl
@[simp] theorem ft_tySz_235 : tySz Tryz.prog 235 = some (false, 1) := by kernel_rfl
@[simp] theorem ft_dfl_235 : dflC Tryz.prog 235 = .v (.int .i64 0) := by kernel_rfl
@[simp] theorem ft_zeroOf_235 : zeroOf Tryz.prog 235 = some (Value.tuple [Value.int IntKind.i64 (0), Value.int IntKind.i64 (0)].toArray) := by kernel_rfl
@[simp] theorem ft_isIface_235 : isIface Tryz.prog 235 = false := by kernel_rfl
@[simp] theorem ft_und_235 : (Tryz.prog.underlying 235).isSome = true := by kernel_rfl
@[simp] theorem ft_tySz_241 : tySz Tryz.prog 241 = some (false, 1) := by kernel_rfl
@[simp] theorem ft_dfl_241 : dflC Tryz.prog 241 = .v (.int .i64 0) := by kernel_rfl
@[simp] theorem ft_intOfTy_241 : intOfTy Tryz.prog 241 = some IntKind.u32 := by kernel_rfl
@[simp] theorem ft_zeroOf_241 : zeroOf Tryz.prog 241 = some (Value.int IntKind.u32 (0)) := by kernel_rfl
@[simp] theorem ft_isIface_241 : isIface Tryz.prog 241 = false := by kernel_rfl
@[simp] theorem ft_und_241 : (Tryz.prog.underlying 241).isSome = true := by kernel_rfl
@[simp] theorem ft_tySz_249 : tySz Tryz.prog 249 = some (false, 1) := by kernel_rfl
@[simp] theorem ft_dfl_249 : dflC Tryz.prog 249 = .v (.int .i64 0) := by kernel_rfl
@[simp] theorem ft_intOfTy_249 : intOfTy Tryz.prog 249 = some IntKind.u64 := by kernel_rfl
@[simp] theorem ft_zeroOf_249 : zeroOf Tryz.prog 249 = some (Value.int IntKind.u64 (0)) := by kernel_rfl
@[simp] theorem ft_isIface_249 : isIface Tryz.prog 249 = false := by kernel_rfl
@[simp] theorem ft_und_249 : (Tryz.prog.underlying 249).isSome = true := by kernel_rfl
@[simp] theorem ft_tySz_253 : tySz Tryz.prog 253 = some (false, 1) := by kernel_rfl
@[simp] theorem ft_dfl_253 : dflC Tryz.prog 253 = .v (.int .i64 0) := by kernel_rfl
@[simp] theorem ft_isPt_253 : isPt Tryz.prog 253 = true := by kernel_rfl
@[simp] theorem ft_zeroOf_253 : zeroOf Tryz.prog 253 = some (Value.pointer none) := by kernel_rfl
@[simp] theorem ft_isIface_253 : isIface Tryz.prog 253 = false := by kernel_rfl
@[simp] theorem ft_und_253 : (Tryz.prog.underlying 253).isSome = true := by kernel_rfl
@[simp] theorem ft_tySz_267 : tySz Tryz.prog 267 = some (false, 1) := by kernel_rfl
@[simp] theorem ft_dfl_267 : dflC Tryz.prog 267 = .v (.int .i64 0) := by kernel_rfl
@[simp] theorem ft_isPt_267 : isPt Tryz.prog 267 = true := by kernel_rfl
@[simp] theorem ft_zeroOf_267 : zeroOf Tryz.prog 267 = some (Value.pointer none) := by kernel_rfl
@[simp] theorem ft_isIface_267 : isIface Tryz.prog 267 = false := by kernel_rfl
@[simp] theorem ft_und_267 : (Tryz.prog.underlying 267).isSome = true := by kernel_rfl
@[simp] theorem ft_tySz_300 : tySz Tryz.prog 300 = some (false, 1) := by kernel_rfl
@[simp] theorem ft_dfl_300 : dflC Tryz.prog 300 = .v (.int .i64 0) := by kernel_rfl
@[simp] theorem ft_zeroOf_300 : zeroOf Tryz.prog 300 = some (Value.tuple [Value.agg [Value.slice none 0 0, Value.int IntKind.i64 (0), Value.int IntKind.i64 (0)].toArray, Value.bool false].toArray) := by kernel_rfl
@[simp] theorem ft_isIface_300 : isIface Tryz.prog 300 = false := by kernel_rfl
@[simp] theorem ft_und_300 : (Tryz.prog.underlying 300).isSome = true := by kernel_rfl
@[simp] theorem ft_tySz_302 : tySz Tryz.prog 302 = some (false, 1) := by kernel_rfl
@[simp] theorem ft_dfl_302 : dflC Tryz.prog 302 = .v (.int .i64 0) := by kernel_rfl
@[simp] theorem ft_zeroOf_302 : zeroOf Tryz.prog 302 = some (Value.tuple [Value.agg [Value.int IntKind.i64 (0), Value.int IntKind.i64 (0)].toArray, Value.bool false].toArray) := by kernel_rfl
@[simp] theorem ft_isIface_302 : isIface Tryz.prog 302 = false := by kernel_rfl
@[simp] theorem ft_und_302 : (Tryz.prog.underlying 302).isSome = true := by kernel_rfl
@[simp] theorem ft_tySz_392 : tySz Tryz.prog 392 = some (false, 1) := by kernel_rfl
@[simp] theorem ft_dfl_392 : dflC Tryz.prog 392 = .v (.int .i64 0) := by kernel_rfl
@[simp] theorem ft_zeroOf_392 : zeroOf Tryz.prog 392 = some (Value.tuple [Value.agg [Value.int IntKind.i64 (0), Value.int IntKind.i64 (0), Value.string ⟨#[]⟩].toArray, Value.int IntKind.i64 (0)].toArray) := by kernel_rfl
@[simp] theorem ft_isIface_392 : isIface Tryz.prog 392 = false := by kernel_rfl
@[simp] theorem ft_und_392 : (Tryz.prog.underlying 392).isSome = true := by kernel_rfl
@[simp] theorem ft_tySz_395 : tySz Tryz.prog 395 = some (true, 1) := by kernel_rfl
@[simp] theorem ft_dfl_395 : dflC Tryz.prog 395 = .v (.int .i64 0) := by kernel_rfl
@[simp] theorem ft_zeroOf_395 : zeroOf Tryz.prog 395 = some (Value.agg [Value.int IntKind.i64 (0)].toArray) := by kernel_rfl
@[simp] theorem ft_plOf_395 : plOf Tryz.prog 395 = some (Sum.inl [(0, 1)]) := by kernel_rfl
@[simp] theorem ft_eqT_395 : eqT Tryz.prog 395 = some [FK.i] := by kernel_rfl
@[simp] theorem ft_isIface_395 : isIface Tryz.prog 395 = false := by kernel_rfl
@[simp] theorem ft_und_395 : (Tryz.prog.underlying 395).isSome = true := by kernel_rfl
@[simp] theorem ft_fldOf_395_0 : fldOf Tryz.prog 395 0 = some (0, false, 1) := by kernel_rfl
@[simp] theorem ft_tySz_396 : tySz Tryz.prog 396 = some (false, 1) := by kernel_rfl
@[simp] theorem ft_dfl_396 : dflC Tryz.prog 396 = .v (.int .i64 0) := by kernel_rfl
@[simp] theorem ft_zeroOf_396 : zeroOf Tryz.prog 396 = some (Value.tuple [Value.agg [Value.int IntKind.i64 (0)].toArray, Value.bool false].toArray) := by kernel_rfl
@[simp] theorem ft_isIface_396 : isIface Tryz.prog 396 = false := by kernel_rfl
@[simp] theorem ft_und_396 : (Tryz.prog.underlying 396).isSome = true := by kernel_rfl
@[simp] theorem ft_tySz_400 : tySz Tryz.prog 400 = some (false, 1) := by kernel_rfl
@[simp] theorem ft_dfl_400 : dflC Tryz.prog 400 = .v (.int .i64 0) := by kernel_rfl
@[simp] theorem ft_zeroOf_400 : zeroOf Tryz.prog 400 = some (Value.tuple [Value.int IntKind.u64 (0), Value.int IntKind.u64 (0)].toArray) := by kernel_rfl
@[simp] theorem ft_isIface_400 : isIface Tryz.prog 400 = false := by kernel_rfl
@[simp] theorem ft_und_400 : (Tryz.prog.underlying 400).isSome = true := by kernel_rfl
@[simp] theorem ft_meth_130 : methOf Tryz.prog 130 "annals/exec.run" = some 281 := by kernel_rfl
@[simp] theorem ft_meth_143 : methOf Tryz.prog 143 "annals/exec.run" = some 283 := by kernel_rfl
@[simp] theorem ft_meth_170 : methOf Tryz.prog 170 "annals/exec.run" = some 284 := by kernel_rfl
@[simp] theorem ft_meth_125 : methOf Tryz.prog 125 "annals/exec.run" = some 215 := by kernel_rfl
@[simp] theorem ft_meth_126 : methOf Tryz.prog 126 "annals/exec.run" = some 220 := by kernel_rfl
@[simp] theorem ft_meth_127 : methOf Tryz.prog 127 "annals/exec.run" = some 231 := by kernel_rfl
@[simp] theorem ft_meth_128 : methOf Tryz.prog 128 "annals/exec.run" = some 273 := by kernel_rfl
@[simp ↓] theorem vs_assign_nilI {P : Program} {ops : Array Oper} {st : St} {K : St → Prop} {ty : TypeId} {p : String} {af : Array Edge} (x : Nat) :
    vstep P ops st ⟨some x, .assign (.const .nilIface), ty, p, af, none⟩ K = (True ∧ K (st.put x (.c (.v .nilIface)))) := rfl
@[simp ↓] theorem vs_assign_nilP {P : Program} {ops : Array Oper} {st : St} {K : St → Prop} {ty : TypeId} {p : String} {af : Array Edge} (x : Nat) :
    vstep P ops st ⟨some x, .assign (.const (.pointer none)), ty, p, af, none⟩ K = (True ∧ K (st.put x (.c (.v (.pointer none))))) := rfl
end Go.Proofs.YtlphpbcafplnbaaGreat
