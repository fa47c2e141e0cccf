/- The types' facts of the seat, each by kernel_rfl. -/
import Derived.Test.YtmkbclnhopoiiaaGreatVC
import Derived.Test.YtmkbclnhopoiiaaGreatProg
import Derived.KernelRfl
set_option linter.unusedSimpArgs false
set_option linter.unusedVariables false
namespace Go.Proofs.YtmkbclnhopoiiaaGreat
open Go.VL Go.RowKit
@[simp] theorem ft_tySz_0 : tySz Tryz.prog 0 = some (false, 1) := by kernel_rfl
@[simp] theorem ft_dfl_0 : dflC Tryz.prog 0 = .v (.int .i64 0) := by kernel_rfl
@[simp] theorem ft_zeroOf_0 : zeroOf Tryz.prog 0 = some (Value.tuple [].toArray) := by kernel_rfl
@[simp] theorem ft_und_0 : (Tryz.prog.underlying 0).isSome = true := by kernel_rfl
@[simp] theorem ft_tySz_1 : tySz Tryz.prog 1 = some (false, 1) := by kernel_rfl
@[simp] theorem ft_dfl_1 : dflC Tryz.prog 1 = .v (.int .i64 0) := by kernel_rfl
@[simp] theorem ft_zeroOf_1 : zeroOf Tryz.prog 1 = some Value.nilFunc := by kernel_rfl
@[simp] theorem ft_und_1 : (Tryz.prog.underlying 1).isSome = true := by kernel_rfl
@[simp] theorem ft_tySz_2 : tySz Tryz.prog 2 = some (false, 1) := by kernel_rfl
@[simp] theorem ft_dfl_2 : dflC Tryz.prog 2 = .v (.int .i64 0) := by kernel_rfl
@[simp] theorem ft_intOfTy_2 : intOfTy Tryz.prog 2 = some IntKind.i64 := by kernel_rfl
@[simp] theorem ft_zeroOf_2 : zeroOf Tryz.prog 2 = some (Value.int IntKind.i64 (0)) := by kernel_rfl
@[simp] theorem ft_und_2 : (Tryz.prog.underlying 2).isSome = true := by kernel_rfl
@[simp] theorem ft_tySz_3 : tySz Tryz.prog 3 = some (false, 1) := by kernel_rfl
@[simp] theorem ft_dfl_3 : dflC Tryz.prog 3 = .v (.int .i64 0) := by kernel_rfl
@[simp] theorem ft_intOfTy_3 : intOfTy Tryz.prog 3 = some IntKind.i64 := by kernel_rfl
@[simp] theorem ft_zeroOf_3 : zeroOf Tryz.prog 3 = some (Value.int IntKind.i64 (0)) := by kernel_rfl
@[simp] theorem ft_und_3 : (Tryz.prog.underlying 3).isSome = true := by kernel_rfl
@[simp] theorem ft_tySz_4 : tySz Tryz.prog 4 = some (false, 1) := by kernel_rfl
@[simp] theorem ft_dfl_4 : dflC Tryz.prog 4 = .v (.int .i64 0) := by kernel_rfl
@[simp] theorem ft_zeroOf_4 : zeroOf Tryz.prog 4 = some (Value.bool false) := by kernel_rfl
@[simp] theorem ft_und_4 : (Tryz.prog.underlying 4).isSome = true := by kernel_rfl
@[simp] theorem ft_tySz_5 : tySz Tryz.prog 5 = some (false, 1) := by kernel_rfl
@[simp] theorem ft_dfl_5 : dflC Tryz.prog 5 = .v (.int .i64 0) := by kernel_rfl
@[simp] theorem ft_intOfTy_5 : intOfTy Tryz.prog 5 = some IntKind.u8 := by kernel_rfl
@[simp] theorem ft_zeroOf_5 : zeroOf Tryz.prog 5 = some (Value.int IntKind.u8 (0)) := by kernel_rfl
@[simp] theorem ft_und_5 : (Tryz.prog.underlying 5).isSome = true := by kernel_rfl
@[simp] theorem ft_tySz_6 : tySz Tryz.prog 6 = some (false, 1) := by kernel_rfl
@[simp] theorem ft_dfl_6 : dflC Tryz.prog 6 = .v (.int .i64 0) := by kernel_rfl
@[simp] theorem ft_intOfTy_6 : intOfTy Tryz.prog 6 = some IntKind.u8 := by kernel_rfl
@[simp] theorem ft_zeroOf_6 : zeroOf Tryz.prog 6 = some (Value.int IntKind.u8 (0)) := by kernel_rfl
@[simp] theorem ft_und_6 : (Tryz.prog.underlying 6).isSome = true := by kernel_rfl
@[simp] theorem ft_tySz_7 : tySz Tryz.prog 7 = some (true, 4) := by kernel_rfl
@[simp] theorem ft_dfl_7 : dflC Tryz.prog 7 = .v (.int .i64 0) := by kernel_rfl
@[simp] theorem ft_zeroOf_7 : zeroOf Tryz.prog 7 = some (Value.agg [Value.int IntKind.i64 (0), Value.int IntKind.i64 (0), Value.bool false, Value.int IntKind.u8 (0)].toArray) := by kernel_rfl
@[simp] theorem ft_plOf_7 : plOf Tryz.prog 7 = some (Sum.inl [(0, 1), (1, 1), (2, 1), (3, 1)]) := by kernel_rfl
@[simp] theorem ft_eqT_7 : eqT Tryz.prog 7 = some [FK.i, FK.i, FK.b, FK.i] := by kernel_rfl
@[simp] theorem ft_und_7 : (Tryz.prog.underlying 7).isSome = true := by kernel_rfl
@[simp] theorem ft_fldOf_7_0 : fldOf Tryz.prog 7 0 = some (0, false, 1) := by kernel_rfl
@[simp] theorem ft_fldOf_7_1 : fldOf Tryz.prog 7 1 = some (1, false, 1) := by kernel_rfl
@[simp] theorem ft_fldOf_7_2 : fldOf Tryz.prog 7 2 = some (2, false, 1) := by kernel_rfl
@[simp] theorem ft_fldOf_7_3 : fldOf Tryz.prog 7 3 = some (3, false, 1) := by kernel_rfl
@[simp] theorem ft_tySz_8 : tySz Tryz.prog 8 = some (true, 4) := by kernel_rfl
@[simp] theorem ft_dfl_8 : dflC Tryz.prog 8 = .v (.int .i64 0) := by kernel_rfl
@[simp] theorem ft_zeroOf_8 : zeroOf Tryz.prog 8 = some (Value.agg [Value.int IntKind.i64 (0), Value.int IntKind.i64 (0), Value.bool false, Value.int IntKind.u8 (0)].toArray) := by kernel_rfl
@[simp] theorem ft_plOf_8 : plOf Tryz.prog 8 = some (Sum.inl [(0, 1), (1, 1), (2, 1), (3, 1)]) := by kernel_rfl
@[simp] theorem ft_eqT_8 : eqT Tryz.prog 8 = some [FK.i, FK.i, FK.b, FK.i] := by kernel_rfl
@[simp] theorem ft_und_8 : (Tryz.prog.underlying 8).isSome = true := by kernel_rfl
@[simp] theorem ft_fldOf_8_0 : fldOf Tryz.prog 8 0 = some (0, false, 1) := by kernel_rfl
@[simp] theorem ft_fldOf_8_1 : fldOf Tryz.prog 8 1 = some (1, false, 1) := by kernel_rfl
@[simp] theorem ft_fldOf_8_2 : fldOf Tryz.prog 8 2 = some (2, false, 1) := by kernel_rfl
@[simp] theorem ft_fldOf_8_3 : fldOf Tryz.prog 8 3 = some (3, false, 1) := by kernel_rfl
@[simp] theorem ft_tySz_9 : tySz Tryz.prog 9 = some (false, 1) := by kernel_rfl
@[simp] theorem ft_dfl_9 : dflC Tryz.prog 9 = .v (.int .i64 0) := by kernel_rfl
@[simp] theorem ft_zeroOf_9 : zeroOf Tryz.prog 9 = some (Value.string ⟨#[]⟩) := by kernel_rfl
@[simp] theorem ft_und_9 : (Tryz.prog.underlying 9).isSome = true := by kernel_rfl
@[simp] theorem ft_tySz_10 : tySz Tryz.prog 10 = some (false, 1) := by kernel_rfl
@[simp] theorem ft_dfl_10 : dflC Tryz.prog 10 = .v (.int .i64 0) := by kernel_rfl
@[simp] theorem ft_zeroOf_10 : zeroOf Tryz.prog 10 = some (Value.string ⟨#[]⟩) := by kernel_rfl
@[simp] theorem ft_und_10 : (Tryz.prog.underlying 10).isSome = true := by kernel_rfl
@[simp] theorem ft_tySz_11 : tySz Tryz.prog 11 = some (false, 1) := by kernel_rfl
@[simp] theorem ft_dfl_11 : dflC Tryz.prog 11 = .v (.int .i64 0) := by kernel_rfl
@[simp] theorem ft_zeroOf_11 : zeroOf Tryz.prog 11 = some (Value.string ⟨#[]⟩) := by kernel_rfl
@[simp] theorem ft_und_11 : (Tryz.prog.underlying 11).isSome = true := by kernel_rfl
@[simp] theorem ft_tySz_12 : tySz Tryz.prog 12 = some (false, 1) := by kernel_rfl
@[simp] theorem ft_dfl_12 : dflC Tryz.prog 12 = .v (.int .i64 0) := by kernel_rfl
@[simp] theorem ft_intOfTy_12 : intOfTy Tryz.prog 12 = some IntKind.u64 := by kernel_rfl
@[simp] theorem ft_zeroOf_12 : zeroOf Tryz.prog 12 = some (Value.int IntKind.u64 (0)) := by kernel_rfl
@[simp] theorem ft_und_12 : (Tryz.prog.underlying 12).isSome = true := by kernel_rfl
@[simp] theorem ft_tySz_13 : tySz Tryz.prog 13 = some (true, 2) := by kernel_rfl
@[simp] theorem ft_dfl_13 : dflC Tryz.prog 13 = .v (.int .i64 0) := by kernel_rfl
@[simp] theorem ft_zeroOf_13 : zeroOf Tryz.prog 13 = some (Value.agg [Value.string ⟨#[]⟩, Value.int IntKind.u64 (0)].toArray) := by kernel_rfl
@[simp] theorem ft_plOf_13 : plOf Tryz.prog 13 = some (Sum.inl [(0, 1), (1, 1)]) := by kernel_rfl
@[simp] theorem ft_und_13 : (Tryz.prog.underlying 13).isSome = true := by kernel_rfl
@[simp] theorem ft_fldOf_13_0 : fldOf Tryz.prog 13 0 = some (0, false, 1) := by kernel_rfl
@[simp] theorem ft_fldOf_13_1 : fldOf Tryz.prog 13 1 = some (1, false, 1) := by kernel_rfl
@[simp] theorem ft_tySz_14 : tySz Tryz.prog 14 = some (true, 2) := by kernel_rfl
@[simp] theorem ft_dfl_14 : dflC Tryz.prog 14 = .v (.int .i64 0) := by kernel_rfl
@[simp] theorem ft_zeroOf_14 : zeroOf Tryz.prog 14 = some (Value.agg [Value.string ⟨#[]⟩, Value.int IntKind.u64 (0)].toArray) := by kernel_rfl
@[simp] theorem ft_plOf_14 : plOf Tryz.prog 14 = some (Sum.inl [(0, 1), (1, 1)]) := by kernel_rfl
@[simp] theorem ft_und_14 : (Tryz.prog.underlying 14).isSome = true := by kernel_rfl
@[simp] theorem ft_fldOf_14_0 : fldOf Tryz.prog 14 0 = some (0, false, 1) := by kernel_rfl
@[simp] theorem ft_fldOf_14_1 : fldOf Tryz.prog 14 1 = some (1, false, 1) := by kernel_rfl
@[simp] theorem ft_tySz_15 : tySz Tryz.prog 15 = some (false, 1) := by kernel_rfl
@[simp] theorem ft_dfl_15 : dflC Tryz.prog 15 = .v (.int .i64 0) := by kernel_rfl
@[simp] theorem ft_isPt_15 : isPt Tryz.prog 15 = true := by kernel_rfl
@[simp] theorem ft_zeroOf_15 : zeroOf Tryz.prog 15 = some (Value.pointer none) := by kernel_rfl
@[simp] theorem ft_und_15 : (Tryz.prog.underlying 15).isSome = true := by kernel_rfl
@[simp] theorem ft_tySz_16 : tySz Tryz.prog 16 = some (false, 1) := by kernel_rfl
@[simp] theorem ft_dfl_16 : dflC Tryz.prog 16 = .v (.int .i64 0) := by kernel_rfl
@[simp] theorem ft_isPt_16 : isPt Tryz.prog 16 = true := by kernel_rfl
@[simp] theorem ft_zeroOf_16 : zeroOf Tryz.prog 16 = some (Value.pointer none) := by kernel_rfl
@[simp] theorem ft_und_16 : (Tryz.prog.underlying 16).isSome = true := by kernel_rfl
@[simp] theorem ft_tySz_17 : tySz Tryz.prog 17 = some (false, 1) := by kernel_rfl
@[simp] theorem ft_dfl_17 : dflC Tryz.prog 17 = .v (.int .i64 0) := by kernel_rfl
@[simp] theorem ft_isPt_17 : isPt Tryz.prog 17 = true := by kernel_rfl
@[simp] theorem ft_zeroOf_17 : zeroOf Tryz.prog 17 = some (Value.pointer none) := by kernel_rfl
@[simp] theorem ft_und_17 : (Tryz.prog.underlying 17).isSome = true := by kernel_rfl
@[simp] theorem ft_tySz_18 : tySz Tryz.prog 18 = some (true, 1) := by kernel_rfl
@[simp] theorem ft_dfl_18 : dflC Tryz.prog 18 = .v (.int .i64 0) := by kernel_rfl
@[simp] theorem ft_zeroOf_18 : zeroOf Tryz.prog 18 = some (Value.agg [Value.pointer none].toArray) := by kernel_rfl
@[simp] theorem ft_plOf_18 : plOf Tryz.prog 18 = some (Sum.inl [(0, 1)]) := by kernel_rfl
@[simp] theorem ft_und_18 : (Tryz.prog.underlying 18).isSome = true := by kernel_rfl
@[simp] theorem ft_fldOf_18_0 : fldOf Tryz.prog 18 0 = some (0, false, 1) := by kernel_rfl
@[simp] theorem ft_tySz_19 : tySz Tryz.prog 19 = some (true, 1) := by kernel_rfl
@[simp] theorem ft_dfl_19 : dflC Tryz.prog 19 = .v (.int .i64 0) := by kernel_rfl
@[simp] theorem ft_zeroOf_19 : zeroOf Tryz.prog 19 = some (Value.agg [Value.pointer none].toArray) := by kernel_rfl
@[simp] theorem ft_plOf_19 : plOf Tryz.prog 19 = some (Sum.inl [(0, 1)]) := by kernel_rfl
@[simp] theorem ft_und_19 : (Tryz.prog.underlying 19).isSome = true := by kernel_rfl
@[simp] theorem ft_fldOf_19_0 : fldOf Tryz.prog 19 0 = some (0, false, 1) := by kernel_rfl
@[simp] theorem ft_tySz_20 : tySz Tryz.prog 20 = some (false, 1) := by kernel_rfl
@[simp] theorem ft_dfl_20 : dflC Tryz.prog 20 = .v (.int .i64 0) := by kernel_rfl
@[simp] theorem ft_zeroOf_20 : zeroOf Tryz.prog 20 = some Value.nilIface := by kernel_rfl
@[simp] theorem ft_und_20 : (Tryz.prog.underlying 20).isSome = true := by kernel_rfl
@[simp] theorem ft_tySz_21 : tySz Tryz.prog 21 = some (false, 1) := by kernel_rfl
@[simp] theorem ft_dfl_21 : dflC Tryz.prog 21 = .v (.int .i64 0) := by kernel_rfl
@[simp] theorem ft_intOfTy_21 : intOfTy Tryz.prog 21 = some IntKind.i32 := by kernel_rfl
@[simp] theorem ft_zeroOf_21 : zeroOf Tryz.prog 21 = some (Value.int IntKind.i32 (0)) := by kernel_rfl
@[simp] theorem ft_und_21 : (Tryz.prog.underlying 21).isSome = true := by kernel_rfl
@[simp] theorem ft_tySz_22 : tySz Tryz.prog 22 = some (false, 1) := by kernel_rfl
@[simp] theorem ft_esz_22 : esz Tryz.prog 22 = some 3 := by kernel_rfl
@[simp] theorem ft_dfl_22 : dflC Tryz.prog 22 = .sl true [] := by kernel_rfl
@[simp] theorem ft_isSl_22 : isSl Tryz.prog 22 = true := by kernel_rfl
@[simp] theorem ft_zeroOf_22 : zeroOf Tryz.prog 22 = some (Value.slice none 0 0) := by kernel_rfl
@[simp] theorem ft_elZ_22 : elZ Tryz.prog 22 = some (3, [C.sl true [], C.v (Value.int IntKind.i64 (0)), C.v (Value.int IntKind.i64 (0))]) := by kernel_rfl
@[simp] theorem ft_slT_22 : slT Tryz.prog 22 = some (3, 40) := by kernel_rfl
@[simp] theorem ft_apT_22 : apT Tryz.prog 22 22 = some (3, 40) := by kernel_rfl
@[simp ↓] theorem ft_vmk_22 (l c : S) (y : Nat) (st : St) (K : St → Prop) : vmk Tryz.prog 22 l c y st K = force (tick (sint l)) fun l => force (tick (sint c)) fun c => vmkZ (some (3, [C.sl true [], C.v (Value.int IntKind.i64 (0)), C.v (Value.int IntKind.i64 (0))])) (some (3, 40)) l c y st K := vmk_iff st K 22 l c y ft_elZ_22 ft_slT_22
@[simp] theorem ft_und_22 : (Tryz.prog.underlying 22).isSome = true := by kernel_rfl
@[simp] theorem ft_tySz_23 : tySz Tryz.prog 23 = some (true, 2) := by kernel_rfl
@[simp] theorem ft_dfl_23 : dflC Tryz.prog 23 = .v (.int .i64 0) := by kernel_rfl
@[simp] theorem ft_zeroOf_23 : zeroOf Tryz.prog 23 = some (Value.agg [Value.int IntKind.i64 (0), Value.int IntKind.i64 (0)].toArray) := by kernel_rfl
@[simp] theorem ft_plOf_23 : plOf Tryz.prog 23 = some (Sum.inl [(0, 1), (1, 1)]) := by kernel_rfl
@[simp] theorem ft_eqT_23 : eqT Tryz.prog 23 = some [FK.i, FK.i] := by kernel_rfl
@[simp] theorem ft_und_23 : (Tryz.prog.underlying 23).isSome = true := by kernel_rfl
@[simp] theorem ft_fldOf_23_0 : fldOf Tryz.prog 23 0 = some (0, false, 1) := by kernel_rfl
@[simp] theorem ft_fldOf_23_1 : fldOf Tryz.prog 23 1 = some (1, false, 1) := by kernel_rfl
@[simp] theorem ft_tySz_24 : tySz Tryz.prog 24 = some (true, 2) := by kernel_rfl
@[simp] theorem ft_dfl_24 : dflC Tryz.prog 24 = .v (.int .i64 0) := by kernel_rfl
@[simp] theorem ft_zeroOf_24 : zeroOf Tryz.prog 24 = some (Value.agg [Value.int IntKind.i64 (0), Value.int IntKind.i64 (0)].toArray) := by kernel_rfl
@[simp] theorem ft_plOf_24 : plOf Tryz.prog 24 = some (Sum.inl [(0, 1), (1, 1)]) := by kernel_rfl
@[simp] theorem ft_eqT_24 : eqT Tryz.prog 24 = some [FK.i, FK.i] := by kernel_rfl
@[simp] theorem ft_und_24 : (Tryz.prog.underlying 24).isSome = true := by kernel_rfl
@[simp] theorem ft_fldOf_24_0 : fldOf Tryz.prog 24 0 = some (0, false, 1) := by kernel_rfl
@[simp] theorem ft_fldOf_24_1 : fldOf Tryz.prog 24 1 = some (1, false, 1) := by kernel_rfl
@[simp] theorem ft_tySz_25 : tySz Tryz.prog 25 = some (false, 1) := by kernel_rfl
@[simp] theorem ft_esz_25 : esz Tryz.prog 25 = some 1 := by kernel_rfl
@[simp] theorem ft_dfl_25 : dflC Tryz.prog 25 = .sl true [] := by kernel_rfl
@[simp] theorem ft_isSl_25 : isSl Tryz.prog 25 = true := by kernel_rfl
@[simp] theorem ft_zeroOf_25 : zeroOf Tryz.prog 25 = some (Value.slice none 0 0) := by kernel_rfl
@[simp] theorem ft_elZ_25 : elZ Tryz.prog 25 = some (1, [C.v (Value.int IntKind.i64 (0))]) := by kernel_rfl
@[simp] theorem ft_slT_25 : slT Tryz.prog 25 = some (1, 8) := by kernel_rfl
@[simp] theorem ft_apT_25 : apT Tryz.prog 25 25 = some (1, 8) := by kernel_rfl
@[simp ↓] theorem ft_vmk_25 (l c : S) (y : Nat) (st : St) (K : St → Prop) : vmk Tryz.prog 25 l c y st K = force (tick (sint l)) fun l => force (tick (sint c)) fun c => vmkZ (some (1, [C.v (Value.int IntKind.i64 (0))])) (some (1, 8)) l c y st K := vmk_iff st K 25 l c y ft_elZ_25 ft_slT_25
@[simp] theorem ft_und_25 : (Tryz.prog.underlying 25).isSome = true := by kernel_rfl
@[simp] theorem ft_tySz_26 : tySz Tryz.prog 26 = some (true, 5) := by kernel_rfl
@[simp] theorem ft_dfl_26 : dflC Tryz.prog 26 = .v (.int .i64 0) := by kernel_rfl
@[simp] theorem ft_zeroOf_26 : zeroOf Tryz.prog 26 = some (Value.agg [Value.int IntKind.i64 (0), Value.int IntKind.i64 (0), Value.int IntKind.i64 (0), Value.slice none 0 0, Value.int IntKind.i64 (0)].toArray) := by kernel_rfl
@[simp] theorem ft_plOf_26 : plOf Tryz.prog 26 = some (Sum.inl [(0, 2), (2, 1), (3, 1), (4, 1)]) := by kernel_rfl
@[simp] theorem ft_und_26 : (Tryz.prog.underlying 26).isSome = true := by kernel_rfl
@[simp] theorem ft_fldOf_26_0 : fldOf Tryz.prog 26 0 = some (0, true, 2) := by kernel_rfl
@[simp] theorem ft_fldOf_26_1 : fldOf Tryz.prog 26 1 = some (2, false, 1) := by kernel_rfl
@[simp] theorem ft_fldOf_26_2 : fldOf Tryz.prog 26 2 = some (3, false, 1) := by kernel_rfl
@[simp] theorem ft_fldOf_26_3 : fldOf Tryz.prog 26 3 = some (4, false, 1) := by kernel_rfl
@[simp] theorem ft_tySz_27 : tySz Tryz.prog 27 = some (true, 5) := by kernel_rfl
@[simp] theorem ft_dfl_27 : dflC Tryz.prog 27 = .v (.int .i64 0) := by kernel_rfl
@[simp] theorem ft_zeroOf_27 : zeroOf Tryz.prog 27 = some (Value.agg [Value.int IntKind.i64 (0), Value.int IntKind.i64 (0), Value.int IntKind.i64 (0), Value.slice none 0 0, Value.int IntKind.i64 (0)].toArray) := by kernel_rfl
@[simp] theorem ft_plOf_27 : plOf Tryz.prog 27 = some (Sum.inl [(0, 2), (2, 1), (3, 1), (4, 1)]) := by kernel_rfl
@[simp] theorem ft_und_27 : (Tryz.prog.underlying 27).isSome = true := by kernel_rfl
@[simp] theorem ft_fldOf_27_0 : fldOf Tryz.prog 27 0 = some (0, true, 2) := by kernel_rfl
@[simp] theorem ft_fldOf_27_1 : fldOf Tryz.prog 27 1 = some (2, false, 1) := by kernel_rfl
@[simp] theorem ft_fldOf_27_2 : fldOf Tryz.prog 27 2 = some (3, false, 1) := by kernel_rfl
@[simp] theorem ft_fldOf_27_3 : fldOf Tryz.prog 27 3 = some (4, false, 1) := by kernel_rfl
@[simp] theorem ft_tySz_28 : tySz Tryz.prog 28 = some (false, 1) := by kernel_rfl
@[simp] theorem ft_dfl_28 : dflC Tryz.prog 28 = .v (.int .i64 0) := by kernel_rfl
@[simp] theorem ft_zeroOf_28 : zeroOf Tryz.prog 28 = some Value.nilFunc := by kernel_rfl
@[simp] theorem ft_und_28 : (Tryz.prog.underlying 28).isSome = true := by kernel_rfl
@[simp] theorem ft_tySz_29 : tySz Tryz.prog 29 = some (false, 1) := by kernel_rfl
@[simp] theorem ft_dfl_29 : dflC Tryz.prog 29 = .v (.int .i64 0) := by kernel_rfl
@[simp] theorem ft_zeroOf_29 : zeroOf Tryz.prog 29 = some Value.nilFunc := by kernel_rfl
@[simp] theorem ft_und_29 : (Tryz.prog.underlying 29).isSome = true := by kernel_rfl
@[simp] theorem ft_tySz_30 : tySz Tryz.prog 30 = some (false, 1) := by kernel_rfl
@[simp] theorem ft_dfl_30 : dflC Tryz.prog 30 = .v (.int .i64 0) := by kernel_rfl
@[simp] theorem ft_intOfTy_30 : intOfTy Tryz.prog 30 = some IntKind.i64 := by kernel_rfl
@[simp] theorem ft_zeroOf_30 : zeroOf Tryz.prog 30 = some (Value.int IntKind.i64 (0)) := by kernel_rfl
@[simp] theorem ft_und_30 : (Tryz.prog.underlying 30).isSome = true := by kernel_rfl
@[simp] theorem ft_tySz_31 : tySz Tryz.prog 31 = some (false, 1) := by kernel_rfl
@[simp] theorem ft_dfl_31 : dflC Tryz.prog 31 = .v (.int .i64 0) := by kernel_rfl
@[simp] theorem ft_zeroOf_31 : zeroOf Tryz.prog 31 = some (Value.tuple [Value.slice none 0 0, Value.int IntKind.i64 (0)].toArray) := by kernel_rfl
@[simp] theorem ft_und_31 : (Tryz.prog.underlying 31).isSome = true := by kernel_rfl
@[simp] theorem ft_tySz_32 : tySz Tryz.prog 32 = some (false, 1) := by kernel_rfl
@[simp] theorem ft_dfl_32 : dflC Tryz.prog 32 = .v (.int .i64 0) := by kernel_rfl
@[simp] theorem ft_zeroOf_32 : zeroOf Tryz.prog 32 = some Value.nilFunc := by kernel_rfl
@[simp] theorem ft_und_32 : (Tryz.prog.underlying 32).isSome = true := by kernel_rfl
@[simp] theorem ft_tySz_33 : tySz Tryz.prog 33 = some (false, 1) := by kernel_rfl
@[simp] theorem ft_dfl_33 : dflC Tryz.prog 33 = .v (.int .i64 0) := by kernel_rfl
@[simp] theorem ft_zeroOf_33 : zeroOf Tryz.prog 33 = some (Value.tuple [Value.slice none 0 0, Value.int IntKind.i64 (0)].toArray) := by kernel_rfl
@[simp] theorem ft_und_33 : (Tryz.prog.underlying 33).isSome = true := by kernel_rfl
@[simp] theorem ft_tySz_34 : tySz Tryz.prog 34 = some (false, 1) := by kernel_rfl
@[simp] theorem ft_dfl_34 : dflC Tryz.prog 34 = .v (.int .i64 0) := by kernel_rfl
@[simp] theorem ft_zeroOf_34 : zeroOf Tryz.prog 34 = some Value.nilFunc := by kernel_rfl
@[simp] theorem ft_und_34 : (Tryz.prog.underlying 34).isSome = true := by kernel_rfl
@[simp] theorem ft_tySz_35 : tySz Tryz.prog 35 = some (false, 1) := by kernel_rfl
@[simp] theorem ft_dfl_35 : dflC Tryz.prog 35 = .v (.int .i64 0) := by kernel_rfl
@[simp] theorem ft_zeroOf_35 : zeroOf Tryz.prog 35 = some Value.nilFunc := by kernel_rfl
@[simp] theorem ft_und_35 : (Tryz.prog.underlying 35).isSome = true := by kernel_rfl
@[simp] theorem ft_tySz_36 : tySz Tryz.prog 36 = some (false, 1) := by kernel_rfl
@[simp] theorem ft_dfl_36 : dflC Tryz.prog 36 = .v (.int .i64 0) := by kernel_rfl
@[simp] theorem ft_zeroOf_36 : zeroOf Tryz.prog 36 = some Value.nilFunc := by kernel_rfl
@[simp] theorem ft_und_36 : (Tryz.prog.underlying 36).isSome = true := by kernel_rfl
@[simp] theorem ft_tySz_37 : tySz Tryz.prog 37 = some (false, 1) := by kernel_rfl
@[simp] theorem ft_dfl_37 : dflC Tryz.prog 37 = .v (.int .i64 0) := by kernel_rfl
@[simp] theorem ft_zeroOf_37 : zeroOf Tryz.prog 37 = some Value.nilFunc := by kernel_rfl
@[simp] theorem ft_und_37 : (Tryz.prog.underlying 37).isSome = true := by kernel_rfl
@[simp] theorem ft_tySz_38 : tySz Tryz.prog 38 = some (false, 1) := by kernel_rfl
@[simp] theorem ft_dfl_38 : dflC Tryz.prog 38 = .v (.int .i64 0) := by kernel_rfl
@[simp] theorem ft_zeroOf_38 : zeroOf Tryz.prog 38 = some Value.nilFunc := by kernel_rfl
@[simp] theorem ft_und_38 : (Tryz.prog.underlying 38).isSome = true := by kernel_rfl
@[simp] theorem ft_tySz_39 : tySz Tryz.prog 39 = some (false, 1) := by kernel_rfl
@[simp] theorem ft_dfl_39 : dflC Tryz.prog 39 = .v (.int .i64 0) := by kernel_rfl
@[simp] theorem ft_zeroOf_39 : zeroOf Tryz.prog 39 = some Value.nilFunc := by kernel_rfl
@[simp] theorem ft_und_39 : (Tryz.prog.underlying 39).isSome = true := by kernel_rfl
@[simp] theorem ft_tySz_40 : tySz Tryz.prog 40 = some (false, 1) := by kernel_rfl
@[simp] theorem ft_dfl_40 : dflC Tryz.prog 40 = .v (.int .i64 0) := by kernel_rfl
@[simp] theorem ft_zeroOf_40 : zeroOf Tryz.prog 40 = some Value.nilFunc := by kernel_rfl
@[simp] theorem ft_und_40 : (Tryz.prog.underlying 40).isSome = true := by kernel_rfl
@[simp] theorem ft_tySz_41 : tySz Tryz.prog 41 = some (false, 1) := by kernel_rfl
@[simp] theorem ft_dfl_41 : dflC Tryz.prog 41 = .v (.int .i64 0) := by kernel_rfl
@[simp] theorem ft_zeroOf_41 : zeroOf Tryz.prog 41 = some Value.nilFunc := by kernel_rfl
@[simp] theorem ft_und_41 : (Tryz.prog.underlying 41).isSome = true := by kernel_rfl
@[simp] theorem ft_tySz_42 : tySz Tryz.prog 42 = some (false, 1) := by kernel_rfl
@[simp] theorem ft_esz_42 : esz Tryz.prog 42 = some 1 := by kernel_rfl
@[simp] theorem ft_dfl_42 : dflC Tryz.prog 42 = .sl true [] := by kernel_rfl
@[simp] theorem ft_isSl_42 : isSl Tryz.prog 42 = true := by kernel_rfl
@[simp] theorem ft_zeroOf_42 : zeroOf Tryz.prog 42 = some (Value.slice none 0 0) := by kernel_rfl
@[simp] theorem ft_elZ_42 : elZ Tryz.prog 42 = some (1, [C.sl true []]) := by kernel_rfl
@[simp] theorem ft_slT_42 : slT Tryz.prog 42 = some (1, 24) := by kernel_rfl
@[simp] theorem ft_apT_42 : apT Tryz.prog 42 42 = some (1, 24) := by kernel_rfl
@[simp ↓] theorem ft_vmk_42 (l c : S) (y : Nat) (st : St) (K : St → Prop) : vmk Tryz.prog 42 l c y st K = force (tick (sint l)) fun l => force (tick (sint c)) fun c => vmkZ (some (1, [C.sl true []])) (some (1, 24)) l c y st K := vmk_iff st K 42 l c y ft_elZ_42 ft_slT_42
@[simp] theorem ft_und_42 : (Tryz.prog.underlying 42).isSome = true := by kernel_rfl
@[simp] theorem ft_tySz_43 : tySz Tryz.prog 43 = some (false, 1) := by kernel_rfl
@[simp] theorem ft_dfl_43 : dflC Tryz.prog 43 = .v (.int .i64 0) := by kernel_rfl
@[simp] theorem ft_zeroOf_43 : zeroOf Tryz.prog 43 = some Value.nilFunc := by kernel_rfl
@[simp] theorem ft_und_43 : (Tryz.prog.underlying 43).isSome = true := by kernel_rfl
@[simp] theorem ft_tySz_44 : tySz Tryz.prog 44 = some (false, 1) := by kernel_rfl
@[simp] theorem ft_dfl_44 : dflC Tryz.prog 44 = .v (.int .i64 0) := by kernel_rfl
@[simp] theorem ft_zeroOf_44 : zeroOf Tryz.prog 44 = some Value.nilFunc := by kernel_rfl
@[simp] theorem ft_und_44 : (Tryz.prog.underlying 44).isSome = true := by kernel_rfl
@[simp] theorem ft_tySz_45 : tySz Tryz.prog 45 = some (false, 1) := by kernel_rfl
@[simp] theorem ft_esz_45 : esz Tryz.prog 45 = some 1 := by kernel_rfl
@[simp] theorem ft_dfl_45 : dflC Tryz.prog 45 = .sl true [] := by kernel_rfl
@[simp] theorem ft_isSl_45 : isSl Tryz.prog 45 = true := by kernel_rfl
@[simp] theorem ft_zeroOf_45 : zeroOf Tryz.prog 45 = some (Value.slice none 0 0) := by kernel_rfl
@[simp] theorem ft_elZ_45 : elZ Tryz.prog 45 = some (1, [C.sl true []]) := by kernel_rfl
@[simp] theorem ft_slT_45 : slT Tryz.prog 45 = some (1, 24) := by kernel_rfl
@[simp] theorem ft_apT_45 : apT Tryz.prog 45 45 = some (1, 24) := by kernel_rfl
@[simp ↓] theorem ft_vmk_45 (l c : S) (y : Nat) (st : St) (K : St → Prop) : vmk Tryz.prog 45 l c y st K = force (tick (sint l)) fun l => force (tick (sint c)) fun c => vmkZ (some (1, [C.sl true []])) (some (1, 24)) l c y st K := vmk_iff st K 45 l c y ft_elZ_45 ft_slT_45
@[simp] theorem ft_und_45 : (Tryz.prog.underlying 45).isSome = true := by kernel_rfl
@[simp] theorem ft_tySz_46 : tySz Tryz.prog 46 = some (false, 1) := by kernel_rfl
@[simp] theorem ft_esz_46 : esz Tryz.prog 46 = some 3 := by kernel_rfl
@[simp] theorem ft_dfl_46 : dflC Tryz.prog 46 = .sl true [] := by kernel_rfl
@[simp] theorem ft_isSl_46 : isSl Tryz.prog 46 = true := by kernel_rfl
@[simp] theorem ft_zeroOf_46 : zeroOf Tryz.prog 46 = some (Value.slice none 0 0) := by kernel_rfl
@[simp] theorem ft_elZ_46 : elZ Tryz.prog 46 = some (3, [C.v (Value.int IntKind.i64 (0)), C.v (Value.int IntKind.i64 (0)), C.v (Value.string ⟨#[]⟩)]) := by kernel_rfl
@[simp] theorem ft_slT_46 : slT Tryz.prog 46 = some (3, 32) := by kernel_rfl
@[simp] theorem ft_apT_46 : apT Tryz.prog 46 46 = some (3, 32) := by kernel_rfl
@[simp ↓] theorem ft_vmk_46 (l c : S) (y : Nat) (st : St) (K : St → Prop) : vmk Tryz.prog 46 l c y st K = force (tick (sint l)) fun l => force (tick (sint c)) fun c => vmkZ (some (3, [C.v (Value.int IntKind.i64 (0)), C.v (Value.int IntKind.i64 (0)), C.v (Value.string ⟨#[]⟩)])) (some (3, 32)) l c y st K := vmk_iff st K 46 l c y ft_elZ_46 ft_slT_46
@[simp] theorem ft_und_46 : (Tryz.prog.underlying 46).isSome = true := by kernel_rfl
@[simp] theorem ft_tySz_47 : tySz Tryz.prog 47 = some (true, 3) := by kernel_rfl
@[simp] theorem ft_dfl_47 : dflC Tryz.prog 47 = .v (.int .i64 0) := by kernel_rfl
@[simp] theorem ft_zeroOf_47 : zeroOf Tryz.prog 47 = some (Value.agg [Value.slice none 0 0, Value.int IntKind.i64 (0), Value.int IntKind.i64 (0)].toArray) := by kernel_rfl
@[simp] theorem ft_plOf_47 : plOf Tryz.prog 47 = some (Sum.inl [(0, 1), (1, 2)]) := by kernel_rfl
@[simp] theorem ft_und_47 : (Tryz.prog.underlying 47).isSome = true := by kernel_rfl
@[simp] theorem ft_fldOf_47_0 : fldOf Tryz.prog 47 0 = some (0, false, 1) := by kernel_rfl
@[simp] theorem ft_fldOf_47_1 : fldOf Tryz.prog 47 1 = some (1, true, 2) := by kernel_rfl
@[simp] theorem ft_tySz_48 : tySz Tryz.prog 48 = some (true, 3) := by kernel_rfl
@[simp] theorem ft_dfl_48 : dflC Tryz.prog 48 = .v (.int .i64 0) := by kernel_rfl
@[simp] theorem ft_zeroOf_48 : zeroOf Tryz.prog 48 = some (Value.agg [Value.slice none 0 0, Value.int IntKind.i64 (0), Value.int IntKind.i64 (0)].toArray) := by kernel_rfl
@[simp] theorem ft_plOf_48 : plOf Tryz.prog 48 = some (Sum.inl [(0, 1), (1, 2)]) := by kernel_rfl
@[simp] theorem ft_und_48 : (Tryz.prog.underlying 48).isSome = true := by kernel_rfl
@[simp] theorem ft_fldOf_48_0 : fldOf Tryz.prog 48 0 = some (0, false, 1) := by kernel_rfl
@[simp] theorem ft_fldOf_48_1 : fldOf Tryz.prog 48 1 = some (1, true, 2) := by kernel_rfl
@[simp] theorem ft_tySz_49 : tySz Tryz.prog 49 = some (true, 3) := by kernel_rfl
@[simp] theorem ft_dfl_49 : dflC Tryz.prog 49 = .v (.int .i64 0) := by kernel_rfl
@[simp] theorem ft_zeroOf_49 : zeroOf Tryz.prog 49 = some (Value.agg [Value.int IntKind.i64 (0), Value.int IntKind.i64 (0), Value.string ⟨#[]⟩].toArray) := by kernel_rfl
@[simp] theorem ft_plOf_49 : plOf Tryz.prog 49 = some (Sum.inl [(0, 1), (1, 1), (2, 1)]) := by kernel_rfl
@[simp] theorem ft_eqT_49 : eqT Tryz.prog 49 = some [FK.i, FK.i, FK.s] := by kernel_rfl
@[simp] theorem ft_und_49 : (Tryz.prog.underlying 49).isSome = true := by kernel_rfl
@[simp] theorem ft_fldOf_49_0 : fldOf Tryz.prog 49 0 = some (0, false, 1) := by kernel_rfl
@[simp] theorem ft_fldOf_49_1 : fldOf Tryz.prog 49 1 = some (1, false, 1) := by kernel_rfl
@[simp] theorem ft_fldOf_49_2 : fldOf Tryz.prog 49 2 = some (2, false, 1) := by kernel_rfl
@[simp] theorem ft_tySz_50 : tySz Tryz.prog 50 = some (true, 3) := by kernel_rfl
@[simp] theorem ft_dfl_50 : dflC Tryz.prog 50 = .v (.int .i64 0) := by kernel_rfl
@[simp] theorem ft_zeroOf_50 : zeroOf Tryz.prog 50 = some (Value.agg [Value.int IntKind.i64 (0), Value.int IntKind.i64 (0), Value.string ⟨#[]⟩].toArray) := by kernel_rfl
@[simp] theorem ft_plOf_50 : plOf Tryz.prog 50 = some (Sum.inl [(0, 1), (1, 1), (2, 1)]) := by kernel_rfl
@[simp] theorem ft_eqT_50 : eqT Tryz.prog 50 = some [FK.i, FK.i, FK.s] := by kernel_rfl
@[simp] theorem ft_und_50 : (Tryz.prog.underlying 50).isSome = true := by kernel_rfl
@[simp] theorem ft_fldOf_50_0 : fldOf Tryz.prog 50 0 = some (0, false, 1) := by kernel_rfl
@[simp] theorem ft_fldOf_50_1 : fldOf Tryz.prog 50 1 = some (1, false, 1) := by kernel_rfl
@[simp] theorem ft_fldOf_50_2 : fldOf Tryz.prog 50 2 = some (2, false, 1) := by kernel_rfl
@[simp] theorem ft_tySz_51 : tySz Tryz.prog 51 = some (false, 1) := by kernel_rfl
@[simp] theorem ft_dfl_51 : dflC Tryz.prog 51 = .v (.int .i64 0) := by kernel_rfl
@[simp] theorem ft_zeroOf_51 : zeroOf Tryz.prog 51 = some Value.nilFunc := by kernel_rfl
@[simp] theorem ft_und_51 : (Tryz.prog.underlying 51).isSome = true := by kernel_rfl
@[simp] theorem ft_tySz_52 : tySz Tryz.prog 52 = some (false, 1) := by kernel_rfl
@[simp] theorem ft_dfl_52 : dflC Tryz.prog 52 = .v (.int .i64 0) := by kernel_rfl
@[simp] theorem ft_zeroOf_52 : zeroOf Tryz.prog 52 = some Value.nilFunc := by kernel_rfl
@[simp] theorem ft_und_52 : (Tryz.prog.underlying 52).isSome = true := by kernel_rfl
@[simp] theorem ft_tySz_53 : tySz Tryz.prog 53 = some (false, 1) := by kernel_rfl
@[simp] theorem ft_dfl_53 : dflC Tryz.prog 53 = .v (.int .i64 0) := by kernel_rfl
@[simp] theorem ft_zeroOf_53 : zeroOf Tryz.prog 53 = some (Value.tuple [Value.slice none 0 0, Value.bool false].toArray) := by kernel_rfl
@[simp] theorem ft_und_53 : (Tryz.prog.underlying 53).isSome = true := by kernel_rfl
@[simp] theorem ft_tySz_54 : tySz Tryz.prog 54 = some (false, 1) := by kernel_rfl
@[simp] theorem ft_dfl_54 : dflC Tryz.prog 54 = .v (.int .i64 0) := by kernel_rfl
@[simp] theorem ft_zeroOf_54 : zeroOf Tryz.prog 54 = some Value.nilFunc := by kernel_rfl
@[simp] theorem ft_und_54 : (Tryz.prog.underlying 54).isSome = true := by kernel_rfl
@[simp] theorem ft_tySz_55 : tySz Tryz.prog 55 = some (false, 1) := by kernel_rfl
@[simp] theorem ft_esz_55 : esz Tryz.prog 55 = some 3 := by kernel_rfl
@[simp] theorem ft_dfl_55 : dflC Tryz.prog 55 = .sl true [] := by kernel_rfl
@[simp] theorem ft_isSl_55 : isSl Tryz.prog 55 = true := by kernel_rfl
@[simp] theorem ft_zeroOf_55 : zeroOf Tryz.prog 55 = some (Value.slice none 0 0) := by kernel_rfl
@[simp] theorem ft_elZ_55 : elZ Tryz.prog 55 = some (3, [C.v (Value.int IntKind.i64 (0)), C.v (Value.int IntKind.i64 (0)), C.v (Value.int IntKind.i64 (0))]) := by kernel_rfl
@[simp] theorem ft_slT_55 : slT Tryz.prog 55 = some (3, 24) := by kernel_rfl
@[simp] theorem ft_apT_55 : apT Tryz.prog 55 55 = some (3, 24) := by kernel_rfl
@[simp ↓] theorem ft_vmk_55 (l c : S) (y : Nat) (st : St) (K : St → Prop) : vmk Tryz.prog 55 l c y st K = force (tick (sint l)) fun l => force (tick (sint c)) fun c => vmkZ (some (3, [C.v (Value.int IntKind.i64 (0)), C.v (Value.int IntKind.i64 (0)), C.v (Value.int IntKind.i64 (0))])) (some (3, 24)) l c y st K := vmk_iff st K 55 l c y ft_elZ_55 ft_slT_55
@[simp] theorem ft_und_55 : (Tryz.prog.underlying 55).isSome = true := by kernel_rfl
@[simp] theorem ft_tySz_56 : tySz Tryz.prog 56 = some (false, 1) := by kernel_rfl
@[simp] theorem ft_dfl_56 : dflC Tryz.prog 56 = .v (.int .i64 0) := by kernel_rfl
@[simp] theorem ft_zeroOf_56 : zeroOf Tryz.prog 56 = some Value.nilFunc := by kernel_rfl
@[simp] theorem ft_und_56 : (Tryz.prog.underlying 56).isSome = true := by kernel_rfl
@[simp] theorem ft_tySz_57 : tySz Tryz.prog 57 = some (false, 1) := by kernel_rfl
@[simp] theorem ft_esz_57 : esz Tryz.prog 57 = some 2 := by kernel_rfl
@[simp] theorem ft_dfl_57 : dflC Tryz.prog 57 = .sl true [] := by kernel_rfl
@[simp] theorem ft_isSl_57 : isSl Tryz.prog 57 = true := by kernel_rfl
@[simp] theorem ft_zeroOf_57 : zeroOf Tryz.prog 57 = some (Value.slice none 0 0) := by kernel_rfl
@[simp] theorem ft_elZ_57 : elZ Tryz.prog 57 = some (2, [C.v (Value.int IntKind.i64 (0)), C.v (Value.int IntKind.i64 (0))]) := by kernel_rfl
@[simp] theorem ft_slT_57 : slT Tryz.prog 57 = some (2, 16) := by kernel_rfl
@[simp] theorem ft_apT_57 : apT Tryz.prog 57 57 = some (2, 16) := by kernel_rfl
@[simp ↓] theorem ft_vmk_57 (l c : S) (y : Nat) (st : St) (K : St → Prop) : vmk Tryz.prog 57 l c y st K = force (tick (sint l)) fun l => force (tick (sint c)) fun c => vmkZ (some (2, [C.v (Value.int IntKind.i64 (0)), C.v (Value.int IntKind.i64 (0))])) (some (2, 16)) l c y st K := vmk_iff st K 57 l c y ft_elZ_57 ft_slT_57
@[simp] theorem ft_und_57 : (Tryz.prog.underlying 57).isSome = true := by kernel_rfl
@[simp] theorem ft_tySz_58 : tySz Tryz.prog 58 = some (false, 1) := by kernel_rfl
@[simp] theorem ft_dfl_58 : dflC Tryz.prog 58 = .v (.int .i64 0) := by kernel_rfl
@[simp] theorem ft_zeroOf_58 : zeroOf Tryz.prog 58 = some Value.nilFunc := by kernel_rfl
@[simp] theorem ft_und_58 : (Tryz.prog.underlying 58).isSome = true := by kernel_rfl
@[simp] theorem ft_tySz_59 : tySz Tryz.prog 59 = some (true, 3) := by kernel_rfl
@[simp] theorem ft_dfl_59 : dflC Tryz.prog 59 = .v (.int .i64 0) := by kernel_rfl
@[simp] theorem ft_zeroOf_59 : zeroOf Tryz.prog 59 = some (Value.agg [Value.int IntKind.i64 (0), Value.int IntKind.i64 (0), Value.int IntKind.i64 (0)].toArray) := by kernel_rfl
@[simp] theorem ft_plOf_59 : plOf Tryz.prog 59 = some (Sum.inl [(0, 2), (2, 1)]) := by kernel_rfl
@[simp] theorem ft_und_59 : (Tryz.prog.underlying 59).isSome = true := by kernel_rfl
@[simp] theorem ft_fldOf_59_0 : fldOf Tryz.prog 59 0 = some (0, true, 2) := by kernel_rfl
@[simp] theorem ft_fldOf_59_1 : fldOf Tryz.prog 59 1 = some (2, false, 1) := by kernel_rfl
@[simp] theorem ft_tySz_60 : tySz Tryz.prog 60 = some (true, 3) := by kernel_rfl
@[simp] theorem ft_dfl_60 : dflC Tryz.prog 60 = .v (.int .i64 0) := by kernel_rfl
@[simp] theorem ft_zeroOf_60 : zeroOf Tryz.prog 60 = some (Value.agg [Value.int IntKind.i64 (0), Value.int IntKind.i64 (0), Value.int IntKind.i64 (0)].toArray) := by kernel_rfl
@[simp] theorem ft_plOf_60 : plOf Tryz.prog 60 = some (Sum.inl [(0, 2), (2, 1)]) := by kernel_rfl
@[simp] theorem ft_und_60 : (Tryz.prog.underlying 60).isSome = true := by kernel_rfl
@[simp] theorem ft_fldOf_60_0 : fldOf Tryz.prog 60 0 = some (0, true, 2) := by kernel_rfl
@[simp] theorem ft_fldOf_60_1 : fldOf Tryz.prog 60 1 = some (2, false, 1) := by kernel_rfl
@[simp] theorem ft_tySz_61 : tySz Tryz.prog 61 = some (false, 1) := by kernel_rfl
@[simp] theorem ft_dfl_61 : dflC Tryz.prog 61 = .v (.int .i64 0) := by kernel_rfl
@[simp] theorem ft_zeroOf_61 : zeroOf Tryz.prog 61 = some (Value.tuple [Value.int IntKind.i64 (0), Value.bool false].toArray) := by kernel_rfl
@[simp] theorem ft_und_61 : (Tryz.prog.underlying 61).isSome = true := by kernel_rfl
@[simp] theorem ft_tySz_62 : tySz Tryz.prog 62 = some (false, 1) := by kernel_rfl
@[simp] theorem ft_dfl_62 : dflC Tryz.prog 62 = .v (.int .i64 0) := by kernel_rfl
@[simp] theorem ft_zeroOf_62 : zeroOf Tryz.prog 62 = some Value.nilFunc := by kernel_rfl
@[simp] theorem ft_und_62 : (Tryz.prog.underlying 62).isSome = true := by kernel_rfl
@[simp] theorem ft_tySz_63 : tySz Tryz.prog 63 = some (false, 1) := by kernel_rfl
@[simp] theorem ft_esz_63 : esz Tryz.prog 63 = some 3 := by kernel_rfl
@[simp] theorem ft_dfl_63 : dflC Tryz.prog 63 = .sl true [] := by kernel_rfl
@[simp] theorem ft_isSl_63 : isSl Tryz.prog 63 = true := by kernel_rfl
@[simp] theorem ft_zeroOf_63 : zeroOf Tryz.prog 63 = some (Value.slice none 0 0) := by kernel_rfl
@[simp] theorem ft_elZ_63 : elZ Tryz.prog 63 = some (3, [C.v (Value.int IntKind.i64 (0)), C.v (Value.int IntKind.i64 (0)), C.sl true []]) := by kernel_rfl
@[simp] theorem ft_slT_63 : slT Tryz.prog 63 = some (3, 40) := by kernel_rfl
@[simp] theorem ft_apT_63 : apT Tryz.prog 63 63 = some (3, 40) := by kernel_rfl
@[simp ↓] theorem ft_vmk_63 (l c : S) (y : Nat) (st : St) (K : St → Prop) : vmk Tryz.prog 63 l c y st K = force (tick (sint l)) fun l => force (tick (sint c)) fun c => vmkZ (some (3, [C.v (Value.int IntKind.i64 (0)), C.v (Value.int IntKind.i64 (0)), C.sl true []])) (some (3, 40)) l c y st K := vmk_iff st K 63 l c y ft_elZ_63 ft_slT_63
@[simp] theorem ft_und_63 : (Tryz.prog.underlying 63).isSome = true := by kernel_rfl
@[simp] theorem ft_tySz_64 : tySz Tryz.prog 64 = some (false, 1) := by kernel_rfl
@[simp] theorem ft_dfl_64 : dflC Tryz.prog 64 = .v (.int .i64 0) := by kernel_rfl
@[simp] theorem ft_zeroOf_64 : zeroOf Tryz.prog 64 = some Value.nilFunc := by kernel_rfl
@[simp] theorem ft_und_64 : (Tryz.prog.underlying 64).isSome = true := by kernel_rfl
@[simp] theorem ft_tySz_65 : tySz Tryz.prog 65 = some (false, 1) := by kernel_rfl
@[simp] theorem ft_esz_65 : esz Tryz.prog 65 = some 1 := by kernel_rfl
@[simp] theorem ft_dfl_65 : dflC Tryz.prog 65 = .sl true [] := by kernel_rfl
@[simp] theorem ft_isSl_65 : isSl Tryz.prog 65 = true := by kernel_rfl
@[simp] theorem ft_zeroOf_65 : zeroOf Tryz.prog 65 = some (Value.slice none 0 0) := by kernel_rfl
@[simp] theorem ft_elZ_65 : elZ Tryz.prog 65 = some (1, [C.v (Value.int IntKind.i64 (0))]) := by kernel_rfl
@[simp] theorem ft_slT_65 : slT Tryz.prog 65 = some (1, 8) := by kernel_rfl
@[simp] theorem ft_apT_65 : apT Tryz.prog 65 65 = some (1, 8) := by kernel_rfl
@[simp ↓] theorem ft_vmk_65 (l c : S) (y : Nat) (st : St) (K : St → Prop) : vmk Tryz.prog 65 l c y st K = force (tick (sint l)) fun l => force (tick (sint c)) fun c => vmkZ (some (1, [C.v (Value.int IntKind.i64 (0))])) (some (1, 8)) l c y st K := vmk_iff st K 65 l c y ft_elZ_65 ft_slT_65
@[simp] theorem ft_und_65 : (Tryz.prog.underlying 65).isSome = true := by kernel_rfl
@[simp] theorem ft_tySz_66 : tySz Tryz.prog 66 = some (true, 3) := by kernel_rfl
@[simp] theorem ft_dfl_66 : dflC Tryz.prog 66 = .v (.int .i64 0) := by kernel_rfl
@[simp] theorem ft_zeroOf_66 : zeroOf Tryz.prog 66 = some (Value.agg [Value.int IntKind.i64 (0), Value.int IntKind.i64 (0), Value.slice none 0 0].toArray) := by kernel_rfl
@[simp] theorem ft_plOf_66 : plOf Tryz.prog 66 = some (Sum.inl [(0, 1), (1, 1), (2, 1)]) := by kernel_rfl
@[simp] theorem ft_und_66 : (Tryz.prog.underlying 66).isSome = true := by kernel_rfl
@[simp] theorem ft_fldOf_66_0 : fldOf Tryz.prog 66 0 = some (0, false, 1) := by kernel_rfl
@[simp] theorem ft_fldOf_66_1 : fldOf Tryz.prog 66 1 = some (1, false, 1) := by kernel_rfl
@[simp] theorem ft_fldOf_66_2 : fldOf Tryz.prog 66 2 = some (2, false, 1) := by kernel_rfl
@[simp] theorem ft_tySz_67 : tySz Tryz.prog 67 = some (true, 3) := by kernel_rfl
@[simp] theorem ft_dfl_67 : dflC Tryz.prog 67 = .v (.int .i64 0) := by kernel_rfl
@[simp] theorem ft_zeroOf_67 : zeroOf Tryz.prog 67 = some (Value.agg [Value.int IntKind.i64 (0), Value.int IntKind.i64 (0), Value.slice none 0 0].toArray) := by kernel_rfl
@[simp] theorem ft_plOf_67 : plOf Tryz.prog 67 = some (Sum.inl [(0, 1), (1, 1), (2, 1)]) := by kernel_rfl
@[simp] theorem ft_und_67 : (Tryz.prog.underlying 67).isSome = true := by kernel_rfl
@[simp] theorem ft_fldOf_67_0 : fldOf Tryz.prog 67 0 = some (0, false, 1) := by kernel_rfl
@[simp] theorem ft_fldOf_67_1 : fldOf Tryz.prog 67 1 = some (1, false, 1) := by kernel_rfl
@[simp] theorem ft_fldOf_67_2 : fldOf Tryz.prog 67 2 = some (2, false, 1) := by kernel_rfl
@[simp] theorem ft_tySz_68 : tySz Tryz.prog 68 = some (false, 1) := by kernel_rfl
@[simp] theorem ft_dfl_68 : dflC Tryz.prog 68 = .v (.int .i64 0) := by kernel_rfl
@[simp] theorem ft_zeroOf_68 : zeroOf Tryz.prog 68 = some Value.nilFunc := by kernel_rfl
@[simp] theorem ft_und_68 : (Tryz.prog.underlying 68).isSome = true := by kernel_rfl
@[simp] theorem ft_tySz_69 : tySz Tryz.prog 69 = some (false, 1) := by kernel_rfl
@[simp] theorem ft_dfl_69 : dflC Tryz.prog 69 = .v (.int .i64 0) := by kernel_rfl
@[simp] theorem ft_zeroOf_69 : zeroOf Tryz.prog 69 = some Value.nilFunc := by kernel_rfl
@[simp] theorem ft_und_69 : (Tryz.prog.underlying 69).isSome = true := by kernel_rfl
@[simp] theorem ft_tySz_70 : tySz Tryz.prog 70 = some (false, 1) := by kernel_rfl
@[simp] theorem ft_dfl_70 : dflC Tryz.prog 70 = .v (.int .i64 0) := by kernel_rfl
@[simp] theorem ft_zeroOf_70 : zeroOf Tryz.prog 70 = some Value.nilFunc := by kernel_rfl
@[simp] theorem ft_und_70 : (Tryz.prog.underlying 70).isSome = true := by kernel_rfl
@[simp] theorem ft_tySz_71 : tySz Tryz.prog 71 = some (false, 1) := by kernel_rfl
@[simp] theorem ft_dfl_71 : dflC Tryz.prog 71 = .v (.int .i64 0) := by kernel_rfl
@[simp] theorem ft_zeroOf_71 : zeroOf Tryz.prog 71 = some Value.nilFunc := by kernel_rfl
@[simp] theorem ft_und_71 : (Tryz.prog.underlying 71).isSome = true := by kernel_rfl
@[simp] theorem ft_tySz_72 : tySz Tryz.prog 72 = some (false, 1) := by kernel_rfl
@[simp] theorem ft_dfl_72 : dflC Tryz.prog 72 = .v (.int .i64 0) := by kernel_rfl
@[simp] theorem ft_zeroOf_72 : zeroOf Tryz.prog 72 = some Value.nilFunc := by kernel_rfl
@[simp] theorem ft_und_72 : (Tryz.prog.underlying 72).isSome = true := by kernel_rfl
@[simp] theorem ft_tySz_73 : tySz Tryz.prog 73 = some (false, 1) := by kernel_rfl
@[simp] theorem ft_dfl_73 : dflC Tryz.prog 73 = .v (.int .i64 0) := by kernel_rfl
@[simp] theorem ft_zeroOf_73 : zeroOf Tryz.prog 73 = some Value.nilFunc := by kernel_rfl
@[simp] theorem ft_und_73 : (Tryz.prog.underlying 73).isSome = true := by kernel_rfl
@[simp] theorem ft_tySz_74 : tySz Tryz.prog 74 = some (false, 1) := by kernel_rfl
@[simp] theorem ft_dfl_74 : dflC Tryz.prog 74 = .v (.int .i64 0) := by kernel_rfl
@[simp] theorem ft_zeroOf_74 : zeroOf Tryz.prog 74 = some Value.nilFunc := by kernel_rfl
@[simp] theorem ft_und_74 : (Tryz.prog.underlying 74).isSome = true := by kernel_rfl
@[simp] theorem ft_tySz_75 : tySz Tryz.prog 75 = some (false, 1) := by kernel_rfl
@[simp] theorem ft_dfl_75 : dflC Tryz.prog 75 = .v (.int .i64 0) := by kernel_rfl
@[simp] theorem ft_zeroOf_75 : zeroOf Tryz.prog 75 = some Value.nilFunc := by kernel_rfl
@[simp] theorem ft_und_75 : (Tryz.prog.underlying 75).isSome = true := by kernel_rfl
@[simp] theorem ft_tySz_76 : tySz Tryz.prog 76 = some (false, 1) := by kernel_rfl
@[simp] theorem ft_dfl_76 : dflC Tryz.prog 76 = .v (.int .i64 0) := by kernel_rfl
@[simp] theorem ft_zeroOf_76 : zeroOf Tryz.prog 76 = some Value.nilFunc := by kernel_rfl
@[simp] theorem ft_und_76 : (Tryz.prog.underlying 76).isSome = true := by kernel_rfl
@[simp] theorem ft_tySz_77 : tySz Tryz.prog 77 = some (false, 1) := by kernel_rfl
@[simp] theorem ft_dfl_77 : dflC Tryz.prog 77 = .v (.int .i64 0) := by kernel_rfl
@[simp] theorem ft_zeroOf_77 : zeroOf Tryz.prog 77 = some Value.nilFunc := by kernel_rfl
@[simp] theorem ft_und_77 : (Tryz.prog.underlying 77).isSome = true := by kernel_rfl
@[simp] theorem ft_tySz_78 : tySz Tryz.prog 78 = some (false, 1) := by kernel_rfl
@[simp] theorem ft_dfl_78 : dflC Tryz.prog 78 = .v (.int .i64 0) := by kernel_rfl
@[simp] theorem ft_zeroOf_78 : zeroOf Tryz.prog 78 = some Value.nilFunc := by kernel_rfl
@[simp] theorem ft_und_78 : (Tryz.prog.underlying 78).isSome = true := by kernel_rfl
@[simp] theorem ft_tySz_79 : tySz Tryz.prog 79 = some (false, 1) := by kernel_rfl
@[simp] theorem ft_dfl_79 : dflC Tryz.prog 79 = .v (.int .i64 0) := by kernel_rfl
@[simp] theorem ft_zeroOf_79 : zeroOf Tryz.prog 79 = some Value.nilFunc := by kernel_rfl
@[simp] theorem ft_und_79 : (Tryz.prog.underlying 79).isSome = true := by kernel_rfl
@[simp] theorem ft_tySz_80 : tySz Tryz.prog 80 = some (false, 1) := by kernel_rfl
@[simp] theorem ft_dfl_80 : dflC Tryz.prog 80 = .v (.int .i64 0) := by kernel_rfl
@[simp] theorem ft_zeroOf_80 : zeroOf Tryz.prog 80 = some Value.nilFunc := by kernel_rfl
@[simp] theorem ft_und_80 : (Tryz.prog.underlying 80).isSome = true := by kernel_rfl
@[simp] theorem ft_tySz_81 : tySz Tryz.prog 81 = some (false, 1) := by kernel_rfl
@[simp] theorem ft_dfl_81 : dflC Tryz.prog 81 = .v (.int .i64 0) := by kernel_rfl
@[simp] theorem ft_zeroOf_81 : zeroOf Tryz.prog 81 = some (Value.tuple [Value.agg [Value.int IntKind.i64 (0), Value.int IntKind.i64 (0)].toArray, Value.bool false].toArray) := by kernel_rfl
@[simp] theorem ft_und_81 : (Tryz.prog.underlying 81).isSome = true := by kernel_rfl
@[simp] theorem ft_tySz_82 : tySz Tryz.prog 82 = some (false, 1) := by kernel_rfl
@[simp] theorem ft_dfl_82 : dflC Tryz.prog 82 = .v (.int .i64 0) := by kernel_rfl
@[simp] theorem ft_zeroOf_82 : zeroOf Tryz.prog 82 = some Value.nilFunc := by kernel_rfl
@[simp] theorem ft_und_82 : (Tryz.prog.underlying 82).isSome = true := by kernel_rfl
@[simp] theorem ft_tySz_83 : tySz Tryz.prog 83 = some (false, 1) := by kernel_rfl
@[simp] theorem ft_dfl_83 : dflC Tryz.prog 83 = .v (.int .i64 0) := by kernel_rfl
@[simp] theorem ft_zeroOf_83 : zeroOf Tryz.prog 83 = some Value.nilFunc := by kernel_rfl
@[simp] theorem ft_und_83 : (Tryz.prog.underlying 83).isSome = true := by kernel_rfl
@[simp] theorem ft_tySz_84 : tySz Tryz.prog 84 = some (false, 1) := by kernel_rfl
@[simp] theorem ft_dfl_84 : dflC Tryz.prog 84 = .v (.int .i64 0) := by kernel_rfl
@[simp] theorem ft_zeroOf_84 : zeroOf Tryz.prog 84 = some Value.nilFunc := by kernel_rfl
@[simp] theorem ft_und_84 : (Tryz.prog.underlying 84).isSome = true := by kernel_rfl
@[simp] theorem ft_tySz_85 : tySz Tryz.prog 85 = some (false, 1) := by kernel_rfl
@[simp] theorem ft_dfl_85 : dflC Tryz.prog 85 = .v (.int .i64 0) := by kernel_rfl
@[simp] theorem ft_zeroOf_85 : zeroOf Tryz.prog 85 = some Value.nilFunc := by kernel_rfl
@[simp] theorem ft_und_85 : (Tryz.prog.underlying 85).isSome = true := by kernel_rfl
@[simp] theorem ft_tySz_86 : tySz Tryz.prog 86 = some (false, 1) := by kernel_rfl
@[simp] theorem ft_dfl_86 : dflC Tryz.prog 86 = .v (.int .i64 0) := by kernel_rfl
@[simp] theorem ft_zeroOf_86 : zeroOf Tryz.prog 86 = some Value.nilFunc := by kernel_rfl
@[simp] theorem ft_und_86 : (Tryz.prog.underlying 86).isSome = true := by kernel_rfl
@[simp] theorem ft_tySz_87 : tySz Tryz.prog 87 = some (false, 1) := by kernel_rfl
@[simp] theorem ft_dfl_87 : dflC Tryz.prog 87 = .v (.int .i64 0) := by kernel_rfl
@[simp] theorem ft_zeroOf_87 : zeroOf Tryz.prog 87 = some Value.nilFunc := by kernel_rfl
@[simp] theorem ft_und_87 : (Tryz.prog.underlying 87).isSome = true := by kernel_rfl
@[simp] theorem ft_tySz_88 : tySz Tryz.prog 88 = some (false, 1) := by kernel_rfl
@[simp] theorem ft_dfl_88 : dflC Tryz.prog 88 = .v (.int .i64 0) := by kernel_rfl
@[simp] theorem ft_intOfTy_88 : intOfTy Tryz.prog 88 = some IntKind.u64 := by kernel_rfl
@[simp] theorem ft_zeroOf_88 : zeroOf Tryz.prog 88 = some (Value.int IntKind.u64 (0)) := by kernel_rfl
@[simp] theorem ft_und_88 : (Tryz.prog.underlying 88).isSome = true := by kernel_rfl
@[simp] theorem ft_tySz_89 : tySz Tryz.prog 89 = some (false, 1) := by kernel_rfl
@[simp] theorem ft_dfl_89 : dflC Tryz.prog 89 = .v (.int .i64 0) := by kernel_rfl
@[simp] theorem ft_zeroOf_89 : zeroOf Tryz.prog 89 = some Value.nilFunc := by kernel_rfl
@[simp] theorem ft_und_89 : (Tryz.prog.underlying 89).isSome = true := by kernel_rfl
@[simp] theorem ft_tySz_90 : tySz Tryz.prog 90 = some (false, 1) := by kernel_rfl
@[simp] theorem ft_dfl_90 : dflC Tryz.prog 90 = .v (.int .i64 0) := by kernel_rfl
@[simp] theorem ft_zeroOf_90 : zeroOf Tryz.prog 90 = some (Value.tuple [Value.int IntKind.u64 (0), Value.int IntKind.u64 (0)].toArray) := by kernel_rfl
@[simp] theorem ft_und_90 : (Tryz.prog.underlying 90).isSome = true := by kernel_rfl
@[simp] theorem ft_tySz_91 : tySz Tryz.prog 91 = some (false, 1) := by kernel_rfl
@[simp] theorem ft_dfl_91 : dflC Tryz.prog 91 = .v (.int .i64 0) := by kernel_rfl
@[simp] theorem ft_zeroOf_91 : zeroOf Tryz.prog 91 = some Value.nilFunc := by kernel_rfl
@[simp] theorem ft_und_91 : (Tryz.prog.underlying 91).isSome = true := by kernel_rfl
@[simp] theorem ft_tySz_92 : tySz Tryz.prog 92 = some (false, 1) := by kernel_rfl
@[simp] theorem ft_dfl_92 : dflC Tryz.prog 92 = .v (.int .i64 0) := by kernel_rfl
@[simp] theorem ft_intOfTy_92 : intOfTy Tryz.prog 92 = some IntKind.u64 := by kernel_rfl
@[simp] theorem ft_zeroOf_92 : zeroOf Tryz.prog 92 = some (Value.int IntKind.u64 (0)) := by kernel_rfl
@[simp] theorem ft_und_92 : (Tryz.prog.underlying 92).isSome = true := by kernel_rfl
@[simp] theorem ft_tySz_93 : tySz Tryz.prog 93 = some (false, 1) := by kernel_rfl
@[simp] theorem ft_dfl_93 : dflC Tryz.prog 93 = .v (.int .i64 0) := by kernel_rfl
@[simp] theorem ft_zeroOf_93 : zeroOf Tryz.prog 93 = some Value.nilFunc := by kernel_rfl
@[simp] theorem ft_und_93 : (Tryz.prog.underlying 93).isSome = true := by kernel_rfl
@[simp] theorem ft_tySz_94 : tySz Tryz.prog 94 = some (false, 1) := by kernel_rfl
@[simp] theorem ft_dfl_94 : dflC Tryz.prog 94 = .v (.int .i64 0) := by kernel_rfl
@[simp] theorem ft_zeroOf_94 : zeroOf Tryz.prog 94 = some Value.nilFunc := by kernel_rfl
@[simp] theorem ft_und_94 : (Tryz.prog.underlying 94).isSome = true := by kernel_rfl
@[simp] theorem ft_tySz_95 : tySz Tryz.prog 95 = some (false, 1) := by kernel_rfl
@[simp] theorem ft_dfl_95 : dflC Tryz.prog 95 = .v (.int .i64 0) := by kernel_rfl
@[simp] theorem ft_zeroOf_95 : zeroOf Tryz.prog 95 = some Value.nilFunc := by kernel_rfl
@[simp] theorem ft_und_95 : (Tryz.prog.underlying 95).isSome = true := by kernel_rfl
@[simp] theorem ft_tySz_96 : tySz Tryz.prog 96 = some (false, 1) := by kernel_rfl
@[simp] theorem ft_dfl_96 : dflC Tryz.prog 96 = .v (.int .i64 0) := by kernel_rfl
@[simp] theorem ft_zeroOf_96 : zeroOf Tryz.prog 96 = some Value.nilFunc := by kernel_rfl
@[simp] theorem ft_und_96 : (Tryz.prog.underlying 96).isSome = true := by kernel_rfl
@[simp] theorem ft_tySz_97 : tySz Tryz.prog 97 = some (false, 1) := by kernel_rfl
@[simp] theorem ft_dfl_97 : dflC Tryz.prog 97 = .v (.int .i64 0) := by kernel_rfl
@[simp] theorem ft_zeroOf_97 : zeroOf Tryz.prog 97 = some Value.nilFunc := by kernel_rfl
@[simp] theorem ft_und_97 : (Tryz.prog.underlying 97).isSome = true := by kernel_rfl
@[simp] theorem ft_tySz_98 : tySz Tryz.prog 98 = some (false, 1) := by kernel_rfl
@[simp] theorem ft_dfl_98 : dflC Tryz.prog 98 = .v (.int .i64 0) := by kernel_rfl
@[simp] theorem ft_zeroOf_98 : zeroOf Tryz.prog 98 = some Value.nilFunc := by kernel_rfl
@[simp] theorem ft_und_98 : (Tryz.prog.underlying 98).isSome = true := by kernel_rfl
@[simp] theorem ft_tySz_99 : tySz Tryz.prog 99 = some (false, 1) := by kernel_rfl
@[simp] theorem ft_dfl_99 : dflC Tryz.prog 99 = .v (.int .i64 0) := by kernel_rfl
@[simp] theorem ft_zeroOf_99 : zeroOf Tryz.prog 99 = some Value.nilFunc := by kernel_rfl
@[simp] theorem ft_und_99 : (Tryz.prog.underlying 99).isSome = true := by kernel_rfl
@[simp] theorem ft_tySz_100 : tySz Tryz.prog 100 = some (false, 1) := by kernel_rfl
@[simp] theorem ft_dfl_100 : dflC Tryz.prog 100 = .v (.int .i64 0) := by kernel_rfl
@[simp] theorem ft_zeroOf_100 : zeroOf Tryz.prog 100 = some Value.nilFunc := by kernel_rfl
@[simp] theorem ft_und_100 : (Tryz.prog.underlying 100).isSome = true := by kernel_rfl
@[simp] theorem ft_tySz_101 : tySz Tryz.prog 101 = some (false, 1) := by kernel_rfl
@[simp] theorem ft_dfl_101 : dflC Tryz.prog 101 = .v (.int .i64 0) := by kernel_rfl
@[simp] theorem ft_zeroOf_101 : zeroOf Tryz.prog 101 = some Value.nilFunc := by kernel_rfl
@[simp] theorem ft_und_101 : (Tryz.prog.underlying 101).isSome = true := by kernel_rfl
@[simp] theorem ft_tySz_102 : tySz Tryz.prog 102 = some (false, 1) := by kernel_rfl
@[simp] theorem ft_dfl_102 : dflC Tryz.prog 102 = .v (.int .i64 0) := by kernel_rfl
@[simp] theorem ft_zeroOf_102 : zeroOf Tryz.prog 102 = some Value.nilFunc := by kernel_rfl
@[simp] theorem ft_und_102 : (Tryz.prog.underlying 102).isSome = true := by kernel_rfl
@[simp] theorem ft_tySz_103 : tySz Tryz.prog 103 = some (false, 1) := by kernel_rfl
@[simp] theorem ft_dfl_103 : dflC Tryz.prog 103 = .v (.int .i64 0) := by kernel_rfl
@[simp] theorem ft_zeroOf_103 : zeroOf Tryz.prog 103 = some Value.nilFunc := by kernel_rfl
@[simp] theorem ft_und_103 : (Tryz.prog.underlying 103).isSome = true := by kernel_rfl
@[simp] theorem ft_tySz_104 : tySz Tryz.prog 104 = some (false, 1) := by kernel_rfl
@[simp] theorem ft_esz_104 : esz Tryz.prog 104 = some 1 := by kernel_rfl
@[simp] theorem ft_dfl_104 : dflC Tryz.prog 104 = .sl true [] := by kernel_rfl
@[simp] theorem ft_isSl_104 : isSl Tryz.prog 104 = true := by kernel_rfl
@[simp] theorem ft_zeroOf_104 : zeroOf Tryz.prog 104 = some (Value.slice none 0 0) := by kernel_rfl
@[simp] theorem ft_elZ_104 : elZ Tryz.prog 104 = some (1, [C.v (Value.bool false)]) := by kernel_rfl
@[simp] theorem ft_slT_104 : slT Tryz.prog 104 = some (1, 1) := by kernel_rfl
@[simp] theorem ft_apT_104 : apT Tryz.prog 104 104 = some (1, 1) := by kernel_rfl
@[simp ↓] theorem ft_vmk_104 (l c : S) (y : Nat) (st : St) (K : St → Prop) : vmk Tryz.prog 104 l c y st K = force (tick (sint l)) fun l => force (tick (sint c)) fun c => vmkZ (some (1, [C.v (Value.bool false)])) (some (1, 1)) l c y st K := vmk_iff st K 104 l c y ft_elZ_104 ft_slT_104
@[simp] theorem ft_und_104 : (Tryz.prog.underlying 104).isSome = true := by kernel_rfl
@[simp] theorem ft_tySz_105 : tySz Tryz.prog 105 = some (false, 1) := by kernel_rfl
@[simp] theorem ft_dfl_105 : dflC Tryz.prog 105 = .v (.int .i64 0) := by kernel_rfl
@[simp] theorem ft_zeroOf_105 : zeroOf Tryz.prog 105 = some Value.nilFunc := by kernel_rfl
@[simp] theorem ft_und_105 : (Tryz.prog.underlying 105).isSome = true := by kernel_rfl
@[simp] theorem ft_tySz_106 : tySz Tryz.prog 106 = some (false, 1) := by kernel_rfl
@[simp] theorem ft_dfl_106 : dflC Tryz.prog 106 = .v (.int .i64 0) := by kernel_rfl
@[simp] theorem ft_zeroOf_106 : zeroOf Tryz.prog 106 = some Value.nilFunc := by kernel_rfl
@[simp] theorem ft_und_106 : (Tryz.prog.underlying 106).isSome = true := by kernel_rfl
@[simp] theorem ft_tySz_107 : tySz Tryz.prog 107 = some (false, 1) := by kernel_rfl
@[simp] theorem ft_dfl_107 : dflC Tryz.prog 107 = .v (.int .i64 0) := by kernel_rfl
@[simp] theorem ft_zeroOf_107 : zeroOf Tryz.prog 107 = some Value.nilFunc := by kernel_rfl
@[simp] theorem ft_und_107 : (Tryz.prog.underlying 107).isSome = true := by kernel_rfl
@[simp] theorem ft_tySz_108 : tySz Tryz.prog 108 = some (false, 1) := by kernel_rfl
@[simp] theorem ft_dfl_108 : dflC Tryz.prog 108 = .v (.int .i64 0) := by kernel_rfl
@[simp] theorem ft_zeroOf_108 : zeroOf Tryz.prog 108 = some Value.nilFunc := by kernel_rfl
@[simp] theorem ft_und_108 : (Tryz.prog.underlying 108).isSome = true := by kernel_rfl
@[simp] theorem ft_tySz_109 : tySz Tryz.prog 109 = some (false, 1) := by kernel_rfl
@[simp] theorem ft_dfl_109 : dflC Tryz.prog 109 = .v (.int .i64 0) := by kernel_rfl
@[simp] theorem ft_zeroOf_109 : zeroOf Tryz.prog 109 = some Value.nilFunc := by kernel_rfl
@[simp] theorem ft_und_109 : (Tryz.prog.underlying 109).isSome = true := by kernel_rfl
@[simp] theorem ft_tySz_110 : tySz Tryz.prog 110 = some (false, 1) := by kernel_rfl
@[simp] theorem ft_dfl_110 : dflC Tryz.prog 110 = .v (.int .i64 0) := by kernel_rfl
@[simp] theorem ft_zeroOf_110 : zeroOf Tryz.prog 110 = some Value.nilFunc := by kernel_rfl
@[simp] theorem ft_und_110 : (Tryz.prog.underlying 110).isSome = true := by kernel_rfl
@[simp] theorem ft_tySz_111 : tySz Tryz.prog 111 = some (false, 1) := by kernel_rfl
@[simp] theorem ft_dfl_111 : dflC Tryz.prog 111 = .v (.int .i64 0) := by kernel_rfl
@[simp] theorem ft_zeroOf_111 : zeroOf Tryz.prog 111 = some Value.nilFunc := by kernel_rfl
@[simp] theorem ft_und_111 : (Tryz.prog.underlying 111).isSome = true := by kernel_rfl
@[simp] theorem ft_tySz_112 : tySz Tryz.prog 112 = some (false, 1) := by kernel_rfl
@[simp] theorem ft_dfl_112 : dflC Tryz.prog 112 = .v (.int .i64 0) := by kernel_rfl
@[simp] theorem ft_intOfTy_112 : intOfTy Tryz.prog 112 = some IntKind.i64 := by kernel_rfl
@[simp] theorem ft_zeroOf_112 : zeroOf Tryz.prog 112 = some (Value.int IntKind.i64 (0)) := by kernel_rfl
@[simp] theorem ft_und_112 : (Tryz.prog.underlying 112).isSome = true := by kernel_rfl
@[simp] theorem ft_tySz_113 : tySz Tryz.prog 113 = some (false, 1) := by kernel_rfl
@[simp] theorem ft_dfl_113 : dflC Tryz.prog 113 = .v (.int .i64 0) := by kernel_rfl
@[simp] theorem ft_zeroOf_113 : zeroOf Tryz.prog 113 = some (Value.tuple [Value.int IntKind.i64 (0), Value.int IntKind.i64 (0)].toArray) := by kernel_rfl
@[simp] theorem ft_und_113 : (Tryz.prog.underlying 113).isSome = true := by kernel_rfl
@[simp] theorem ft_tySz_114 : tySz Tryz.prog 114 = some (false, 1) := by kernel_rfl
@[simp] theorem ft_dfl_114 : dflC Tryz.prog 114 = .v (.int .i64 0) := by kernel_rfl
@[simp] theorem ft_zeroOf_114 : zeroOf Tryz.prog 114 = some Value.nilFunc := by kernel_rfl
@[simp] theorem ft_und_114 : (Tryz.prog.underlying 114).isSome = true := by kernel_rfl
@[simp] theorem ft_tySz_115 : tySz Tryz.prog 115 = some (false, 1) := by kernel_rfl
@[simp] theorem ft_dfl_115 : dflC Tryz.prog 115 = .v (.int .i64 0) := by kernel_rfl
@[simp] theorem ft_zeroOf_115 : zeroOf Tryz.prog 115 = some Value.nilFunc := by kernel_rfl
@[simp] theorem ft_und_115 : (Tryz.prog.underlying 115).isSome = true := by kernel_rfl
@[simp] theorem ft_tySz_116 : tySz Tryz.prog 116 = some (false, 1) := by kernel_rfl
@[simp] theorem ft_dfl_116 : dflC Tryz.prog 116 = .v (.int .i64 0) := by kernel_rfl
@[simp] theorem ft_zeroOf_116 : zeroOf Tryz.prog 116 = some Value.nilFunc := by kernel_rfl
@[simp] theorem ft_und_116 : (Tryz.prog.underlying 116).isSome = true := by kernel_rfl
@[simp] theorem ft_tySz_117 : tySz Tryz.prog 117 = some (false, 1) := by kernel_rfl
@[simp] theorem ft_dfl_117 : dflC Tryz.prog 117 = .v (.int .i64 0) := by kernel_rfl
@[simp] theorem ft_zeroOf_117 : zeroOf Tryz.prog 117 = some (Value.tuple [Value.int IntKind.i64 (0), Value.bool false].toArray) := by kernel_rfl
@[simp] theorem ft_und_117 : (Tryz.prog.underlying 117).isSome = true := by kernel_rfl
@[simp] theorem ft_tySz_118 : tySz Tryz.prog 118 = some (false, 1) := by kernel_rfl
@[simp] theorem ft_dfl_118 : dflC Tryz.prog 118 = .v (.int .i64 0) := by kernel_rfl
@[simp] theorem ft_zeroOf_118 : zeroOf Tryz.prog 118 = some Value.nilFunc := by kernel_rfl
@[simp] theorem ft_und_118 : (Tryz.prog.underlying 118).isSome = true := by kernel_rfl
@[simp] theorem ft_tySz_119 : tySz Tryz.prog 119 = some (false, 1) := by kernel_rfl
@[simp] theorem ft_dfl_119 : dflC Tryz.prog 119 = .v (.int .i64 0) := by kernel_rfl
@[simp] theorem ft_zeroOf_119 : zeroOf Tryz.prog 119 = some Value.nilFunc := by kernel_rfl
@[simp] theorem ft_und_119 : (Tryz.prog.underlying 119).isSome = true := by kernel_rfl
@[simp] theorem ft_tySz_120 : tySz Tryz.prog 120 = some (false, 1) := by kernel_rfl
@[simp] theorem ft_dfl_120 : dflC Tryz.prog 120 = .v (.int .i64 0) := by kernel_rfl
@[simp] theorem ft_intOfTy_120 : intOfTy Tryz.prog 120 = some IntKind.u32 := by kernel_rfl
@[simp] theorem ft_zeroOf_120 : zeroOf Tryz.prog 120 = some (Value.int IntKind.u32 (0)) := by kernel_rfl
@[simp] theorem ft_und_120 : (Tryz.prog.underlying 120).isSome = true := by kernel_rfl
@[simp] theorem ft_tySz_121 : tySz Tryz.prog 121 = some (false, 1) := by kernel_rfl
@[simp] theorem ft_dfl_121 : dflC Tryz.prog 121 = .v (.int .i64 0) := by kernel_rfl
@[simp] theorem ft_zeroOf_121 : zeroOf Tryz.prog 121 = some Value.nilFunc := by kernel_rfl
@[simp] theorem ft_und_121 : (Tryz.prog.underlying 121).isSome = true := by kernel_rfl
@[simp] theorem ft_tySz_122 : tySz Tryz.prog 122 = some (false, 1) := by kernel_rfl
@[simp] theorem ft_dfl_122 : dflC Tryz.prog 122 = .v (.int .i64 0) := by kernel_rfl
@[simp] theorem ft_zeroOf_122 : zeroOf Tryz.prog 122 = some Value.nilFunc := by kernel_rfl
@[simp] theorem ft_und_122 : (Tryz.prog.underlying 122).isSome = true := by kernel_rfl
@[simp] theorem ft_tySz_123 : tySz Tryz.prog 123 = some (false, 1) := by kernel_rfl
@[simp] theorem ft_dfl_123 : dflC Tryz.prog 123 = .v (.int .i64 0) := by kernel_rfl
@[simp] theorem ft_zeroOf_123 : zeroOf Tryz.prog 123 = some Value.nilFunc := by kernel_rfl
@[simp] theorem ft_und_123 : (Tryz.prog.underlying 123).isSome = true := by kernel_rfl
@[simp] theorem ft_tySz_124 : tySz Tryz.prog 124 = some (false, 1) := by kernel_rfl
@[simp] theorem ft_dfl_124 : dflC Tryz.prog 124 = .v (.int .i64 0) := by kernel_rfl
@[simp] theorem ft_zeroOf_124 : zeroOf Tryz.prog 124 = some Value.nilFunc := by kernel_rfl
@[simp] theorem ft_und_124 : (Tryz.prog.underlying 124).isSome = true := by kernel_rfl
@[simp] theorem ft_tySz_125 : tySz Tryz.prog 125 = some (false, 1) := by kernel_rfl
@[simp] theorem ft_dfl_125 : dflC Tryz.prog 125 = .v (.int .i64 0) := by kernel_rfl
@[simp] theorem ft_zeroOf_125 : zeroOf Tryz.prog 125 = some Value.nilFunc := by kernel_rfl
@[simp] theorem ft_und_125 : (Tryz.prog.underlying 125).isSome = true := by kernel_rfl
@[simp] theorem ft_tySz_126 : tySz Tryz.prog 126 = some (false, 1) := by kernel_rfl
@[simp] theorem ft_dfl_126 : dflC Tryz.prog 126 = .v (.int .i64 0) := by kernel_rfl
@[simp] theorem ft_zeroOf_126 : zeroOf Tryz.prog 126 = some Value.nilFunc := by kernel_rfl
@[simp] theorem ft_und_126 : (Tryz.prog.underlying 126).isSome = true := by kernel_rfl
@[simp] theorem ft_tySz_127 : tySz Tryz.prog 127 = some (true, 2) := by kernel_rfl
@[simp] theorem ft_dfl_127 : dflC Tryz.prog 127 = .v (.int .i64 0) := by kernel_rfl
@[simp] theorem ft_zeroOf_127 : zeroOf Tryz.prog 127 = some (Value.agg [Value.int IntKind.i64 (0), Value.int IntKind.i64 (0)].toArray) := by kernel_rfl
@[simp] theorem ft_plOf_127 : plOf Tryz.prog 127 = some (Sum.inr 1) := by kernel_rfl
@[simp] theorem ft_arrOf_127 : arrOf Tryz.prog 127 = some (2, false, 1) := by kernel_rfl
@[simp] theorem ft_und_127 : (Tryz.prog.underlying 127).isSome = true := by kernel_rfl
@[simp] theorem ft_tySz_128 : tySz Tryz.prog 128 = some (false, 1) := by kernel_rfl
@[simp] theorem ft_dfl_128 : dflC Tryz.prog 128 = .v (.int .i64 0) := by kernel_rfl
@[simp] theorem ft_zeroOf_128 : zeroOf Tryz.prog 128 = some Value.nilFunc := by kernel_rfl
@[simp] theorem ft_und_128 : (Tryz.prog.underlying 128).isSome = true := by kernel_rfl
@[simp] theorem ft_tySz_129 : tySz Tryz.prog 129 = some (false, 1) := by kernel_rfl
@[simp] theorem ft_dfl_129 : dflC Tryz.prog 129 = .v (.int .i64 0) := by kernel_rfl
@[simp] theorem ft_intOfTy_129 : intOfTy Tryz.prog 129 = some IntKind.u64 := by kernel_rfl
@[simp] theorem ft_zeroOf_129 : zeroOf Tryz.prog 129 = some (Value.int IntKind.u64 (0)) := by kernel_rfl
@[simp] theorem ft_und_129 : (Tryz.prog.underlying 129).isSome = true := by kernel_rfl
@[simp] theorem ft_tySz_130 : tySz Tryz.prog 130 = some (false, 1) := by kernel_rfl
@[simp] theorem ft_dfl_130 : dflC Tryz.prog 130 = .v (.int .i64 0) := by kernel_rfl
@[simp] theorem ft_zeroOf_130 : zeroOf Tryz.prog 130 = some Value.nilFunc := by kernel_rfl
@[simp] theorem ft_und_130 : (Tryz.prog.underlying 130).isSome = true := by kernel_rfl
@[simp] theorem ft_tySz_131 : tySz Tryz.prog 131 = some (false, 1) := by kernel_rfl
@[simp] theorem ft_dfl_131 : dflC Tryz.prog 131 = .v (.int .i64 0) := by kernel_rfl
@[simp] theorem ft_zeroOf_131 : zeroOf Tryz.prog 131 = some Value.nilFunc := by kernel_rfl
@[simp] theorem ft_und_131 : (Tryz.prog.underlying 131).isSome = true := by kernel_rfl
@[simp] theorem ft_tySz_132 : tySz Tryz.prog 132 = some (false, 1) := by kernel_rfl
@[simp] theorem ft_dfl_132 : dflC Tryz.prog 132 = .v (.int .i64 0) := by kernel_rfl
@[simp] theorem ft_zeroOf_132 : zeroOf Tryz.prog 132 = some Value.nilFunc := by kernel_rfl
@[simp] theorem ft_und_132 : (Tryz.prog.underlying 132).isSome = true := by kernel_rfl
@[simp] theorem ft_tySz_133 : tySz Tryz.prog 133 = some (false, 1) := by kernel_rfl
@[simp] theorem ft_dfl_133 : dflC Tryz.prog 133 = .v (.int .i64 0) := by kernel_rfl
@[simp] theorem ft_isPt_133 : isPt Tryz.prog 133 = true := by kernel_rfl
@[simp] theorem ft_zeroOf_133 : zeroOf Tryz.prog 133 = some (Value.pointer none) := by kernel_rfl
@[simp] theorem ft_und_133 : (Tryz.prog.underlying 133).isSome = true := by kernel_rfl
@[simp] theorem ft_tySz_134 : tySz Tryz.prog 134 = some (false, 1) := by kernel_rfl
@[simp] theorem ft_dfl_134 : dflC Tryz.prog 134 = .v (.int .i64 0) := by kernel_rfl
@[simp] theorem ft_zeroOf_134 : zeroOf Tryz.prog 134 = some Value.nilFunc := by kernel_rfl
@[simp] theorem ft_und_134 : (Tryz.prog.underlying 134).isSome = true := by kernel_rfl
@[simp] theorem ft_tySz_135 : tySz Tryz.prog 135 = some (false, 1) := by kernel_rfl
@[simp] theorem ft_dfl_135 : dflC Tryz.prog 135 = .v (.int .i64 0) := by kernel_rfl
@[simp] theorem ft_zeroOf_135 : zeroOf Tryz.prog 135 = some Value.nilFunc := by kernel_rfl
@[simp] theorem ft_und_135 : (Tryz.prog.underlying 135).isSome = true := by kernel_rfl
@[simp] theorem ft_tySz_136 : tySz Tryz.prog 136 = some (false, 1) := by kernel_rfl
@[simp] theorem ft_dfl_136 : dflC Tryz.prog 136 = .v (.int .i64 0) := by kernel_rfl
@[simp] theorem ft_zeroOf_136 : zeroOf Tryz.prog 136 = some Value.nilFunc := by kernel_rfl
@[simp] theorem ft_und_136 : (Tryz.prog.underlying 136).isSome = true := by kernel_rfl
@[simp] theorem ft_tySz_137 : tySz Tryz.prog 137 = some (false, 1) := by kernel_rfl
@[simp] theorem ft_dfl_137 : dflC Tryz.prog 137 = .v (.int .i64 0) := by kernel_rfl
@[simp] theorem ft_zeroOf_137 : zeroOf Tryz.prog 137 = some Value.nilFunc := by kernel_rfl
@[simp] theorem ft_und_137 : (Tryz.prog.underlying 137).isSome = true := by kernel_rfl
@[simp] theorem ft_tySz_138 : tySz Tryz.prog 138 = some (false, 1) := by kernel_rfl
@[simp] theorem ft_dfl_138 : dflC Tryz.prog 138 = .v (.int .i64 0) := by kernel_rfl
@[simp] theorem ft_zeroOf_138 : zeroOf Tryz.prog 138 = some Value.nilFunc := by kernel_rfl
@[simp] theorem ft_und_138 : (Tryz.prog.underlying 138).isSome = true := by kernel_rfl
@[simp] theorem ft_tySz_139 : tySz Tryz.prog 139 = some (false, 1) := by kernel_rfl
@[simp] theorem ft_dfl_139 : dflC Tryz.prog 139 = .v (.int .i64 0) := by kernel_rfl
@[simp] theorem ft_zeroOf_139 : zeroOf Tryz.prog 139 = some Value.nilFunc := by kernel_rfl
@[simp] theorem ft_und_139 : (Tryz.prog.underlying 139).isSome = true := by kernel_rfl
@[simp] theorem ft_tySz_140 : tySz Tryz.prog 140 = some (false, 1) := by kernel_rfl
@[simp] theorem ft_dfl_140 : dflC Tryz.prog 140 = .v (.int .i64 0) := by kernel_rfl
@[simp] theorem ft_zeroOf_140 : zeroOf Tryz.prog 140 = some Value.nilFunc := by kernel_rfl
@[simp] theorem ft_und_140 : (Tryz.prog.underlying 140).isSome = true := by kernel_rfl
@[simp] theorem ft_tySz_141 : tySz Tryz.prog 141 = some (false, 1) := by kernel_rfl
@[simp] theorem ft_dfl_141 : dflC Tryz.prog 141 = .v (.int .i64 0) := by kernel_rfl
@[simp] theorem ft_zeroOf_141 : zeroOf Tryz.prog 141 = some Value.nilFunc := by kernel_rfl
@[simp] theorem ft_und_141 : (Tryz.prog.underlying 141).isSome = true := by kernel_rfl
@[simp] theorem ft_tySz_142 : tySz Tryz.prog 142 = some (false, 1) := by kernel_rfl
@[simp] theorem ft_dfl_142 : dflC Tryz.prog 142 = .v (.int .i64 0) := by kernel_rfl
@[simp] theorem ft_zeroOf_142 : zeroOf Tryz.prog 142 = some Value.nilFunc := by kernel_rfl
@[simp] theorem ft_und_142 : (Tryz.prog.underlying 142).isSome = true := by kernel_rfl
@[simp] theorem ft_tySz_143 : tySz Tryz.prog 143 = some (false, 1) := by kernel_rfl
@[simp] theorem ft_dfl_143 : dflC Tryz.prog 143 = .v (.int .i64 0) := by kernel_rfl
@[simp] theorem ft_zeroOf_143 : zeroOf Tryz.prog 143 = some Value.nilFunc := by kernel_rfl
@[simp] theorem ft_und_143 : (Tryz.prog.underlying 143).isSome = true := by kernel_rfl
@[simp] theorem ft_tySz_144 : tySz Tryz.prog 144 = some (false, 1) := by kernel_rfl
@[simp] theorem ft_dfl_144 : dflC Tryz.prog 144 = .v (.int .i64 0) := by kernel_rfl
@[simp] theorem ft_zeroOf_144 : zeroOf Tryz.prog 144 = some Value.nilFunc := by kernel_rfl
@[simp] theorem ft_und_144 : (Tryz.prog.underlying 144).isSome = true := by kernel_rfl
@[simp] theorem ft_tySz_145 : tySz Tryz.prog 145 = some (false, 1) := by kernel_rfl
@[simp] theorem ft_dfl_145 : dflC Tryz.prog 145 = .v (.int .i64 0) := by kernel_rfl
@[simp] theorem ft_zeroOf_145 : zeroOf Tryz.prog 145 = some Value.nilFunc := by kernel_rfl
@[simp] theorem ft_und_145 : (Tryz.prog.underlying 145).isSome = true := by kernel_rfl
@[simp] theorem ft_tySz_146 : tySz Tryz.prog 146 = some (false, 1) := by kernel_rfl
@[simp] theorem ft_dfl_146 : dflC Tryz.prog 146 = .v (.int .i64 0) := by kernel_rfl
@[simp] theorem ft_isPt_146 : isPt Tryz.prog 146 = true := by kernel_rfl
@[simp] theorem ft_zeroOf_146 : zeroOf Tryz.prog 146 = some (Value.pointer none) := by kernel_rfl
@[simp] theorem ft_und_146 : (Tryz.prog.underlying 146).isSome = true := by kernel_rfl
@[simp] theorem ft_tySz_147 : tySz Tryz.prog 147 = some (false, 1) := by kernel_rfl
@[simp] theorem ft_dfl_147 : dflC Tryz.prog 147 = .v (.int .i64 0) := by kernel_rfl
@[simp] theorem ft_zeroOf_147 : zeroOf Tryz.prog 147 = some (Value.tuple [Value.int IntKind.i64 (0), Value.int IntKind.i64 (0)].toArray) := by kernel_rfl
@[simp] theorem ft_und_147 : (Tryz.prog.underlying 147).isSome = true := by kernel_rfl
@[simp] theorem ft_tySz_148 : tySz Tryz.prog 148 = some (false, 1) := by kernel_rfl
@[simp] theorem ft_dfl_148 : dflC Tryz.prog 148 = .v (.int .i64 0) := by kernel_rfl
@[simp] theorem ft_zeroOf_148 : zeroOf Tryz.prog 148 = some Value.nilFunc := by kernel_rfl
@[simp] theorem ft_und_148 : (Tryz.prog.underlying 148).isSome = true := by kernel_rfl
@[simp] theorem ft_tySz_149 : tySz Tryz.prog 149 = some (false, 1) := by kernel_rfl
@[simp] theorem ft_dfl_149 : dflC Tryz.prog 149 = .v (.int .i64 0) := by kernel_rfl
@[simp] theorem ft_zeroOf_149 : zeroOf Tryz.prog 149 = some Value.nilFunc := by kernel_rfl
@[simp] theorem ft_und_149 : (Tryz.prog.underlying 149).isSome = true := by kernel_rfl
@[simp] theorem ft_tySz_150 : tySz Tryz.prog 150 = some (false, 1) := by kernel_rfl
@[simp] theorem ft_dfl_150 : dflC Tryz.prog 150 = .v (.int .i64 0) := by kernel_rfl
@[simp] theorem ft_zeroOf_150 : zeroOf Tryz.prog 150 = some Value.nilFunc := by kernel_rfl
@[simp] theorem ft_und_150 : (Tryz.prog.underlying 150).isSome = true := by kernel_rfl
@[simp] theorem ft_tySz_151 : tySz Tryz.prog 151 = some (false, 1) := by kernel_rfl
@[simp] theorem ft_dfl_151 : dflC Tryz.prog 151 = .v (.int .i64 0) := by kernel_rfl
@[simp] theorem ft_zeroOf_151 : zeroOf Tryz.prog 151 = some Value.nilFunc := by kernel_rfl
@[simp] theorem ft_und_151 : (Tryz.prog.underlying 151).isSome = true := by kernel_rfl
@[simp] theorem ft_tySz_152 : tySz Tryz.prog 152 = some (false, 1) := by kernel_rfl
@[simp] theorem ft_dfl_152 : dflC Tryz.prog 152 = .v (.int .i64 0) := by kernel_rfl
@[simp] theorem ft_zeroOf_152 : zeroOf Tryz.prog 152 = some Value.nilFunc := by kernel_rfl
@[simp] theorem ft_und_152 : (Tryz.prog.underlying 152).isSome = true := by kernel_rfl
@[simp] theorem ft_tySz_153 : tySz Tryz.prog 153 = some (false, 1) := by kernel_rfl
@[simp] theorem ft_dfl_153 : dflC Tryz.prog 153 = .v (.int .i64 0) := by kernel_rfl
@[simp] theorem ft_zeroOf_153 : zeroOf Tryz.prog 153 = some Value.nilFunc := by kernel_rfl
@[simp] theorem ft_und_153 : (Tryz.prog.underlying 153).isSome = true := by kernel_rfl
@[simp] theorem ft_tySz_154 : tySz Tryz.prog 154 = some (false, 1) := by kernel_rfl
@[simp] theorem ft_dfl_154 : dflC Tryz.prog 154 = .v (.int .i64 0) := by kernel_rfl
@[simp] theorem ft_zeroOf_154 : zeroOf Tryz.prog 154 = some Value.nilFunc := by kernel_rfl
@[simp] theorem ft_und_154 : (Tryz.prog.underlying 154).isSome = true := by kernel_rfl
@[simp] theorem ft_tySz_155 : tySz Tryz.prog 155 = some (false, 1) := by kernel_rfl
@[simp] theorem ft_dfl_155 : dflC Tryz.prog 155 = .v (.int .i64 0) := by kernel_rfl
@[simp] theorem ft_zeroOf_155 : zeroOf Tryz.prog 155 = some Value.nilFunc := by kernel_rfl
@[simp] theorem ft_und_155 : (Tryz.prog.underlying 155).isSome = true := by kernel_rfl
@[simp] theorem ft_tySz_156 : tySz Tryz.prog 156 = some (true, 4) := by kernel_rfl
@[simp] theorem ft_dfl_156 : dflC Tryz.prog 156 = .v (.int .i64 0) := by kernel_rfl
@[simp] theorem ft_zeroOf_156 : zeroOf Tryz.prog 156 = some (Value.agg [Value.pointer none, Value.pointer none, Value.pointer none, Value.string ⟨#[]⟩].toArray) := by kernel_rfl
@[simp] theorem ft_plOf_156 : plOf Tryz.prog 156 = some (Sum.inl [(0, 1), (1, 1), (2, 1), (3, 1)]) := by kernel_rfl
@[simp] theorem ft_und_156 : (Tryz.prog.underlying 156).isSome = true := by kernel_rfl
@[simp] theorem ft_fldOf_156_0 : fldOf Tryz.prog 156 0 = some (0, false, 1) := by kernel_rfl
@[simp] theorem ft_fldOf_156_1 : fldOf Tryz.prog 156 1 = some (1, false, 1) := by kernel_rfl
@[simp] theorem ft_fldOf_156_2 : fldOf Tryz.prog 156 2 = some (2, false, 1) := by kernel_rfl
@[simp] theorem ft_fldOf_156_3 : fldOf Tryz.prog 156 3 = some (3, false, 1) := by kernel_rfl
@[simp] theorem ft_tySz_157 : tySz Tryz.prog 157 = some (true, 4) := by kernel_rfl
@[simp] theorem ft_dfl_157 : dflC Tryz.prog 157 = .v (.int .i64 0) := by kernel_rfl
@[simp] theorem ft_zeroOf_157 : zeroOf Tryz.prog 157 = some (Value.agg [Value.pointer none, Value.pointer none, Value.pointer none, Value.string ⟨#[]⟩].toArray) := by kernel_rfl
@[simp] theorem ft_plOf_157 : plOf Tryz.prog 157 = some (Sum.inl [(0, 1), (1, 1), (2, 1), (3, 1)]) := by kernel_rfl
@[simp] theorem ft_und_157 : (Tryz.prog.underlying 157).isSome = true := by kernel_rfl
@[simp] theorem ft_fldOf_157_0 : fldOf Tryz.prog 157 0 = some (0, false, 1) := by kernel_rfl
@[simp] theorem ft_fldOf_157_1 : fldOf Tryz.prog 157 1 = some (1, false, 1) := by kernel_rfl
@[simp] theorem ft_fldOf_157_2 : fldOf Tryz.prog 157 2 = some (2, false, 1) := by kernel_rfl
@[simp] theorem ft_fldOf_157_3 : fldOf Tryz.prog 157 3 = some (3, false, 1) := by kernel_rfl
@[simp] theorem ft_tySz_158 : tySz Tryz.prog 158 = some (true, 0) := by kernel_rfl
@[simp] theorem ft_dfl_158 : dflC Tryz.prog 158 = .v (.int .i64 0) := by kernel_rfl
@[simp] theorem ft_zeroOf_158 : zeroOf Tryz.prog 158 = some (Value.agg [].toArray) := by kernel_rfl
@[simp] theorem ft_plOf_158 : plOf Tryz.prog 158 = some (Sum.inr 1) := by kernel_rfl
@[simp] theorem ft_arrOf_158 : arrOf Tryz.prog 158 = some (0, false, 1) := by kernel_rfl
@[simp] theorem ft_und_158 : (Tryz.prog.underlying 158).isSome = true := by kernel_rfl
@[simp] theorem ft_tySz_159 : tySz Tryz.prog 159 = some (true, 0) := by kernel_rfl
@[simp] theorem ft_dfl_159 : dflC Tryz.prog 159 = .v (.int .i64 0) := by kernel_rfl
@[simp] theorem ft_zeroOf_159 : zeroOf Tryz.prog 159 = some (Value.agg [].toArray) := by kernel_rfl
@[simp] theorem ft_plOf_159 : plOf Tryz.prog 159 = some (Sum.inl [(0, 0)]) := by kernel_rfl
@[simp] theorem ft_und_159 : (Tryz.prog.underlying 159).isSome = true := by kernel_rfl
@[simp] theorem ft_fldOf_159_0 : fldOf Tryz.prog 159 0 = some (0, true, 0) := by kernel_rfl
@[simp] theorem ft_tySz_160 : tySz Tryz.prog 160 = some (true, 0) := by kernel_rfl
@[simp] theorem ft_dfl_160 : dflC Tryz.prog 160 = .v (.int .i64 0) := by kernel_rfl
@[simp] theorem ft_zeroOf_160 : zeroOf Tryz.prog 160 = some (Value.agg [].toArray) := by kernel_rfl
@[simp] theorem ft_plOf_160 : plOf Tryz.prog 160 = some (Sum.inl [(0, 0)]) := by kernel_rfl
@[simp] theorem ft_und_160 : (Tryz.prog.underlying 160).isSome = true := by kernel_rfl
@[simp] theorem ft_fldOf_160_0 : fldOf Tryz.prog 160 0 = some (0, true, 0) := by kernel_rfl
@[simp] theorem ft_tySz_161 : tySz Tryz.prog 161 = some (false, 1) := by kernel_rfl
@[simp] theorem ft_dfl_161 : dflC Tryz.prog 161 = .v (.int .i64 0) := by kernel_rfl
@[simp] theorem ft_zeroOf_161 : zeroOf Tryz.prog 161 = some Value.nilFunc := by kernel_rfl
@[simp] theorem ft_und_161 : (Tryz.prog.underlying 161).isSome = true := by kernel_rfl
@[simp] theorem ft_tySz_162 : tySz Tryz.prog 162 = some (false, 1) := by kernel_rfl
@[simp] theorem ft_dfl_162 : dflC Tryz.prog 162 = .v (.int .i64 0) := by kernel_rfl
@[simp] theorem ft_intOfTy_162 : intOfTy Tryz.prog 162 = some IntKind.u8 := by kernel_rfl
@[simp] theorem ft_zeroOf_162 : zeroOf Tryz.prog 162 = some (Value.int IntKind.u8 (0)) := by kernel_rfl
@[simp] theorem ft_und_162 : (Tryz.prog.underlying 162).isSome = true := by kernel_rfl
@[simp] theorem ft_tySz_163 : tySz Tryz.prog 163 = some (false, 1) := by kernel_rfl
@[simp] theorem ft_dfl_163 : dflC Tryz.prog 163 = .v (.int .i64 0) := by kernel_rfl
@[simp] theorem ft_intOfTy_163 : intOfTy Tryz.prog 163 = some IntKind.u8 := by kernel_rfl
@[simp] theorem ft_zeroOf_163 : zeroOf Tryz.prog 163 = some (Value.int IntKind.u8 (0)) := by kernel_rfl
@[simp] theorem ft_und_163 : (Tryz.prog.underlying 163).isSome = true := by kernel_rfl
@[simp] theorem ft_tySz_164 : tySz Tryz.prog 164 = some (false, 1) := by kernel_rfl
@[simp] theorem ft_dfl_164 : dflC Tryz.prog 164 = .v (.int .i64 0) := by kernel_rfl
@[simp] theorem ft_zeroOf_164 : zeroOf Tryz.prog 164 = some Value.nilFunc := by kernel_rfl
@[simp] theorem ft_und_164 : (Tryz.prog.underlying 164).isSome = true := by kernel_rfl
@[simp] theorem ft_tySz_165 : tySz Tryz.prog 165 = some (false, 1) := by kernel_rfl
@[simp] theorem ft_dfl_165 : dflC Tryz.prog 165 = .v (.int .i64 0) := by kernel_rfl
@[simp] theorem ft_isPt_165 : isPt Tryz.prog 165 = true := by kernel_rfl
@[simp] theorem ft_zeroOf_165 : zeroOf Tryz.prog 165 = some (Value.pointer none) := by kernel_rfl
@[simp] theorem ft_und_165 : (Tryz.prog.underlying 165).isSome = true := by kernel_rfl
@[simp] theorem ft_tySz_166 : tySz Tryz.prog 166 = some (false, 1) := by kernel_rfl
@[simp] theorem ft_dfl_166 : dflC Tryz.prog 166 = .v (.int .i64 0) := by kernel_rfl
@[simp] theorem ft_intOfTy_166 : intOfTy Tryz.prog 166 = some IntKind.i32 := by kernel_rfl
@[simp] theorem ft_zeroOf_166 : zeroOf Tryz.prog 166 = some (Value.int IntKind.i32 (0)) := by kernel_rfl
@[simp] theorem ft_und_166 : (Tryz.prog.underlying 166).isSome = true := by kernel_rfl
@[simp] theorem ft_tySz_167 : tySz Tryz.prog 167 = some (false, 1) := by kernel_rfl
@[simp] theorem ft_dfl_167 : dflC Tryz.prog 167 = .v (.int .i64 0) := by kernel_rfl
@[simp] theorem ft_intOfTy_167 : intOfTy Tryz.prog 167 = some IntKind.i32 := by kernel_rfl
@[simp] theorem ft_zeroOf_167 : zeroOf Tryz.prog 167 = some (Value.int IntKind.i32 (0)) := by kernel_rfl
@[simp] theorem ft_und_167 : (Tryz.prog.underlying 167).isSome = true := by kernel_rfl
@[simp] theorem ft_tySz_168 : tySz Tryz.prog 168 = some (true, 11) := by kernel_rfl
@[simp] theorem ft_dfl_168 : dflC Tryz.prog 168 = .v (.int .i64 0) := by kernel_rfl
@[simp] theorem ft_zeroOf_168 : zeroOf Tryz.prog 168 = some (Value.agg [Value.int IntKind.u64 (0), Value.int IntKind.u64 (0), Value.int IntKind.u32 (0), Value.int IntKind.u8 (0), Value.int IntKind.u8 (0), Value.int IntKind.u8 (0), Value.int IntKind.u8 (0), Value.nilFunc, Value.pointer none, Value.int IntKind.i32 (0), Value.int IntKind.i32 (0)].toArray) := by kernel_rfl
@[simp] theorem ft_plOf_168 : plOf Tryz.prog 168 = some (Sum.inl [(0, 1), (1, 1), (2, 1), (3, 1), (4, 1), (5, 1), (6, 1), (7, 1), (8, 1), (9, 1), (10, 1)]) := by kernel_rfl
@[simp] theorem ft_und_168 : (Tryz.prog.underlying 168).isSome = true := by kernel_rfl
@[simp] theorem ft_fldOf_168_0 : fldOf Tryz.prog 168 0 = some (0, false, 1) := by kernel_rfl
@[simp] theorem ft_fldOf_168_1 : fldOf Tryz.prog 168 1 = some (1, false, 1) := by kernel_rfl
@[simp] theorem ft_fldOf_168_2 : fldOf Tryz.prog 168 2 = some (2, false, 1) := by kernel_rfl
@[simp] theorem ft_fldOf_168_3 : fldOf Tryz.prog 168 3 = some (3, false, 1) := by kernel_rfl
@[simp] theorem ft_fldOf_168_4 : fldOf Tryz.prog 168 4 = some (4, false, 1) := by kernel_rfl
@[simp] theorem ft_fldOf_168_5 : fldOf Tryz.prog 168 5 = some (5, false, 1) := by kernel_rfl
@[simp] theorem ft_fldOf_168_6 : fldOf Tryz.prog 168 6 = some (6, false, 1) := by kernel_rfl
@[simp] theorem ft_fldOf_168_7 : fldOf Tryz.prog 168 7 = some (7, false, 1) := by kernel_rfl
@[simp] theorem ft_fldOf_168_8 : fldOf Tryz.prog 168 8 = some (8, false, 1) := by kernel_rfl
@[simp] theorem ft_fldOf_168_9 : fldOf Tryz.prog 168 9 = some (9, false, 1) := by kernel_rfl
@[simp] theorem ft_fldOf_168_10 : fldOf Tryz.prog 168 10 = some (10, false, 1) := by kernel_rfl
@[simp] theorem ft_tySz_169 : tySz Tryz.prog 169 = some (true, 11) := by kernel_rfl
@[simp] theorem ft_dfl_169 : dflC Tryz.prog 169 = .v (.int .i64 0) := by kernel_rfl
@[simp] theorem ft_zeroOf_169 : zeroOf Tryz.prog 169 = some (Value.agg [Value.int IntKind.u64 (0), Value.int IntKind.u64 (0), Value.int IntKind.u32 (0), Value.int IntKind.u8 (0), Value.int IntKind.u8 (0), Value.int IntKind.u8 (0), Value.int IntKind.u8 (0), Value.nilFunc, Value.pointer none, Value.int IntKind.i32 (0), Value.int IntKind.i32 (0)].toArray) := by kernel_rfl
@[simp] theorem ft_plOf_169 : plOf Tryz.prog 169 = some (Sum.inl [(0, 1), (1, 1), (2, 1), (3, 1), (4, 1), (5, 1), (6, 1), (7, 1), (8, 1), (9, 1), (10, 1)]) := by kernel_rfl
@[simp] theorem ft_und_169 : (Tryz.prog.underlying 169).isSome = true := by kernel_rfl
@[simp] theorem ft_fldOf_169_0 : fldOf Tryz.prog 169 0 = some (0, false, 1) := by kernel_rfl
@[simp] theorem ft_fldOf_169_1 : fldOf Tryz.prog 169 1 = some (1, false, 1) := by kernel_rfl
@[simp] theorem ft_fldOf_169_2 : fldOf Tryz.prog 169 2 = some (2, false, 1) := by kernel_rfl
@[simp] theorem ft_fldOf_169_3 : fldOf Tryz.prog 169 3 = some (3, false, 1) := by kernel_rfl
@[simp] theorem ft_fldOf_169_4 : fldOf Tryz.prog 169 4 = some (4, false, 1) := by kernel_rfl
@[simp] theorem ft_fldOf_169_5 : fldOf Tryz.prog 169 5 = some (5, false, 1) := by kernel_rfl
@[simp] theorem ft_fldOf_169_6 : fldOf Tryz.prog 169 6 = some (6, false, 1) := by kernel_rfl
@[simp] theorem ft_fldOf_169_7 : fldOf Tryz.prog 169 7 = some (7, false, 1) := by kernel_rfl
@[simp] theorem ft_fldOf_169_8 : fldOf Tryz.prog 169 8 = some (8, false, 1) := by kernel_rfl
@[simp] theorem ft_fldOf_169_9 : fldOf Tryz.prog 169 9 = some (9, false, 1) := by kernel_rfl
@[simp] theorem ft_fldOf_169_10 : fldOf Tryz.prog 169 10 = some (10, false, 1) := by kernel_rfl
@[simp] theorem ft_tySz_170 : tySz Tryz.prog 170 = some (false, 1) := by kernel_rfl
@[simp] theorem ft_dfl_170 : dflC Tryz.prog 170 = .v (.int .i64 0) := by kernel_rfl
@[simp] theorem ft_zeroOf_170 : zeroOf Tryz.prog 170 = some (Value.pointer none) := by kernel_rfl
@[simp] theorem ft_und_170 : (Tryz.prog.underlying 170).isSome = true := by kernel_rfl
end Go.Proofs.YtmkbclnhopoiiaaGreat
