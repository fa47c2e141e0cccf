/- The types' facts of the seat, each by kernel_rfl. -/
import Derived.Test.YtddhmoffjpnbgaaVC
import Derived.Test.YtddhmoffjpnbgaaVM6
import Derived.Test.YtddhmoffjpnbgaaProg
import Derived.KernelRfl
set_option linter.unusedSimpArgs false
set_option linter.unusedVariables false
namespace Go.Proofs.Ytddhmoffjpnbgaa
open Go.VL Go.RowKit
@[simp] theorem ft_tySz_0 : tySz Try.prog 0 = some (false, 1) := by kernel_rfl
@[simp] theorem ft_dfl_0 : dflC Try.prog 0 = .v (.int .i64 0) := by kernel_rfl
@[simp] theorem ft_zeroOf_0 : zeroOf Try.prog 0 = some (Value.tuple [].toArray) := by kernel_rfl
@[simp] theorem ft_und_0 : (Try.prog.underlying 0).isSome = true := by kernel_rfl
@[simp] theorem ft_tySz_1 : tySz Try.prog 1 = some (false, 1) := by kernel_rfl
@[simp] theorem ft_dfl_1 : dflC Try.prog 1 = .v (.int .i64 0) := by kernel_rfl
@[simp] theorem ft_zeroOf_1 : zeroOf Try.prog 1 = some Value.nilFunc := by kernel_rfl
@[simp] theorem ft_und_1 : (Try.prog.underlying 1).isSome = true := by kernel_rfl
@[simp] theorem ft_tySz_2 : tySz Try.prog 2 = some (false, 1) := by kernel_rfl
@[simp] theorem ft_dfl_2 : dflC Try.prog 2 = .v (.int .i64 0) := by kernel_rfl
@[simp] theorem ft_intOfTy_2 : intOfTy Try.prog 2 = some IntKind.i64 := by kernel_rfl
@[simp] theorem ft_zeroOf_2 : zeroOf Try.prog 2 = some (Value.int IntKind.i64 (0)) := by kernel_rfl
@[simp] theorem ft_und_2 : (Try.prog.underlying 2).isSome = true := by kernel_rfl
@[simp] theorem ft_tySz_3 : tySz Try.prog 3 = some (false, 1) := by kernel_rfl
@[simp] theorem ft_dfl_3 : dflC Try.prog 3 = .v (.int .i64 0) := by kernel_rfl
@[simp] theorem ft_intOfTy_3 : intOfTy Try.prog 3 = some IntKind.i64 := by kernel_rfl
@[simp] theorem ft_zeroOf_3 : zeroOf Try.prog 3 = some (Value.int IntKind.i64 (0)) := by kernel_rfl
@[simp] theorem ft_und_3 : (Try.prog.underlying 3).isSome = true := by kernel_rfl
@[simp] theorem ft_tySz_4 : tySz Try.prog 4 = some (false, 1) := by kernel_rfl
@[simp] theorem ft_dfl_4 : dflC Try.prog 4 = .v (.int .i64 0) := by kernel_rfl
@[simp] theorem ft_zeroOf_4 : zeroOf Try.prog 4 = some (Value.bool false) := by kernel_rfl
@[simp] theorem ft_und_4 : (Try.prog.underlying 4).isSome = true := by kernel_rfl
@[simp] theorem ft_tySz_5 : tySz Try.prog 5 = some (false, 1) := by kernel_rfl
@[simp] theorem ft_dfl_5 : dflC Try.prog 5 = .v (.int .i64 0) := by kernel_rfl
@[simp] theorem ft_intOfTy_5 : intOfTy Try.prog 5 = some IntKind.u8 := by kernel_rfl
@[simp] theorem ft_zeroOf_5 : zeroOf Try.prog 5 = some (Value.int IntKind.u8 (0)) := by kernel_rfl
@[simp] theorem ft_und_5 : (Try.prog.underlying 5).isSome = true := by kernel_rfl
@[simp] theorem ft_tySz_6 : tySz Try.prog 6 = some (false, 1) := by kernel_rfl
@[simp] theorem ft_dfl_6 : dflC Try.prog 6 = .v (.int .i64 0) := by kernel_rfl
@[simp] theorem ft_intOfTy_6 : intOfTy Try.prog 6 = some IntKind.u8 := by kernel_rfl
@[simp] theorem ft_zeroOf_6 : zeroOf Try.prog 6 = some (Value.int IntKind.u8 (0)) := by kernel_rfl
@[simp] theorem ft_und_6 : (Try.prog.underlying 6).isSome = true := by kernel_rfl
@[simp] theorem ft_tySz_7 : tySz Try.prog 7 = some (true, 4) := by kernel_rfl
@[simp] theorem ft_dfl_7 : dflC Try.prog 7 = .v (.int .i64 0) := by kernel_rfl
@[simp] theorem ft_zeroOf_7 : zeroOf Try.prog 7 = some (Value.agg [Value.int IntKind.i64 (0), Value.int IntKind.i64 (0), Value.bool false, Value.int IntKind.u8 (0)].toArray) := by kernel_rfl
@[simp] theorem ft_plOf_7 : plOf Try.prog 7 = some (Sum.inl [(0, 1), (1, 1), (2, 1), (3, 1)]) := by kernel_rfl
@[simp] theorem ft_eqT_7 : eqT Try.prog 7 = some [FK.i, FK.i, FK.b, FK.i] := by kernel_rfl
@[simp] theorem ft_und_7 : (Try.prog.underlying 7).isSome = true := by kernel_rfl
@[simp] theorem ft_fldOf_7_0 : fldOf Try.prog 7 0 = some (0, false, 1) := by kernel_rfl
@[simp] theorem ft_fldOf_7_1 : fldOf Try.prog 7 1 = some (1, false, 1) := by kernel_rfl
@[simp] theorem ft_fldOf_7_2 : fldOf Try.prog 7 2 = some (2, false, 1) := by kernel_rfl
@[simp] theorem ft_fldOf_7_3 : fldOf Try.prog 7 3 = some (3, false, 1) := by kernel_rfl
@[simp] theorem ft_tySz_8 : tySz Try.prog 8 = some (true, 4) := by kernel_rfl
@[simp] theorem ft_dfl_8 : dflC Try.prog 8 = .v (.int .i64 0) := by kernel_rfl
@[simp] theorem ft_zeroOf_8 : zeroOf Try.prog 8 = some (Value.agg [Value.int IntKind.i64 (0), Value.int IntKind.i64 (0), Value.bool false, Value.int IntKind.u8 (0)].toArray) := by kernel_rfl
@[simp] theorem ft_plOf_8 : plOf Try.prog 8 = some (Sum.inl [(0, 1), (1, 1), (2, 1), (3, 1)]) := by kernel_rfl
@[simp] theorem ft_eqT_8 : eqT Try.prog 8 = some [FK.i, FK.i, FK.b, FK.i] := by kernel_rfl
@[simp] theorem ft_und_8 : (Try.prog.underlying 8).isSome = true := by kernel_rfl
@[simp] theorem ft_fldOf_8_0 : fldOf Try.prog 8 0 = some (0, false, 1) := by kernel_rfl
@[simp] theorem ft_fldOf_8_1 : fldOf Try.prog 8 1 = some (1, false, 1) := by kernel_rfl
@[simp] theorem ft_fldOf_8_2 : fldOf Try.prog 8 2 = some (2, false, 1) := by kernel_rfl
@[simp] theorem ft_fldOf_8_3 : fldOf Try.prog 8 3 = some (3, false, 1) := by kernel_rfl
@[simp] theorem ft_tySz_9 : tySz Try.prog 9 = some (false, 1) := by kernel_rfl
@[simp] theorem ft_dfl_9 : dflC Try.prog 9 = .v (.int .i64 0) := by kernel_rfl
@[simp] theorem ft_zeroOf_9 : zeroOf Try.prog 9 = some (Value.string ⟨#[]⟩) := by kernel_rfl
@[simp] theorem ft_und_9 : (Try.prog.underlying 9).isSome = true := by kernel_rfl
@[simp] theorem ft_tySz_10 : tySz Try.prog 10 = some (false, 1) := by kernel_rfl
@[simp] theorem ft_dfl_10 : dflC Try.prog 10 = .v (.int .i64 0) := by kernel_rfl
@[simp] theorem ft_zeroOf_10 : zeroOf Try.prog 10 = some (Value.string ⟨#[]⟩) := by kernel_rfl
@[simp] theorem ft_und_10 : (Try.prog.underlying 10).isSome = true := by kernel_rfl
@[simp] theorem ft_tySz_11 : tySz Try.prog 11 = some (false, 1) := by kernel_rfl
@[simp] theorem ft_dfl_11 : dflC Try.prog 11 = .v (.int .i64 0) := by kernel_rfl
@[simp] theorem ft_zeroOf_11 : zeroOf Try.prog 11 = some (Value.string ⟨#[]⟩) := by kernel_rfl
@[simp] theorem ft_und_11 : (Try.prog.underlying 11).isSome = true := by kernel_rfl
@[simp] theorem ft_tySz_12 : tySz Try.prog 12 = some (false, 1) := by kernel_rfl
@[simp] theorem ft_dfl_12 : dflC Try.prog 12 = .v (.int .i64 0) := by kernel_rfl
@[simp] theorem ft_intOfTy_12 : intOfTy Try.prog 12 = some IntKind.u64 := by kernel_rfl
@[simp] theorem ft_zeroOf_12 : zeroOf Try.prog 12 = some (Value.int IntKind.u64 (0)) := by kernel_rfl
@[simp] theorem ft_und_12 : (Try.prog.underlying 12).isSome = true := by kernel_rfl
@[simp] theorem ft_tySz_13 : tySz Try.prog 13 = some (true, 2) := by kernel_rfl
@[simp] theorem ft_dfl_13 : dflC Try.prog 13 = .v (.int .i64 0) := by kernel_rfl
@[simp] theorem ft_zeroOf_13 : zeroOf Try.prog 13 = some (Value.agg [Value.string ⟨#[]⟩, Value.int IntKind.u64 (0)].toArray) := by kernel_rfl
@[simp] theorem ft_plOf_13 : plOf Try.prog 13 = some (Sum.inl [(0, 1), (1, 1)]) := by kernel_rfl
@[simp] theorem ft_und_13 : (Try.prog.underlying 13).isSome = true := by kernel_rfl
@[simp] theorem ft_fldOf_13_0 : fldOf Try.prog 13 0 = some (0, false, 1) := by kernel_rfl
@[simp] theorem ft_fldOf_13_1 : fldOf Try.prog 13 1 = some (1, false, 1) := by kernel_rfl
@[simp] theorem ft_tySz_14 : tySz Try.prog 14 = some (true, 2) := by kernel_rfl
@[simp] theorem ft_dfl_14 : dflC Try.prog 14 = .v (.int .i64 0) := by kernel_rfl
@[simp] theorem ft_zeroOf_14 : zeroOf Try.prog 14 = some (Value.agg [Value.string ⟨#[]⟩, Value.int IntKind.u64 (0)].toArray) := by kernel_rfl
@[simp] theorem ft_plOf_14 : plOf Try.prog 14 = some (Sum.inl [(0, 1), (1, 1)]) := by kernel_rfl
@[simp] theorem ft_und_14 : (Try.prog.underlying 14).isSome = true := by kernel_rfl
@[simp] theorem ft_fldOf_14_0 : fldOf Try.prog 14 0 = some (0, false, 1) := by kernel_rfl
@[simp] theorem ft_fldOf_14_1 : fldOf Try.prog 14 1 = some (1, false, 1) := by kernel_rfl
@[simp] theorem ft_tySz_15 : tySz Try.prog 15 = some (false, 1) := by kernel_rfl
@[simp] theorem ft_dfl_15 : dflC Try.prog 15 = .v (.int .i64 0) := by kernel_rfl
@[simp] theorem ft_isPt_15 : isPt Try.prog 15 = true := by kernel_rfl
@[simp] theorem ft_zeroOf_15 : zeroOf Try.prog 15 = some (Value.pointer none) := by kernel_rfl
@[simp] theorem ft_und_15 : (Try.prog.underlying 15).isSome = true := by kernel_rfl
@[simp] theorem ft_tySz_16 : tySz Try.prog 16 = some (false, 1) := by kernel_rfl
@[simp] theorem ft_dfl_16 : dflC Try.prog 16 = .v (.int .i64 0) := by kernel_rfl
@[simp] theorem ft_isPt_16 : isPt Try.prog 16 = true := by kernel_rfl
@[simp] theorem ft_zeroOf_16 : zeroOf Try.prog 16 = some (Value.pointer none) := by kernel_rfl
@[simp] theorem ft_und_16 : (Try.prog.underlying 16).isSome = true := by kernel_rfl
@[simp] theorem ft_tySz_17 : tySz Try.prog 17 = some (false, 1) := by kernel_rfl
@[simp] theorem ft_dfl_17 : dflC Try.prog 17 = .v (.int .i64 0) := by kernel_rfl
@[simp] theorem ft_isPt_17 : isPt Try.prog 17 = true := by kernel_rfl
@[simp] theorem ft_zeroOf_17 : zeroOf Try.prog 17 = some (Value.pointer none) := by kernel_rfl
@[simp] theorem ft_und_17 : (Try.prog.underlying 17).isSome = true := by kernel_rfl
@[simp] theorem ft_tySz_18 : tySz Try.prog 18 = some (true, 1) := by kernel_rfl
@[simp] theorem ft_dfl_18 : dflC Try.prog 18 = .v (.int .i64 0) := by kernel_rfl
@[simp] theorem ft_zeroOf_18 : zeroOf Try.prog 18 = some (Value.agg [Value.pointer none].toArray) := by kernel_rfl
@[simp] theorem ft_plOf_18 : plOf Try.prog 18 = some (Sum.inl [(0, 1)]) := by kernel_rfl
@[simp] theorem ft_und_18 : (Try.prog.underlying 18).isSome = true := by kernel_rfl
@[simp] theorem ft_fldOf_18_0 : fldOf Try.prog 18 0 = some (0, false, 1) := by kernel_rfl
@[simp] theorem ft_tySz_19 : tySz Try.prog 19 = some (true, 1) := by kernel_rfl
@[simp] theorem ft_dfl_19 : dflC Try.prog 19 = .v (.int .i64 0) := by kernel_rfl
@[simp] theorem ft_zeroOf_19 : zeroOf Try.prog 19 = some (Value.agg [Value.pointer none].toArray) := by kernel_rfl
@[simp] theorem ft_plOf_19 : plOf Try.prog 19 = some (Sum.inl [(0, 1)]) := by kernel_rfl
@[simp] theorem ft_und_19 : (Try.prog.underlying 19).isSome = true := by kernel_rfl
@[simp] theorem ft_fldOf_19_0 : fldOf Try.prog 19 0 = some (0, false, 1) := by kernel_rfl
@[simp] theorem ft_tySz_20 : tySz Try.prog 20 = some (false, 1) := by kernel_rfl
@[simp] theorem ft_dfl_20 : dflC Try.prog 20 = .v (.int .i64 0) := by kernel_rfl
@[simp] theorem ft_zeroOf_20 : zeroOf Try.prog 20 = some Value.nilIface := by kernel_rfl
@[simp] theorem ft_und_20 : (Try.prog.underlying 20).isSome = true := by kernel_rfl
@[simp] theorem ft_tySz_21 : tySz Try.prog 21 = some (false, 1) := by kernel_rfl
@[simp] theorem ft_dfl_21 : dflC Try.prog 21 = .v (.int .i64 0) := by kernel_rfl
@[simp] theorem ft_intOfTy_21 : intOfTy Try.prog 21 = some IntKind.i32 := by kernel_rfl
@[simp] theorem ft_zeroOf_21 : zeroOf Try.prog 21 = some (Value.int IntKind.i32 (0)) := by kernel_rfl
@[simp] theorem ft_und_21 : (Try.prog.underlying 21).isSome = true := by kernel_rfl
@[simp] theorem ft_tySz_22 : tySz Try.prog 22 = some (false, 1) := by kernel_rfl
@[simp] theorem ft_esz_22 : esz Try.prog 22 = some 6 := by kernel_rfl
@[simp] theorem ft_dfl_22 : dflC Try.prog 22 = .sl true [] := by kernel_rfl
@[simp] theorem ft_isSl_22 : isSl Try.prog 22 = true := by kernel_rfl
@[simp] theorem ft_zeroOf_22 : zeroOf Try.prog 22 = some (Value.slice none 0 0) := by kernel_rfl
@[simp] theorem ft_elZ_22 : elZ Try.prog 22 = some (6, [C.v (Value.int IntKind.i64 (0)), C.v (Value.int IntKind.i64 (0)), C.v (Value.int IntKind.i64 (0)), C.v (Value.int IntKind.i64 (0)), C.v (Value.int IntKind.i64 (0)), C.sl true []]) := by kernel_rfl
@[simp] theorem ft_slT_22 : slT Try.prog 22 = some (6, 64) := by kernel_rfl
@[simp] theorem ft_apT_22 : apT Try.prog 22 22 = some (6, 64) := by kernel_rfl
@[simp ↓] theorem ft_vmk_22 (l c : S) (y : Nat) (st : St) (K : St → Prop) : vmk Try.prog 22 l c y st K = force (tick (sint l)) fun l => force (tick (sint c)) fun c => vmkZ (some (6, [C.v (Value.int IntKind.i64 (0)), C.v (Value.int IntKind.i64 (0)), C.v (Value.int IntKind.i64 (0)), C.v (Value.int IntKind.i64 (0)), C.v (Value.int IntKind.i64 (0)), C.sl true []])) (some (6, 64)) l c y st K := vmk_iff st K 22 l c y ft_elZ_22 ft_slT_22
@[simp] theorem ft_und_22 : (Try.prog.underlying 22).isSome = true := by kernel_rfl
@[simp] theorem ft_tySz_23 : tySz Try.prog 23 = some (false, 1) := by kernel_rfl
@[simp] theorem ft_esz_23 : esz Try.prog 23 = some 1 := by kernel_rfl
@[simp] theorem ft_dfl_23 : dflC Try.prog 23 = .sl true [] := by kernel_rfl
@[simp] theorem ft_isSl_23 : isSl Try.prog 23 = true := by kernel_rfl
@[simp] theorem ft_zeroOf_23 : zeroOf Try.prog 23 = some (Value.slice none 0 0) := by kernel_rfl
@[simp] theorem ft_elZ_23 : elZ Try.prog 23 = some (1, [C.v (Value.int IntKind.i64 (0))]) := by kernel_rfl
@[simp] theorem ft_slT_23 : slT Try.prog 23 = some (1, 8) := by kernel_rfl
@[simp] theorem ft_apT_23 : apT Try.prog 23 23 = some (1, 8) := by kernel_rfl
@[simp ↓] theorem ft_vmk_23 (l c : S) (y : Nat) (st : St) (K : St → Prop) : vmk Try.prog 23 l c y st K = force (tick (sint l)) fun l => force (tick (sint c)) fun c => vmkZ (some (1, [C.v (Value.int IntKind.i64 (0))])) (some (1, 8)) l c y st K := vmk_iff st K 23 l c y ft_elZ_23 ft_slT_23
@[simp] theorem ft_und_23 : (Try.prog.underlying 23).isSome = true := by kernel_rfl
@[simp] theorem ft_tySz_24 : tySz Try.prog 24 = some (false, 1) := by kernel_rfl
@[simp] theorem ft_esz_24 : esz Try.prog 24 = some 2 := by kernel_rfl
@[simp] theorem ft_dfl_24 : dflC Try.prog 24 = .sl true [] := by kernel_rfl
@[simp] theorem ft_isSl_24 : isSl Try.prog 24 = true := by kernel_rfl
@[simp] theorem ft_zeroOf_24 : zeroOf Try.prog 24 = some (Value.slice none 0 0) := by kernel_rfl
@[simp] theorem ft_elZ_24 : elZ Try.prog 24 = some (2, [C.v (Value.int IntKind.i64 (0)), C.v (Value.int IntKind.i64 (0))]) := by kernel_rfl
@[simp] theorem ft_slT_24 : slT Try.prog 24 = some (2, 16) := by kernel_rfl
@[simp] theorem ft_apT_24 : apT Try.prog 24 24 = some (2, 16) := by kernel_rfl
@[simp ↓] theorem ft_vmk_24 (l c : S) (y : Nat) (st : St) (K : St → Prop) : vmk Try.prog 24 l c y st K = force (tick (sint l)) fun l => force (tick (sint c)) fun c => vmkZ (some (2, [C.v (Value.int IntKind.i64 (0)), C.v (Value.int IntKind.i64 (0))])) (some (2, 16)) l c y st K := vmk_iff st K 24 l c y ft_elZ_24 ft_slT_24
@[simp] theorem ft_und_24 : (Try.prog.underlying 24).isSome = true := by kernel_rfl
@[simp] theorem ft_tySz_25 : tySz Try.prog 25 = some (false, 1) := by kernel_rfl
@[simp] theorem ft_esz_25 : esz Try.prog 25 = some 3 := by kernel_rfl
@[simp] theorem ft_dfl_25 : dflC Try.prog 25 = .sl true [] := by kernel_rfl
@[simp] theorem ft_isSl_25 : isSl Try.prog 25 = true := by kernel_rfl
@[simp] theorem ft_zeroOf_25 : zeroOf Try.prog 25 = some (Value.slice none 0 0) := by kernel_rfl
@[simp] theorem ft_elZ_25 : elZ Try.prog 25 = some (3, [C.v (Value.int IntKind.i64 (0)), C.v (Value.int IntKind.i64 (0)), C.v (Value.int IntKind.i64 (0))]) := by kernel_rfl
@[simp] theorem ft_slT_25 : slT Try.prog 25 = some (3, 24) := by kernel_rfl
@[simp] theorem ft_apT_25 : apT Try.prog 25 25 = some (3, 24) := by kernel_rfl
@[simp ↓] theorem ft_vmk_25 (l c : S) (y : Nat) (st : St) (K : St → Prop) : vmk Try.prog 25 l c y st K = force (tick (sint l)) fun l => force (tick (sint c)) fun c => vmkZ (some (3, [C.v (Value.int IntKind.i64 (0)), C.v (Value.int IntKind.i64 (0)), C.v (Value.int IntKind.i64 (0))])) (some (3, 24)) l c y st K := vmk_iff st K 25 l c y ft_elZ_25 ft_slT_25
@[simp] theorem ft_und_25 : (Try.prog.underlying 25).isSome = true := by kernel_rfl
@[simp] theorem ft_tySz_26 : tySz Try.prog 26 = some (true, 4) := by kernel_rfl
@[simp] theorem ft_dfl_26 : dflC Try.prog 26 = .v (.int .i64 0) := by kernel_rfl
@[simp] theorem ft_zeroOf_26 : zeroOf Try.prog 26 = some (Value.agg [Value.slice none 0 0, Value.slice none 0 0, Value.slice none 0 0, Value.int IntKind.i64 (0)].toArray) := by kernel_rfl
@[simp] theorem ft_plOf_26 : plOf Try.prog 26 = some (Sum.inl [(0, 1), (1, 1), (2, 1), (3, 1)]) := by kernel_rfl
@[simp] theorem ft_und_26 : (Try.prog.underlying 26).isSome = true := by kernel_rfl
@[simp] theorem ft_fldOf_26_0 : fldOf Try.prog 26 0 = some (0, false, 1) := by kernel_rfl
@[simp] theorem ft_fldOf_26_1 : fldOf Try.prog 26 1 = some (1, false, 1) := by kernel_rfl
@[simp] theorem ft_fldOf_26_2 : fldOf Try.prog 26 2 = some (2, false, 1) := by kernel_rfl
@[simp] theorem ft_fldOf_26_3 : fldOf Try.prog 26 3 = some (3, false, 1) := by kernel_rfl
@[simp] theorem ft_tySz_27 : tySz Try.prog 27 = some (true, 4) := by kernel_rfl
@[simp] theorem ft_dfl_27 : dflC Try.prog 27 = .v (.int .i64 0) := by kernel_rfl
@[simp] theorem ft_zeroOf_27 : zeroOf Try.prog 27 = some (Value.agg [Value.slice none 0 0, Value.slice none 0 0, Value.slice none 0 0, Value.int IntKind.i64 (0)].toArray) := by kernel_rfl
@[simp] theorem ft_plOf_27 : plOf Try.prog 27 = some (Sum.inl [(0, 1), (1, 1), (2, 1), (3, 1)]) := by kernel_rfl
@[simp] theorem ft_und_27 : (Try.prog.underlying 27).isSome = true := by kernel_rfl
@[simp] theorem ft_fldOf_27_0 : fldOf Try.prog 27 0 = some (0, false, 1) := by kernel_rfl
@[simp] theorem ft_fldOf_27_1 : fldOf Try.prog 27 1 = some (1, false, 1) := by kernel_rfl
@[simp] theorem ft_fldOf_27_2 : fldOf Try.prog 27 2 = some (2, false, 1) := by kernel_rfl
@[simp] theorem ft_fldOf_27_3 : fldOf Try.prog 27 3 = some (3, false, 1) := by kernel_rfl
@[simp] theorem ft_tySz_28 : tySz Try.prog 28 = some (false, 1) := by kernel_rfl
@[simp] theorem ft_dfl_28 : dflC Try.prog 28 = .v (.int .i64 0) := by kernel_rfl
@[simp] theorem ft_zeroOf_28 : zeroOf Try.prog 28 = some Value.nilFunc := by kernel_rfl
@[simp] theorem ft_und_28 : (Try.prog.underlying 28).isSome = true := by kernel_rfl
@[simp] theorem ft_tySz_29 : tySz Try.prog 29 = some (false, 1) := by kernel_rfl
@[simp] theorem ft_esz_29 : esz Try.prog 29 = some 1 := by kernel_rfl
@[simp] theorem ft_dfl_29 : dflC Try.prog 29 = .sl true [] := by kernel_rfl
@[simp] theorem ft_isSl_29 : isSl Try.prog 29 = true := by kernel_rfl
@[simp] theorem ft_zeroOf_29 : zeroOf Try.prog 29 = some (Value.slice none 0 0) := by kernel_rfl
@[simp] theorem ft_elZ_29 : elZ Try.prog 29 = some (1, [C.v (Value.int IntKind.u8 (0))]) := by kernel_rfl
@[simp] theorem ft_slT_29 : slT Try.prog 29 = some (1, 1) := by kernel_rfl
@[simp] theorem ft_apT_29 : apT Try.prog 29 29 = some (1, 1) := by kernel_rfl
@[simp ↓] theorem ft_vmk_29 (l c : S) (y : Nat) (st : St) (K : St → Prop) : vmk Try.prog 29 l c y st K = force (tick (sint l)) fun l => force (tick (sint c)) fun c => vmkZ (some (1, [C.v (Value.int IntKind.u8 (0))])) (some (1, 1)) l c y st K := vmk_iff st K 29 l c y ft_elZ_29 ft_slT_29
@[simp] theorem ft_isBytes_29 : isBytes Try.prog 29 = true := by kernel_rfl
@[simp] theorem ft_und_29 : (Try.prog.underlying 29).isSome = true := by kernel_rfl
@[simp] theorem ft_tySz_30 : tySz Try.prog 30 = some (true, 6) := by kernel_rfl
@[simp] theorem ft_dfl_30 : dflC Try.prog 30 = .v (.int .i64 0) := by kernel_rfl
@[simp] theorem ft_zeroOf_30 : zeroOf Try.prog 30 = some (Value.agg [Value.int IntKind.i64 (0), Value.int IntKind.i64 (0), Value.int IntKind.i64 (0), Value.int IntKind.i64 (0), Value.int IntKind.i64 (0), Value.slice none 0 0].toArray) := by kernel_rfl
@[simp] theorem ft_plOf_30 : plOf Try.prog 30 = some (Sum.inl [(0, 1), (1, 1), (2, 1), (3, 1), (4, 1), (5, 1)]) := by kernel_rfl
@[simp] theorem ft_und_30 : (Try.prog.underlying 30).isSome = true := by kernel_rfl
@[simp] theorem ft_fldOf_30_0 : fldOf Try.prog 30 0 = some (0, false, 1) := by kernel_rfl
@[simp] theorem ft_fldOf_30_1 : fldOf Try.prog 30 1 = some (1, false, 1) := by kernel_rfl
@[simp] theorem ft_fldOf_30_2 : fldOf Try.prog 30 2 = some (2, false, 1) := by kernel_rfl
@[simp] theorem ft_fldOf_30_3 : fldOf Try.prog 30 3 = some (3, false, 1) := by kernel_rfl
@[simp] theorem ft_fldOf_30_4 : fldOf Try.prog 30 4 = some (4, false, 1) := by kernel_rfl
@[simp] theorem ft_fldOf_30_5 : fldOf Try.prog 30 5 = some (5, false, 1) := by kernel_rfl
@[simp] theorem ft_tySz_31 : tySz Try.prog 31 = some (true, 6) := by kernel_rfl
@[simp] theorem ft_dfl_31 : dflC Try.prog 31 = .v (.int .i64 0) := by kernel_rfl
@[simp] theorem ft_zeroOf_31 : zeroOf Try.prog 31 = some (Value.agg [Value.int IntKind.i64 (0), Value.int IntKind.i64 (0), Value.int IntKind.i64 (0), Value.int IntKind.i64 (0), Value.int IntKind.i64 (0), Value.slice none 0 0].toArray) := by kernel_rfl
@[simp] theorem ft_plOf_31 : plOf Try.prog 31 = some (Sum.inl [(0, 1), (1, 1), (2, 1), (3, 1), (4, 1), (5, 1)]) := by kernel_rfl
@[simp] theorem ft_und_31 : (Try.prog.underlying 31).isSome = true := by kernel_rfl
@[simp] theorem ft_fldOf_31_0 : fldOf Try.prog 31 0 = some (0, false, 1) := by kernel_rfl
@[simp] theorem ft_fldOf_31_1 : fldOf Try.prog 31 1 = some (1, false, 1) := by kernel_rfl
@[simp] theorem ft_fldOf_31_2 : fldOf Try.prog 31 2 = some (2, false, 1) := by kernel_rfl
@[simp] theorem ft_fldOf_31_3 : fldOf Try.prog 31 3 = some (3, false, 1) := by kernel_rfl
@[simp] theorem ft_fldOf_31_4 : fldOf Try.prog 31 4 = some (4, false, 1) := by kernel_rfl
@[simp] theorem ft_fldOf_31_5 : fldOf Try.prog 31 5 = some (5, false, 1) := by kernel_rfl
@[simp] theorem ft_tySz_32 : tySz Try.prog 32 = some (true, 2) := by kernel_rfl
@[simp] theorem ft_dfl_32 : dflC Try.prog 32 = .v (.int .i64 0) := by kernel_rfl
@[simp] theorem ft_zeroOf_32 : zeroOf Try.prog 32 = some (Value.agg [Value.int IntKind.i64 (0), Value.int IntKind.i64 (0)].toArray) := by kernel_rfl
@[simp] theorem ft_plOf_32 : plOf Try.prog 32 = some (Sum.inl [(0, 1), (1, 1)]) := by kernel_rfl
@[simp] theorem ft_eqT_32 : eqT Try.prog 32 = some [FK.i, FK.i] := by kernel_rfl
@[simp] theorem ft_und_32 : (Try.prog.underlying 32).isSome = true := by kernel_rfl
@[simp] theorem ft_fldOf_32_0 : fldOf Try.prog 32 0 = some (0, false, 1) := by kernel_rfl
@[simp] theorem ft_fldOf_32_1 : fldOf Try.prog 32 1 = some (1, false, 1) := by kernel_rfl
@[simp] theorem ft_tySz_33 : tySz Try.prog 33 = some (true, 2) := by kernel_rfl
@[simp] theorem ft_dfl_33 : dflC Try.prog 33 = .v (.int .i64 0) := by kernel_rfl
@[simp] theorem ft_zeroOf_33 : zeroOf Try.prog 33 = some (Value.agg [Value.int IntKind.i64 (0), Value.int IntKind.i64 (0)].toArray) := by kernel_rfl
@[simp] theorem ft_plOf_33 : plOf Try.prog 33 = some (Sum.inl [(0, 1), (1, 1)]) := by kernel_rfl
@[simp] theorem ft_eqT_33 : eqT Try.prog 33 = some [FK.i, FK.i] := by kernel_rfl
@[simp] theorem ft_und_33 : (Try.prog.underlying 33).isSome = true := by kernel_rfl
@[simp] theorem ft_fldOf_33_0 : fldOf Try.prog 33 0 = some (0, false, 1) := by kernel_rfl
@[simp] theorem ft_fldOf_33_1 : fldOf Try.prog 33 1 = some (1, false, 1) := by kernel_rfl
@[simp] theorem ft_tySz_34 : tySz Try.prog 34 = some (false, 1) := by kernel_rfl
@[simp] theorem ft_dfl_34 : dflC Try.prog 34 = .v (.int .i64 0) := by kernel_rfl
@[simp] theorem ft_zeroOf_34 : zeroOf Try.prog 34 = some Value.nilFunc := by kernel_rfl
@[simp] theorem ft_und_34 : (Try.prog.underlying 34).isSome = true := by kernel_rfl
@[simp] theorem ft_tySz_35 : tySz Try.prog 35 = some (false, 1) := by kernel_rfl
@[simp] theorem ft_esz_35 : esz Try.prog 35 = some 6 := by kernel_rfl
@[simp] theorem ft_dfl_35 : dflC Try.prog 35 = .sl true [] := by kernel_rfl
@[simp] theorem ft_isSl_35 : isSl Try.prog 35 = true := by kernel_rfl
@[simp] theorem ft_zeroOf_35 : zeroOf Try.prog 35 = some (Value.slice none 0 0) := by kernel_rfl
@[simp] theorem ft_elZ_35 : elZ Try.prog 35 = some (6, [C.v (Value.int IntKind.i64 (0)), C.v (Value.int IntKind.i64 (0)), C.v (Value.int IntKind.i64 (0)), C.v (Value.int IntKind.i64 (0)), C.v (Value.int IntKind.i64 (0)), C.v (Value.string ⟨#[]⟩)]) := by kernel_rfl
@[simp] theorem ft_slT_35 : slT Try.prog 35 = some (6, 56) := by kernel_rfl
@[simp] theorem ft_apT_35 : apT Try.prog 35 35 = some (6, 56) := by kernel_rfl
@[simp ↓] theorem ft_vmk_35 (l c : S) (y : Nat) (st : St) (K : St → Prop) : vmk Try.prog 35 l c y st K = force (tick (sint l)) fun l => force (tick (sint c)) fun c => vmkZ (some (6, [C.v (Value.int IntKind.i64 (0)), C.v (Value.int IntKind.i64 (0)), C.v (Value.int IntKind.i64 (0)), C.v (Value.int IntKind.i64 (0)), C.v (Value.int IntKind.i64 (0)), C.v (Value.string ⟨#[]⟩)])) (some (6, 56)) l c y st K := vmk_iff st K 35 l c y ft_elZ_35 ft_slT_35
@[simp] theorem ft_und_35 : (Try.prog.underlying 35).isSome = true := by kernel_rfl
@[simp] theorem ft_tySz_36 : tySz Try.prog 36 = some (true, 6) := by kernel_rfl
@[simp] theorem ft_dfl_36 : dflC Try.prog 36 = .v (.int .i64 0) := by kernel_rfl
@[simp] theorem ft_zeroOf_36 : zeroOf Try.prog 36 = some (Value.agg [Value.int IntKind.i64 (0), Value.int IntKind.i64 (0), Value.int IntKind.i64 (0), Value.int IntKind.i64 (0), Value.int IntKind.i64 (0), Value.string ⟨#[]⟩].toArray) := by kernel_rfl
@[simp] theorem ft_plOf_36 : plOf Try.prog 36 = some (Sum.inl [(0, 1), (1, 1), (2, 1), (3, 1), (4, 1), (5, 1)]) := by kernel_rfl
@[simp] theorem ft_eqT_36 : eqT Try.prog 36 = some [FK.i, FK.i, FK.i, FK.i, FK.i, FK.s] := by kernel_rfl
@[simp] theorem ft_und_36 : (Try.prog.underlying 36).isSome = true := by kernel_rfl
@[simp] theorem ft_fldOf_36_0 : fldOf Try.prog 36 0 = some (0, false, 1) := by kernel_rfl
@[simp] theorem ft_fldOf_36_1 : fldOf Try.prog 36 1 = some (1, false, 1) := by kernel_rfl
@[simp] theorem ft_fldOf_36_2 : fldOf Try.prog 36 2 = some (2, false, 1) := by kernel_rfl
@[simp] theorem ft_fldOf_36_3 : fldOf Try.prog 36 3 = some (3, false, 1) := by kernel_rfl
@[simp] theorem ft_fldOf_36_4 : fldOf Try.prog 36 4 = some (4, false, 1) := by kernel_rfl
@[simp] theorem ft_fldOf_36_5 : fldOf Try.prog 36 5 = some (5, false, 1) := by kernel_rfl
@[simp] theorem ft_tySz_37 : tySz Try.prog 37 = some (true, 6) := by kernel_rfl
@[simp] theorem ft_dfl_37 : dflC Try.prog 37 = .v (.int .i64 0) := by kernel_rfl
@[simp] theorem ft_zeroOf_37 : zeroOf Try.prog 37 = some (Value.agg [Value.int IntKind.i64 (0), Value.int IntKind.i64 (0), Value.int IntKind.i64 (0), Value.int IntKind.i64 (0), Value.int IntKind.i64 (0), Value.string ⟨#[]⟩].toArray) := by kernel_rfl
@[simp] theorem ft_plOf_37 : plOf Try.prog 37 = some (Sum.inl [(0, 1), (1, 1), (2, 1), (3, 1), (4, 1), (5, 1)]) := by kernel_rfl
@[simp] theorem ft_eqT_37 : eqT Try.prog 37 = some [FK.i, FK.i, FK.i, FK.i, FK.i, FK.s] := by kernel_rfl
@[simp] theorem ft_und_37 : (Try.prog.underlying 37).isSome = true := by kernel_rfl
@[simp] theorem ft_fldOf_37_0 : fldOf Try.prog 37 0 = some (0, false, 1) := by kernel_rfl
@[simp] theorem ft_fldOf_37_1 : fldOf Try.prog 37 1 = some (1, false, 1) := by kernel_rfl
@[simp] theorem ft_fldOf_37_2 : fldOf Try.prog 37 2 = some (2, false, 1) := by kernel_rfl
@[simp] theorem ft_fldOf_37_3 : fldOf Try.prog 37 3 = some (3, false, 1) := by kernel_rfl
@[simp] theorem ft_fldOf_37_4 : fldOf Try.prog 37 4 = some (4, false, 1) := by kernel_rfl
@[simp] theorem ft_fldOf_37_5 : fldOf Try.prog 37 5 = some (5, false, 1) := by kernel_rfl
@[simp] theorem ft_tySz_38 : tySz Try.prog 38 = some (false, 1) := by kernel_rfl
@[simp] theorem ft_dfl_38 : dflC Try.prog 38 = .v (.int .i64 0) := by kernel_rfl
@[simp] theorem ft_zeroOf_38 : zeroOf Try.prog 38 = some Value.nilFunc := by kernel_rfl
@[simp] theorem ft_und_38 : (Try.prog.underlying 38).isSome = true := by kernel_rfl
@[simp] theorem ft_tySz_39 : tySz Try.prog 39 = some (false, 1) := by kernel_rfl
@[simp] theorem ft_dfl_39 : dflC Try.prog 39 = .v (.int .i64 0) := by kernel_rfl
@[simp] theorem ft_zeroOf_39 : zeroOf Try.prog 39 = some Value.nilFunc := by kernel_rfl
@[simp] theorem ft_und_39 : (Try.prog.underlying 39).isSome = true := by kernel_rfl
@[simp] theorem ft_tySz_40 : tySz Try.prog 40 = some (false, 1) := by kernel_rfl
@[simp] theorem ft_esz_40 : esz Try.prog 40 = some 2 := by kernel_rfl
@[simp] theorem ft_dfl_40 : dflC Try.prog 40 = .sl true [] := by kernel_rfl
@[simp] theorem ft_isSl_40 : isSl Try.prog 40 = true := by kernel_rfl
@[simp] theorem ft_zeroOf_40 : zeroOf Try.prog 40 = some (Value.slice none 0 0) := by kernel_rfl
@[simp] theorem ft_elZ_40 : elZ Try.prog 40 = some (2, [C.v (Value.int IntKind.i64 (0)), C.v (Value.int IntKind.i64 (0))]) := by kernel_rfl
@[simp] theorem ft_slT_40 : slT Try.prog 40 = some (2, 16) := by kernel_rfl
@[simp] theorem ft_apT_40 : apT Try.prog 40 40 = some (2, 16) := by kernel_rfl
@[simp ↓] theorem ft_vmk_40 (l c : S) (y : Nat) (st : St) (K : St → Prop) : vmk Try.prog 40 l c y st K = force (tick (sint l)) fun l => force (tick (sint c)) fun c => vmkZ (some (2, [C.v (Value.int IntKind.i64 (0)), C.v (Value.int IntKind.i64 (0))])) (some (2, 16)) l c y st K := vmk_iff st K 40 l c y ft_elZ_40 ft_slT_40
@[simp] theorem ft_und_40 : (Try.prog.underlying 40).isSome = true := by kernel_rfl
@[simp] theorem ft_tySz_41 : tySz Try.prog 41 = some (false, 1) := by kernel_rfl
@[simp] theorem ft_esz_41 : esz Try.prog 41 = some 3 := by kernel_rfl
@[simp] theorem ft_dfl_41 : dflC Try.prog 41 = .sl true [] := by kernel_rfl
@[simp] theorem ft_isSl_41 : isSl Try.prog 41 = true := by kernel_rfl
@[simp] theorem ft_zeroOf_41 : zeroOf Try.prog 41 = some (Value.slice none 0 0) := by kernel_rfl
@[simp] theorem ft_elZ_41 : elZ Try.prog 41 = some (3, [C.v (Value.int IntKind.i64 (0)), C.v (Value.int IntKind.i64 (0)), C.v (Value.int IntKind.i64 (0))]) := by kernel_rfl
@[simp] theorem ft_slT_41 : slT Try.prog 41 = some (3, 24) := by kernel_rfl
@[simp] theorem ft_apT_41 : apT Try.prog 41 41 = some (3, 24) := by kernel_rfl
@[simp ↓] theorem ft_vmk_41 (l c : S) (y : Nat) (st : St) (K : St → Prop) : vmk Try.prog 41 l c y st K = force (tick (sint l)) fun l => force (tick (sint c)) fun c => vmkZ (some (3, [C.v (Value.int IntKind.i64 (0)), C.v (Value.int IntKind.i64 (0)), C.v (Value.int IntKind.i64 (0))])) (some (3, 24)) l c y st K := vmk_iff st K 41 l c y ft_elZ_41 ft_slT_41
@[simp] theorem ft_und_41 : (Try.prog.underlying 41).isSome = true := by kernel_rfl
@[simp] theorem ft_tySz_42 : tySz Try.prog 42 = some (true, 4) := by kernel_rfl
@[simp] theorem ft_dfl_42 : dflC Try.prog 42 = .v (.int .i64 0) := by kernel_rfl
@[simp] theorem ft_zeroOf_42 : zeroOf Try.prog 42 = some (Value.agg [Value.slice none 0 0, Value.slice none 0 0, Value.slice none 0 0, Value.int IntKind.i64 (0)].toArray) := by kernel_rfl
@[simp] theorem ft_plOf_42 : plOf Try.prog 42 = some (Sum.inl [(0, 1), (1, 1), (2, 1), (3, 1)]) := by kernel_rfl
@[simp] theorem ft_und_42 : (Try.prog.underlying 42).isSome = true := by kernel_rfl
@[simp] theorem ft_fldOf_42_0 : fldOf Try.prog 42 0 = some (0, false, 1) := by kernel_rfl
@[simp] theorem ft_fldOf_42_1 : fldOf Try.prog 42 1 = some (1, false, 1) := by kernel_rfl
@[simp] theorem ft_fldOf_42_2 : fldOf Try.prog 42 2 = some (2, false, 1) := by kernel_rfl
@[simp] theorem ft_fldOf_42_3 : fldOf Try.prog 42 3 = some (3, false, 1) := by kernel_rfl
@[simp] theorem ft_tySz_43 : tySz Try.prog 43 = some (true, 4) := by kernel_rfl
@[simp] theorem ft_dfl_43 : dflC Try.prog 43 = .v (.int .i64 0) := by kernel_rfl
@[simp] theorem ft_zeroOf_43 : zeroOf Try.prog 43 = some (Value.agg [Value.slice none 0 0, Value.slice none 0 0, Value.slice none 0 0, Value.int IntKind.i64 (0)].toArray) := by kernel_rfl
@[simp] theorem ft_plOf_43 : plOf Try.prog 43 = some (Sum.inl [(0, 1), (1, 1), (2, 1), (3, 1)]) := by kernel_rfl
@[simp] theorem ft_und_43 : (Try.prog.underlying 43).isSome = true := by kernel_rfl
@[simp] theorem ft_fldOf_43_0 : fldOf Try.prog 43 0 = some (0, false, 1) := by kernel_rfl
@[simp] theorem ft_fldOf_43_1 : fldOf Try.prog 43 1 = some (1, false, 1) := by kernel_rfl
@[simp] theorem ft_fldOf_43_2 : fldOf Try.prog 43 2 = some (2, false, 1) := by kernel_rfl
@[simp] theorem ft_fldOf_43_3 : fldOf Try.prog 43 3 = some (3, false, 1) := by kernel_rfl
@[simp] theorem ft_tySz_44 : tySz Try.prog 44 = some (false, 1) := by kernel_rfl
@[simp] theorem ft_dfl_44 : dflC Try.prog 44 = .v (.int .i64 0) := by kernel_rfl
@[simp] theorem ft_zeroOf_44 : zeroOf Try.prog 44 = some Value.nilFunc := by kernel_rfl
@[simp] theorem ft_und_44 : (Try.prog.underlying 44).isSome = true := by kernel_rfl
@[simp] theorem ft_tySz_45 : tySz Try.prog 45 = some (false, 1) := by kernel_rfl
@[simp] theorem ft_dfl_45 : dflC Try.prog 45 = .v (.int .i64 0) := by kernel_rfl
@[simp] theorem ft_zeroOf_45 : zeroOf Try.prog 45 = some Value.nilFunc := by kernel_rfl
@[simp] theorem ft_und_45 : (Try.prog.underlying 45).isSome = true := by kernel_rfl
@[simp] theorem ft_tySz_46 : tySz Try.prog 46 = some (false, 1) := by kernel_rfl
@[simp] theorem ft_dfl_46 : dflC Try.prog 46 = .v (.int .i64 0) := by kernel_rfl
@[simp] theorem ft_zeroOf_46 : zeroOf Try.prog 46 = some Value.nilFunc := by kernel_rfl
@[simp] theorem ft_und_46 : (Try.prog.underlying 46).isSome = true := by kernel_rfl
@[simp] theorem ft_tySz_47 : tySz Try.prog 47 = some (false, 1) := by kernel_rfl
@[simp] theorem ft_dfl_47 : dflC Try.prog 47 = .v (.int .i64 0) := by kernel_rfl
@[simp] theorem ft_zeroOf_47 : zeroOf Try.prog 47 = some Value.nilFunc := by kernel_rfl
@[simp] theorem ft_und_47 : (Try.prog.underlying 47).isSome = true := by kernel_rfl
@[simp] theorem ft_tySz_48 : tySz Try.prog 48 = some (false, 1) := by kernel_rfl
@[simp] theorem ft_dfl_48 : dflC Try.prog 48 = .v (.int .i64 0) := by kernel_rfl
@[simp] theorem ft_zeroOf_48 : zeroOf Try.prog 48 = some (Value.tuple [Value.int IntKind.i64 (0), Value.int IntKind.i64 (0)].toArray) := by kernel_rfl
@[simp] theorem ft_und_48 : (Try.prog.underlying 48).isSome = true := by kernel_rfl
@[simp] theorem ft_tySz_49 : tySz Try.prog 49 = some (false, 1) := by kernel_rfl
@[simp] theorem ft_dfl_49 : dflC Try.prog 49 = .v (.int .i64 0) := by kernel_rfl
@[simp] theorem ft_zeroOf_49 : zeroOf Try.prog 49 = some Value.nilFunc := by kernel_rfl
@[simp] theorem ft_und_49 : (Try.prog.underlying 49).isSome = true := by kernel_rfl
@[simp] theorem ft_tySz_50 : tySz Try.prog 50 = some (false, 1) := by kernel_rfl
@[simp] theorem ft_dfl_50 : dflC Try.prog 50 = .v (.int .i64 0) := by kernel_rfl
@[simp] theorem ft_zeroOf_50 : zeroOf Try.prog 50 = some Value.nilFunc := by kernel_rfl
@[simp] theorem ft_und_50 : (Try.prog.underlying 50).isSome = true := by kernel_rfl
@[simp] theorem ft_tySz_51 : tySz Try.prog 51 = some (false, 1) := by kernel_rfl
@[simp] theorem ft_dfl_51 : dflC Try.prog 51 = .v (.int .i64 0) := by kernel_rfl
@[simp] theorem ft_zeroOf_51 : zeroOf Try.prog 51 = some Value.nilFunc := by kernel_rfl
@[simp] theorem ft_und_51 : (Try.prog.underlying 51).isSome = true := by kernel_rfl
@[simp] theorem ft_tySz_52 : tySz Try.prog 52 = some (false, 1) := by kernel_rfl
@[simp] theorem ft_dfl_52 : dflC Try.prog 52 = .v (.int .i64 0) := by kernel_rfl
@[simp] theorem ft_zeroOf_52 : zeroOf Try.prog 52 = some (Value.map none) := by kernel_rfl
@[simp] theorem ft_mpT_52 : mpT Try.prog 52 = some (2, TypeDesc.int IntKind.i64, 3) := by kernel_rfl
@[simp] theorem ft_und_52 : (Try.prog.underlying 52).isSome = true := by kernel_rfl
@[simp] theorem ft_tySz_53 : tySz Try.prog 53 = some (false, 1) := by kernel_rfl
@[simp] theorem ft_dfl_53 : dflC Try.prog 53 = .v (.int .i64 0) := by kernel_rfl
@[simp] theorem ft_zeroOf_53 : zeroOf Try.prog 53 = some (Value.map none) := by kernel_rfl
@[simp] theorem ft_mpT_53 : mpT Try.prog 53 = some (3, TypeDesc.int IntKind.i64, 55) := by kernel_rfl
@[simp] theorem ft_und_53 : (Try.prog.underlying 53).isSome = true := by kernel_rfl
@[simp] theorem ft_tySz_54 : tySz Try.prog 54 = some (true, 3) := by kernel_rfl
@[simp] theorem ft_dfl_54 : dflC Try.prog 54 = .v (.int .i64 0) := by kernel_rfl
@[simp] theorem ft_zeroOf_54 : zeroOf Try.prog 54 = some (Value.agg [Value.int IntKind.i64 (0), Value.int IntKind.i64 (0), Value.int IntKind.i64 (0)].toArray) := by kernel_rfl
@[simp] theorem ft_plOf_54 : plOf Try.prog 54 = some (Sum.inl [(0, 1), (1, 1), (2, 1)]) := by kernel_rfl
@[simp] theorem ft_eqT_54 : eqT Try.prog 54 = some [FK.i, FK.i, FK.i] := by kernel_rfl
@[simp] theorem ft_und_54 : (Try.prog.underlying 54).isSome = true := by kernel_rfl
@[simp] theorem ft_fldOf_54_0 : fldOf Try.prog 54 0 = some (0, false, 1) := by kernel_rfl
@[simp] theorem ft_fldOf_54_1 : fldOf Try.prog 54 1 = some (1, false, 1) := by kernel_rfl
@[simp] theorem ft_fldOf_54_2 : fldOf Try.prog 54 2 = some (2, false, 1) := by kernel_rfl
@[simp] theorem ft_tySz_55 : tySz Try.prog 55 = some (true, 3) := by kernel_rfl
@[simp] theorem ft_dfl_55 : dflC Try.prog 55 = .v (.int .i64 0) := by kernel_rfl
@[simp] theorem ft_zeroOf_55 : zeroOf Try.prog 55 = some (Value.agg [Value.int IntKind.i64 (0), Value.int IntKind.i64 (0), Value.int IntKind.i64 (0)].toArray) := by kernel_rfl
@[simp] theorem ft_plOf_55 : plOf Try.prog 55 = some (Sum.inl [(0, 1), (1, 1), (2, 1)]) := by kernel_rfl
@[simp] theorem ft_eqT_55 : eqT Try.prog 55 = some [FK.i, FK.i, FK.i] := by kernel_rfl
@[simp] theorem ft_und_55 : (Try.prog.underlying 55).isSome = true := by kernel_rfl
@[simp] theorem ft_fldOf_55_0 : fldOf Try.prog 55 0 = some (0, false, 1) := by kernel_rfl
@[simp] theorem ft_fldOf_55_1 : fldOf Try.prog 55 1 = some (1, false, 1) := by kernel_rfl
@[simp] theorem ft_fldOf_55_2 : fldOf Try.prog 55 2 = some (2, false, 1) := by kernel_rfl
@[simp] theorem ft_tySz_56 : tySz Try.prog 56 = some (false, 1) := by kernel_rfl
@[simp] theorem ft_dfl_56 : dflC Try.prog 56 = .v (.int .i64 0) := by kernel_rfl
@[simp] theorem ft_zeroOf_56 : zeroOf Try.prog 56 = some (Value.tuple [Value.agg [Value.int IntKind.i64 (0), Value.int IntKind.i64 (0), Value.int IntKind.i64 (0)].toArray, Value.bool false].toArray) := by kernel_rfl
@[simp] theorem ft_und_56 : (Try.prog.underlying 56).isSome = true := by kernel_rfl
@[simp] theorem ft_tySz_57 : tySz Try.prog 57 = some (false, 1) := by kernel_rfl
@[simp] theorem ft_dfl_57 : dflC Try.prog 57 = .v (.int .i64 0) := by kernel_rfl
@[simp] theorem ft_zeroOf_57 : zeroOf Try.prog 57 = some Value.nilFunc := by kernel_rfl
@[simp] theorem ft_und_57 : (Try.prog.underlying 57).isSome = true := by kernel_rfl
@[simp] theorem ft_tySz_58 : tySz Try.prog 58 = some (false, 1) := by kernel_rfl
@[simp] theorem ft_dfl_58 : dflC Try.prog 58 = .v (.int .i64 0) := by kernel_rfl
@[simp] theorem ft_zeroOf_58 : zeroOf Try.prog 58 = some Value.nilFunc := by kernel_rfl
@[simp] theorem ft_und_58 : (Try.prog.underlying 58).isSome = true := by kernel_rfl
@[simp] theorem ft_tySz_59 : tySz Try.prog 59 = some (false, 1) := by kernel_rfl
@[simp] theorem ft_dfl_59 : dflC Try.prog 59 = .v (.int .i64 0) := by kernel_rfl
@[simp] theorem ft_zeroOf_59 : zeroOf Try.prog 59 = some Value.nilFunc := by kernel_rfl
@[simp] theorem ft_und_59 : (Try.prog.underlying 59).isSome = true := by kernel_rfl
@[simp] theorem ft_tySz_60 : tySz Try.prog 60 = some (false, 1) := by kernel_rfl
@[simp] theorem ft_dfl_60 : dflC Try.prog 60 = .v (.int .i64 0) := by kernel_rfl
@[simp] theorem ft_zeroOf_60 : zeroOf Try.prog 60 = some Value.nilFunc := by kernel_rfl
@[simp] theorem ft_und_60 : (Try.prog.underlying 60).isSome = true := by kernel_rfl
@[simp] theorem ft_tySz_61 : tySz Try.prog 61 = some (false, 1) := by kernel_rfl
@[simp] theorem ft_dfl_61 : dflC Try.prog 61 = .v (.int .i64 0) := by kernel_rfl
@[simp] theorem ft_zeroOf_61 : zeroOf Try.prog 61 = some Value.nilFunc := by kernel_rfl
@[simp] theorem ft_und_61 : (Try.prog.underlying 61).isSome = true := by kernel_rfl
@[simp] theorem ft_tySz_62 : tySz Try.prog 62 = some (false, 1) := by kernel_rfl
@[simp] theorem ft_dfl_62 : dflC Try.prog 62 = .v (.int .i64 0) := by kernel_rfl
@[simp] theorem ft_zeroOf_62 : zeroOf Try.prog 62 = some Value.nilFunc := by kernel_rfl
@[simp] theorem ft_und_62 : (Try.prog.underlying 62).isSome = true := by kernel_rfl
@[simp] theorem ft_tySz_63 : tySz Try.prog 63 = some (false, 1) := by kernel_rfl
@[simp] theorem ft_dfl_63 : dflC Try.prog 63 = .v (.int .i64 0) := by kernel_rfl
@[simp] theorem ft_zeroOf_63 : zeroOf Try.prog 63 = some Value.nilFunc := by kernel_rfl
@[simp] theorem ft_und_63 : (Try.prog.underlying 63).isSome = true := by kernel_rfl
@[simp] theorem ft_tySz_64 : tySz Try.prog 64 = some (false, 1) := by kernel_rfl
@[simp] theorem ft_dfl_64 : dflC Try.prog 64 = .v (.int .i64 0) := by kernel_rfl
@[simp] theorem ft_intOfTy_64 : intOfTy Try.prog 64 = some IntKind.i64 := by kernel_rfl
@[simp] theorem ft_zeroOf_64 : zeroOf Try.prog 64 = some (Value.int IntKind.i64 (0)) := by kernel_rfl
@[simp] theorem ft_und_64 : (Try.prog.underlying 64).isSome = true := by kernel_rfl
@[simp] theorem ft_tySz_65 : tySz Try.prog 65 = some (false, 1) := by kernel_rfl
@[simp] theorem ft_dfl_65 : dflC Try.prog 65 = .v (.int .i64 0) := by kernel_rfl
@[simp] theorem ft_zeroOf_65 : zeroOf Try.prog 65 = some (Value.tuple [Value.slice none 0 0, Value.int IntKind.i64 (0)].toArray) := by kernel_rfl
@[simp] theorem ft_und_65 : (Try.prog.underlying 65).isSome = true := by kernel_rfl
@[simp] theorem ft_tySz_66 : tySz Try.prog 66 = some (false, 1) := by kernel_rfl
@[simp] theorem ft_dfl_66 : dflC Try.prog 66 = .v (.int .i64 0) := by kernel_rfl
@[simp] theorem ft_zeroOf_66 : zeroOf Try.prog 66 = some Value.nilFunc := by kernel_rfl
@[simp] theorem ft_und_66 : (Try.prog.underlying 66).isSome = true := by kernel_rfl
@[simp] theorem ft_tySz_67 : tySz Try.prog 67 = some (false, 1) := by kernel_rfl
@[simp] theorem ft_dfl_67 : dflC Try.prog 67 = .v (.int .i64 0) := by kernel_rfl
@[simp] theorem ft_zeroOf_67 : zeroOf Try.prog 67 = some (Value.tuple [Value.agg [Value.int IntKind.i64 (0), Value.int IntKind.i64 (0), Value.int IntKind.i64 (0), Value.int IntKind.i64 (0), Value.int IntKind.i64 (0), Value.slice none 0 0].toArray, Value.int IntKind.i64 (0)].toArray) := by kernel_rfl
@[simp] theorem ft_und_67 : (Try.prog.underlying 67).isSome = true := by kernel_rfl
@[simp] theorem ft_tySz_68 : tySz Try.prog 68 = some (false, 1) := by kernel_rfl
@[simp] theorem ft_dfl_68 : dflC Try.prog 68 = .v (.int .i64 0) := by kernel_rfl
@[simp] theorem ft_zeroOf_68 : zeroOf Try.prog 68 = some Value.nilFunc := by kernel_rfl
@[simp] theorem ft_und_68 : (Try.prog.underlying 68).isSome = true := by kernel_rfl
@[simp] theorem ft_tySz_69 : tySz Try.prog 69 = some (true, 2) := by kernel_rfl
@[simp] theorem ft_dfl_69 : dflC Try.prog 69 = .v (.int .i64 0) := by kernel_rfl
@[simp] theorem ft_zeroOf_69 : zeroOf Try.prog 69 = some (Value.agg [Value.int IntKind.i64 (0), Value.int IntKind.i64 (0)].toArray) := by kernel_rfl
@[simp] theorem ft_plOf_69 : plOf Try.prog 69 = some (Sum.inl [(0, 1), (1, 1)]) := by kernel_rfl
@[simp] theorem ft_eqT_69 : eqT Try.prog 69 = some [FK.i, FK.i] := by kernel_rfl
@[simp] theorem ft_und_69 : (Try.prog.underlying 69).isSome = true := by kernel_rfl
@[simp] theorem ft_fldOf_69_0 : fldOf Try.prog 69 0 = some (0, false, 1) := by kernel_rfl
@[simp] theorem ft_fldOf_69_1 : fldOf Try.prog 69 1 = some (1, false, 1) := by kernel_rfl
@[simp] theorem ft_tySz_70 : tySz Try.prog 70 = some (true, 3) := by kernel_rfl
@[simp] theorem ft_dfl_70 : dflC Try.prog 70 = .v (.int .i64 0) := by kernel_rfl
@[simp] theorem ft_zeroOf_70 : zeroOf Try.prog 70 = some (Value.agg [Value.int IntKind.i64 (0), Value.int IntKind.i64 (0), Value.int IntKind.i64 (0)].toArray) := by kernel_rfl
@[simp] theorem ft_plOf_70 : plOf Try.prog 70 = some (Sum.inl [(0, 1), (1, 1), (2, 1)]) := by kernel_rfl
@[simp] theorem ft_eqT_70 : eqT Try.prog 70 = some [FK.i, FK.i, FK.i] := by kernel_rfl
@[simp] theorem ft_und_70 : (Try.prog.underlying 70).isSome = true := by kernel_rfl
@[simp] theorem ft_fldOf_70_0 : fldOf Try.prog 70 0 = some (0, false, 1) := by kernel_rfl
@[simp] theorem ft_fldOf_70_1 : fldOf Try.prog 70 1 = some (1, false, 1) := by kernel_rfl
@[simp] theorem ft_fldOf_70_2 : fldOf Try.prog 70 2 = some (2, false, 1) := by kernel_rfl
@[simp] theorem ft_tySz_71 : tySz Try.prog 71 = some (false, 1) := by kernel_rfl
@[simp] theorem ft_dfl_71 : dflC Try.prog 71 = .v (.int .i64 0) := by kernel_rfl
@[simp] theorem ft_zeroOf_71 : zeroOf Try.prog 71 = some Value.nilFunc := by kernel_rfl
@[simp] theorem ft_und_71 : (Try.prog.underlying 71).isSome = true := by kernel_rfl
@[simp] theorem ft_tySz_72 : tySz Try.prog 72 = some (false, 1) := by kernel_rfl
@[simp] theorem ft_dfl_72 : dflC Try.prog 72 = .v (.int .i64 0) := by kernel_rfl
@[simp] theorem ft_zeroOf_72 : zeroOf Try.prog 72 = some (Value.tuple [Value.int IntKind.i64 (0), Value.bool false].toArray) := by kernel_rfl
@[simp] theorem ft_und_72 : (Try.prog.underlying 72).isSome = true := by kernel_rfl
@[simp] theorem ft_tySz_73 : tySz Try.prog 73 = some (false, 1) := by kernel_rfl
@[simp] theorem ft_dfl_73 : dflC Try.prog 73 = .v (.int .i64 0) := by kernel_rfl
@[simp] theorem ft_zeroOf_73 : zeroOf Try.prog 73 = some Value.nilFunc := by kernel_rfl
@[simp] theorem ft_und_73 : (Try.prog.underlying 73).isSome = true := by kernel_rfl
@[simp] theorem ft_tySz_74 : tySz Try.prog 74 = some (false, 1) := by kernel_rfl
@[simp] theorem ft_dfl_74 : dflC Try.prog 74 = .v (.int .i64 0) := by kernel_rfl
@[simp] theorem ft_zeroOf_74 : zeroOf Try.prog 74 = some Value.nilFunc := by kernel_rfl
@[simp] theorem ft_und_74 : (Try.prog.underlying 74).isSome = true := by kernel_rfl
@[simp] theorem ft_tySz_75 : tySz Try.prog 75 = some (false, 1) := by kernel_rfl
@[simp] theorem ft_dfl_75 : dflC Try.prog 75 = .v (.int .i64 0) := by kernel_rfl
@[simp] theorem ft_zeroOf_75 : zeroOf Try.prog 75 = some Value.nilFunc := by kernel_rfl
@[simp] theorem ft_und_75 : (Try.prog.underlying 75).isSome = true := by kernel_rfl
@[simp] theorem ft_tySz_76 : tySz Try.prog 76 = some (false, 1) := by kernel_rfl
@[simp] theorem ft_dfl_76 : dflC Try.prog 76 = .v (.int .i64 0) := by kernel_rfl
@[simp] theorem ft_zeroOf_76 : zeroOf Try.prog 76 = some Value.nilFunc := by kernel_rfl
@[simp] theorem ft_und_76 : (Try.prog.underlying 76).isSome = true := by kernel_rfl
@[simp] theorem ft_tySz_77 : tySz Try.prog 77 = some (false, 1) := by kernel_rfl
@[simp] theorem ft_dfl_77 : dflC Try.prog 77 = .v (.int .i64 0) := by kernel_rfl
@[simp] theorem ft_intOfTy_77 : intOfTy Try.prog 77 = some IntKind.u64 := by kernel_rfl
@[simp] theorem ft_zeroOf_77 : zeroOf Try.prog 77 = some (Value.int IntKind.u64 (0)) := by kernel_rfl
@[simp] theorem ft_und_77 : (Try.prog.underlying 77).isSome = true := by kernel_rfl
@[simp] theorem ft_tySz_78 : tySz Try.prog 78 = some (false, 1) := by kernel_rfl
@[simp] theorem ft_dfl_78 : dflC Try.prog 78 = .v (.int .i64 0) := by kernel_rfl
@[simp] theorem ft_zeroOf_78 : zeroOf Try.prog 78 = some Value.nilFunc := by kernel_rfl
@[simp] theorem ft_und_78 : (Try.prog.underlying 78).isSome = true := by kernel_rfl
@[simp] theorem ft_tySz_79 : tySz Try.prog 79 = some (false, 1) := by kernel_rfl
@[simp] theorem ft_dfl_79 : dflC Try.prog 79 = .v (.int .i64 0) := by kernel_rfl
@[simp] theorem ft_zeroOf_79 : zeroOf Try.prog 79 = some Value.nilFunc := by kernel_rfl
@[simp] theorem ft_und_79 : (Try.prog.underlying 79).isSome = true := by kernel_rfl
@[simp] theorem ft_tySz_80 : tySz Try.prog 80 = some (false, 1) := by kernel_rfl
@[simp] theorem ft_dfl_80 : dflC Try.prog 80 = .v (.int .i64 0) := by kernel_rfl
@[simp] theorem ft_zeroOf_80 : zeroOf Try.prog 80 = some Value.nilFunc := by kernel_rfl
@[simp] theorem ft_und_80 : (Try.prog.underlying 80).isSome = true := by kernel_rfl
@[simp] theorem ft_tySz_81 : tySz Try.prog 81 = some (false, 1) := by kernel_rfl
@[simp] theorem ft_dfl_81 : dflC Try.prog 81 = .v (.int .i64 0) := by kernel_rfl
@[simp] theorem ft_zeroOf_81 : zeroOf Try.prog 81 = some Value.nilFunc := by kernel_rfl
@[simp] theorem ft_und_81 : (Try.prog.underlying 81).isSome = true := by kernel_rfl
@[simp] theorem ft_tySz_82 : tySz Try.prog 82 = some (false, 1) := by kernel_rfl
@[simp] theorem ft_dfl_82 : dflC Try.prog 82 = .v (.int .i64 0) := by kernel_rfl
@[simp] theorem ft_zeroOf_82 : zeroOf Try.prog 82 = some Value.nilFunc := by kernel_rfl
@[simp] theorem ft_und_82 : (Try.prog.underlying 82).isSome = true := by kernel_rfl
@[simp] theorem ft_tySz_83 : tySz Try.prog 83 = some (false, 1) := by kernel_rfl
@[simp] theorem ft_dfl_83 : dflC Try.prog 83 = .v (.int .i64 0) := by kernel_rfl
@[simp] theorem ft_zeroOf_83 : zeroOf Try.prog 83 = some Value.nilFunc := by kernel_rfl
@[simp] theorem ft_und_83 : (Try.prog.underlying 83).isSome = true := by kernel_rfl
@[simp] theorem ft_tySz_84 : tySz Try.prog 84 = some (false, 1) := by kernel_rfl
@[simp] theorem ft_dfl_84 : dflC Try.prog 84 = .v (.int .i64 0) := by kernel_rfl
@[simp] theorem ft_intOfTy_84 : intOfTy Try.prog 84 = some IntKind.u64 := by kernel_rfl
@[simp] theorem ft_zeroOf_84 : zeroOf Try.prog 84 = some (Value.int IntKind.u64 (0)) := by kernel_rfl
@[simp] theorem ft_und_84 : (Try.prog.underlying 84).isSome = true := by kernel_rfl
@[simp] theorem ft_tySz_85 : tySz Try.prog 85 = some (false, 1) := by kernel_rfl
@[simp] theorem ft_dfl_85 : dflC Try.prog 85 = .v (.int .i64 0) := by kernel_rfl
@[simp] theorem ft_zeroOf_85 : zeroOf Try.prog 85 = some Value.nilFunc := by kernel_rfl
@[simp] theorem ft_und_85 : (Try.prog.underlying 85).isSome = true := by kernel_rfl
@[simp] theorem ft_tySz_86 : tySz Try.prog 86 = some (false, 1) := by kernel_rfl
@[simp] theorem ft_dfl_86 : dflC Try.prog 86 = .v (.int .i64 0) := by kernel_rfl
@[simp] theorem ft_zeroOf_86 : zeroOf Try.prog 86 = some Value.nilFunc := by kernel_rfl
@[simp] theorem ft_und_86 : (Try.prog.underlying 86).isSome = true := by kernel_rfl
@[simp] theorem ft_tySz_87 : tySz Try.prog 87 = some (false, 1) := by kernel_rfl
@[simp] theorem ft_dfl_87 : dflC Try.prog 87 = .v (.int .i64 0) := by kernel_rfl
@[simp] theorem ft_zeroOf_87 : zeroOf Try.prog 87 = some Value.nilFunc := by kernel_rfl
@[simp] theorem ft_und_87 : (Try.prog.underlying 87).isSome = true := by kernel_rfl
@[simp] theorem ft_tySz_88 : tySz Try.prog 88 = some (false, 1) := by kernel_rfl
@[simp] theorem ft_dfl_88 : dflC Try.prog 88 = .v (.int .i64 0) := by kernel_rfl
@[simp] theorem ft_intOfTy_88 : intOfTy Try.prog 88 = some IntKind.i64 := by kernel_rfl
@[simp] theorem ft_zeroOf_88 : zeroOf Try.prog 88 = some (Value.int IntKind.i64 (0)) := by kernel_rfl
@[simp] theorem ft_und_88 : (Try.prog.underlying 88).isSome = true := by kernel_rfl
@[simp] theorem ft_tySz_89 : tySz Try.prog 89 = some (false, 1) := by kernel_rfl
@[simp] theorem ft_dfl_89 : dflC Try.prog 89 = .v (.int .i64 0) := by kernel_rfl
@[simp] theorem ft_zeroOf_89 : zeroOf Try.prog 89 = some (Value.tuple [Value.int IntKind.i64 (0), Value.int IntKind.i64 (0)].toArray) := by kernel_rfl
@[simp] theorem ft_und_89 : (Try.prog.underlying 89).isSome = true := by kernel_rfl
@[simp] theorem ft_tySz_90 : tySz Try.prog 90 = some (false, 1) := by kernel_rfl
@[simp] theorem ft_dfl_90 : dflC Try.prog 90 = .v (.int .i64 0) := by kernel_rfl
@[simp] theorem ft_zeroOf_90 : zeroOf Try.prog 90 = some Value.nilFunc := by kernel_rfl
@[simp] theorem ft_und_90 : (Try.prog.underlying 90).isSome = true := by kernel_rfl
@[simp] theorem ft_tySz_91 : tySz Try.prog 91 = some (false, 1) := by kernel_rfl
@[simp] theorem ft_dfl_91 : dflC Try.prog 91 = .v (.int .i64 0) := by kernel_rfl
@[simp] theorem ft_zeroOf_91 : zeroOf Try.prog 91 = some Value.nilFunc := by kernel_rfl
@[simp] theorem ft_und_91 : (Try.prog.underlying 91).isSome = true := by kernel_rfl
@[simp] theorem ft_tySz_92 : tySz Try.prog 92 = some (false, 1) := by kernel_rfl
@[simp] theorem ft_dfl_92 : dflC Try.prog 92 = .v (.int .i64 0) := by kernel_rfl
@[simp] theorem ft_zeroOf_92 : zeroOf Try.prog 92 = some Value.nilFunc := by kernel_rfl
@[simp] theorem ft_und_92 : (Try.prog.underlying 92).isSome = true := by kernel_rfl
@[simp] theorem ft_tySz_93 : tySz Try.prog 93 = some (false, 1) := by kernel_rfl
@[simp] theorem ft_dfl_93 : dflC Try.prog 93 = .v (.int .i64 0) := by kernel_rfl
@[simp] theorem ft_zeroOf_93 : zeroOf Try.prog 93 = some Value.nilFunc := by kernel_rfl
@[simp] theorem ft_und_93 : (Try.prog.underlying 93).isSome = true := by kernel_rfl
@[simp] theorem ft_tySz_94 : tySz Try.prog 94 = some (false, 1) := by kernel_rfl
@[simp] theorem ft_dfl_94 : dflC Try.prog 94 = .v (.int .i64 0) := by kernel_rfl
@[simp] theorem ft_zeroOf_94 : zeroOf Try.prog 94 = some (Value.tuple [Value.int IntKind.i64 (0), Value.bool false].toArray) := by kernel_rfl
@[simp] theorem ft_und_94 : (Try.prog.underlying 94).isSome = true := by kernel_rfl
@[simp] theorem ft_tySz_95 : tySz Try.prog 95 = some (false, 1) := by kernel_rfl
@[simp] theorem ft_dfl_95 : dflC Try.prog 95 = .v (.int .i64 0) := by kernel_rfl
@[simp] theorem ft_zeroOf_95 : zeroOf Try.prog 95 = some Value.nilFunc := by kernel_rfl
@[simp] theorem ft_und_95 : (Try.prog.underlying 95).isSome = true := by kernel_rfl
@[simp] theorem ft_tySz_96 : tySz Try.prog 96 = some (false, 1) := by kernel_rfl
@[simp] theorem ft_dfl_96 : dflC Try.prog 96 = .v (.int .i64 0) := by kernel_rfl
@[simp] theorem ft_zeroOf_96 : zeroOf Try.prog 96 = some Value.nilFunc := by kernel_rfl
@[simp] theorem ft_und_96 : (Try.prog.underlying 96).isSome = true := by kernel_rfl
@[simp] theorem ft_tySz_97 : tySz Try.prog 97 = some (false, 1) := by kernel_rfl
@[simp] theorem ft_dfl_97 : dflC Try.prog 97 = .v (.int .i64 0) := by kernel_rfl
@[simp] theorem ft_intOfTy_97 : intOfTy Try.prog 97 = some IntKind.u32 := by kernel_rfl
@[simp] theorem ft_zeroOf_97 : zeroOf Try.prog 97 = some (Value.int IntKind.u32 (0)) := by kernel_rfl
@[simp] theorem ft_und_97 : (Try.prog.underlying 97).isSome = true := by kernel_rfl
@[simp] theorem ft_tySz_98 : tySz Try.prog 98 = some (false, 1) := by kernel_rfl
@[simp] theorem ft_dfl_98 : dflC Try.prog 98 = .v (.int .i64 0) := by kernel_rfl
@[simp] theorem ft_zeroOf_98 : zeroOf Try.prog 98 = some Value.nilFunc := by kernel_rfl
@[simp] theorem ft_und_98 : (Try.prog.underlying 98).isSome = true := by kernel_rfl
@[simp] theorem ft_tySz_99 : tySz Try.prog 99 = some (false, 1) := by kernel_rfl
@[simp] theorem ft_dfl_99 : dflC Try.prog 99 = .v (.int .i64 0) := by kernel_rfl
@[simp] theorem ft_zeroOf_99 : zeroOf Try.prog 99 = some Value.nilFunc := by kernel_rfl
@[simp] theorem ft_und_99 : (Try.prog.underlying 99).isSome = true := by kernel_rfl
@[simp] theorem ft_tySz_100 : tySz Try.prog 100 = some (false, 1) := by kernel_rfl
@[simp] theorem ft_dfl_100 : dflC Try.prog 100 = .v (.int .i64 0) := by kernel_rfl
@[simp] theorem ft_zeroOf_100 : zeroOf Try.prog 100 = some Value.nilFunc := by kernel_rfl
@[simp] theorem ft_und_100 : (Try.prog.underlying 100).isSome = true := by kernel_rfl
@[simp] theorem ft_tySz_101 : tySz Try.prog 101 = some (false, 1) := by kernel_rfl
@[simp] theorem ft_dfl_101 : dflC Try.prog 101 = .v (.int .i64 0) := by kernel_rfl
@[simp] theorem ft_intOfTy_101 : intOfTy Try.prog 101 = some IntKind.u64 := by kernel_rfl
@[simp] theorem ft_zeroOf_101 : zeroOf Try.prog 101 = some (Value.int IntKind.u64 (0)) := by kernel_rfl
@[simp] theorem ft_und_101 : (Try.prog.underlying 101).isSome = true := by kernel_rfl
@[simp] theorem ft_tySz_102 : tySz Try.prog 102 = some (false, 1) := by kernel_rfl
@[simp] theorem ft_dfl_102 : dflC Try.prog 102 = .v (.int .i64 0) := by kernel_rfl
@[simp] theorem ft_zeroOf_102 : zeroOf Try.prog 102 = some Value.nilFunc := by kernel_rfl
@[simp] theorem ft_und_102 : (Try.prog.underlying 102).isSome = true := by kernel_rfl
@[simp] theorem ft_tySz_103 : tySz Try.prog 103 = some (false, 1) := by kernel_rfl
@[simp] theorem ft_dfl_103 : dflC Try.prog 103 = .v (.int .i64 0) := by kernel_rfl
@[simp] theorem ft_zeroOf_103 : zeroOf Try.prog 103 = some Value.nilFunc := by kernel_rfl
@[simp] theorem ft_und_103 : (Try.prog.underlying 103).isSome = true := by kernel_rfl
@[simp] theorem ft_tySz_104 : tySz Try.prog 104 = some (false, 1) := by kernel_rfl
@[simp] theorem ft_dfl_104 : dflC Try.prog 104 = .v (.int .i64 0) := by kernel_rfl
@[simp] theorem ft_zeroOf_104 : zeroOf Try.prog 104 = some Value.nilFunc := by kernel_rfl
@[simp] theorem ft_und_104 : (Try.prog.underlying 104).isSome = true := by kernel_rfl
@[simp] theorem ft_tySz_105 : tySz Try.prog 105 = some (false, 1) := by kernel_rfl
@[simp] theorem ft_dfl_105 : dflC Try.prog 105 = .v (.int .i64 0) := by kernel_rfl
@[simp] theorem ft_isPt_105 : isPt Try.prog 105 = true := by kernel_rfl
@[simp] theorem ft_zeroOf_105 : zeroOf Try.prog 105 = some (Value.pointer none) := by kernel_rfl
@[simp] theorem ft_und_105 : (Try.prog.underlying 105).isSome = true := by kernel_rfl
@[simp] theorem ft_tySz_106 : tySz Try.prog 106 = some (false, 1) := by kernel_rfl
@[simp] theorem ft_dfl_106 : dflC Try.prog 106 = .v (.int .i64 0) := by kernel_rfl
@[simp] theorem ft_zeroOf_106 : zeroOf Try.prog 106 = some Value.nilFunc := by kernel_rfl
@[simp] theorem ft_und_106 : (Try.prog.underlying 106).isSome = true := by kernel_rfl
@[simp] theorem ft_tySz_107 : tySz Try.prog 107 = some (false, 1) := by kernel_rfl
@[simp] theorem ft_dfl_107 : dflC Try.prog 107 = .v (.int .i64 0) := by kernel_rfl
@[simp] theorem ft_zeroOf_107 : zeroOf Try.prog 107 = some Value.nilFunc := by kernel_rfl
@[simp] theorem ft_und_107 : (Try.prog.underlying 107).isSome = true := by kernel_rfl
@[simp] theorem ft_tySz_108 : tySz Try.prog 108 = some (false, 1) := by kernel_rfl
@[simp] theorem ft_dfl_108 : dflC Try.prog 108 = .v (.int .i64 0) := by kernel_rfl
@[simp] theorem ft_zeroOf_108 : zeroOf Try.prog 108 = some Value.nilFunc := by kernel_rfl
@[simp] theorem ft_und_108 : (Try.prog.underlying 108).isSome = true := by kernel_rfl
@[simp] theorem ft_tySz_109 : tySz Try.prog 109 = some (false, 1) := by kernel_rfl
@[simp] theorem ft_dfl_109 : dflC Try.prog 109 = .v (.int .i64 0) := by kernel_rfl
@[simp] theorem ft_zeroOf_109 : zeroOf Try.prog 109 = some Value.nilFunc := by kernel_rfl
@[simp] theorem ft_und_109 : (Try.prog.underlying 109).isSome = true := by kernel_rfl
@[simp] theorem ft_tySz_110 : tySz Try.prog 110 = some (false, 1) := by kernel_rfl
@[simp] theorem ft_dfl_110 : dflC Try.prog 110 = .v (.int .i64 0) := by kernel_rfl
@[simp] theorem ft_zeroOf_110 : zeroOf Try.prog 110 = some Value.nilFunc := by kernel_rfl
@[simp] theorem ft_und_110 : (Try.prog.underlying 110).isSome = true := by kernel_rfl
@[simp] theorem ft_tySz_111 : tySz Try.prog 111 = some (false, 1) := by kernel_rfl
@[simp] theorem ft_dfl_111 : dflC Try.prog 111 = .v (.int .i64 0) := by kernel_rfl
@[simp] theorem ft_zeroOf_111 : zeroOf Try.prog 111 = some Value.nilFunc := by kernel_rfl
@[simp] theorem ft_und_111 : (Try.prog.underlying 111).isSome = true := by kernel_rfl
@[simp] theorem ft_tySz_112 : tySz Try.prog 112 = some (false, 1) := by kernel_rfl
@[simp] theorem ft_dfl_112 : dflC Try.prog 112 = .v (.int .i64 0) := by kernel_rfl
@[simp] theorem ft_zeroOf_112 : zeroOf Try.prog 112 = some Value.nilFunc := by kernel_rfl
@[simp] theorem ft_und_112 : (Try.prog.underlying 112).isSome = true := by kernel_rfl
@[simp] theorem ft_tySz_113 : tySz Try.prog 113 = some (false, 1) := by kernel_rfl
@[simp] theorem ft_dfl_113 : dflC Try.prog 113 = .v (.int .i64 0) := by kernel_rfl
@[simp] theorem ft_isPt_113 : isPt Try.prog 113 = true := by kernel_rfl
@[simp] theorem ft_zeroOf_113 : zeroOf Try.prog 113 = some (Value.pointer none) := by kernel_rfl
@[simp] theorem ft_und_113 : (Try.prog.underlying 113).isSome = true := by kernel_rfl
@[simp] theorem ft_tySz_114 : tySz Try.prog 114 = some (false, 1) := by kernel_rfl
@[simp] theorem ft_dfl_114 : dflC Try.prog 114 = .v (.int .i64 0) := by kernel_rfl
@[simp] theorem ft_zeroOf_114 : zeroOf Try.prog 114 = some Value.nilFunc := by kernel_rfl
@[simp] theorem ft_und_114 : (Try.prog.underlying 114).isSome = true := by kernel_rfl
@[simp] theorem ft_tySz_115 : tySz Try.prog 115 = some (false, 1) := by kernel_rfl
@[simp] theorem ft_dfl_115 : dflC Try.prog 115 = .v (.int .i64 0) := by kernel_rfl
@[simp] theorem ft_zeroOf_115 : zeroOf Try.prog 115 = some Value.nilFunc := by kernel_rfl
@[simp] theorem ft_und_115 : (Try.prog.underlying 115).isSome = true := by kernel_rfl
@[simp] theorem ft_tySz_116 : tySz Try.prog 116 = some (false, 1) := by kernel_rfl
@[simp] theorem ft_dfl_116 : dflC Try.prog 116 = .v (.int .i64 0) := by kernel_rfl
@[simp] theorem ft_zeroOf_116 : zeroOf Try.prog 116 = some Value.nilFunc := by kernel_rfl
@[simp] theorem ft_und_116 : (Try.prog.underlying 116).isSome = true := by kernel_rfl
@[simp] theorem ft_tySz_117 : tySz Try.prog 117 = some (false, 1) := by kernel_rfl
@[simp] theorem ft_dfl_117 : dflC Try.prog 117 = .v (.int .i64 0) := by kernel_rfl
@[simp] theorem ft_zeroOf_117 : zeroOf Try.prog 117 = some Value.nilFunc := by kernel_rfl
@[simp] theorem ft_und_117 : (Try.prog.underlying 117).isSome = true := by kernel_rfl
@[simp] theorem ft_tySz_118 : tySz Try.prog 118 = some (false, 1) := by kernel_rfl
@[simp] theorem ft_dfl_118 : dflC Try.prog 118 = .v (.int .i64 0) := by kernel_rfl
@[simp] theorem ft_zeroOf_118 : zeroOf Try.prog 118 = some Value.nilFunc := by kernel_rfl
@[simp] theorem ft_und_118 : (Try.prog.underlying 118).isSome = true := by kernel_rfl
@[simp] theorem ft_tySz_119 : tySz Try.prog 119 = some (true, 4) := by kernel_rfl
@[simp] theorem ft_dfl_119 : dflC Try.prog 119 = .v (.int .i64 0) := by kernel_rfl
@[simp] theorem ft_zeroOf_119 : zeroOf Try.prog 119 = some (Value.agg [Value.pointer none, Value.pointer none, Value.pointer none, Value.string ⟨#[]⟩].toArray) := by kernel_rfl
@[simp] theorem ft_plOf_119 : plOf Try.prog 119 = some (Sum.inl [(0, 1), (1, 1), (2, 1), (3, 1)]) := by kernel_rfl
@[simp] theorem ft_und_119 : (Try.prog.underlying 119).isSome = true := by kernel_rfl
@[simp] theorem ft_fldOf_119_0 : fldOf Try.prog 119 0 = some (0, false, 1) := by kernel_rfl
@[simp] theorem ft_fldOf_119_1 : fldOf Try.prog 119 1 = some (1, false, 1) := by kernel_rfl
@[simp] theorem ft_fldOf_119_2 : fldOf Try.prog 119 2 = some (2, false, 1) := by kernel_rfl
@[simp] theorem ft_fldOf_119_3 : fldOf Try.prog 119 3 = some (3, false, 1) := by kernel_rfl
@[simp] theorem ft_tySz_120 : tySz Try.prog 120 = some (true, 4) := by kernel_rfl
@[simp] theorem ft_dfl_120 : dflC Try.prog 120 = .v (.int .i64 0) := by kernel_rfl
@[simp] theorem ft_zeroOf_120 : zeroOf Try.prog 120 = some (Value.agg [Value.pointer none, Value.pointer none, Value.pointer none, Value.string ⟨#[]⟩].toArray) := by kernel_rfl
@[simp] theorem ft_plOf_120 : plOf Try.prog 120 = some (Sum.inl [(0, 1), (1, 1), (2, 1), (3, 1)]) := by kernel_rfl
@[simp] theorem ft_und_120 : (Try.prog.underlying 120).isSome = true := by kernel_rfl
@[simp] theorem ft_fldOf_120_0 : fldOf Try.prog 120 0 = some (0, false, 1) := by kernel_rfl
@[simp] theorem ft_fldOf_120_1 : fldOf Try.prog 120 1 = some (1, false, 1) := by kernel_rfl
@[simp] theorem ft_fldOf_120_2 : fldOf Try.prog 120 2 = some (2, false, 1) := by kernel_rfl
@[simp] theorem ft_fldOf_120_3 : fldOf Try.prog 120 3 = some (3, false, 1) := by kernel_rfl
@[simp] theorem ft_tySz_121 : tySz Try.prog 121 = some (true, 0) := by kernel_rfl
@[simp] theorem ft_dfl_121 : dflC Try.prog 121 = .v (.int .i64 0) := by kernel_rfl
@[simp] theorem ft_zeroOf_121 : zeroOf Try.prog 121 = some (Value.agg [].toArray) := by kernel_rfl
@[simp] theorem ft_plOf_121 : plOf Try.prog 121 = some (Sum.inr 1) := by kernel_rfl
@[simp] theorem ft_arrOf_121 : arrOf Try.prog 121 = some (0, false, 1) := by kernel_rfl
@[simp] theorem ft_und_121 : (Try.prog.underlying 121).isSome = true := by kernel_rfl
@[simp] theorem ft_tySz_122 : tySz Try.prog 122 = some (true, 0) := by kernel_rfl
@[simp] theorem ft_dfl_122 : dflC Try.prog 122 = .v (.int .i64 0) := by kernel_rfl
@[simp] theorem ft_zeroOf_122 : zeroOf Try.prog 122 = some (Value.agg [].toArray) := by kernel_rfl
@[simp] theorem ft_plOf_122 : plOf Try.prog 122 = some (Sum.inl [(0, 0)]) := by kernel_rfl
@[simp] theorem ft_und_122 : (Try.prog.underlying 122).isSome = true := by kernel_rfl
@[simp] theorem ft_fldOf_122_0 : fldOf Try.prog 122 0 = some (0, true, 0) := by kernel_rfl
@[simp] theorem ft_tySz_123 : tySz Try.prog 123 = some (true, 0) := by kernel_rfl
@[simp] theorem ft_dfl_123 : dflC Try.prog 123 = .v (.int .i64 0) := by kernel_rfl
@[simp] theorem ft_zeroOf_123 : zeroOf Try.prog 123 = some (Value.agg [].toArray) := by kernel_rfl
@[simp] theorem ft_plOf_123 : plOf Try.prog 123 = some (Sum.inl [(0, 0)]) := by kernel_rfl
@[simp] theorem ft_und_123 : (Try.prog.underlying 123).isSome = true := by kernel_rfl
@[simp] theorem ft_fldOf_123_0 : fldOf Try.prog 123 0 = some (0, true, 0) := by kernel_rfl
@[simp] theorem ft_tySz_124 : tySz Try.prog 124 = some (false, 1) := by kernel_rfl
@[simp] theorem ft_dfl_124 : dflC Try.prog 124 = .v (.int .i64 0) := by kernel_rfl
@[simp] theorem ft_zeroOf_124 : zeroOf Try.prog 124 = some Value.nilFunc := by kernel_rfl
@[simp] theorem ft_und_124 : (Try.prog.underlying 124).isSome = true := by kernel_rfl
@[simp] theorem ft_tySz_125 : tySz Try.prog 125 = some (false, 1) := by kernel_rfl
@[simp] theorem ft_dfl_125 : dflC Try.prog 125 = .v (.int .i64 0) := by kernel_rfl
@[simp] theorem ft_intOfTy_125 : intOfTy Try.prog 125 = some IntKind.u8 := by kernel_rfl
@[simp] theorem ft_zeroOf_125 : zeroOf Try.prog 125 = some (Value.int IntKind.u8 (0)) := by kernel_rfl
@[simp] theorem ft_und_125 : (Try.prog.underlying 125).isSome = true := by kernel_rfl
@[simp] theorem ft_tySz_126 : tySz Try.prog 126 = some (false, 1) := by kernel_rfl
@[simp] theorem ft_dfl_126 : dflC Try.prog 126 = .v (.int .i64 0) := by kernel_rfl
@[simp] theorem ft_intOfTy_126 : intOfTy Try.prog 126 = some IntKind.u8 := by kernel_rfl
@[simp] theorem ft_zeroOf_126 : zeroOf Try.prog 126 = some (Value.int IntKind.u8 (0)) := by kernel_rfl
@[simp] theorem ft_und_126 : (Try.prog.underlying 126).isSome = true := by kernel_rfl
@[simp] theorem ft_tySz_127 : tySz Try.prog 127 = some (false, 1) := by kernel_rfl
@[simp] theorem ft_dfl_127 : dflC Try.prog 127 = .v (.int .i64 0) := by kernel_rfl
@[simp] theorem ft_zeroOf_127 : zeroOf Try.prog 127 = some Value.nilFunc := by kernel_rfl
@[simp] theorem ft_und_127 : (Try.prog.underlying 127).isSome = true := by kernel_rfl
@[simp] theorem ft_tySz_128 : tySz Try.prog 128 = some (false, 1) := by kernel_rfl
@[simp] theorem ft_dfl_128 : dflC Try.prog 128 = .v (.int .i64 0) := by kernel_rfl
@[simp] theorem ft_isPt_128 : isPt Try.prog 128 = true := by kernel_rfl
@[simp] theorem ft_zeroOf_128 : zeroOf Try.prog 128 = some (Value.pointer none) := by kernel_rfl
@[simp] theorem ft_und_128 : (Try.prog.underlying 128).isSome = true := by kernel_rfl
@[simp] theorem ft_tySz_129 : tySz Try.prog 129 = some (false, 1) := by kernel_rfl
@[simp] theorem ft_dfl_129 : dflC Try.prog 129 = .v (.int .i64 0) := by kernel_rfl
@[simp] theorem ft_intOfTy_129 : intOfTy Try.prog 129 = some IntKind.i32 := by kernel_rfl
@[simp] theorem ft_zeroOf_129 : zeroOf Try.prog 129 = some (Value.int IntKind.i32 (0)) := by kernel_rfl
@[simp] theorem ft_und_129 : (Try.prog.underlying 129).isSome = true := by kernel_rfl
@[simp] theorem ft_tySz_130 : tySz Try.prog 130 = some (false, 1) := by kernel_rfl
@[simp] theorem ft_dfl_130 : dflC Try.prog 130 = .v (.int .i64 0) := by kernel_rfl
@[simp] theorem ft_intOfTy_130 : intOfTy Try.prog 130 = some IntKind.i32 := by kernel_rfl
@[simp] theorem ft_zeroOf_130 : zeroOf Try.prog 130 = some (Value.int IntKind.i32 (0)) := by kernel_rfl
@[simp] theorem ft_und_130 : (Try.prog.underlying 130).isSome = true := by kernel_rfl
@[simp] theorem ft_tySz_131 : tySz Try.prog 131 = some (true, 11) := by kernel_rfl
@[simp] theorem ft_dfl_131 : dflC Try.prog 131 = .v (.int .i64 0) := by kernel_rfl
@[simp] theorem ft_zeroOf_131 : zeroOf Try.prog 131 = some (Value.agg [Value.int IntKind.u64 (0), Value.int IntKind.u64 (0), Value.int IntKind.u32 (0), Value.int IntKind.u8 (0), Value.int IntKind.u8 (0), Value.int IntKind.u8 (0), Value.int IntKind.u8 (0), Value.nilFunc, Value.pointer none, Value.int IntKind.i32 (0), Value.int IntKind.i32 (0)].toArray) := by kernel_rfl
@[simp] theorem ft_plOf_131 : plOf Try.prog 131 = some (Sum.inl [(0, 1), (1, 1), (2, 1), (3, 1), (4, 1), (5, 1), (6, 1), (7, 1), (8, 1), (9, 1), (10, 1)]) := by kernel_rfl
@[simp] theorem ft_und_131 : (Try.prog.underlying 131).isSome = true := by kernel_rfl
@[simp] theorem ft_fldOf_131_0 : fldOf Try.prog 131 0 = some (0, false, 1) := by kernel_rfl
@[simp] theorem ft_fldOf_131_1 : fldOf Try.prog 131 1 = some (1, false, 1) := by kernel_rfl
@[simp] theorem ft_fldOf_131_2 : fldOf Try.prog 131 2 = some (2, false, 1) := by kernel_rfl
@[simp] theorem ft_fldOf_131_3 : fldOf Try.prog 131 3 = some (3, false, 1) := by kernel_rfl
@[simp] theorem ft_fldOf_131_4 : fldOf Try.prog 131 4 = some (4, false, 1) := by kernel_rfl
@[simp] theorem ft_fldOf_131_5 : fldOf Try.prog 131 5 = some (5, false, 1) := by kernel_rfl
@[simp] theorem ft_fldOf_131_6 : fldOf Try.prog 131 6 = some (6, false, 1) := by kernel_rfl
@[simp] theorem ft_fldOf_131_7 : fldOf Try.prog 131 7 = some (7, false, 1) := by kernel_rfl
@[simp] theorem ft_fldOf_131_8 : fldOf Try.prog 131 8 = some (8, false, 1) := by kernel_rfl
@[simp] theorem ft_fldOf_131_9 : fldOf Try.prog 131 9 = some (9, false, 1) := by kernel_rfl
@[simp] theorem ft_fldOf_131_10 : fldOf Try.prog 131 10 = some (10, false, 1) := by kernel_rfl
@[simp] theorem ft_tySz_132 : tySz Try.prog 132 = some (true, 11) := by kernel_rfl
@[simp] theorem ft_dfl_132 : dflC Try.prog 132 = .v (.int .i64 0) := by kernel_rfl
@[simp] theorem ft_zeroOf_132 : zeroOf Try.prog 132 = some (Value.agg [Value.int IntKind.u64 (0), Value.int IntKind.u64 (0), Value.int IntKind.u32 (0), Value.int IntKind.u8 (0), Value.int IntKind.u8 (0), Value.int IntKind.u8 (0), Value.int IntKind.u8 (0), Value.nilFunc, Value.pointer none, Value.int IntKind.i32 (0), Value.int IntKind.i32 (0)].toArray) := by kernel_rfl
@[simp] theorem ft_plOf_132 : plOf Try.prog 132 = some (Sum.inl [(0, 1), (1, 1), (2, 1), (3, 1), (4, 1), (5, 1), (6, 1), (7, 1), (8, 1), (9, 1), (10, 1)]) := by kernel_rfl
@[simp] theorem ft_und_132 : (Try.prog.underlying 132).isSome = true := by kernel_rfl
@[simp] theorem ft_fldOf_132_0 : fldOf Try.prog 132 0 = some (0, false, 1) := by kernel_rfl
@[simp] theorem ft_fldOf_132_1 : fldOf Try.prog 132 1 = some (1, false, 1) := by kernel_rfl
@[simp] theorem ft_fldOf_132_2 : fldOf Try.prog 132 2 = some (2, false, 1) := by kernel_rfl
@[simp] theorem ft_fldOf_132_3 : fldOf Try.prog 132 3 = some (3, false, 1) := by kernel_rfl
@[simp] theorem ft_fldOf_132_4 : fldOf Try.prog 132 4 = some (4, false, 1) := by kernel_rfl
@[simp] theorem ft_fldOf_132_5 : fldOf Try.prog 132 5 = some (5, false, 1) := by kernel_rfl
@[simp] theorem ft_fldOf_132_6 : fldOf Try.prog 132 6 = some (6, false, 1) := by kernel_rfl
@[simp] theorem ft_fldOf_132_7 : fldOf Try.prog 132 7 = some (7, false, 1) := by kernel_rfl
@[simp] theorem ft_fldOf_132_8 : fldOf Try.prog 132 8 = some (8, false, 1) := by kernel_rfl
@[simp] theorem ft_fldOf_132_9 : fldOf Try.prog 132 9 = some (9, false, 1) := by kernel_rfl
@[simp] theorem ft_fldOf_132_10 : fldOf Try.prog 132 10 = some (10, false, 1) := by kernel_rfl
@[simp] theorem ft_tySz_133 : tySz Try.prog 133 = some (false, 1) := by kernel_rfl
@[simp] theorem ft_dfl_133 : dflC Try.prog 133 = .v (.int .i64 0) := by kernel_rfl
@[simp] theorem ft_zeroOf_133 : zeroOf Try.prog 133 = some (Value.pointer none) := by kernel_rfl
@[simp] theorem ft_und_133 : (Try.prog.underlying 133).isSome = true := by kernel_rfl
@[simp ↓] theorem ft_vlk_52 (st : St) (dst : Option Nat) (ok : Bool) (K : St → Prop) (kv : Value) (kvs : List (Value × List S)) : vlkR Try.prog dst st 52 ok K kv (some (.map (.ents kvs))) = (kfits (TypeDesc.int IntKind.i64) kv = true ∧ (kvs.all fun x => kfits (TypeDesc.int IntKind.i64) x.1) = true ∧ K (st.putd dst (lkS ok (findK kv kvs) ((Value.int IntKind.i64 (0)))))) := vlkR_map dst 52 2 3 (TypeDesc.int IntKind.i64) ((Value.int IntKind.i64 (0))) ok kv kvs ft_mpT_52 ft_zeroOf_3
@[simp ↓] theorem ft_vmu_52 (st : St) (dst : Option Nat) (K : St → Prop) (i : Nat) (kv : Value) (cs : List S) (kvs : List (Value × List S)) : vmuR Try.prog dst st 52 K i kv (some cs) (some (.map (.ents kvs))) = (kfits (TypeDesc.int IntKind.i64) kv = true ∧ (kvs.all fun x => kfits (TypeDesc.int IntKind.i64) x.1) = true ∧ K ((st.setR i (some (.map (.ents (putK kv cs kvs))))).putd dst .un)) := vmuR_map dst 52 2 3 (TypeDesc.int IntKind.i64) i kv cs kvs ft_mpT_52
@[simp ↓] theorem ft_vlk_53 (st : St) (dst : Option Nat) (ok : Bool) (K : St → Prop) (kv : Value) (kvs : List (Value × List S)) : vlkR Try.prog dst st 53 ok K kv (some (.map (.ents kvs))) = (kfits (TypeDesc.int IntKind.i64) kv = true ∧ (kvs.all fun x => kfits (TypeDesc.int IntKind.i64) x.1) = true ∧ K (st.putd dst (lkS ok (findK kv kvs) ((Value.agg [Value.int IntKind.i64 (0), Value.int IntKind.i64 (0), Value.int IntKind.i64 (0)].toArray))))) := vlkR_map dst 53 3 55 (TypeDesc.int IntKind.i64) ((Value.agg [Value.int IntKind.i64 (0), Value.int IntKind.i64 (0), Value.int IntKind.i64 (0)].toArray)) ok kv kvs ft_mpT_53 ft_zeroOf_55
@[simp ↓] theorem ft_vmu_53 (st : St) (dst : Option Nat) (K : St → Prop) (i : Nat) (kv : Value) (cs : List S) (kvs : List (Value × List S)) : vmuR Try.prog dst st 53 K i kv (some cs) (some (.map (.ents kvs))) = (kfits (TypeDesc.int IntKind.i64) kv = true ∧ (kvs.all fun x => kfits (TypeDesc.int IntKind.i64) x.1) = true ∧ K ((st.setR i (some (.map (.ents (putK kv cs kvs))))).putd dst .un)) := vmuR_map dst 53 3 55 (TypeDesc.int IntKind.i64) i kv cs kvs ft_mpT_53
end Go.Proofs.Ytddhmoffjpnbgaa
