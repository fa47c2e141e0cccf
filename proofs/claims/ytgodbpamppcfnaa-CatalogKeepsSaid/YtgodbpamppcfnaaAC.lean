/- The types' facts of the seat, each by kernel_rfl. -/
import Derived.Test.YtgodbpamppcfnaaVC
import Derived.Test.YtgodbpamppcfnaaVM5
import Derived.Test.YtgodbpamppcfnaaProg
import Derived.KernelRfl
set_option linter.unusedSimpArgs false
set_option linter.unusedVariables false
namespace Go.Proofs.Ytgodbpamppcfnaa
open Go.VL Go.RowKit
@[simp] theorem ft_tySz_0 : tySz Try.prog 0 = some (false, 1) := by kernel_rfl
@[simp] theorem ft_dfl_0 : dflC Try.prog 0 = .v (.int .i64 0) := by kernel_rfl
@[simp] theorem ft_zeroOf_0 : zeroOf Try.prog 0 = some (Value.tuple [].toArray) := by kernel_rfl
@[simp] theorem ft_und_0 : (Try.prog.underlying 0).isSome = true := by kernel_rfl
@[simp] theorem ft_tySz_1 : tySz Try.prog 1 = some (false, 1) := by kernel_rfl
@[simp] theorem ft_dfl_1 : dflC Try.prog 1 = .v (.int .i64 0) := by kernel_rfl
@[simp] theorem ft_zeroOf_1 : zeroOf Try.prog 1 = some Value.nilFunc := by kernel_rfl
@[simp] theorem ft_und_1 : (Try.prog.underlying 1).isSome = true := by kernel_rfl
@[simp] theorem ft_tySz_2 : tySz Try.prog 2 = some (false, 1) := by kernel_rfl
@[simp] theorem ft_dfl_2 : dflC Try.prog 2 = .v (.int .i64 0) := by kernel_rfl
@[simp] theorem ft_intOfTy_2 : intOfTy Try.prog 2 = some IntKind.i64 := by kernel_rfl
@[simp] theorem ft_zeroOf_2 : zeroOf Try.prog 2 = some (Value.int IntKind.i64 (0)) := by kernel_rfl
@[simp] theorem ft_und_2 : (Try.prog.underlying 2).isSome = true := by kernel_rfl
@[simp] theorem ft_tySz_3 : tySz Try.prog 3 = some (false, 1) := by kernel_rfl
@[simp] theorem ft_dfl_3 : dflC Try.prog 3 = .v (.int .i64 0) := by kernel_rfl
@[simp] theorem ft_intOfTy_3 : intOfTy Try.prog 3 = some IntKind.i64 := by kernel_rfl
@[simp] theorem ft_zeroOf_3 : zeroOf Try.prog 3 = some (Value.int IntKind.i64 (0)) := by kernel_rfl
@[simp] theorem ft_und_3 : (Try.prog.underlying 3).isSome = true := by kernel_rfl
@[simp] theorem ft_tySz_4 : tySz Try.prog 4 = some (false, 1) := by kernel_rfl
@[simp] theorem ft_dfl_4 : dflC Try.prog 4 = .v (.int .i64 0) := by kernel_rfl
@[simp] theorem ft_zeroOf_4 : zeroOf Try.prog 4 = some (Value.bool false) := by kernel_rfl
@[simp] theorem ft_und_4 : (Try.prog.underlying 4).isSome = true := by kernel_rfl
@[simp] theorem ft_tySz_5 : tySz Try.prog 5 = some (false, 1) := by kernel_rfl
@[simp] theorem ft_dfl_5 : dflC Try.prog 5 = .v (.int .i64 0) := by kernel_rfl
@[simp] theorem ft_intOfTy_5 : intOfTy Try.prog 5 = some IntKind.u8 := by kernel_rfl
@[simp] theorem ft_zeroOf_5 : zeroOf Try.prog 5 = some (Value.int IntKind.u8 (0)) := by kernel_rfl
@[simp] theorem ft_und_5 : (Try.prog.underlying 5).isSome = true := by kernel_rfl
@[simp] theorem ft_tySz_6 : tySz Try.prog 6 = some (false, 1) := by kernel_rfl
@[simp] theorem ft_dfl_6 : dflC Try.prog 6 = .v (.int .i64 0) := by kernel_rfl
@[simp] theorem ft_intOfTy_6 : intOfTy Try.prog 6 = some IntKind.u8 := by kernel_rfl
@[simp] theorem ft_zeroOf_6 : zeroOf Try.prog 6 = some (Value.int IntKind.u8 (0)) := by kernel_rfl
@[simp] theorem ft_und_6 : (Try.prog.underlying 6).isSome = true := by kernel_rfl
@[simp] theorem ft_tySz_7 : tySz Try.prog 7 = some (true, 4) := by kernel_rfl
@[simp] theorem ft_dfl_7 : dflC Try.prog 7 = .v (.int .i64 0) := by kernel_rfl
@[simp] theorem ft_zeroOf_7 : zeroOf Try.prog 7 = some (Value.agg [Value.int IntKind.i64 (0), Value.int IntKind.i64 (0), Value.bool false, Value.int IntKind.u8 (0)].toArray) := by kernel_rfl
@[simp] theorem ft_plOf_7 : plOf Try.prog 7 = some (Sum.inl [(0, 1), (1, 1), (2, 1), (3, 1)]) := by kernel_rfl
@[simp] theorem ft_eqT_7 : eqT Try.prog 7 = some [FK.i, FK.i, FK.b, FK.i] := by kernel_rfl
@[simp] theorem ft_und_7 : (Try.prog.underlying 7).isSome = true := by kernel_rfl
@[simp] theorem ft_fldOf_7_0 : fldOf Try.prog 7 0 = some (0, false, 1) := by kernel_rfl
@[simp] theorem ft_fldOf_7_1 : fldOf Try.prog 7 1 = some (1, false, 1) := by kernel_rfl
@[simp] theorem ft_fldOf_7_2 : fldOf Try.prog 7 2 = some (2, false, 1) := by kernel_rfl
@[simp] theorem ft_fldOf_7_3 : fldOf Try.prog 7 3 = some (3, false, 1) := by kernel_rfl
@[simp] theorem ft_tySz_8 : tySz Try.prog 8 = some (true, 4) := by kernel_rfl
@[simp] theorem ft_dfl_8 : dflC Try.prog 8 = .v (.int .i64 0) := by kernel_rfl
@[simp] theorem ft_zeroOf_8 : zeroOf Try.prog 8 = some (Value.agg [Value.int IntKind.i64 (0), Value.int IntKind.i64 (0), Value.bool false, Value.int IntKind.u8 (0)].toArray) := by kernel_rfl
@[simp] theorem ft_plOf_8 : plOf Try.prog 8 = some (Sum.inl [(0, 1), (1, 1), (2, 1), (3, 1)]) := by kernel_rfl
@[simp] theorem ft_eqT_8 : eqT Try.prog 8 = some [FK.i, FK.i, FK.b, FK.i] := by kernel_rfl
@[simp] theorem ft_und_8 : (Try.prog.underlying 8).isSome = true := by kernel_rfl
@[simp] theorem ft_fldOf_8_0 : fldOf Try.prog 8 0 = some (0, false, 1) := by kernel_rfl
@[simp] theorem ft_fldOf_8_1 : fldOf Try.prog 8 1 = some (1, false, 1) := by kernel_rfl
@[simp] theorem ft_fldOf_8_2 : fldOf Try.prog 8 2 = some (2, false, 1) := by kernel_rfl
@[simp] theorem ft_fldOf_8_3 : fldOf Try.prog 8 3 = some (3, false, 1) := by kernel_rfl
@[simp] theorem ft_tySz_9 : tySz Try.prog 9 = some (false, 1) := by kernel_rfl
@[simp] theorem ft_dfl_9 : dflC Try.prog 9 = .v (.int .i64 0) := by kernel_rfl
@[simp] theorem ft_zeroOf_9 : zeroOf Try.prog 9 = some (Value.string ⟨#[]⟩) := by kernel_rfl
@[simp] theorem ft_und_9 : (Try.prog.underlying 9).isSome = true := by kernel_rfl
@[simp] theorem ft_tySz_10 : tySz Try.prog 10 = some (false, 1) := by kernel_rfl
@[simp] theorem ft_dfl_10 : dflC Try.prog 10 = .v (.int .i64 0) := by kernel_rfl
@[simp] theorem ft_zeroOf_10 : zeroOf Try.prog 10 = some (Value.string ⟨#[]⟩) := by kernel_rfl
@[simp] theorem ft_und_10 : (Try.prog.underlying 10).isSome = true := by kernel_rfl
@[simp] theorem ft_tySz_11 : tySz Try.prog 11 = some (false, 1) := by kernel_rfl
@[simp] theorem ft_dfl_11 : dflC Try.prog 11 = .v (.int .i64 0) := by kernel_rfl
@[simp] theorem ft_zeroOf_11 : zeroOf Try.prog 11 = some (Value.string ⟨#[]⟩) := by kernel_rfl
@[simp] theorem ft_und_11 : (Try.prog.underlying 11).isSome = true := by kernel_rfl
@[simp] theorem ft_tySz_12 : tySz Try.prog 12 = some (false, 1) := by kernel_rfl
@[simp] theorem ft_dfl_12 : dflC Try.prog 12 = .v (.int .i64 0) := by kernel_rfl
@[simp] theorem ft_intOfTy_12 : intOfTy Try.prog 12 = some IntKind.u64 := by kernel_rfl
@[simp] theorem ft_zeroOf_12 : zeroOf Try.prog 12 = some (Value.int IntKind.u64 (0)) := by kernel_rfl
@[simp] theorem ft_und_12 : (Try.prog.underlying 12).isSome = true := by kernel_rfl
@[simp] theorem ft_tySz_13 : tySz Try.prog 13 = some (true, 2) := by kernel_rfl
@[simp] theorem ft_dfl_13 : dflC Try.prog 13 = .v (.int .i64 0) := by kernel_rfl
@[simp] theorem ft_zeroOf_13 : zeroOf Try.prog 13 = some (Value.agg [Value.string ⟨#[]⟩, Value.int IntKind.u64 (0)].toArray) := by kernel_rfl
@[simp] theorem ft_plOf_13 : plOf Try.prog 13 = some (Sum.inl [(0, 1), (1, 1)]) := by kernel_rfl
@[simp] theorem ft_und_13 : (Try.prog.underlying 13).isSome = true := by kernel_rfl
@[simp] theorem ft_fldOf_13_0 : fldOf Try.prog 13 0 = some (0, false, 1) := by kernel_rfl
@[simp] theorem ft_fldOf_13_1 : fldOf Try.prog 13 1 = some (1, false, 1) := by kernel_rfl
@[simp] theorem ft_tySz_14 : tySz Try.prog 14 = some (true, 2) := by kernel_rfl
@[simp] theorem ft_dfl_14 : dflC Try.prog 14 = .v (.int .i64 0) := by kernel_rfl
@[simp] theorem ft_zeroOf_14 : zeroOf Try.prog 14 = some (Value.agg [Value.string ⟨#[]⟩, Value.int IntKind.u64 (0)].toArray) := by kernel_rfl
@[simp] theorem ft_plOf_14 : plOf Try.prog 14 = some (Sum.inl [(0, 1), (1, 1)]) := by kernel_rfl
@[simp] theorem ft_und_14 : (Try.prog.underlying 14).isSome = true := by kernel_rfl
@[simp] theorem ft_fldOf_14_0 : fldOf Try.prog 14 0 = some (0, false, 1) := by kernel_rfl
@[simp] theorem ft_fldOf_14_1 : fldOf Try.prog 14 1 = some (1, false, 1) := by kernel_rfl
@[simp] theorem ft_tySz_15 : tySz Try.prog 15 = some (false, 1) := by kernel_rfl
@[simp] theorem ft_dfl_15 : dflC Try.prog 15 = .v (.int .i64 0) := by kernel_rfl
@[simp] theorem ft_isPt_15 : isPt Try.prog 15 = true := by kernel_rfl
@[simp] theorem ft_zeroOf_15 : zeroOf Try.prog 15 = some (Value.pointer none) := by kernel_rfl
@[simp] theorem ft_und_15 : (Try.prog.underlying 15).isSome = true := by kernel_rfl
@[simp] theorem ft_tySz_16 : tySz Try.prog 16 = some (false, 1) := by kernel_rfl
@[simp] theorem ft_dfl_16 : dflC Try.prog 16 = .v (.int .i64 0) := by kernel_rfl
@[simp] theorem ft_isPt_16 : isPt Try.prog 16 = true := by kernel_rfl
@[simp] theorem ft_zeroOf_16 : zeroOf Try.prog 16 = some (Value.pointer none) := by kernel_rfl
@[simp] theorem ft_und_16 : (Try.prog.underlying 16).isSome = true := by kernel_rfl
@[simp] theorem ft_tySz_17 : tySz Try.prog 17 = some (false, 1) := by kernel_rfl
@[simp] theorem ft_dfl_17 : dflC Try.prog 17 = .v (.int .i64 0) := by kernel_rfl
@[simp] theorem ft_isPt_17 : isPt Try.prog 17 = true := by kernel_rfl
@[simp] theorem ft_zeroOf_17 : zeroOf Try.prog 17 = some (Value.pointer none) := by kernel_rfl
@[simp] theorem ft_und_17 : (Try.prog.underlying 17).isSome = true := by kernel_rfl
@[simp] theorem ft_tySz_18 : tySz Try.prog 18 = some (true, 1) := by kernel_rfl
@[simp] theorem ft_dfl_18 : dflC Try.prog 18 = .v (.int .i64 0) := by kernel_rfl
@[simp] theorem ft_zeroOf_18 : zeroOf Try.prog 18 = some (Value.agg [Value.pointer none].toArray) := by kernel_rfl
@[simp] theorem ft_plOf_18 : plOf Try.prog 18 = some (Sum.inl [(0, 1)]) := by kernel_rfl
@[simp] theorem ft_und_18 : (Try.prog.underlying 18).isSome = true := by kernel_rfl
@[simp] theorem ft_fldOf_18_0 : fldOf Try.prog 18 0 = some (0, false, 1) := by kernel_rfl
@[simp] theorem ft_tySz_19 : tySz Try.prog 19 = some (true, 1) := by kernel_rfl
@[simp] theorem ft_dfl_19 : dflC Try.prog 19 = .v (.int .i64 0) := by kernel_rfl
@[simp] theorem ft_zeroOf_19 : zeroOf Try.prog 19 = some (Value.agg [Value.pointer none].toArray) := by kernel_rfl
@[simp] theorem ft_plOf_19 : plOf Try.prog 19 = some (Sum.inl [(0, 1)]) := by kernel_rfl
@[simp] theorem ft_und_19 : (Try.prog.underlying 19).isSome = true := by kernel_rfl
@[simp] theorem ft_fldOf_19_0 : fldOf Try.prog 19 0 = some (0, false, 1) := by kernel_rfl
@[simp] theorem ft_tySz_20 : tySz Try.prog 20 = some (false, 1) := by kernel_rfl
@[simp] theorem ft_dfl_20 : dflC Try.prog 20 = .v (.int .i64 0) := by kernel_rfl
@[simp] theorem ft_zeroOf_20 : zeroOf Try.prog 20 = some Value.nilIface := by kernel_rfl
@[simp] theorem ft_und_20 : (Try.prog.underlying 20).isSome = true := by kernel_rfl
@[simp] theorem ft_tySz_21 : tySz Try.prog 21 = some (false, 1) := by kernel_rfl
@[simp] theorem ft_dfl_21 : dflC Try.prog 21 = .v (.int .i64 0) := by kernel_rfl
@[simp] theorem ft_intOfTy_21 : intOfTy Try.prog 21 = some IntKind.i32 := by kernel_rfl
@[simp] theorem ft_zeroOf_21 : zeroOf Try.prog 21 = some (Value.int IntKind.i32 (0)) := by kernel_rfl
@[simp] theorem ft_und_21 : (Try.prog.underlying 21).isSome = true := by kernel_rfl
@[simp] theorem ft_tySz_22 : tySz Try.prog 22 = some (false, 1) := by kernel_rfl
@[simp] theorem ft_esz_22 : esz Try.prog 22 = some 2 := by kernel_rfl
@[simp] theorem ft_dfl_22 : dflC Try.prog 22 = .sl true [] := by kernel_rfl
@[simp] theorem ft_isSl_22 : isSl Try.prog 22 = true := by kernel_rfl
@[simp] theorem ft_zeroOf_22 : zeroOf Try.prog 22 = some (Value.slice none 0 0) := by kernel_rfl
@[simp] theorem ft_elZ_22 : elZ Try.prog 22 = some (2, [C.v (Value.string ⟨#[]⟩), C.v (Value.int IntKind.i64 (0))]) := by kernel_rfl
@[simp] theorem ft_slT_22 : slT Try.prog 22 = some (2, 24) := by kernel_rfl
@[simp] theorem ft_apT_22 : apT Try.prog 22 22 = some (2, 24) := by kernel_rfl
@[simp ↓] theorem ft_vmk_22 (l c : S) (y : Nat) (st : St) (K : St → Prop) : vmk Try.prog 22 l c y st K = force (tick (sint l)) fun l => force (tick (sint c)) fun c => vmkZ (some (2, [C.v (Value.string ⟨#[]⟩), C.v (Value.int IntKind.i64 (0))])) (some (2, 24)) l c y st K := vmk_iff st K 22 l c y ft_elZ_22 ft_slT_22
@[simp] theorem ft_und_22 : (Try.prog.underlying 22).isSome = true := by kernel_rfl
@[simp] theorem ft_tySz_23 : tySz Try.prog 23 = some (false, 1) := by kernel_rfl
@[simp] theorem ft_esz_23 : esz Try.prog 23 = some 1 := by kernel_rfl
@[simp] theorem ft_dfl_23 : dflC Try.prog 23 = .sl true [] := by kernel_rfl
@[simp] theorem ft_isSl_23 : isSl Try.prog 23 = true := by kernel_rfl
@[simp] theorem ft_zeroOf_23 : zeroOf Try.prog 23 = some (Value.slice none 0 0) := by kernel_rfl
@[simp] theorem ft_elZ_23 : elZ Try.prog 23 = some (1, [C.v (Value.string ⟨#[]⟩)]) := by kernel_rfl
@[simp] theorem ft_slT_23 : slT Try.prog 23 = some (1, 16) := by kernel_rfl
@[simp] theorem ft_apT_23 : apT Try.prog 23 23 = some (1, 16) := by kernel_rfl
@[simp ↓] theorem ft_vmk_23 (l c : S) (y : Nat) (st : St) (K : St → Prop) : vmk Try.prog 23 l c y st K = force (tick (sint l)) fun l => force (tick (sint c)) fun c => vmkZ (some (1, [C.v (Value.string ⟨#[]⟩)])) (some (1, 16)) l c y st K := vmk_iff st K 23 l c y ft_elZ_23 ft_slT_23
@[simp] theorem ft_und_23 : (Try.prog.underlying 23).isSome = true := by kernel_rfl
@[simp] theorem ft_tySz_24 : tySz Try.prog 24 = some (true, 5) := by kernel_rfl
@[simp] theorem ft_dfl_24 : dflC Try.prog 24 = .v (.int .i64 0) := by kernel_rfl
@[simp] theorem ft_zeroOf_24 : zeroOf Try.prog 24 = some (Value.agg [Value.int IntKind.i64 (0), Value.string ⟨#[]⟩, Value.slice none 0 0, Value.slice none 0 0, Value.bool false].toArray) := by kernel_rfl
@[simp] theorem ft_plOf_24 : plOf Try.prog 24 = some (Sum.inl [(0, 1), (1, 1), (2, 1), (3, 1), (4, 1)]) := by kernel_rfl
@[simp] theorem ft_und_24 : (Try.prog.underlying 24).isSome = true := by kernel_rfl
@[simp] theorem ft_fldOf_24_0 : fldOf Try.prog 24 0 = some (0, false, 1) := by kernel_rfl
@[simp] theorem ft_fldOf_24_1 : fldOf Try.prog 24 1 = some (1, false, 1) := by kernel_rfl
@[simp] theorem ft_fldOf_24_2 : fldOf Try.prog 24 2 = some (2, false, 1) := by kernel_rfl
@[simp] theorem ft_fldOf_24_3 : fldOf Try.prog 24 3 = some (3, false, 1) := by kernel_rfl
@[simp] theorem ft_fldOf_24_4 : fldOf Try.prog 24 4 = some (4, false, 1) := by kernel_rfl
@[simp] theorem ft_tySz_25 : tySz Try.prog 25 = some (true, 5) := by kernel_rfl
@[simp] theorem ft_dfl_25 : dflC Try.prog 25 = .v (.int .i64 0) := by kernel_rfl
@[simp] theorem ft_zeroOf_25 : zeroOf Try.prog 25 = some (Value.agg [Value.int IntKind.i64 (0), Value.string ⟨#[]⟩, Value.slice none 0 0, Value.slice none 0 0, Value.bool false].toArray) := by kernel_rfl
@[simp] theorem ft_plOf_25 : plOf Try.prog 25 = some (Sum.inl [(0, 1), (1, 1), (2, 1), (3, 1), (4, 1)]) := by kernel_rfl
@[simp] theorem ft_und_25 : (Try.prog.underlying 25).isSome = true := by kernel_rfl
@[simp] theorem ft_fldOf_25_0 : fldOf Try.prog 25 0 = some (0, false, 1) := by kernel_rfl
@[simp] theorem ft_fldOf_25_1 : fldOf Try.prog 25 1 = some (1, false, 1) := by kernel_rfl
@[simp] theorem ft_fldOf_25_2 : fldOf Try.prog 25 2 = some (2, false, 1) := by kernel_rfl
@[simp] theorem ft_fldOf_25_3 : fldOf Try.prog 25 3 = some (3, false, 1) := by kernel_rfl
@[simp] theorem ft_fldOf_25_4 : fldOf Try.prog 25 4 = some (4, false, 1) := by kernel_rfl
@[simp] theorem ft_tySz_26 : tySz Try.prog 26 = some (false, 1) := by kernel_rfl
@[simp] theorem ft_dfl_26 : dflC Try.prog 26 = .v (.int .i64 0) := by kernel_rfl
@[simp] theorem ft_zeroOf_26 : zeroOf Try.prog 26 = some Value.nilFunc := by kernel_rfl
@[simp] theorem ft_und_26 : (Try.prog.underlying 26).isSome = true := by kernel_rfl
@[simp] theorem ft_tySz_27 : tySz Try.prog 27 = some (false, 1) := by kernel_rfl
@[simp] theorem ft_dfl_27 : dflC Try.prog 27 = .v (.int .i64 0) := by kernel_rfl
@[simp] theorem ft_intOfTy_27 : intOfTy Try.prog 27 = some IntKind.i64 := by kernel_rfl
@[simp] theorem ft_zeroOf_27 : zeroOf Try.prog 27 = some (Value.int IntKind.i64 (0)) := by kernel_rfl
@[simp] theorem ft_und_27 : (Try.prog.underlying 27).isSome = true := by kernel_rfl
@[simp] theorem ft_tySz_28 : tySz Try.prog 28 = some (false, 1) := by kernel_rfl
@[simp] theorem ft_dfl_28 : dflC Try.prog 28 = .v (.int .i64 0) := by kernel_rfl
@[simp] theorem ft_zeroOf_28 : zeroOf Try.prog 28 = some (Value.tuple [Value.agg [Value.int IntKind.i64 (0), Value.string ⟨#[]⟩, Value.slice none 0 0, Value.slice none 0 0, Value.bool false].toArray, Value.int IntKind.i64 (0)].toArray) := by kernel_rfl
@[simp] theorem ft_und_28 : (Try.prog.underlying 28).isSome = true := by kernel_rfl
@[simp] theorem ft_tySz_29 : tySz Try.prog 29 = some (false, 1) := by kernel_rfl
@[simp] theorem ft_dfl_29 : dflC Try.prog 29 = .v (.int .i64 0) := by kernel_rfl
@[simp] theorem ft_zeroOf_29 : zeroOf Try.prog 29 = some Value.nilFunc := by kernel_rfl
@[simp] theorem ft_und_29 : (Try.prog.underlying 29).isSome = true := by kernel_rfl
@[simp] theorem ft_tySz_30 : tySz Try.prog 30 = some (false, 1) := by kernel_rfl
@[simp] theorem ft_esz_30 : esz Try.prog 30 = some 3 := by kernel_rfl
@[simp] theorem ft_dfl_30 : dflC Try.prog 30 = .sl true [] := by kernel_rfl
@[simp] theorem ft_isSl_30 : isSl Try.prog 30 = true := by kernel_rfl
@[simp] theorem ft_zeroOf_30 : zeroOf Try.prog 30 = some (Value.slice none 0 0) := by kernel_rfl
@[simp] theorem ft_elZ_30 : elZ Try.prog 30 = some (3, [C.v (Value.int IntKind.i64 (0)), C.v (Value.int IntKind.i64 (0)), C.v (Value.string ⟨#[]⟩)]) := by kernel_rfl
@[simp] theorem ft_slT_30 : slT Try.prog 30 = some (3, 32) := by kernel_rfl
@[simp] theorem ft_apT_30 : apT Try.prog 30 30 = some (3, 32) := by kernel_rfl
@[simp ↓] theorem ft_vmk_30 (l c : S) (y : Nat) (st : St) (K : St → Prop) : vmk Try.prog 30 l c y st K = force (tick (sint l)) fun l => force (tick (sint c)) fun c => vmkZ (some (3, [C.v (Value.int IntKind.i64 (0)), C.v (Value.int IntKind.i64 (0)), C.v (Value.string ⟨#[]⟩)])) (some (3, 32)) l c y st K := vmk_iff st K 30 l c y ft_elZ_30 ft_slT_30
@[simp] theorem ft_und_30 : (Try.prog.underlying 30).isSome = true := by kernel_rfl
@[simp] theorem ft_tySz_31 : tySz Try.prog 31 = some (false, 1) := by kernel_rfl
@[simp] theorem ft_dfl_31 : dflC Try.prog 31 = .v (.int .i64 0) := by kernel_rfl
@[simp] theorem ft_zeroOf_31 : zeroOf Try.prog 31 = some Value.nilFunc := by kernel_rfl
@[simp] theorem ft_und_31 : (Try.prog.underlying 31).isSome = true := by kernel_rfl
@[simp] theorem ft_tySz_32 : tySz Try.prog 32 = some (false, 1) := by kernel_rfl
@[simp] theorem ft_dfl_32 : dflC Try.prog 32 = .v (.int .i64 0) := by kernel_rfl
@[simp] theorem ft_zeroOf_32 : zeroOf Try.prog 32 = some Value.nilFunc := by kernel_rfl
@[simp] theorem ft_und_32 : (Try.prog.underlying 32).isSome = true := by kernel_rfl
@[simp] theorem ft_tySz_33 : tySz Try.prog 33 = some (false, 1) := by kernel_rfl
@[simp] theorem ft_dfl_33 : dflC Try.prog 33 = .v (.int .i64 0) := by kernel_rfl
@[simp] theorem ft_zeroOf_33 : zeroOf Try.prog 33 = some Value.nilFunc := by kernel_rfl
@[simp] theorem ft_und_33 : (Try.prog.underlying 33).isSome = true := by kernel_rfl
@[simp] theorem ft_tySz_34 : tySz Try.prog 34 = some (true, 5) := by kernel_rfl
@[simp] theorem ft_dfl_34 : dflC Try.prog 34 = .v (.int .i64 0) := by kernel_rfl
@[simp] theorem ft_zeroOf_34 : zeroOf Try.prog 34 = some (Value.agg [Value.int IntKind.i64 (0), Value.string ⟨#[]⟩, Value.slice none 0 0, Value.slice none 0 0, Value.bool false].toArray) := by kernel_rfl
@[simp] theorem ft_plOf_34 : plOf Try.prog 34 = some (Sum.inl [(0, 1), (1, 1), (2, 1), (3, 1), (4, 1)]) := by kernel_rfl
@[simp] theorem ft_und_34 : (Try.prog.underlying 34).isSome = true := by kernel_rfl
@[simp] theorem ft_fldOf_34_0 : fldOf Try.prog 34 0 = some (0, false, 1) := by kernel_rfl
@[simp] theorem ft_fldOf_34_1 : fldOf Try.prog 34 1 = some (1, false, 1) := by kernel_rfl
@[simp] theorem ft_fldOf_34_2 : fldOf Try.prog 34 2 = some (2, false, 1) := by kernel_rfl
@[simp] theorem ft_fldOf_34_3 : fldOf Try.prog 34 3 = some (3, false, 1) := by kernel_rfl
@[simp] theorem ft_fldOf_34_4 : fldOf Try.prog 34 4 = some (4, false, 1) := by kernel_rfl
@[simp] theorem ft_tySz_35 : tySz Try.prog 35 = some (false, 1) := by kernel_rfl
@[simp] theorem ft_dfl_35 : dflC Try.prog 35 = .v (.int .i64 0) := by kernel_rfl
@[simp] theorem ft_zeroOf_35 : zeroOf Try.prog 35 = some Value.nilFunc := by kernel_rfl
@[simp] theorem ft_und_35 : (Try.prog.underlying 35).isSome = true := by kernel_rfl
@[simp] theorem ft_tySz_36 : tySz Try.prog 36 = some (false, 1) := by kernel_rfl
@[simp] theorem ft_dfl_36 : dflC Try.prog 36 = .v (.int .i64 0) := by kernel_rfl
@[simp] theorem ft_zeroOf_36 : zeroOf Try.prog 36 = some Value.nilFunc := by kernel_rfl
@[simp] theorem ft_und_36 : (Try.prog.underlying 36).isSome = true := by kernel_rfl
@[simp] theorem ft_tySz_37 : tySz Try.prog 37 = some (false, 1) := by kernel_rfl
@[simp] theorem ft_dfl_37 : dflC Try.prog 37 = .v (.int .i64 0) := by kernel_rfl
@[simp] theorem ft_zeroOf_37 : zeroOf Try.prog 37 = some Value.nilFunc := by kernel_rfl
@[simp] theorem ft_und_37 : (Try.prog.underlying 37).isSome = true := by kernel_rfl
@[simp] theorem ft_tySz_38 : tySz Try.prog 38 = some (false, 1) := by kernel_rfl
@[simp] theorem ft_dfl_38 : dflC Try.prog 38 = .v (.int .i64 0) := by kernel_rfl
@[simp] theorem ft_zeroOf_38 : zeroOf Try.prog 38 = some Value.nilFunc := by kernel_rfl
@[simp] theorem ft_und_38 : (Try.prog.underlying 38).isSome = true := by kernel_rfl
@[simp] theorem ft_tySz_39 : tySz Try.prog 39 = some (false, 1) := by kernel_rfl
@[simp] theorem ft_dfl_39 : dflC Try.prog 39 = .v (.int .i64 0) := by kernel_rfl
@[simp] theorem ft_zeroOf_39 : zeroOf Try.prog 39 = some Value.nilFunc := by kernel_rfl
@[simp] theorem ft_und_39 : (Try.prog.underlying 39).isSome = true := by kernel_rfl
@[simp] theorem ft_tySz_40 : tySz Try.prog 40 = some (false, 1) := by kernel_rfl
@[simp] theorem ft_esz_40 : esz Try.prog 40 = some 1 := by kernel_rfl
@[simp] theorem ft_dfl_40 : dflC Try.prog 40 = .sl true [] := by kernel_rfl
@[simp] theorem ft_isSl_40 : isSl Try.prog 40 = true := by kernel_rfl
@[simp] theorem ft_zeroOf_40 : zeroOf Try.prog 40 = some (Value.slice none 0 0) := by kernel_rfl
@[simp] theorem ft_elZ_40 : elZ Try.prog 40 = some (1, [C.v (Value.int IntKind.i64 (0))]) := by kernel_rfl
@[simp] theorem ft_slT_40 : slT Try.prog 40 = some (1, 8) := by kernel_rfl
@[simp] theorem ft_apT_40 : apT Try.prog 40 40 = some (1, 8) := by kernel_rfl
@[simp ↓] theorem ft_vmk_40 (l c : S) (y : Nat) (st : St) (K : St → Prop) : vmk Try.prog 40 l c y st K = force (tick (sint l)) fun l => force (tick (sint c)) fun c => vmkZ (some (1, [C.v (Value.int IntKind.i64 (0))])) (some (1, 8)) l c y st K := vmk_iff st K 40 l c y ft_elZ_40 ft_slT_40
@[simp] theorem ft_und_40 : (Try.prog.underlying 40).isSome = true := by kernel_rfl
@[simp] theorem ft_tySz_41 : tySz Try.prog 41 = some (false, 1) := by kernel_rfl
@[simp] theorem ft_dfl_41 : dflC Try.prog 41 = .v (.int .i64 0) := by kernel_rfl
@[simp] theorem ft_zeroOf_41 : zeroOf Try.prog 41 = some Value.nilFunc := by kernel_rfl
@[simp] theorem ft_und_41 : (Try.prog.underlying 41).isSome = true := by kernel_rfl
@[simp] theorem ft_tySz_42 : tySz Try.prog 42 = some (false, 1) := by kernel_rfl
@[simp] theorem ft_dfl_42 : dflC Try.prog 42 = .v (.int .i64 0) := by kernel_rfl
@[simp] theorem ft_zeroOf_42 : zeroOf Try.prog 42 = some Value.nilFunc := by kernel_rfl
@[simp] theorem ft_und_42 : (Try.prog.underlying 42).isSome = true := by kernel_rfl
@[simp] theorem ft_tySz_43 : tySz Try.prog 43 = some (true, 3) := by kernel_rfl
@[simp] theorem ft_dfl_43 : dflC Try.prog 43 = .v (.int .i64 0) := by kernel_rfl
@[simp] theorem ft_zeroOf_43 : zeroOf Try.prog 43 = some (Value.agg [Value.int IntKind.i64 (0), Value.int IntKind.i64 (0), Value.string ⟨#[]⟩].toArray) := by kernel_rfl
@[simp] theorem ft_plOf_43 : plOf Try.prog 43 = some (Sum.inl [(0, 1), (1, 1), (2, 1)]) := by kernel_rfl
@[simp] theorem ft_eqT_43 : eqT Try.prog 43 = some [FK.i, FK.i, FK.s] := by kernel_rfl
@[simp] theorem ft_und_43 : (Try.prog.underlying 43).isSome = true := by kernel_rfl
@[simp] theorem ft_fldOf_43_0 : fldOf Try.prog 43 0 = some (0, false, 1) := by kernel_rfl
@[simp] theorem ft_fldOf_43_1 : fldOf Try.prog 43 1 = some (1, false, 1) := by kernel_rfl
@[simp] theorem ft_fldOf_43_2 : fldOf Try.prog 43 2 = some (2, false, 1) := by kernel_rfl
@[simp] theorem ft_tySz_44 : tySz Try.prog 44 = some (true, 3) := by kernel_rfl
@[simp] theorem ft_dfl_44 : dflC Try.prog 44 = .v (.int .i64 0) := by kernel_rfl
@[simp] theorem ft_zeroOf_44 : zeroOf Try.prog 44 = some (Value.agg [Value.int IntKind.i64 (0), Value.int IntKind.i64 (0), Value.string ⟨#[]⟩].toArray) := by kernel_rfl
@[simp] theorem ft_plOf_44 : plOf Try.prog 44 = some (Sum.inl [(0, 1), (1, 1), (2, 1)]) := by kernel_rfl
@[simp] theorem ft_eqT_44 : eqT Try.prog 44 = some [FK.i, FK.i, FK.s] := by kernel_rfl
@[simp] theorem ft_und_44 : (Try.prog.underlying 44).isSome = true := by kernel_rfl
@[simp] theorem ft_fldOf_44_0 : fldOf Try.prog 44 0 = some (0, false, 1) := by kernel_rfl
@[simp] theorem ft_fldOf_44_1 : fldOf Try.prog 44 1 = some (1, false, 1) := by kernel_rfl
@[simp] theorem ft_fldOf_44_2 : fldOf Try.prog 44 2 = some (2, false, 1) := by kernel_rfl
@[simp] theorem ft_tySz_45 : tySz Try.prog 45 = some (false, 1) := by kernel_rfl
@[simp] theorem ft_dfl_45 : dflC Try.prog 45 = .v (.int .i64 0) := by kernel_rfl
@[simp] theorem ft_zeroOf_45 : zeroOf Try.prog 45 = some (Value.tuple [Value.agg [Value.int IntKind.i64 (0), Value.string ⟨#[]⟩, Value.slice none 0 0, Value.slice none 0 0, Value.bool false].toArray, Value.int IntKind.i64 (0)].toArray) := by kernel_rfl
@[simp] theorem ft_und_45 : (Try.prog.underlying 45).isSome = true := by kernel_rfl
@[simp] theorem ft_tySz_46 : tySz Try.prog 46 = some (false, 1) := by kernel_rfl
@[simp] theorem ft_dfl_46 : dflC Try.prog 46 = .v (.int .i64 0) := by kernel_rfl
@[simp] theorem ft_zeroOf_46 : zeroOf Try.prog 46 = some Value.nilFunc := by kernel_rfl
@[simp] theorem ft_und_46 : (Try.prog.underlying 46).isSome = true := by kernel_rfl
@[simp] theorem ft_tySz_47 : tySz Try.prog 47 = some (false, 1) := by kernel_rfl
@[simp] theorem ft_dfl_47 : dflC Try.prog 47 = .v (.int .i64 0) := by kernel_rfl
@[simp] theorem ft_zeroOf_47 : zeroOf Try.prog 47 = some Value.nilFunc := by kernel_rfl
@[simp] theorem ft_und_47 : (Try.prog.underlying 47).isSome = true := by kernel_rfl
@[simp] theorem ft_tySz_48 : tySz Try.prog 48 = some (false, 1) := by kernel_rfl
@[simp] theorem ft_dfl_48 : dflC Try.prog 48 = .v (.int .i64 0) := by kernel_rfl
@[simp] theorem ft_isPt_48 : isPt Try.prog 48 = true := by kernel_rfl
@[simp] theorem ft_zeroOf_48 : zeroOf Try.prog 48 = some (Value.pointer none) := by kernel_rfl
@[simp] theorem ft_und_48 : (Try.prog.underlying 48).isSome = true := by kernel_rfl
@[simp] theorem ft_tySz_49 : tySz Try.prog 49 = some (false, 1) := by kernel_rfl
@[simp] theorem ft_dfl_49 : dflC Try.prog 49 = .v (.int .i64 0) := by kernel_rfl
@[simp] theorem ft_zeroOf_49 : zeroOf Try.prog 49 = some Value.nilFunc := by kernel_rfl
@[simp] theorem ft_und_49 : (Try.prog.underlying 49).isSome = true := by kernel_rfl
@[simp] theorem ft_tySz_50 : tySz Try.prog 50 = some (false, 1) := by kernel_rfl
@[simp] theorem ft_dfl_50 : dflC Try.prog 50 = .v (.int .i64 0) := by kernel_rfl
@[simp] theorem ft_zeroOf_50 : zeroOf Try.prog 50 = some Value.nilFunc := by kernel_rfl
@[simp] theorem ft_und_50 : (Try.prog.underlying 50).isSome = true := by kernel_rfl
@[simp] theorem ft_tySz_51 : tySz Try.prog 51 = some (false, 1) := by kernel_rfl
@[simp] theorem ft_dfl_51 : dflC Try.prog 51 = .v (.int .i64 0) := by kernel_rfl
@[simp] theorem ft_zeroOf_51 : zeroOf Try.prog 51 = some (Value.tuple [Value.int IntKind.i64 (0), Value.int IntKind.i64 (0)].toArray) := by kernel_rfl
@[simp] theorem ft_und_51 : (Try.prog.underlying 51).isSome = true := by kernel_rfl
@[simp] theorem ft_tySz_52 : tySz Try.prog 52 = some (false, 1) := by kernel_rfl
@[simp] theorem ft_dfl_52 : dflC Try.prog 52 = .v (.int .i64 0) := by kernel_rfl
@[simp] theorem ft_zeroOf_52 : zeroOf Try.prog 52 = some Value.nilFunc := by kernel_rfl
@[simp] theorem ft_und_52 : (Try.prog.underlying 52).isSome = true := by kernel_rfl
@[simp] theorem ft_tySz_53 : tySz Try.prog 53 = some (true, 2) := by kernel_rfl
@[simp] theorem ft_dfl_53 : dflC Try.prog 53 = .v (.int .i64 0) := by kernel_rfl
@[simp] theorem ft_zeroOf_53 : zeroOf Try.prog 53 = some (Value.agg [Value.string ⟨#[]⟩, Value.int IntKind.i64 (0)].toArray) := by kernel_rfl
@[simp] theorem ft_plOf_53 : plOf Try.prog 53 = some (Sum.inl [(0, 1), (1, 1)]) := by kernel_rfl
@[simp] theorem ft_eqT_53 : eqT Try.prog 53 = some [FK.s, FK.i] := by kernel_rfl
@[simp] theorem ft_und_53 : (Try.prog.underlying 53).isSome = true := by kernel_rfl
@[simp] theorem ft_fldOf_53_0 : fldOf Try.prog 53 0 = some (0, false, 1) := by kernel_rfl
@[simp] theorem ft_fldOf_53_1 : fldOf Try.prog 53 1 = some (1, false, 1) := by kernel_rfl
@[simp] theorem ft_tySz_54 : tySz Try.prog 54 = some (true, 2) := by kernel_rfl
@[simp] theorem ft_dfl_54 : dflC Try.prog 54 = .v (.int .i64 0) := by kernel_rfl
@[simp] theorem ft_zeroOf_54 : zeroOf Try.prog 54 = some (Value.agg [Value.string ⟨#[]⟩, Value.int IntKind.i64 (0)].toArray) := by kernel_rfl
@[simp] theorem ft_plOf_54 : plOf Try.prog 54 = some (Sum.inl [(0, 1), (1, 1)]) := by kernel_rfl
@[simp] theorem ft_eqT_54 : eqT Try.prog 54 = some [FK.s, FK.i] := by kernel_rfl
@[simp] theorem ft_und_54 : (Try.prog.underlying 54).isSome = true := by kernel_rfl
@[simp] theorem ft_fldOf_54_0 : fldOf Try.prog 54 0 = some (0, false, 1) := by kernel_rfl
@[simp] theorem ft_fldOf_54_1 : fldOf Try.prog 54 1 = some (1, false, 1) := by kernel_rfl
@[simp] theorem ft_tySz_55 : tySz Try.prog 55 = some (false, 1) := by kernel_rfl
@[simp] theorem ft_dfl_55 : dflC Try.prog 55 = .v (.int .i64 0) := by kernel_rfl
@[simp] theorem ft_zeroOf_55 : zeroOf Try.prog 55 = some Value.nilFunc := by kernel_rfl
@[simp] theorem ft_und_55 : (Try.prog.underlying 55).isSome = true := by kernel_rfl
@[simp] theorem ft_tySz_56 : tySz Try.prog 56 = some (false, 1) := by kernel_rfl
@[simp] theorem ft_esz_56 : esz Try.prog 56 = some 5 := by kernel_rfl
@[simp] theorem ft_dfl_56 : dflC Try.prog 56 = .sl true [] := by kernel_rfl
@[simp] theorem ft_isSl_56 : isSl Try.prog 56 = true := by kernel_rfl
@[simp] theorem ft_zeroOf_56 : zeroOf Try.prog 56 = some (Value.slice none 0 0) := by kernel_rfl
@[simp] theorem ft_elZ_56 : elZ Try.prog 56 = some (5, [C.v (Value.int IntKind.i64 (0)), C.v (Value.string ⟨#[]⟩), C.sl true [], C.sl true [], C.v (Value.bool false)]) := by kernel_rfl
@[simp] theorem ft_slT_56 : slT Try.prog 56 = some (5, 80) := by kernel_rfl
@[simp] theorem ft_apT_56 : apT Try.prog 56 56 = some (5, 80) := by kernel_rfl
@[simp ↓] theorem ft_vmk_56 (l c : S) (y : Nat) (st : St) (K : St → Prop) : vmk Try.prog 56 l c y st K = force (tick (sint l)) fun l => force (tick (sint c)) fun c => vmkZ (some (5, [C.v (Value.int IntKind.i64 (0)), C.v (Value.string ⟨#[]⟩), C.sl true [], C.sl true [], C.v (Value.bool false)])) (some (5, 80)) l c y st K := vmk_iff st K 56 l c y ft_elZ_56 ft_slT_56
@[simp] theorem ft_und_56 : (Try.prog.underlying 56).isSome = true := by kernel_rfl
@[simp] theorem ft_tySz_57 : tySz Try.prog 57 = some (false, 1) := by kernel_rfl
@[simp] theorem ft_dfl_57 : dflC Try.prog 57 = .v (.int .i64 0) := by kernel_rfl
@[simp] theorem ft_zeroOf_57 : zeroOf Try.prog 57 = some Value.nilFunc := by kernel_rfl
@[simp] theorem ft_und_57 : (Try.prog.underlying 57).isSome = true := by kernel_rfl
@[simp] theorem ft_tySz_58 : tySz Try.prog 58 = some (false, 1) := by kernel_rfl
@[simp] theorem ft_dfl_58 : dflC Try.prog 58 = .v (.int .i64 0) := by kernel_rfl
@[simp] theorem ft_zeroOf_58 : zeroOf Try.prog 58 = some (Value.map none) := by kernel_rfl
@[simp] theorem ft_mpT_58 : mpT Try.prog 58 = some (9, TypeDesc.string, 4) := by kernel_rfl
@[simp] theorem ft_und_58 : (Try.prog.underlying 58).isSome = true := by kernel_rfl
@[simp] theorem ft_tySz_59 : tySz Try.prog 59 = some (false, 1) := by kernel_rfl
@[simp] theorem ft_dfl_59 : dflC Try.prog 59 = .v (.int .i64 0) := by kernel_rfl
@[simp] theorem ft_zeroOf_59 : zeroOf Try.prog 59 = some Value.nilFunc := by kernel_rfl
@[simp] theorem ft_und_59 : (Try.prog.underlying 59).isSome = true := by kernel_rfl
@[simp] theorem ft_tySz_60 : tySz Try.prog 60 = some (false, 1) := by kernel_rfl
@[simp] theorem ft_esz_60 : esz Try.prog 60 = some 6 := by kernel_rfl
@[simp] theorem ft_dfl_60 : dflC Try.prog 60 = .sl true [] := by kernel_rfl
@[simp] theorem ft_isSl_60 : isSl Try.prog 60 = true := by kernel_rfl
@[simp] theorem ft_zeroOf_60 : zeroOf Try.prog 60 = some (Value.slice none 0 0) := by kernel_rfl
@[simp] theorem ft_elZ_60 : elZ Try.prog 60 = some (6, [C.v (Value.int IntKind.i64 (0)), C.v (Value.int IntKind.i64 (0)), C.v (Value.string ⟨#[]⟩), C.sl true [], C.sl true [], C.v (Value.bool false)]) := by kernel_rfl
@[simp] theorem ft_slT_60 : slT Try.prog 60 = some (6, 88) := by kernel_rfl
@[simp] theorem ft_apT_60 : apT Try.prog 60 60 = some (6, 88) := by kernel_rfl
@[simp ↓] theorem ft_vmk_60 (l c : S) (y : Nat) (st : St) (K : St → Prop) : vmk Try.prog 60 l c y st K = force (tick (sint l)) fun l => force (tick (sint c)) fun c => vmkZ (some (6, [C.v (Value.int IntKind.i64 (0)), C.v (Value.int IntKind.i64 (0)), C.v (Value.string ⟨#[]⟩), C.sl true [], C.sl true [], C.v (Value.bool false)])) (some (6, 88)) l c y st K := vmk_iff st K 60 l c y ft_elZ_60 ft_slT_60
@[simp] theorem ft_und_60 : (Try.prog.underlying 60).isSome = true := by kernel_rfl
@[simp] theorem ft_tySz_61 : tySz Try.prog 61 = some (false, 1) := by kernel_rfl
@[simp] theorem ft_esz_61 : esz Try.prog 61 = some 5 := by kernel_rfl
@[simp] theorem ft_dfl_61 : dflC Try.prog 61 = .sl true [] := by kernel_rfl
@[simp] theorem ft_isSl_61 : isSl Try.prog 61 = true := by kernel_rfl
@[simp] theorem ft_zeroOf_61 : zeroOf Try.prog 61 = some (Value.slice none 0 0) := by kernel_rfl
@[simp] theorem ft_elZ_61 : elZ Try.prog 61 = some (5, [C.v (Value.int IntKind.i64 (0)), C.v (Value.string ⟨#[]⟩), C.sl true [], C.sl true [], C.v (Value.bool false)]) := by kernel_rfl
@[simp] theorem ft_slT_61 : slT Try.prog 61 = some (5, 80) := by kernel_rfl
@[simp] theorem ft_apT_61 : apT Try.prog 61 61 = some (5, 80) := by kernel_rfl
@[simp ↓] theorem ft_vmk_61 (l c : S) (y : Nat) (st : St) (K : St → Prop) : vmk Try.prog 61 l c y st K = force (tick (sint l)) fun l => force (tick (sint c)) fun c => vmkZ (some (5, [C.v (Value.int IntKind.i64 (0)), C.v (Value.string ⟨#[]⟩), C.sl true [], C.sl true [], C.v (Value.bool false)])) (some (5, 80)) l c y st K := vmk_iff st K 61 l c y ft_elZ_61 ft_slT_61
@[simp] theorem ft_und_61 : (Try.prog.underlying 61).isSome = true := by kernel_rfl
@[simp] theorem ft_tySz_62 : tySz Try.prog 62 = some (true, 6) := by kernel_rfl
@[simp] theorem ft_dfl_62 : dflC Try.prog 62 = .v (.int .i64 0) := by kernel_rfl
@[simp] theorem ft_zeroOf_62 : zeroOf Try.prog 62 = some (Value.agg [Value.int IntKind.i64 (0), Value.int IntKind.i64 (0), Value.string ⟨#[]⟩, Value.slice none 0 0, Value.slice none 0 0, Value.bool false].toArray) := by kernel_rfl
@[simp] theorem ft_plOf_62 : plOf Try.prog 62 = some (Sum.inl [(0, 1), (1, 5)]) := by kernel_rfl
@[simp] theorem ft_und_62 : (Try.prog.underlying 62).isSome = true := by kernel_rfl
@[simp] theorem ft_fldOf_62_0 : fldOf Try.prog 62 0 = some (0, false, 1) := by kernel_rfl
@[simp] theorem ft_fldOf_62_1 : fldOf Try.prog 62 1 = some (1, true, 5) := by kernel_rfl
@[simp] theorem ft_tySz_63 : tySz Try.prog 63 = some (true, 6) := by kernel_rfl
@[simp] theorem ft_dfl_63 : dflC Try.prog 63 = .v (.int .i64 0) := by kernel_rfl
@[simp] theorem ft_zeroOf_63 : zeroOf Try.prog 63 = some (Value.agg [Value.int IntKind.i64 (0), Value.int IntKind.i64 (0), Value.string ⟨#[]⟩, Value.slice none 0 0, Value.slice none 0 0, Value.bool false].toArray) := by kernel_rfl
@[simp] theorem ft_plOf_63 : plOf Try.prog 63 = some (Sum.inl [(0, 1), (1, 5)]) := by kernel_rfl
@[simp] theorem ft_und_63 : (Try.prog.underlying 63).isSome = true := by kernel_rfl
@[simp] theorem ft_fldOf_63_0 : fldOf Try.prog 63 0 = some (0, false, 1) := by kernel_rfl
@[simp] theorem ft_fldOf_63_1 : fldOf Try.prog 63 1 = some (1, true, 5) := by kernel_rfl
@[simp] theorem ft_tySz_64 : tySz Try.prog 64 = some (false, 1) := by kernel_rfl
@[simp] theorem ft_dfl_64 : dflC Try.prog 64 = .v (.int .i64 0) := by kernel_rfl
@[simp] theorem ft_zeroOf_64 : zeroOf Try.prog 64 = some (Value.tuple [Value.slice none 0 0, Value.bool false].toArray) := by kernel_rfl
@[simp] theorem ft_und_64 : (Try.prog.underlying 64).isSome = true := by kernel_rfl
@[simp] theorem ft_tySz_65 : tySz Try.prog 65 = some (false, 1) := by kernel_rfl
@[simp] theorem ft_dfl_65 : dflC Try.prog 65 = .v (.int .i64 0) := by kernel_rfl
@[simp] theorem ft_zeroOf_65 : zeroOf Try.prog 65 = some Value.nilFunc := by kernel_rfl
@[simp] theorem ft_und_65 : (Try.prog.underlying 65).isSome = true := by kernel_rfl
@[simp] theorem ft_tySz_66 : tySz Try.prog 66 = some (false, 1) := by kernel_rfl
@[simp] theorem ft_dfl_66 : dflC Try.prog 66 = .v (.int .i64 0) := by kernel_rfl
@[simp] theorem ft_zeroOf_66 : zeroOf Try.prog 66 = some Value.nilFunc := by kernel_rfl
@[simp] theorem ft_und_66 : (Try.prog.underlying 66).isSome = true := by kernel_rfl
@[simp] theorem ft_tySz_67 : tySz Try.prog 67 = some (false, 1) := by kernel_rfl
@[simp] theorem ft_dfl_67 : dflC Try.prog 67 = .v (.int .i64 0) := by kernel_rfl
@[simp] theorem ft_zeroOf_67 : zeroOf Try.prog 67 = some Value.nilFunc := by kernel_rfl
@[simp] theorem ft_und_67 : (Try.prog.underlying 67).isSome = true := by kernel_rfl
@[simp] theorem ft_tySz_68 : tySz Try.prog 68 = some (false, 1) := by kernel_rfl
@[simp] theorem ft_dfl_68 : dflC Try.prog 68 = .v (.int .i64 0) := by kernel_rfl
@[simp] theorem ft_zeroOf_68 : zeroOf Try.prog 68 = some Value.nilFunc := by kernel_rfl
@[simp] theorem ft_und_68 : (Try.prog.underlying 68).isSome = true := by kernel_rfl
@[simp] theorem ft_tySz_69 : tySz Try.prog 69 = some (false, 1) := by kernel_rfl
@[simp] theorem ft_dfl_69 : dflC Try.prog 69 = .v (.int .i64 0) := by kernel_rfl
@[simp] theorem ft_zeroOf_69 : zeroOf Try.prog 69 = some Value.nilFunc := by kernel_rfl
@[simp] theorem ft_und_69 : (Try.prog.underlying 69).isSome = true := by kernel_rfl
@[simp] theorem ft_tySz_70 : tySz Try.prog 70 = some (false, 1) := by kernel_rfl
@[simp] theorem ft_dfl_70 : dflC Try.prog 70 = .v (.int .i64 0) := by kernel_rfl
@[simp] theorem ft_zeroOf_70 : zeroOf Try.prog 70 = some Value.nilFunc := by kernel_rfl
@[simp] theorem ft_und_70 : (Try.prog.underlying 70).isSome = true := by kernel_rfl
@[simp] theorem ft_tySz_71 : tySz Try.prog 71 = some (false, 1) := by kernel_rfl
@[simp] theorem ft_dfl_71 : dflC Try.prog 71 = .v (.int .i64 0) := by kernel_rfl
@[simp] theorem ft_zeroOf_71 : zeroOf Try.prog 71 = some Value.nilFunc := by kernel_rfl
@[simp] theorem ft_und_71 : (Try.prog.underlying 71).isSome = true := by kernel_rfl
@[simp] theorem ft_tySz_72 : tySz Try.prog 72 = some (false, 1) := by kernel_rfl
@[simp] theorem ft_dfl_72 : dflC Try.prog 72 = .v (.int .i64 0) := by kernel_rfl
@[simp] theorem ft_zeroOf_72 : zeroOf Try.prog 72 = some Value.nilFunc := by kernel_rfl
@[simp] theorem ft_und_72 : (Try.prog.underlying 72).isSome = true := by kernel_rfl
@[simp] theorem ft_tySz_73 : tySz Try.prog 73 = some (false, 1) := by kernel_rfl
@[simp] theorem ft_dfl_73 : dflC Try.prog 73 = .v (.int .i64 0) := by kernel_rfl
@[simp] theorem ft_zeroOf_73 : zeroOf Try.prog 73 = some Value.nilFunc := by kernel_rfl
@[simp] theorem ft_und_73 : (Try.prog.underlying 73).isSome = true := by kernel_rfl
@[simp] theorem ft_tySz_74 : tySz Try.prog 74 = some (false, 1) := by kernel_rfl
@[simp] theorem ft_dfl_74 : dflC Try.prog 74 = .v (.int .i64 0) := by kernel_rfl
@[simp] theorem ft_zeroOf_74 : zeroOf Try.prog 74 = some Value.nilFunc := by kernel_rfl
@[simp] theorem ft_und_74 : (Try.prog.underlying 74).isSome = true := by kernel_rfl
@[simp] theorem ft_tySz_75 : tySz Try.prog 75 = some (false, 1) := by kernel_rfl
@[simp] theorem ft_dfl_75 : dflC Try.prog 75 = .v (.int .i64 0) := by kernel_rfl
@[simp] theorem ft_zeroOf_75 : zeroOf Try.prog 75 = some Value.nilFunc := by kernel_rfl
@[simp] theorem ft_und_75 : (Try.prog.underlying 75).isSome = true := by kernel_rfl
@[simp] theorem ft_tySz_76 : tySz Try.prog 76 = some (true, 1) := by kernel_rfl
@[simp] theorem ft_dfl_76 : dflC Try.prog 76 = .v (.int .i64 0) := by kernel_rfl
@[simp] theorem ft_zeroOf_76 : zeroOf Try.prog 76 = some (Value.agg [Value.slice none 0 0].toArray) := by kernel_rfl
@[simp] theorem ft_plOf_76 : plOf Try.prog 76 = some (Sum.inl [(0, 1)]) := by kernel_rfl
@[simp] theorem ft_und_76 : (Try.prog.underlying 76).isSome = true := by kernel_rfl
@[simp] theorem ft_fldOf_76_0 : fldOf Try.prog 76 0 = some (0, false, 1) := by kernel_rfl
@[simp] theorem ft_tySz_77 : tySz Try.prog 77 = some (true, 1) := by kernel_rfl
@[simp] theorem ft_dfl_77 : dflC Try.prog 77 = .v (.int .i64 0) := by kernel_rfl
@[simp] theorem ft_zeroOf_77 : zeroOf Try.prog 77 = some (Value.agg [Value.slice none 0 0].toArray) := by kernel_rfl
@[simp] theorem ft_plOf_77 : plOf Try.prog 77 = some (Sum.inl [(0, 1)]) := by kernel_rfl
@[simp] theorem ft_und_77 : (Try.prog.underlying 77).isSome = true := by kernel_rfl
@[simp] theorem ft_fldOf_77_0 : fldOf Try.prog 77 0 = some (0, false, 1) := by kernel_rfl
@[simp] theorem ft_tySz_78 : tySz Try.prog 78 = some (false, 1) := by kernel_rfl
@[simp] theorem ft_dfl_78 : dflC Try.prog 78 = .v (.int .i64 0) := by kernel_rfl
@[simp] theorem ft_zeroOf_78 : zeroOf Try.prog 78 = some Value.nilFunc := by kernel_rfl
@[simp] theorem ft_und_78 : (Try.prog.underlying 78).isSome = true := by kernel_rfl
@[simp] theorem ft_tySz_79 : tySz Try.prog 79 = some (false, 1) := by kernel_rfl
@[simp] theorem ft_dfl_79 : dflC Try.prog 79 = .v (.int .i64 0) := by kernel_rfl
@[simp] theorem ft_zeroOf_79 : zeroOf Try.prog 79 = some (Value.tuple [Value.slice none 0 0, Value.int IntKind.i64 (0), Value.int IntKind.i64 (0)].toArray) := by kernel_rfl
@[simp] theorem ft_und_79 : (Try.prog.underlying 79).isSome = true := by kernel_rfl
@[simp] theorem ft_tySz_80 : tySz Try.prog 80 = some (false, 1) := by kernel_rfl
@[simp] theorem ft_dfl_80 : dflC Try.prog 80 = .v (.int .i64 0) := by kernel_rfl
@[simp] theorem ft_zeroOf_80 : zeroOf Try.prog 80 = some Value.nilFunc := by kernel_rfl
@[simp] theorem ft_und_80 : (Try.prog.underlying 80).isSome = true := by kernel_rfl
@[simp] theorem ft_tySz_81 : tySz Try.prog 81 = some (false, 1) := by kernel_rfl
@[simp] theorem ft_dfl_81 : dflC Try.prog 81 = .v (.int .i64 0) := by kernel_rfl
@[simp] theorem ft_zeroOf_81 : zeroOf Try.prog 81 = some (Value.tuple [Value.slice none 0 0, Value.int IntKind.i64 (0)].toArray) := by kernel_rfl
@[simp] theorem ft_und_81 : (Try.prog.underlying 81).isSome = true := by kernel_rfl
@[simp] theorem ft_tySz_82 : tySz Try.prog 82 = some (false, 1) := by kernel_rfl
@[simp] theorem ft_dfl_82 : dflC Try.prog 82 = .v (.int .i64 0) := by kernel_rfl
@[simp] theorem ft_zeroOf_82 : zeroOf Try.prog 82 = some Value.nilFunc := by kernel_rfl
@[simp] theorem ft_und_82 : (Try.prog.underlying 82).isSome = true := by kernel_rfl
@[simp] theorem ft_tySz_83 : tySz Try.prog 83 = some (false, 1) := by kernel_rfl
@[simp] theorem ft_dfl_83 : dflC Try.prog 83 = .v (.int .i64 0) := by kernel_rfl
@[simp] theorem ft_zeroOf_83 : zeroOf Try.prog 83 = some Value.nilFunc := by kernel_rfl
@[simp] theorem ft_und_83 : (Try.prog.underlying 83).isSome = true := by kernel_rfl
@[simp] theorem ft_tySz_84 : tySz Try.prog 84 = some (false, 1) := by kernel_rfl
@[simp] theorem ft_dfl_84 : dflC Try.prog 84 = .v (.int .i64 0) := by kernel_rfl
@[simp] theorem ft_isPt_84 : isPt Try.prog 84 = true := by kernel_rfl
@[simp] theorem ft_zeroOf_84 : zeroOf Try.prog 84 = some (Value.pointer none) := by kernel_rfl
@[simp] theorem ft_und_84 : (Try.prog.underlying 84).isSome = true := by kernel_rfl
@[simp] theorem ft_tySz_85 : tySz Try.prog 85 = some (false, 1) := by kernel_rfl
@[simp] theorem ft_dfl_85 : dflC Try.prog 85 = .v (.int .i64 0) := by kernel_rfl
@[simp] theorem ft_zeroOf_85 : zeroOf Try.prog 85 = some Value.nilFunc := by kernel_rfl
@[simp] theorem ft_und_85 : (Try.prog.underlying 85).isSome = true := by kernel_rfl
@[simp] theorem ft_tySz_86 : tySz Try.prog 86 = some (false, 1) := by kernel_rfl
@[simp] theorem ft_dfl_86 : dflC Try.prog 86 = .v (.int .i64 0) := by kernel_rfl
@[simp] theorem ft_zeroOf_86 : zeroOf Try.prog 86 = some Value.nilFunc := by kernel_rfl
@[simp] theorem ft_und_86 : (Try.prog.underlying 86).isSome = true := by kernel_rfl
@[simp] theorem ft_tySz_87 : tySz Try.prog 87 = some (false, 1) := by kernel_rfl
@[simp] theorem ft_dfl_87 : dflC Try.prog 87 = .v (.int .i64 0) := by kernel_rfl
@[simp] theorem ft_zeroOf_87 : zeroOf Try.prog 87 = some Value.nilFunc := by kernel_rfl
@[simp] theorem ft_und_87 : (Try.prog.underlying 87).isSome = true := by kernel_rfl
@[simp] theorem ft_tySz_88 : tySz Try.prog 88 = some (false, 1) := by kernel_rfl
@[simp] theorem ft_dfl_88 : dflC Try.prog 88 = .v (.int .i64 0) := by kernel_rfl
@[simp] theorem ft_zeroOf_88 : zeroOf Try.prog 88 = some Value.nilFunc := by kernel_rfl
@[simp] theorem ft_und_88 : (Try.prog.underlying 88).isSome = true := by kernel_rfl
@[simp] theorem ft_tySz_89 : tySz Try.prog 89 = some (false, 1) := by kernel_rfl
@[simp] theorem ft_dfl_89 : dflC Try.prog 89 = .v (.int .i64 0) := by kernel_rfl
@[simp] theorem ft_zeroOf_89 : zeroOf Try.prog 89 = some Value.nilFunc := by kernel_rfl
@[simp] theorem ft_und_89 : (Try.prog.underlying 89).isSome = true := by kernel_rfl
@[simp] theorem ft_tySz_90 : tySz Try.prog 90 = some (false, 1) := by kernel_rfl
@[simp] theorem ft_dfl_90 : dflC Try.prog 90 = .v (.int .i64 0) := by kernel_rfl
@[simp] theorem ft_zeroOf_90 : zeroOf Try.prog 90 = some Value.nilFunc := by kernel_rfl
@[simp] theorem ft_und_90 : (Try.prog.underlying 90).isSome = true := by kernel_rfl
@[simp] theorem ft_tySz_91 : tySz Try.prog 91 = some (true, 4) := by kernel_rfl
@[simp] theorem ft_dfl_91 : dflC Try.prog 91 = .v (.int .i64 0) := by kernel_rfl
@[simp] theorem ft_zeroOf_91 : zeroOf Try.prog 91 = some (Value.agg [Value.pointer none, Value.pointer none, Value.pointer none, Value.string ⟨#[]⟩].toArray) := by kernel_rfl
@[simp] theorem ft_plOf_91 : plOf Try.prog 91 = some (Sum.inl [(0, 1), (1, 1), (2, 1), (3, 1)]) := by kernel_rfl
@[simp] theorem ft_und_91 : (Try.prog.underlying 91).isSome = true := by kernel_rfl
@[simp] theorem ft_fldOf_91_0 : fldOf Try.prog 91 0 = some (0, false, 1) := by kernel_rfl
@[simp] theorem ft_fldOf_91_1 : fldOf Try.prog 91 1 = some (1, false, 1) := by kernel_rfl
@[simp] theorem ft_fldOf_91_2 : fldOf Try.prog 91 2 = some (2, false, 1) := by kernel_rfl
@[simp] theorem ft_fldOf_91_3 : fldOf Try.prog 91 3 = some (3, false, 1) := by kernel_rfl
@[simp] theorem ft_tySz_92 : tySz Try.prog 92 = some (true, 4) := by kernel_rfl
@[simp] theorem ft_dfl_92 : dflC Try.prog 92 = .v (.int .i64 0) := by kernel_rfl
@[simp] theorem ft_zeroOf_92 : zeroOf Try.prog 92 = some (Value.agg [Value.pointer none, Value.pointer none, Value.pointer none, Value.string ⟨#[]⟩].toArray) := by kernel_rfl
@[simp] theorem ft_plOf_92 : plOf Try.prog 92 = some (Sum.inl [(0, 1), (1, 1), (2, 1), (3, 1)]) := by kernel_rfl
@[simp] theorem ft_und_92 : (Try.prog.underlying 92).isSome = true := by kernel_rfl
@[simp] theorem ft_fldOf_92_0 : fldOf Try.prog 92 0 = some (0, false, 1) := by kernel_rfl
@[simp] theorem ft_fldOf_92_1 : fldOf Try.prog 92 1 = some (1, false, 1) := by kernel_rfl
@[simp] theorem ft_fldOf_92_2 : fldOf Try.prog 92 2 = some (2, false, 1) := by kernel_rfl
@[simp] theorem ft_fldOf_92_3 : fldOf Try.prog 92 3 = some (3, false, 1) := by kernel_rfl
@[simp] theorem ft_tySz_93 : tySz Try.prog 93 = some (true, 0) := by kernel_rfl
@[simp] theorem ft_dfl_93 : dflC Try.prog 93 = .v (.int .i64 0) := by kernel_rfl
@[simp] theorem ft_zeroOf_93 : zeroOf Try.prog 93 = some (Value.agg [].toArray) := by kernel_rfl
@[simp] theorem ft_plOf_93 : plOf Try.prog 93 = some (Sum.inr 1) := by kernel_rfl
@[simp] theorem ft_arrOf_93 : arrOf Try.prog 93 = some (0, false, 1) := by kernel_rfl
@[simp] theorem ft_und_93 : (Try.prog.underlying 93).isSome = true := by kernel_rfl
@[simp] theorem ft_tySz_94 : tySz Try.prog 94 = some (true, 0) := by kernel_rfl
@[simp] theorem ft_dfl_94 : dflC Try.prog 94 = .v (.int .i64 0) := by kernel_rfl
@[simp] theorem ft_zeroOf_94 : zeroOf Try.prog 94 = some (Value.agg [].toArray) := by kernel_rfl
@[simp] theorem ft_plOf_94 : plOf Try.prog 94 = some (Sum.inl [(0, 0)]) := by kernel_rfl
@[simp] theorem ft_und_94 : (Try.prog.underlying 94).isSome = true := by kernel_rfl
@[simp] theorem ft_fldOf_94_0 : fldOf Try.prog 94 0 = some (0, true, 0) := by kernel_rfl
@[simp] theorem ft_tySz_95 : tySz Try.prog 95 = some (true, 0) := by kernel_rfl
@[simp] theorem ft_dfl_95 : dflC Try.prog 95 = .v (.int .i64 0) := by kernel_rfl
@[simp] theorem ft_zeroOf_95 : zeroOf Try.prog 95 = some (Value.agg [].toArray) := by kernel_rfl
@[simp] theorem ft_plOf_95 : plOf Try.prog 95 = some (Sum.inl [(0, 0)]) := by kernel_rfl
@[simp] theorem ft_und_95 : (Try.prog.underlying 95).isSome = true := by kernel_rfl
@[simp] theorem ft_fldOf_95_0 : fldOf Try.prog 95 0 = some (0, true, 0) := by kernel_rfl
@[simp] theorem ft_tySz_96 : tySz Try.prog 96 = some (false, 1) := by kernel_rfl
@[simp] theorem ft_dfl_96 : dflC Try.prog 96 = .v (.int .i64 0) := by kernel_rfl
@[simp] theorem ft_zeroOf_96 : zeroOf Try.prog 96 = some Value.nilFunc := by kernel_rfl
@[simp] theorem ft_und_96 : (Try.prog.underlying 96).isSome = true := by kernel_rfl
@[simp] theorem ft_tySz_97 : tySz Try.prog 97 = some (false, 1) := by kernel_rfl
@[simp] theorem ft_dfl_97 : dflC Try.prog 97 = .v (.int .i64 0) := by kernel_rfl
@[simp] theorem ft_intOfTy_97 : intOfTy Try.prog 97 = some IntKind.u32 := by kernel_rfl
@[simp] theorem ft_zeroOf_97 : zeroOf Try.prog 97 = some (Value.int IntKind.u32 (0)) := by kernel_rfl
@[simp] theorem ft_und_97 : (Try.prog.underlying 97).isSome = true := by kernel_rfl
@[simp] theorem ft_tySz_98 : tySz Try.prog 98 = some (false, 1) := by kernel_rfl
@[simp] theorem ft_dfl_98 : dflC Try.prog 98 = .v (.int .i64 0) := by kernel_rfl
@[simp] theorem ft_intOfTy_98 : intOfTy Try.prog 98 = some IntKind.u8 := by kernel_rfl
@[simp] theorem ft_zeroOf_98 : zeroOf Try.prog 98 = some (Value.int IntKind.u8 (0)) := by kernel_rfl
@[simp] theorem ft_und_98 : (Try.prog.underlying 98).isSome = true := by kernel_rfl
@[simp] theorem ft_tySz_99 : tySz Try.prog 99 = some (false, 1) := by kernel_rfl
@[simp] theorem ft_dfl_99 : dflC Try.prog 99 = .v (.int .i64 0) := by kernel_rfl
@[simp] theorem ft_intOfTy_99 : intOfTy Try.prog 99 = some IntKind.u8 := by kernel_rfl
@[simp] theorem ft_zeroOf_99 : zeroOf Try.prog 99 = some (Value.int IntKind.u8 (0)) := by kernel_rfl
@[simp] theorem ft_und_99 : (Try.prog.underlying 99).isSome = true := by kernel_rfl
@[simp] theorem ft_tySz_100 : tySz Try.prog 100 = some (false, 1) := by kernel_rfl
@[simp] theorem ft_dfl_100 : dflC Try.prog 100 = .v (.int .i64 0) := by kernel_rfl
@[simp] theorem ft_zeroOf_100 : zeroOf Try.prog 100 = some Value.nilFunc := by kernel_rfl
@[simp] theorem ft_und_100 : (Try.prog.underlying 100).isSome = true := by kernel_rfl
@[simp] theorem ft_tySz_101 : tySz Try.prog 101 = some (false, 1) := by kernel_rfl
@[simp] theorem ft_dfl_101 : dflC Try.prog 101 = .v (.int .i64 0) := by kernel_rfl
@[simp] theorem ft_isPt_101 : isPt Try.prog 101 = true := by kernel_rfl
@[simp] theorem ft_zeroOf_101 : zeroOf Try.prog 101 = some (Value.pointer none) := by kernel_rfl
@[simp] theorem ft_und_101 : (Try.prog.underlying 101).isSome = true := by kernel_rfl
@[simp] theorem ft_tySz_102 : tySz Try.prog 102 = some (false, 1) := by kernel_rfl
@[simp] theorem ft_dfl_102 : dflC Try.prog 102 = .v (.int .i64 0) := by kernel_rfl
@[simp] theorem ft_intOfTy_102 : intOfTy Try.prog 102 = some IntKind.i32 := by kernel_rfl
@[simp] theorem ft_zeroOf_102 : zeroOf Try.prog 102 = some (Value.int IntKind.i32 (0)) := by kernel_rfl
@[simp] theorem ft_und_102 : (Try.prog.underlying 102).isSome = true := by kernel_rfl
@[simp] theorem ft_tySz_103 : tySz Try.prog 103 = some (false, 1) := by kernel_rfl
@[simp] theorem ft_dfl_103 : dflC Try.prog 103 = .v (.int .i64 0) := by kernel_rfl
@[simp] theorem ft_intOfTy_103 : intOfTy Try.prog 103 = some IntKind.i32 := by kernel_rfl
@[simp] theorem ft_zeroOf_103 : zeroOf Try.prog 103 = some (Value.int IntKind.i32 (0)) := by kernel_rfl
@[simp] theorem ft_und_103 : (Try.prog.underlying 103).isSome = true := by kernel_rfl
@[simp] theorem ft_tySz_104 : tySz Try.prog 104 = some (true, 11) := by kernel_rfl
@[simp] theorem ft_dfl_104 : dflC Try.prog 104 = .v (.int .i64 0) := by kernel_rfl
@[simp] theorem ft_zeroOf_104 : zeroOf Try.prog 104 = some (Value.agg [Value.int IntKind.u64 (0), Value.int IntKind.u64 (0), Value.int IntKind.u32 (0), Value.int IntKind.u8 (0), Value.int IntKind.u8 (0), Value.int IntKind.u8 (0), Value.int IntKind.u8 (0), Value.nilFunc, Value.pointer none, Value.int IntKind.i32 (0), Value.int IntKind.i32 (0)].toArray) := by kernel_rfl
@[simp] theorem ft_plOf_104 : plOf Try.prog 104 = some (Sum.inl [(0, 1), (1, 1), (2, 1), (3, 1), (4, 1), (5, 1), (6, 1), (7, 1), (8, 1), (9, 1), (10, 1)]) := by kernel_rfl
@[simp] theorem ft_und_104 : (Try.prog.underlying 104).isSome = true := by kernel_rfl
@[simp] theorem ft_fldOf_104_0 : fldOf Try.prog 104 0 = some (0, false, 1) := by kernel_rfl
@[simp] theorem ft_fldOf_104_1 : fldOf Try.prog 104 1 = some (1, false, 1) := by kernel_rfl
@[simp] theorem ft_fldOf_104_2 : fldOf Try.prog 104 2 = some (2, false, 1) := by kernel_rfl
@[simp] theorem ft_fldOf_104_3 : fldOf Try.prog 104 3 = some (3, false, 1) := by kernel_rfl
@[simp] theorem ft_fldOf_104_4 : fldOf Try.prog 104 4 = some (4, false, 1) := by kernel_rfl
@[simp] theorem ft_fldOf_104_5 : fldOf Try.prog 104 5 = some (5, false, 1) := by kernel_rfl
@[simp] theorem ft_fldOf_104_6 : fldOf Try.prog 104 6 = some (6, false, 1) := by kernel_rfl
@[simp] theorem ft_fldOf_104_7 : fldOf Try.prog 104 7 = some (7, false, 1) := by kernel_rfl
@[simp] theorem ft_fldOf_104_8 : fldOf Try.prog 104 8 = some (8, false, 1) := by kernel_rfl
@[simp] theorem ft_fldOf_104_9 : fldOf Try.prog 104 9 = some (9, false, 1) := by kernel_rfl
@[simp] theorem ft_fldOf_104_10 : fldOf Try.prog 104 10 = some (10, false, 1) := by kernel_rfl
@[simp] theorem ft_tySz_105 : tySz Try.prog 105 = some (true, 11) := by kernel_rfl
@[simp] theorem ft_dfl_105 : dflC Try.prog 105 = .v (.int .i64 0) := by kernel_rfl
@[simp] theorem ft_zeroOf_105 : zeroOf Try.prog 105 = some (Value.agg [Value.int IntKind.u64 (0), Value.int IntKind.u64 (0), Value.int IntKind.u32 (0), Value.int IntKind.u8 (0), Value.int IntKind.u8 (0), Value.int IntKind.u8 (0), Value.int IntKind.u8 (0), Value.nilFunc, Value.pointer none, Value.int IntKind.i32 (0), Value.int IntKind.i32 (0)].toArray) := by kernel_rfl
@[simp] theorem ft_plOf_105 : plOf Try.prog 105 = some (Sum.inl [(0, 1), (1, 1), (2, 1), (3, 1), (4, 1), (5, 1), (6, 1), (7, 1), (8, 1), (9, 1), (10, 1)]) := by kernel_rfl
@[simp] theorem ft_und_105 : (Try.prog.underlying 105).isSome = true := by kernel_rfl
@[simp] theorem ft_fldOf_105_0 : fldOf Try.prog 105 0 = some (0, false, 1) := by kernel_rfl
@[simp] theorem ft_fldOf_105_1 : fldOf Try.prog 105 1 = some (1, false, 1) := by kernel_rfl
@[simp] theorem ft_fldOf_105_2 : fldOf Try.prog 105 2 = some (2, false, 1) := by kernel_rfl
@[simp] theorem ft_fldOf_105_3 : fldOf Try.prog 105 3 = some (3, false, 1) := by kernel_rfl
@[simp] theorem ft_fldOf_105_4 : fldOf Try.prog 105 4 = some (4, false, 1) := by kernel_rfl
@[simp] theorem ft_fldOf_105_5 : fldOf Try.prog 105 5 = some (5, false, 1) := by kernel_rfl
@[simp] theorem ft_fldOf_105_6 : fldOf Try.prog 105 6 = some (6, false, 1) := by kernel_rfl
@[simp] theorem ft_fldOf_105_7 : fldOf Try.prog 105 7 = some (7, false, 1) := by kernel_rfl
@[simp] theorem ft_fldOf_105_8 : fldOf Try.prog 105 8 = some (8, false, 1) := by kernel_rfl
@[simp] theorem ft_fldOf_105_9 : fldOf Try.prog 105 9 = some (9, false, 1) := by kernel_rfl
@[simp] theorem ft_fldOf_105_10 : fldOf Try.prog 105 10 = some (10, false, 1) := by kernel_rfl
@[simp] theorem ft_tySz_106 : tySz Try.prog 106 = some (false, 1) := by kernel_rfl
@[simp] theorem ft_dfl_106 : dflC Try.prog 106 = .v (.int .i64 0) := by kernel_rfl
@[simp] theorem ft_zeroOf_106 : zeroOf Try.prog 106 = some (Value.pointer none) := by kernel_rfl
@[simp] theorem ft_und_106 : (Try.prog.underlying 106).isSome = true := by kernel_rfl
@[simp ↓] theorem ft_vlk_58 (st : St) (dst : Option Nat) (ok : Bool) (K : St → Prop) (kv : Value) (kvs : List (Value × List S)) : vlkR Try.prog dst st 58 ok K kv (some (.map (.ents kvs))) = (kfits (TypeDesc.string) kv = true ∧ (kvs.all fun x => kfits (TypeDesc.string) x.1) = true ∧ K (st.putd dst (lkS ok (findK kv kvs) ((Value.bool false))))) := vlkR_map dst 58 9 4 (TypeDesc.string) ((Value.bool false)) ok kv kvs ft_mpT_58 ft_zeroOf_4
@[simp ↓] theorem ft_vmu_58 (st : St) (dst : Option Nat) (K : St → Prop) (i : Nat) (kv : Value) (cs : List S) (kvs : List (Value × List S)) : vmuR Try.prog dst st 58 K i kv (some cs) (some (.map (.ents kvs))) = (kfits (TypeDesc.string) kv = true ∧ (kvs.all fun x => kfits (TypeDesc.string) x.1) = true ∧ K ((st.setR i (some (.map (.ents (putK kv cs kvs))))).putd dst .un)) := vmuR_map dst 58 9 4 (TypeDesc.string) i kv cs kvs ft_mpT_58
theorem ft_B1_77 : B1 Try.prog 77 := fun d => by simp [pbuild, cellsS]
end Go.Proofs.Ytgodbpamppcfnaa
