/- Contracts of functions of the seat, proved in a logic on data over the model (part AF). -/
import Derived.Test.YtlmnablagocfiaaV21
import Derived.Test.YtlmnablagocfiaaProg
import Derived.KernelRfl
namespace Go.Proofs.Ytlmnablagocfiaa
open Go.VL Go.RowKit
@[simp] theorem ft_tySz_0 : tySz Try.prog 0 = some (false, 1) := by kernel_rfl
@[simp] theorem ft_zeroOf_0 : zeroOf Try.prog 0 = some (Value.tuple [].toArray) := by kernel_rfl
@[simp] theorem ft_und_0 : (Try.prog.underlying 0).isSome = true := by kernel_rfl
@[simp] theorem ft_tySz_1 : tySz Try.prog 1 = some (false, 1) := by kernel_rfl
@[simp] theorem ft_zeroOf_1 : zeroOf Try.prog 1 = some Value.nilFunc := by kernel_rfl
@[simp] theorem ft_und_1 : (Try.prog.underlying 1).isSome = true := by kernel_rfl
@[simp] theorem ft_tySz_2 : tySz Try.prog 2 = some (false, 1) := by kernel_rfl
@[simp] theorem ft_intOfTy_2 : intOfTy Try.prog 2 = some IntKind.i64 := by kernel_rfl
@[simp] theorem ft_zeroOf_2 : zeroOf Try.prog 2 = some (Value.int IntKind.i64 (0)) := by kernel_rfl
@[simp] theorem ft_und_2 : (Try.prog.underlying 2).isSome = true := by kernel_rfl
@[simp] theorem ft_tySz_3 : tySz Try.prog 3 = some (false, 1) := by kernel_rfl
@[simp] theorem ft_intOfTy_3 : intOfTy Try.prog 3 = some IntKind.i64 := by kernel_rfl
@[simp] theorem ft_zeroOf_3 : zeroOf Try.prog 3 = some (Value.int IntKind.i64 (0)) := by kernel_rfl
@[simp] theorem ft_und_3 : (Try.prog.underlying 3).isSome = true := by kernel_rfl
@[simp] theorem ft_tySz_4 : tySz Try.prog 4 = some (false, 1) := by kernel_rfl
@[simp] theorem ft_zeroOf_4 : zeroOf Try.prog 4 = some (Value.bool false) := by kernel_rfl
@[simp] theorem ft_und_4 : (Try.prog.underlying 4).isSome = true := by kernel_rfl
@[simp] theorem ft_tySz_5 : tySz Try.prog 5 = some (false, 1) := by kernel_rfl
@[simp] theorem ft_intOfTy_5 : intOfTy Try.prog 5 = some IntKind.u8 := by kernel_rfl
@[simp] theorem ft_zeroOf_5 : zeroOf Try.prog 5 = some (Value.int IntKind.u8 (0)) := by kernel_rfl
@[simp] theorem ft_und_5 : (Try.prog.underlying 5).isSome = true := by kernel_rfl
@[simp] theorem ft_tySz_6 : tySz Try.prog 6 = some (false, 1) := by kernel_rfl
@[simp] theorem ft_intOfTy_6 : intOfTy Try.prog 6 = some IntKind.u8 := by kernel_rfl
@[simp] theorem ft_zeroOf_6 : zeroOf Try.prog 6 = some (Value.int IntKind.u8 (0)) := by kernel_rfl
@[simp] theorem ft_und_6 : (Try.prog.underlying 6).isSome = true := by kernel_rfl
@[simp] theorem ft_tySz_7 : tySz Try.prog 7 = some (true, 4) := by kernel_rfl
@[simp] theorem ft_zeroOf_7 : zeroOf Try.prog 7 = some (Value.agg [Value.int IntKind.i64 (0), Value.int IntKind.i64 (0), Value.bool false, Value.int IntKind.u8 (0)].toArray) := by kernel_rfl
@[simp] theorem ft_plOf_7 : plOf Try.prog 7 = some (Sum.inl [(0, 1), (1, 1), (2, 1), (3, 1)]) := by kernel_rfl
@[simp] theorem ft_und_7 : (Try.prog.underlying 7).isSome = true := by kernel_rfl
@[simp] theorem ft_fldOf_7_0 : fldOf Try.prog 7 0 = some (0, false, 1) := by kernel_rfl
@[simp] theorem ft_fldOf_7_1 : fldOf Try.prog 7 1 = some (1, false, 1) := by kernel_rfl
@[simp] theorem ft_fldOf_7_2 : fldOf Try.prog 7 2 = some (2, false, 1) := by kernel_rfl
@[simp] theorem ft_fldOf_7_3 : fldOf Try.prog 7 3 = some (3, false, 1) := by kernel_rfl
@[simp] theorem ft_tySz_8 : tySz Try.prog 8 = some (true, 4) := by kernel_rfl
@[simp] theorem ft_zeroOf_8 : zeroOf Try.prog 8 = some (Value.agg [Value.int IntKind.i64 (0), Value.int IntKind.i64 (0), Value.bool false, Value.int IntKind.u8 (0)].toArray) := by kernel_rfl
@[simp] theorem ft_plOf_8 : plOf Try.prog 8 = some (Sum.inl [(0, 1), (1, 1), (2, 1), (3, 1)]) := by kernel_rfl
@[simp] theorem ft_und_8 : (Try.prog.underlying 8).isSome = true := by kernel_rfl
@[simp] theorem ft_fldOf_8_0 : fldOf Try.prog 8 0 = some (0, false, 1) := by kernel_rfl
@[simp] theorem ft_fldOf_8_1 : fldOf Try.prog 8 1 = some (1, false, 1) := by kernel_rfl
@[simp] theorem ft_fldOf_8_2 : fldOf Try.prog 8 2 = some (2, false, 1) := by kernel_rfl
@[simp] theorem ft_fldOf_8_3 : fldOf Try.prog 8 3 = some (3, false, 1) := by kernel_rfl
@[simp] theorem ft_tySz_9 : tySz Try.prog 9 = some (false, 1) := by kernel_rfl
@[simp] theorem ft_zeroOf_9 : zeroOf Try.prog 9 = some (Value.string ⟨#[]⟩) := by kernel_rfl
@[simp] theorem ft_und_9 : (Try.prog.underlying 9).isSome = true := by kernel_rfl
@[simp] theorem ft_tySz_10 : tySz Try.prog 10 = some (false, 1) := by kernel_rfl
@[simp] theorem ft_zeroOf_10 : zeroOf Try.prog 10 = some (Value.string ⟨#[]⟩) := by kernel_rfl
@[simp] theorem ft_und_10 : (Try.prog.underlying 10).isSome = true := by kernel_rfl
@[simp] theorem ft_tySz_11 : tySz Try.prog 11 = some (false, 1) := by kernel_rfl
@[simp] theorem ft_zeroOf_11 : zeroOf Try.prog 11 = some (Value.string ⟨#[]⟩) := by kernel_rfl
@[simp] theorem ft_und_11 : (Try.prog.underlying 11).isSome = true := by kernel_rfl
@[simp] theorem ft_tySz_12 : tySz Try.prog 12 = some (false, 1) := by kernel_rfl
@[simp] theorem ft_intOfTy_12 : intOfTy Try.prog 12 = some IntKind.u64 := by kernel_rfl
@[simp] theorem ft_zeroOf_12 : zeroOf Try.prog 12 = some (Value.int IntKind.u64 (0)) := by kernel_rfl
@[simp] theorem ft_und_12 : (Try.prog.underlying 12).isSome = true := by kernel_rfl
@[simp] theorem ft_tySz_13 : tySz Try.prog 13 = some (true, 2) := by kernel_rfl
@[simp] theorem ft_zeroOf_13 : zeroOf Try.prog 13 = some (Value.agg [Value.string ⟨#[]⟩, Value.int IntKind.u64 (0)].toArray) := by kernel_rfl
@[simp] theorem ft_plOf_13 : plOf Try.prog 13 = some (Sum.inl [(0, 1), (1, 1)]) := by kernel_rfl
@[simp] theorem ft_und_13 : (Try.prog.underlying 13).isSome = true := by kernel_rfl
@[simp] theorem ft_fldOf_13_0 : fldOf Try.prog 13 0 = some (0, false, 1) := by kernel_rfl
@[simp] theorem ft_fldOf_13_1 : fldOf Try.prog 13 1 = some (1, false, 1) := by kernel_rfl
@[simp] theorem ft_tySz_14 : tySz Try.prog 14 = some (true, 2) := by kernel_rfl
@[simp] theorem ft_zeroOf_14 : zeroOf Try.prog 14 = some (Value.agg [Value.string ⟨#[]⟩, Value.int IntKind.u64 (0)].toArray) := by kernel_rfl
@[simp] theorem ft_plOf_14 : plOf Try.prog 14 = some (Sum.inl [(0, 1), (1, 1)]) := by kernel_rfl
@[simp] theorem ft_und_14 : (Try.prog.underlying 14).isSome = true := by kernel_rfl
@[simp] theorem ft_fldOf_14_0 : fldOf Try.prog 14 0 = some (0, false, 1) := by kernel_rfl
@[simp] theorem ft_fldOf_14_1 : fldOf Try.prog 14 1 = some (1, false, 1) := by kernel_rfl
@[simp] theorem ft_tySz_15 : tySz Try.prog 15 = some (false, 1) := by kernel_rfl
@[simp] theorem ft_zeroOf_15 : zeroOf Try.prog 15 = some (Value.pointer none) := by kernel_rfl
@[simp] theorem ft_und_15 : (Try.prog.underlying 15).isSome = true := by kernel_rfl
@[simp] theorem ft_tySz_16 : tySz Try.prog 16 = some (false, 1) := by kernel_rfl
@[simp] theorem ft_zeroOf_16 : zeroOf Try.prog 16 = some (Value.pointer none) := by kernel_rfl
@[simp] theorem ft_und_16 : (Try.prog.underlying 16).isSome = true := by kernel_rfl
@[simp] theorem ft_tySz_17 : tySz Try.prog 17 = some (false, 1) := by kernel_rfl
@[simp] theorem ft_zeroOf_17 : zeroOf Try.prog 17 = some (Value.pointer none) := by kernel_rfl
@[simp] theorem ft_und_17 : (Try.prog.underlying 17).isSome = true := by kernel_rfl
@[simp] theorem ft_tySz_18 : tySz Try.prog 18 = some (true, 1) := by kernel_rfl
@[simp] theorem ft_zeroOf_18 : zeroOf Try.prog 18 = some (Value.agg [Value.pointer none].toArray) := by kernel_rfl
@[simp] theorem ft_plOf_18 : plOf Try.prog 18 = some (Sum.inl [(0, 1)]) := by kernel_rfl
@[simp] theorem ft_und_18 : (Try.prog.underlying 18).isSome = true := by kernel_rfl
@[simp] theorem ft_fldOf_18_0 : fldOf Try.prog 18 0 = some (0, false, 1) := by kernel_rfl
@[simp] theorem ft_tySz_19 : tySz Try.prog 19 = some (true, 1) := by kernel_rfl
@[simp] theorem ft_zeroOf_19 : zeroOf Try.prog 19 = some (Value.agg [Value.pointer none].toArray) := by kernel_rfl
@[simp] theorem ft_plOf_19 : plOf Try.prog 19 = some (Sum.inl [(0, 1)]) := by kernel_rfl
@[simp] theorem ft_und_19 : (Try.prog.underlying 19).isSome = true := by kernel_rfl
@[simp] theorem ft_fldOf_19_0 : fldOf Try.prog 19 0 = some (0, false, 1) := by kernel_rfl
@[simp] theorem ft_tySz_20 : tySz Try.prog 20 = some (false, 1) := by kernel_rfl
@[simp] theorem ft_zeroOf_20 : zeroOf Try.prog 20 = some Value.nilIface := by kernel_rfl
@[simp] theorem ft_und_20 : (Try.prog.underlying 20).isSome = true := by kernel_rfl
@[simp] theorem ft_tySz_21 : tySz Try.prog 21 = some (false, 1) := by kernel_rfl
@[simp] theorem ft_intOfTy_21 : intOfTy Try.prog 21 = some IntKind.i32 := by kernel_rfl
@[simp] theorem ft_zeroOf_21 : zeroOf Try.prog 21 = some (Value.int IntKind.i32 (0)) := by kernel_rfl
@[simp] theorem ft_und_21 : (Try.prog.underlying 21).isSome = true := by kernel_rfl
@[simp] theorem ft_tySz_22 : tySz Try.prog 22 = some (false, 1) := by kernel_rfl
@[simp] theorem ft_esz_22 : esz Try.prog 22 = some 1 := by kernel_rfl
@[simp] theorem ft_isSl_22 : isSl Try.prog 22 = true := by kernel_rfl
@[simp] theorem ft_zeroOf_22 : zeroOf Try.prog 22 = some (Value.slice none 0 0) := by kernel_rfl
@[simp] theorem ft_elZ_22 : elZ Try.prog 22 = some (1, [C.v (Value.int IntKind.u8 (0))]) := by kernel_rfl
@[simp] theorem ft_slT_22 : slT Try.prog 22 = some (1, 1) := by kernel_rfl
@[simp] theorem ft_apT_22 : apT Try.prog 22 22 = some (1, 1) := by kernel_rfl
@[simp] theorem ft_isBytes_22 : isBytes Try.prog 22 = true := by kernel_rfl
@[simp] theorem ft_und_22 : (Try.prog.underlying 22).isSome = true := by kernel_rfl
@[simp] theorem ft_tySz_23 : tySz Try.prog 23 = some (true, 6) := by kernel_rfl
@[simp] theorem ft_zeroOf_23 : zeroOf Try.prog 23 = some (Value.agg [Value.int IntKind.i64 (0), Value.int IntKind.i64 (0), Value.int IntKind.i64 (0), Value.int IntKind.i64 (0), Value.int IntKind.i64 (0), Value.slice none 0 0].toArray) := by kernel_rfl
@[simp] theorem ft_plOf_23 : plOf Try.prog 23 = some (Sum.inl [(0, 1), (1, 1), (2, 1), (3, 1), (4, 1), (5, 1)]) := by kernel_rfl
@[simp] theorem ft_und_23 : (Try.prog.underlying 23).isSome = true := by kernel_rfl
@[simp] theorem ft_fldOf_23_0 : fldOf Try.prog 23 0 = some (0, false, 1) := by kernel_rfl
@[simp] theorem ft_fldOf_23_1 : fldOf Try.prog 23 1 = some (1, false, 1) := by kernel_rfl
@[simp] theorem ft_fldOf_23_2 : fldOf Try.prog 23 2 = some (2, false, 1) := by kernel_rfl
@[simp] theorem ft_fldOf_23_3 : fldOf Try.prog 23 3 = some (3, false, 1) := by kernel_rfl
@[simp] theorem ft_fldOf_23_4 : fldOf Try.prog 23 4 = some (4, false, 1) := by kernel_rfl
@[simp] theorem ft_fldOf_23_5 : fldOf Try.prog 23 5 = some (5, false, 1) := by kernel_rfl
@[simp] theorem ft_tySz_24 : tySz Try.prog 24 = some (true, 6) := by kernel_rfl
@[simp] theorem ft_zeroOf_24 : zeroOf Try.prog 24 = some (Value.agg [Value.int IntKind.i64 (0), Value.int IntKind.i64 (0), Value.int IntKind.i64 (0), Value.int IntKind.i64 (0), Value.int IntKind.i64 (0), Value.slice none 0 0].toArray) := by kernel_rfl
@[simp] theorem ft_plOf_24 : plOf Try.prog 24 = some (Sum.inl [(0, 1), (1, 1), (2, 1), (3, 1), (4, 1), (5, 1)]) := by kernel_rfl
@[simp] theorem ft_und_24 : (Try.prog.underlying 24).isSome = true := by kernel_rfl
@[simp] theorem ft_fldOf_24_0 : fldOf Try.prog 24 0 = some (0, false, 1) := by kernel_rfl
@[simp] theorem ft_fldOf_24_1 : fldOf Try.prog 24 1 = some (1, false, 1) := by kernel_rfl
@[simp] theorem ft_fldOf_24_2 : fldOf Try.prog 24 2 = some (2, false, 1) := by kernel_rfl
@[simp] theorem ft_fldOf_24_3 : fldOf Try.prog 24 3 = some (3, false, 1) := by kernel_rfl
@[simp] theorem ft_fldOf_24_4 : fldOf Try.prog 24 4 = some (4, false, 1) := by kernel_rfl
@[simp] theorem ft_fldOf_24_5 : fldOf Try.prog 24 5 = some (5, false, 1) := by kernel_rfl
@[simp] theorem ft_tySz_25 : tySz Try.prog 25 = some (false, 1) := by kernel_rfl
@[simp] theorem ft_zeroOf_25 : zeroOf Try.prog 25 = some Value.nilFunc := by kernel_rfl
@[simp] theorem ft_und_25 : (Try.prog.underlying 25).isSome = true := by kernel_rfl
@[simp] theorem ft_tySz_26 : tySz Try.prog 26 = some (false, 1) := by kernel_rfl
@[simp] theorem ft_intOfTy_26 : intOfTy Try.prog 26 = some IntKind.i64 := by kernel_rfl
@[simp] theorem ft_zeroOf_26 : zeroOf Try.prog 26 = some (Value.int IntKind.i64 (0)) := by kernel_rfl
@[simp] theorem ft_und_26 : (Try.prog.underlying 26).isSome = true := by kernel_rfl
@[simp] theorem ft_tySz_27 : tySz Try.prog 27 = some (false, 1) := by kernel_rfl
@[simp] theorem ft_zeroOf_27 : zeroOf Try.prog 27 = some (Value.tuple [Value.slice none 0 0, Value.int IntKind.i64 (0)].toArray) := by kernel_rfl
@[simp] theorem ft_und_27 : (Try.prog.underlying 27).isSome = true := by kernel_rfl
@[simp] theorem ft_tySz_28 : tySz Try.prog 28 = some (false, 1) := by kernel_rfl
@[simp] theorem ft_zeroOf_28 : zeroOf Try.prog 28 = some Value.nilFunc := by kernel_rfl
@[simp] theorem ft_und_28 : (Try.prog.underlying 28).isSome = true := by kernel_rfl
@[simp] theorem ft_tySz_29 : tySz Try.prog 29 = some (false, 1) := by kernel_rfl
@[simp] theorem ft_zeroOf_29 : zeroOf Try.prog 29 = some (Value.tuple [Value.string ⟨#[]⟩, Value.int IntKind.i64 (0)].toArray) := by kernel_rfl
@[simp] theorem ft_und_29 : (Try.prog.underlying 29).isSome = true := by kernel_rfl
@[simp] theorem ft_tySz_30 : tySz Try.prog 30 = some (false, 1) := by kernel_rfl
@[simp] theorem ft_zeroOf_30 : zeroOf Try.prog 30 = some Value.nilFunc := by kernel_rfl
@[simp] theorem ft_und_30 : (Try.prog.underlying 30).isSome = true := by kernel_rfl
@[simp] theorem ft_tySz_31 : tySz Try.prog 31 = some (true, 6) := by kernel_rfl
@[simp] theorem ft_zeroOf_31 : zeroOf Try.prog 31 = some (Value.agg [Value.int IntKind.i64 (0), Value.int IntKind.i64 (0), Value.int IntKind.i64 (0), Value.int IntKind.i64 (0), Value.int IntKind.i64 (0), Value.string ⟨#[]⟩].toArray) := by kernel_rfl
@[simp] theorem ft_plOf_31 : plOf Try.prog 31 = some (Sum.inl [(0, 1), (1, 1), (2, 1), (3, 1), (4, 1), (5, 1)]) := by kernel_rfl
@[simp] theorem ft_und_31 : (Try.prog.underlying 31).isSome = true := by kernel_rfl
@[simp] theorem ft_fldOf_31_0 : fldOf Try.prog 31 0 = some (0, false, 1) := by kernel_rfl
@[simp] theorem ft_fldOf_31_1 : fldOf Try.prog 31 1 = some (1, false, 1) := by kernel_rfl
@[simp] theorem ft_fldOf_31_2 : fldOf Try.prog 31 2 = some (2, false, 1) := by kernel_rfl
@[simp] theorem ft_fldOf_31_3 : fldOf Try.prog 31 3 = some (3, false, 1) := by kernel_rfl
@[simp] theorem ft_fldOf_31_4 : fldOf Try.prog 31 4 = some (4, false, 1) := by kernel_rfl
@[simp] theorem ft_fldOf_31_5 : fldOf Try.prog 31 5 = some (5, false, 1) := by kernel_rfl
@[simp] theorem ft_tySz_32 : tySz Try.prog 32 = some (true, 6) := by kernel_rfl
@[simp] theorem ft_zeroOf_32 : zeroOf Try.prog 32 = some (Value.agg [Value.int IntKind.i64 (0), Value.int IntKind.i64 (0), Value.int IntKind.i64 (0), Value.int IntKind.i64 (0), Value.int IntKind.i64 (0), Value.string ⟨#[]⟩].toArray) := by kernel_rfl
@[simp] theorem ft_plOf_32 : plOf Try.prog 32 = some (Sum.inl [(0, 1), (1, 1), (2, 1), (3, 1), (4, 1), (5, 1)]) := by kernel_rfl
@[simp] theorem ft_und_32 : (Try.prog.underlying 32).isSome = true := by kernel_rfl
@[simp] theorem ft_fldOf_32_0 : fldOf Try.prog 32 0 = some (0, false, 1) := by kernel_rfl
@[simp] theorem ft_fldOf_32_1 : fldOf Try.prog 32 1 = some (1, false, 1) := by kernel_rfl
@[simp] theorem ft_fldOf_32_2 : fldOf Try.prog 32 2 = some (2, false, 1) := by kernel_rfl
@[simp] theorem ft_fldOf_32_3 : fldOf Try.prog 32 3 = some (3, false, 1) := by kernel_rfl
@[simp] theorem ft_fldOf_32_4 : fldOf Try.prog 32 4 = some (4, false, 1) := by kernel_rfl
@[simp] theorem ft_fldOf_32_5 : fldOf Try.prog 32 5 = some (5, false, 1) := by kernel_rfl
@[simp] theorem ft_tySz_33 : tySz Try.prog 33 = some (false, 1) := by kernel_rfl
@[simp] theorem ft_zeroOf_33 : zeroOf Try.prog 33 = some Value.nilFunc := by kernel_rfl
@[simp] theorem ft_und_33 : (Try.prog.underlying 33).isSome = true := by kernel_rfl
@[simp] theorem ft_tySz_34 : tySz Try.prog 34 = some (false, 1) := by kernel_rfl
@[simp] theorem ft_zeroOf_34 : zeroOf Try.prog 34 = some (Value.tuple [Value.agg [Value.int IntKind.i64 (0), Value.int IntKind.i64 (0), Value.int IntKind.i64 (0), Value.int IntKind.i64 (0), Value.int IntKind.i64 (0), Value.slice none 0 0].toArray, Value.int IntKind.i64 (0)].toArray) := by kernel_rfl
@[simp] theorem ft_und_34 : (Try.prog.underlying 34).isSome = true := by kernel_rfl
@[simp] theorem ft_tySz_35 : tySz Try.prog 35 = some (false, 1) := by kernel_rfl
@[simp] theorem ft_zeroOf_35 : zeroOf Try.prog 35 = some Value.nilFunc := by kernel_rfl
@[simp] theorem ft_und_35 : (Try.prog.underlying 35).isSome = true := by kernel_rfl
@[simp] theorem ft_tySz_36 : tySz Try.prog 36 = some (false, 1) := by kernel_rfl
@[simp] theorem ft_zeroOf_36 : zeroOf Try.prog 36 = some (Value.tuple [Value.agg [Value.int IntKind.i64 (0), Value.int IntKind.i64 (0), Value.int IntKind.i64 (0), Value.int IntKind.i64 (0), Value.int IntKind.i64 (0), Value.string ⟨#[]⟩].toArray, Value.int IntKind.i64 (0)].toArray) := by kernel_rfl
@[simp] theorem ft_und_36 : (Try.prog.underlying 36).isSome = true := by kernel_rfl
@[simp] theorem ft_tySz_37 : tySz Try.prog 37 = some (false, 1) := by kernel_rfl
@[simp] theorem ft_zeroOf_37 : zeroOf Try.prog 37 = some Value.nilFunc := by kernel_rfl
@[simp] theorem ft_und_37 : (Try.prog.underlying 37).isSome = true := by kernel_rfl
@[simp] theorem ft_tySz_38 : tySz Try.prog 38 = some (false, 1) := by kernel_rfl
@[simp] theorem ft_zeroOf_38 : zeroOf Try.prog 38 = some Value.nilFunc := by kernel_rfl
@[simp] theorem ft_und_38 : (Try.prog.underlying 38).isSome = true := by kernel_rfl
@[simp] theorem ft_tySz_39 : tySz Try.prog 39 = some (false, 1) := by kernel_rfl
@[simp] theorem ft_zeroOf_39 : zeroOf Try.prog 39 = some Value.nilFunc := by kernel_rfl
@[simp] theorem ft_und_39 : (Try.prog.underlying 39).isSome = true := by kernel_rfl
@[simp] theorem ft_tySz_40 : tySz Try.prog 40 = some (false, 1) := by kernel_rfl
@[simp] theorem ft_zeroOf_40 : zeroOf Try.prog 40 = some Value.nilFunc := by kernel_rfl
@[simp] theorem ft_und_40 : (Try.prog.underlying 40).isSome = true := by kernel_rfl
@[simp] theorem ft_tySz_41 : tySz Try.prog 41 = some (false, 1) := by kernel_rfl
@[simp] theorem ft_intOfTy_41 : intOfTy Try.prog 41 = some IntKind.u64 := by kernel_rfl
@[simp] theorem ft_zeroOf_41 : zeroOf Try.prog 41 = some (Value.int IntKind.u64 (0)) := by kernel_rfl
@[simp] theorem ft_und_41 : (Try.prog.underlying 41).isSome = true := by kernel_rfl
@[simp] theorem ft_tySz_42 : tySz Try.prog 42 = some (false, 1) := by kernel_rfl
@[simp] theorem ft_zeroOf_42 : zeroOf Try.prog 42 = some Value.nilFunc := by kernel_rfl
@[simp] theorem ft_und_42 : (Try.prog.underlying 42).isSome = true := by kernel_rfl
@[simp] theorem ft_tySz_43 : tySz Try.prog 43 = some (false, 1) := by kernel_rfl
@[simp] theorem ft_zeroOf_43 : zeroOf Try.prog 43 = some Value.nilFunc := by kernel_rfl
@[simp] theorem ft_und_43 : (Try.prog.underlying 43).isSome = true := by kernel_rfl
@[simp] theorem ft_tySz_44 : tySz Try.prog 44 = some (false, 1) := by kernel_rfl
@[simp] theorem ft_zeroOf_44 : zeroOf Try.prog 44 = some Value.nilFunc := by kernel_rfl
@[simp] theorem ft_und_44 : (Try.prog.underlying 44).isSome = true := by kernel_rfl
@[simp] theorem ft_tySz_45 : tySz Try.prog 45 = some (false, 1) := by kernel_rfl
@[simp] theorem ft_zeroOf_45 : zeroOf Try.prog 45 = some Value.nilFunc := by kernel_rfl
@[simp] theorem ft_und_45 : (Try.prog.underlying 45).isSome = true := by kernel_rfl
@[simp] theorem ft_tySz_46 : tySz Try.prog 46 = some (false, 1) := by kernel_rfl
@[simp] theorem ft_zeroOf_46 : zeroOf Try.prog 46 = some Value.nilFunc := by kernel_rfl
@[simp] theorem ft_und_46 : (Try.prog.underlying 46).isSome = true := by kernel_rfl
@[simp] theorem ft_tySz_47 : tySz Try.prog 47 = some (false, 1) := by kernel_rfl
@[simp] theorem ft_intOfTy_47 : intOfTy Try.prog 47 = some IntKind.u64 := by kernel_rfl
@[simp] theorem ft_zeroOf_47 : zeroOf Try.prog 47 = some (Value.int IntKind.u64 (0)) := by kernel_rfl
@[simp] theorem ft_und_47 : (Try.prog.underlying 47).isSome = true := by kernel_rfl
@[simp] theorem ft_tySz_48 : tySz Try.prog 48 = some (false, 1) := by kernel_rfl
@[simp] theorem ft_zeroOf_48 : zeroOf Try.prog 48 = some Value.nilFunc := by kernel_rfl
@[simp] theorem ft_und_48 : (Try.prog.underlying 48).isSome = true := by kernel_rfl
@[simp] theorem ft_tySz_49 : tySz Try.prog 49 = some (true, 4) := by kernel_rfl
@[simp] theorem ft_zeroOf_49 : zeroOf Try.prog 49 = some (Value.agg [Value.pointer none, Value.pointer none, Value.pointer none, Value.string ⟨#[]⟩].toArray) := by kernel_rfl
@[simp] theorem ft_plOf_49 : plOf Try.prog 49 = some (Sum.inl [(0, 1), (1, 1), (2, 1), (3, 1)]) := by kernel_rfl
@[simp] theorem ft_und_49 : (Try.prog.underlying 49).isSome = true := by kernel_rfl
@[simp] theorem ft_fldOf_49_0 : fldOf Try.prog 49 0 = some (0, false, 1) := by kernel_rfl
@[simp] theorem ft_fldOf_49_1 : fldOf Try.prog 49 1 = some (1, false, 1) := by kernel_rfl
@[simp] theorem ft_fldOf_49_2 : fldOf Try.prog 49 2 = some (2, false, 1) := by kernel_rfl
@[simp] theorem ft_fldOf_49_3 : fldOf Try.prog 49 3 = some (3, false, 1) := by kernel_rfl
@[simp] theorem ft_tySz_50 : tySz Try.prog 50 = some (true, 4) := by kernel_rfl
@[simp] theorem ft_zeroOf_50 : zeroOf Try.prog 50 = some (Value.agg [Value.pointer none, Value.pointer none, Value.pointer none, Value.string ⟨#[]⟩].toArray) := by kernel_rfl
@[simp] theorem ft_plOf_50 : plOf Try.prog 50 = some (Sum.inl [(0, 1), (1, 1), (2, 1), (3, 1)]) := by kernel_rfl
@[simp] theorem ft_und_50 : (Try.prog.underlying 50).isSome = true := by kernel_rfl
@[simp] theorem ft_fldOf_50_0 : fldOf Try.prog 50 0 = some (0, false, 1) := by kernel_rfl
@[simp] theorem ft_fldOf_50_1 : fldOf Try.prog 50 1 = some (1, false, 1) := by kernel_rfl
@[simp] theorem ft_fldOf_50_2 : fldOf Try.prog 50 2 = some (2, false, 1) := by kernel_rfl
@[simp] theorem ft_fldOf_50_3 : fldOf Try.prog 50 3 = some (3, false, 1) := by kernel_rfl
@[simp] theorem ft_tySz_51 : tySz Try.prog 51 = some (true, 0) := by kernel_rfl
@[simp] theorem ft_zeroOf_51 : zeroOf Try.prog 51 = some (Value.agg [].toArray) := by kernel_rfl
@[simp] theorem ft_plOf_51 : plOf Try.prog 51 = some (Sum.inr 1) := by kernel_rfl
@[simp] theorem ft_arrOf_51 : arrOf Try.prog 51 = some (0, false, 1) := by kernel_rfl
@[simp] theorem ft_und_51 : (Try.prog.underlying 51).isSome = true := by kernel_rfl
@[simp] theorem ft_tySz_52 : tySz Try.prog 52 = some (true, 0) := by kernel_rfl
@[simp] theorem ft_zeroOf_52 : zeroOf Try.prog 52 = some (Value.agg [].toArray) := by kernel_rfl
@[simp] theorem ft_plOf_52 : plOf Try.prog 52 = some (Sum.inl [(0, 0)]) := by kernel_rfl
@[simp] theorem ft_und_52 : (Try.prog.underlying 52).isSome = true := by kernel_rfl
@[simp] theorem ft_fldOf_52_0 : fldOf Try.prog 52 0 = some (0, true, 0) := by kernel_rfl
@[simp] theorem ft_tySz_53 : tySz Try.prog 53 = some (true, 0) := by kernel_rfl
@[simp] theorem ft_zeroOf_53 : zeroOf Try.prog 53 = some (Value.agg [].toArray) := by kernel_rfl
@[simp] theorem ft_plOf_53 : plOf Try.prog 53 = some (Sum.inl [(0, 0)]) := by kernel_rfl
@[simp] theorem ft_und_53 : (Try.prog.underlying 53).isSome = true := by kernel_rfl
@[simp] theorem ft_fldOf_53_0 : fldOf Try.prog 53 0 = some (0, true, 0) := by kernel_rfl
@[simp] theorem ft_tySz_54 : tySz Try.prog 54 = some (false, 1) := by kernel_rfl
@[simp] theorem ft_zeroOf_54 : zeroOf Try.prog 54 = some Value.nilFunc := by kernel_rfl
@[simp] theorem ft_und_54 : (Try.prog.underlying 54).isSome = true := by kernel_rfl
@[simp] theorem ft_tySz_55 : tySz Try.prog 55 = some (false, 1) := by kernel_rfl
@[simp] theorem ft_intOfTy_55 : intOfTy Try.prog 55 = some IntKind.u32 := by kernel_rfl
@[simp] theorem ft_zeroOf_55 : zeroOf Try.prog 55 = some (Value.int IntKind.u32 (0)) := by kernel_rfl
@[simp] theorem ft_und_55 : (Try.prog.underlying 55).isSome = true := by kernel_rfl
@[simp] theorem ft_tySz_56 : tySz Try.prog 56 = some (false, 1) := by kernel_rfl
@[simp] theorem ft_intOfTy_56 : intOfTy Try.prog 56 = some IntKind.u8 := by kernel_rfl
@[simp] theorem ft_zeroOf_56 : zeroOf Try.prog 56 = some (Value.int IntKind.u8 (0)) := by kernel_rfl
@[simp] theorem ft_und_56 : (Try.prog.underlying 56).isSome = true := by kernel_rfl
@[simp] theorem ft_tySz_57 : tySz Try.prog 57 = some (false, 1) := by kernel_rfl
@[simp] theorem ft_intOfTy_57 : intOfTy Try.prog 57 = some IntKind.u8 := by kernel_rfl
@[simp] theorem ft_zeroOf_57 : zeroOf Try.prog 57 = some (Value.int IntKind.u8 (0)) := by kernel_rfl
@[simp] theorem ft_und_57 : (Try.prog.underlying 57).isSome = true := by kernel_rfl
@[simp] theorem ft_tySz_58 : tySz Try.prog 58 = some (false, 1) := by kernel_rfl
@[simp] theorem ft_zeroOf_58 : zeroOf Try.prog 58 = some Value.nilFunc := by kernel_rfl
@[simp] theorem ft_und_58 : (Try.prog.underlying 58).isSome = true := by kernel_rfl
@[simp] theorem ft_tySz_59 : tySz Try.prog 59 = some (false, 1) := by kernel_rfl
@[simp] theorem ft_zeroOf_59 : zeroOf Try.prog 59 = some (Value.pointer none) := by kernel_rfl
@[simp] theorem ft_und_59 : (Try.prog.underlying 59).isSome = true := by kernel_rfl
@[simp] theorem ft_tySz_60 : tySz Try.prog 60 = some (false, 1) := by kernel_rfl
@[simp] theorem ft_intOfTy_60 : intOfTy Try.prog 60 = some IntKind.i32 := by kernel_rfl
@[simp] theorem ft_zeroOf_60 : zeroOf Try.prog 60 = some (Value.int IntKind.i32 (0)) := by kernel_rfl
@[simp] theorem ft_und_60 : (Try.prog.underlying 60).isSome = true := by kernel_rfl
@[simp] theorem ft_tySz_61 : tySz Try.prog 61 = some (false, 1) := by kernel_rfl
@[simp] theorem ft_intOfTy_61 : intOfTy Try.prog 61 = some IntKind.i32 := by kernel_rfl
@[simp] theorem ft_zeroOf_61 : zeroOf Try.prog 61 = some (Value.int IntKind.i32 (0)) := by kernel_rfl
@[simp] theorem ft_und_61 : (Try.prog.underlying 61).isSome = true := by kernel_rfl
@[simp] theorem ft_tySz_62 : tySz Try.prog 62 = some (true, 11) := by kernel_rfl
@[simp] theorem ft_zeroOf_62 : zeroOf Try.prog 62 = some (Value.agg [Value.int IntKind.u64 (0), Value.int IntKind.u64 (0), Value.int IntKind.u32 (0), Value.int IntKind.u8 (0), Value.int IntKind.u8 (0), Value.int IntKind.u8 (0), Value.int IntKind.u8 (0), Value.nilFunc, Value.pointer none, Value.int IntKind.i32 (0), Value.int IntKind.i32 (0)].toArray) := by kernel_rfl
@[simp] theorem ft_plOf_62 : plOf Try.prog 62 = some (Sum.inl [(0, 1), (1, 1), (2, 1), (3, 1), (4, 1), (5, 1), (6, 1), (7, 1), (8, 1), (9, 1), (10, 1)]) := by kernel_rfl
@[simp] theorem ft_und_62 : (Try.prog.underlying 62).isSome = true := by kernel_rfl
@[simp] theorem ft_fldOf_62_0 : fldOf Try.prog 62 0 = some (0, false, 1) := by kernel_rfl
@[simp] theorem ft_fldOf_62_1 : fldOf Try.prog 62 1 = some (1, false, 1) := by kernel_rfl
@[simp] theorem ft_fldOf_62_2 : fldOf Try.prog 62 2 = some (2, false, 1) := by kernel_rfl
@[simp] theorem ft_fldOf_62_3 : fldOf Try.prog 62 3 = some (3, false, 1) := by kernel_rfl
@[simp] theorem ft_fldOf_62_4 : fldOf Try.prog 62 4 = some (4, false, 1) := by kernel_rfl
@[simp] theorem ft_fldOf_62_5 : fldOf Try.prog 62 5 = some (5, false, 1) := by kernel_rfl
@[simp] theorem ft_fldOf_62_6 : fldOf Try.prog 62 6 = some (6, false, 1) := by kernel_rfl
@[simp] theorem ft_fldOf_62_7 : fldOf Try.prog 62 7 = some (7, false, 1) := by kernel_rfl
@[simp] theorem ft_fldOf_62_8 : fldOf Try.prog 62 8 = some (8, false, 1) := by kernel_rfl
@[simp] theorem ft_fldOf_62_9 : fldOf Try.prog 62 9 = some (9, false, 1) := by kernel_rfl
@[simp] theorem ft_fldOf_62_10 : fldOf Try.prog 62 10 = some (10, false, 1) := by kernel_rfl
@[simp] theorem ft_tySz_63 : tySz Try.prog 63 = some (true, 11) := by kernel_rfl
@[simp] theorem ft_zeroOf_63 : zeroOf Try.prog 63 = some (Value.agg [Value.int IntKind.u64 (0), Value.int IntKind.u64 (0), Value.int IntKind.u32 (0), Value.int IntKind.u8 (0), Value.int IntKind.u8 (0), Value.int IntKind.u8 (0), Value.int IntKind.u8 (0), Value.nilFunc, Value.pointer none, Value.int IntKind.i32 (0), Value.int IntKind.i32 (0)].toArray) := by kernel_rfl
@[simp] theorem ft_plOf_63 : plOf Try.prog 63 = some (Sum.inl [(0, 1), (1, 1), (2, 1), (3, 1), (4, 1), (5, 1), (6, 1), (7, 1), (8, 1), (9, 1), (10, 1)]) := by kernel_rfl
@[simp] theorem ft_und_63 : (Try.prog.underlying 63).isSome = true := by kernel_rfl
@[simp] theorem ft_fldOf_63_0 : fldOf Try.prog 63 0 = some (0, false, 1) := by kernel_rfl
@[simp] theorem ft_fldOf_63_1 : fldOf Try.prog 63 1 = some (1, false, 1) := by kernel_rfl
@[simp] theorem ft_fldOf_63_2 : fldOf Try.prog 63 2 = some (2, false, 1) := by kernel_rfl
@[simp] theorem ft_fldOf_63_3 : fldOf Try.prog 63 3 = some (3, false, 1) := by kernel_rfl
@[simp] theorem ft_fldOf_63_4 : fldOf Try.prog 63 4 = some (4, false, 1) := by kernel_rfl
@[simp] theorem ft_fldOf_63_5 : fldOf Try.prog 63 5 = some (5, false, 1) := by kernel_rfl
@[simp] theorem ft_fldOf_63_6 : fldOf Try.prog 63 6 = some (6, false, 1) := by kernel_rfl
@[simp] theorem ft_fldOf_63_7 : fldOf Try.prog 63 7 = some (7, false, 1) := by kernel_rfl
@[simp] theorem ft_fldOf_63_8 : fldOf Try.prog 63 8 = some (8, false, 1) := by kernel_rfl
@[simp] theorem ft_fldOf_63_9 : fldOf Try.prog 63 9 = some (9, false, 1) := by kernel_rfl
@[simp] theorem ft_fldOf_63_10 : fldOf Try.prog 63 10 = some (10, false, 1) := by kernel_rfl
@[simp] theorem ft_tySz_64 : tySz Try.prog 64 = some (false, 1) := by kernel_rfl
@[simp] theorem ft_zeroOf_64 : zeroOf Try.prog 64 = some (Value.pointer none) := by kernel_rfl
@[simp] theorem ft_und_64 : (Try.prog.underlying 64).isSome = true := by kernel_rfl
end Go.Proofs.Ytlmnablagocfiaa
