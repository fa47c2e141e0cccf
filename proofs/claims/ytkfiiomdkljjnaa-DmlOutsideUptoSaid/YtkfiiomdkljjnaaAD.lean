/- The types' facts of the seat, each by kernel_rfl. -/
import Derived.Test.YtkfiiomdkljjnaaVC
import Derived.Test.YtkfiiomdkljjnaaProg
import Derived.KernelRfl
set_option linter.unusedSimpArgs false
set_option linter.unusedVariables false
namespace Go.Proofs.Ytkfiiomdkljjnaa
open Go.VL Go.RowKit
@[simp] theorem ft_tySz_0 : tySz Try.prog 0 = some (false, 1) := by kernel_rfl
@[simp] theorem ft_zeroOf_0 : zeroOf Try.prog 0 = some (Value.tuple [].toArray) := by kernel_rfl
@[simp] theorem ft_und_0 : (Try.prog.underlying 0).isSome = true := by kernel_rfl
@[simp] theorem ft_tySz_1 : tySz Try.prog 1 = some (false, 1) := by kernel_rfl
@[simp] theorem ft_zeroOf_1 : zeroOf Try.prog 1 = some Value.nilFunc := by kernel_rfl
@[simp] theorem ft_und_1 : (Try.prog.underlying 1).isSome = true := by kernel_rfl
@[simp] theorem ft_tySz_2 : tySz Try.prog 2 = some (false, 1) := by kernel_rfl
@[simp] theorem ft_intOfTy_2 : intOfTy Try.prog 2 = some IntKind.i64 := by kernel_rfl
@[simp] theorem ft_zeroOf_2 : zeroOf Try.prog 2 = some (Value.int IntKind.i64 (0)) := by kernel_rfl
@[simp] theorem ft_und_2 : (Try.prog.underlying 2).isSome = true := by kernel_rfl
@[simp] theorem ft_tySz_3 : tySz Try.prog 3 = some (false, 1) := by kernel_rfl
@[simp] theorem ft_intOfTy_3 : intOfTy Try.prog 3 = some IntKind.i64 := by kernel_rfl
@[simp] theorem ft_zeroOf_3 : zeroOf Try.prog 3 = some (Value.int IntKind.i64 (0)) := by kernel_rfl
@[simp] theorem ft_und_3 : (Try.prog.underlying 3).isSome = true := by kernel_rfl
@[simp] theorem ft_tySz_4 : tySz Try.prog 4 = some (false, 1) := by kernel_rfl
@[simp] theorem ft_zeroOf_4 : zeroOf Try.prog 4 = some (Value.bool false) := by kernel_rfl
@[simp] theorem ft_und_4 : (Try.prog.underlying 4).isSome = true := by kernel_rfl
@[simp] theorem ft_tySz_5 : tySz Try.prog 5 = some (false, 1) := by kernel_rfl
@[simp] theorem ft_intOfTy_5 : intOfTy Try.prog 5 = some IntKind.u8 := by kernel_rfl
@[simp] theorem ft_zeroOf_5 : zeroOf Try.prog 5 = some (Value.int IntKind.u8 (0)) := by kernel_rfl
@[simp] theorem ft_und_5 : (Try.prog.underlying 5).isSome = true := by kernel_rfl
@[simp] theorem ft_tySz_6 : tySz Try.prog 6 = some (false, 1) := by kernel_rfl
@[simp] theorem ft_intOfTy_6 : intOfTy Try.prog 6 = some IntKind.u8 := by kernel_rfl
@[simp] theorem ft_zeroOf_6 : zeroOf Try.prog 6 = some (Value.int IntKind.u8 (0)) := by kernel_rfl
@[simp] theorem ft_und_6 : (Try.prog.underlying 6).isSome = true := by kernel_rfl
@[simp] theorem ft_tySz_7 : tySz Try.prog 7 = some (true, 4) := by kernel_rfl
@[simp] theorem ft_zeroOf_7 : zeroOf Try.prog 7 = some (Value.agg [Value.int IntKind.i64 (0), Value.int IntKind.i64 (0), Value.bool false, Value.int IntKind.u8 (0)].toArray) := by kernel_rfl
@[simp] theorem ft_plOf_7 : plOf Try.prog 7 = some (Sum.inl [(0, 1), (1, 1), (2, 1), (3, 1)]) := by kernel_rfl
@[simp] theorem ft_eqT_7 : eqT Try.prog 7 = some [FK.i, FK.i, FK.b, FK.i] := by kernel_rfl
@[simp] theorem ft_und_7 : (Try.prog.underlying 7).isSome = true := by kernel_rfl
@[simp] theorem ft_fldOf_7_0 : fldOf Try.prog 7 0 = some (0, false, 1) := by kernel_rfl
@[simp] theorem ft_fldOf_7_1 : fldOf Try.prog 7 1 = some (1, false, 1) := by kernel_rfl
@[simp] theorem ft_fldOf_7_2 : fldOf Try.prog 7 2 = some (2, false, 1) := by kernel_rfl
@[simp] theorem ft_fldOf_7_3 : fldOf Try.prog 7 3 = some (3, false, 1) := by kernel_rfl
@[simp] theorem ft_tySz_8 : tySz Try.prog 8 = some (true, 4) := by kernel_rfl
@[simp] theorem ft_zeroOf_8 : zeroOf Try.prog 8 = some (Value.agg [Value.int IntKind.i64 (0), Value.int IntKind.i64 (0), Value.bool false, Value.int IntKind.u8 (0)].toArray) := by kernel_rfl
@[simp] theorem ft_plOf_8 : plOf Try.prog 8 = some (Sum.inl [(0, 1), (1, 1), (2, 1), (3, 1)]) := by kernel_rfl
@[simp] theorem ft_eqT_8 : eqT Try.prog 8 = some [FK.i, FK.i, FK.b, FK.i] := by kernel_rfl
@[simp] theorem ft_und_8 : (Try.prog.underlying 8).isSome = true := by kernel_rfl
@[simp] theorem ft_fldOf_8_0 : fldOf Try.prog 8 0 = some (0, false, 1) := by kernel_rfl
@[simp] theorem ft_fldOf_8_1 : fldOf Try.prog 8 1 = some (1, false, 1) := by kernel_rfl
@[simp] theorem ft_fldOf_8_2 : fldOf Try.prog 8 2 = some (2, false, 1) := by kernel_rfl
@[simp] theorem ft_fldOf_8_3 : fldOf Try.prog 8 3 = some (3, false, 1) := by kernel_rfl
@[simp] theorem ft_tySz_9 : tySz Try.prog 9 = some (false, 1) := by kernel_rfl
@[simp] theorem ft_zeroOf_9 : zeroOf Try.prog 9 = some (Value.string ⟨#[]⟩) := by kernel_rfl
@[simp] theorem ft_und_9 : (Try.prog.underlying 9).isSome = true := by kernel_rfl
@[simp] theorem ft_tySz_10 : tySz Try.prog 10 = some (false, 1) := by kernel_rfl
@[simp] theorem ft_zeroOf_10 : zeroOf Try.prog 10 = some (Value.string ⟨#[]⟩) := by kernel_rfl
@[simp] theorem ft_und_10 : (Try.prog.underlying 10).isSome = true := by kernel_rfl
@[simp] theorem ft_tySz_11 : tySz Try.prog 11 = some (false, 1) := by kernel_rfl
@[simp] theorem ft_zeroOf_11 : zeroOf Try.prog 11 = some (Value.string ⟨#[]⟩) := by kernel_rfl
@[simp] theorem ft_und_11 : (Try.prog.underlying 11).isSome = true := by kernel_rfl
@[simp] theorem ft_tySz_12 : tySz Try.prog 12 = some (false, 1) := by kernel_rfl
@[simp] theorem ft_intOfTy_12 : intOfTy Try.prog 12 = some IntKind.u64 := by kernel_rfl
@[simp] theorem ft_zeroOf_12 : zeroOf Try.prog 12 = some (Value.int IntKind.u64 (0)) := by kernel_rfl
@[simp] theorem ft_und_12 : (Try.prog.underlying 12).isSome = true := by kernel_rfl
@[simp] theorem ft_tySz_13 : tySz Try.prog 13 = some (true, 2) := by kernel_rfl
@[simp] theorem ft_zeroOf_13 : zeroOf Try.prog 13 = some (Value.agg [Value.string ⟨#[]⟩, Value.int IntKind.u64 (0)].toArray) := by kernel_rfl
@[simp] theorem ft_plOf_13 : plOf Try.prog 13 = some (Sum.inl [(0, 1), (1, 1)]) := by kernel_rfl
@[simp] theorem ft_und_13 : (Try.prog.underlying 13).isSome = true := by kernel_rfl
@[simp] theorem ft_fldOf_13_0 : fldOf Try.prog 13 0 = some (0, false, 1) := by kernel_rfl
@[simp] theorem ft_fldOf_13_1 : fldOf Try.prog 13 1 = some (1, false, 1) := by kernel_rfl
@[simp] theorem ft_tySz_14 : tySz Try.prog 14 = some (true, 2) := by kernel_rfl
@[simp] theorem ft_zeroOf_14 : zeroOf Try.prog 14 = some (Value.agg [Value.string ⟨#[]⟩, Value.int IntKind.u64 (0)].toArray) := by kernel_rfl
@[simp] theorem ft_plOf_14 : plOf Try.prog 14 = some (Sum.inl [(0, 1), (1, 1)]) := by kernel_rfl
@[simp] theorem ft_und_14 : (Try.prog.underlying 14).isSome = true := by kernel_rfl
@[simp] theorem ft_fldOf_14_0 : fldOf Try.prog 14 0 = some (0, false, 1) := by kernel_rfl
@[simp] theorem ft_fldOf_14_1 : fldOf Try.prog 14 1 = some (1, false, 1) := by kernel_rfl
@[simp] theorem ft_tySz_15 : tySz Try.prog 15 = some (false, 1) := by kernel_rfl
@[simp] theorem ft_isPt_15 : isPt Try.prog 15 = true := by kernel_rfl
@[simp] theorem ft_zeroOf_15 : zeroOf Try.prog 15 = some (Value.pointer none) := by kernel_rfl
@[simp] theorem ft_und_15 : (Try.prog.underlying 15).isSome = true := by kernel_rfl
@[simp] theorem ft_tySz_16 : tySz Try.prog 16 = some (false, 1) := by kernel_rfl
@[simp] theorem ft_isPt_16 : isPt Try.prog 16 = true := by kernel_rfl
@[simp] theorem ft_zeroOf_16 : zeroOf Try.prog 16 = some (Value.pointer none) := by kernel_rfl
@[simp] theorem ft_und_16 : (Try.prog.underlying 16).isSome = true := by kernel_rfl
@[simp] theorem ft_tySz_17 : tySz Try.prog 17 = some (false, 1) := by kernel_rfl
@[simp] theorem ft_isPt_17 : isPt Try.prog 17 = true := by kernel_rfl
@[simp] theorem ft_zeroOf_17 : zeroOf Try.prog 17 = some (Value.pointer none) := by kernel_rfl
@[simp] theorem ft_und_17 : (Try.prog.underlying 17).isSome = true := by kernel_rfl
@[simp] theorem ft_tySz_18 : tySz Try.prog 18 = some (true, 1) := by kernel_rfl
@[simp] theorem ft_zeroOf_18 : zeroOf Try.prog 18 = some (Value.agg [Value.pointer none].toArray) := by kernel_rfl
@[simp] theorem ft_plOf_18 : plOf Try.prog 18 = some (Sum.inl [(0, 1)]) := by kernel_rfl
@[simp] theorem ft_und_18 : (Try.prog.underlying 18).isSome = true := by kernel_rfl
@[simp] theorem ft_fldOf_18_0 : fldOf Try.prog 18 0 = some (0, false, 1) := by kernel_rfl
@[simp] theorem ft_tySz_19 : tySz Try.prog 19 = some (true, 1) := by kernel_rfl
@[simp] theorem ft_zeroOf_19 : zeroOf Try.prog 19 = some (Value.agg [Value.pointer none].toArray) := by kernel_rfl
@[simp] theorem ft_plOf_19 : plOf Try.prog 19 = some (Sum.inl [(0, 1)]) := by kernel_rfl
@[simp] theorem ft_und_19 : (Try.prog.underlying 19).isSome = true := by kernel_rfl
@[simp] theorem ft_fldOf_19_0 : fldOf Try.prog 19 0 = some (0, false, 1) := by kernel_rfl
@[simp] theorem ft_tySz_20 : tySz Try.prog 20 = some (false, 1) := by kernel_rfl
@[simp] theorem ft_zeroOf_20 : zeroOf Try.prog 20 = some Value.nilIface := by kernel_rfl
@[simp] theorem ft_und_20 : (Try.prog.underlying 20).isSome = true := by kernel_rfl
@[simp] theorem ft_tySz_21 : tySz Try.prog 21 = some (false, 1) := by kernel_rfl
@[simp] theorem ft_intOfTy_21 : intOfTy Try.prog 21 = some IntKind.i32 := by kernel_rfl
@[simp] theorem ft_zeroOf_21 : zeroOf Try.prog 21 = some (Value.int IntKind.i32 (0)) := by kernel_rfl
@[simp] theorem ft_und_21 : (Try.prog.underlying 21).isSome = true := by kernel_rfl
@[simp] theorem ft_tySz_22 : tySz Try.prog 22 = some (false, 1) := by kernel_rfl
@[simp] theorem ft_esz_22 : esz Try.prog 22 = some 3 := by kernel_rfl
@[simp] theorem ft_isSl_22 : isSl Try.prog 22 = true := by kernel_rfl
@[simp] theorem ft_zeroOf_22 : zeroOf Try.prog 22 = some (Value.slice none 0 0) := by kernel_rfl
@[simp] theorem ft_elZ_22 : elZ Try.prog 22 = some (3, [C.sl true [], C.v (Value.int IntKind.i64 (0)), C.v (Value.int IntKind.i64 (0))]) := by kernel_rfl
@[simp] theorem ft_slT_22 : slT Try.prog 22 = some (3, 40) := by kernel_rfl
@[simp ↓] theorem ft_vmk_22 (l c : S) (y : Nat) (st : St) (K : St → Prop) : vmk Try.prog 22 l c y st K = force (tick (sint l)) fun l => force (tick (sint c)) fun c => vmkZ (some (3, [C.sl true [], C.v (Value.int IntKind.i64 (0)), C.v (Value.int IntKind.i64 (0))])) (some (3, 40)) l c y st K := vmk_iff st K 22 l c y ft_elZ_22 ft_slT_22
@[simp] theorem ft_apT_22 : apT Try.prog 22 22 = some (3, 40) := by kernel_rfl
@[simp] theorem ft_und_22 : (Try.prog.underlying 22).isSome = true := by kernel_rfl
@[simp] theorem ft_tySz_23 : tySz Try.prog 23 = some (false, 1) := by kernel_rfl
@[simp] theorem ft_esz_23 : esz Try.prog 23 = some 1 := by kernel_rfl
@[simp] theorem ft_isSl_23 : isSl Try.prog 23 = true := by kernel_rfl
@[simp] theorem ft_zeroOf_23 : zeroOf Try.prog 23 = some (Value.slice none 0 0) := by kernel_rfl
@[simp] theorem ft_elZ_23 : elZ Try.prog 23 = some (1, [C.v (Value.int IntKind.i64 (0))]) := by kernel_rfl
@[simp] theorem ft_slT_23 : slT Try.prog 23 = some (1, 8) := by kernel_rfl
@[simp ↓] theorem ft_vmk_23 (l c : S) (y : Nat) (st : St) (K : St → Prop) : vmk Try.prog 23 l c y st K = force (tick (sint l)) fun l => force (tick (sint c)) fun c => vmkZ (some (1, [C.v (Value.int IntKind.i64 (0))])) (some (1, 8)) l c y st K := vmk_iff st K 23 l c y ft_elZ_23 ft_slT_23
@[simp] theorem ft_apT_23 : apT Try.prog 23 23 = some (1, 8) := by kernel_rfl
@[simp] theorem ft_und_23 : (Try.prog.underlying 23).isSome = true := by kernel_rfl
@[simp] theorem ft_tySz_24 : tySz Try.prog 24 = some (true, 2) := by kernel_rfl
@[simp] theorem ft_zeroOf_24 : zeroOf Try.prog 24 = some (Value.agg [Value.slice none 0 0, Value.slice none 0 0].toArray) := by kernel_rfl
@[simp] theorem ft_plOf_24 : plOf Try.prog 24 = some (Sum.inl [(0, 1), (1, 1)]) := by kernel_rfl
@[simp] theorem ft_und_24 : (Try.prog.underlying 24).isSome = true := by kernel_rfl
@[simp] theorem ft_fldOf_24_0 : fldOf Try.prog 24 0 = some (0, false, 1) := by kernel_rfl
@[simp] theorem ft_fldOf_24_1 : fldOf Try.prog 24 1 = some (1, false, 1) := by kernel_rfl
@[simp] theorem ft_tySz_25 : tySz Try.prog 25 = some (true, 2) := by kernel_rfl
@[simp] theorem ft_zeroOf_25 : zeroOf Try.prog 25 = some (Value.agg [Value.slice none 0 0, Value.slice none 0 0].toArray) := by kernel_rfl
@[simp] theorem ft_plOf_25 : plOf Try.prog 25 = some (Sum.inl [(0, 1), (1, 1)]) := by kernel_rfl
@[simp] theorem ft_und_25 : (Try.prog.underlying 25).isSome = true := by kernel_rfl
@[simp] theorem ft_fldOf_25_0 : fldOf Try.prog 25 0 = some (0, false, 1) := by kernel_rfl
@[simp] theorem ft_fldOf_25_1 : fldOf Try.prog 25 1 = some (1, false, 1) := by kernel_rfl
@[simp] theorem ft_tySz_26 : tySz Try.prog 26 = some (false, 1) := by kernel_rfl
@[simp] theorem ft_esz_26 : esz Try.prog 26 = some 2 := by kernel_rfl
@[simp] theorem ft_isSl_26 : isSl Try.prog 26 = true := by kernel_rfl
@[simp] theorem ft_zeroOf_26 : zeroOf Try.prog 26 = some (Value.slice none 0 0) := by kernel_rfl
@[simp] theorem ft_elZ_26 : elZ Try.prog 26 = some (2, [C.v (Value.string ⟨#[]⟩), C.v (Value.int IntKind.i64 (0))]) := by kernel_rfl
@[simp] theorem ft_slT_26 : slT Try.prog 26 = some (2, 24) := by kernel_rfl
@[simp ↓] theorem ft_vmk_26 (l c : S) (y : Nat) (st : St) (K : St → Prop) : vmk Try.prog 26 l c y st K = force (tick (sint l)) fun l => force (tick (sint c)) fun c => vmkZ (some (2, [C.v (Value.string ⟨#[]⟩), C.v (Value.int IntKind.i64 (0))])) (some (2, 24)) l c y st K := vmk_iff st K 26 l c y ft_elZ_26 ft_slT_26
@[simp] theorem ft_apT_26 : apT Try.prog 26 26 = some (2, 24) := by kernel_rfl
@[simp] theorem ft_und_26 : (Try.prog.underlying 26).isSome = true := by kernel_rfl
@[simp] theorem ft_tySz_27 : tySz Try.prog 27 = some (false, 1) := by kernel_rfl
@[simp] theorem ft_esz_27 : esz Try.prog 27 = some 1 := by kernel_rfl
@[simp] theorem ft_isSl_27 : isSl Try.prog 27 = true := by kernel_rfl
@[simp] theorem ft_zeroOf_27 : zeroOf Try.prog 27 = some (Value.slice none 0 0) := by kernel_rfl
@[simp] theorem ft_elZ_27 : elZ Try.prog 27 = some (1, [C.v (Value.string ⟨#[]⟩)]) := by kernel_rfl
@[simp] theorem ft_slT_27 : slT Try.prog 27 = some (1, 16) := by kernel_rfl
@[simp ↓] theorem ft_vmk_27 (l c : S) (y : Nat) (st : St) (K : St → Prop) : vmk Try.prog 27 l c y st K = force (tick (sint l)) fun l => force (tick (sint c)) fun c => vmkZ (some (1, [C.v (Value.string ⟨#[]⟩)])) (some (1, 16)) l c y st K := vmk_iff st K 27 l c y ft_elZ_27 ft_slT_27
@[simp] theorem ft_apT_27 : apT Try.prog 27 27 = some (1, 16) := by kernel_rfl
@[simp] theorem ft_und_27 : (Try.prog.underlying 27).isSome = true := by kernel_rfl
@[simp] theorem ft_tySz_28 : tySz Try.prog 28 = some (true, 5) := by kernel_rfl
@[simp] theorem ft_zeroOf_28 : zeroOf Try.prog 28 = some (Value.agg [Value.int IntKind.i64 (0), Value.string ⟨#[]⟩, Value.slice none 0 0, Value.slice none 0 0, Value.bool false].toArray) := by kernel_rfl
@[simp] theorem ft_plOf_28 : plOf Try.prog 28 = some (Sum.inl [(0, 1), (1, 1), (2, 1), (3, 1), (4, 1)]) := by kernel_rfl
@[simp] theorem ft_und_28 : (Try.prog.underlying 28).isSome = true := by kernel_rfl
@[simp] theorem ft_fldOf_28_0 : fldOf Try.prog 28 0 = some (0, false, 1) := by kernel_rfl
@[simp] theorem ft_fldOf_28_1 : fldOf Try.prog 28 1 = some (1, false, 1) := by kernel_rfl
@[simp] theorem ft_fldOf_28_2 : fldOf Try.prog 28 2 = some (2, false, 1) := by kernel_rfl
@[simp] theorem ft_fldOf_28_3 : fldOf Try.prog 28 3 = some (3, false, 1) := by kernel_rfl
@[simp] theorem ft_fldOf_28_4 : fldOf Try.prog 28 4 = some (4, false, 1) := by kernel_rfl
@[simp] theorem ft_tySz_29 : tySz Try.prog 29 = some (true, 5) := by kernel_rfl
@[simp] theorem ft_zeroOf_29 : zeroOf Try.prog 29 = some (Value.agg [Value.int IntKind.i64 (0), Value.string ⟨#[]⟩, Value.slice none 0 0, Value.slice none 0 0, Value.bool false].toArray) := by kernel_rfl
@[simp] theorem ft_plOf_29 : plOf Try.prog 29 = some (Sum.inl [(0, 1), (1, 1), (2, 1), (3, 1), (4, 1)]) := by kernel_rfl
@[simp] theorem ft_und_29 : (Try.prog.underlying 29).isSome = true := by kernel_rfl
@[simp] theorem ft_fldOf_29_0 : fldOf Try.prog 29 0 = some (0, false, 1) := by kernel_rfl
@[simp] theorem ft_fldOf_29_1 : fldOf Try.prog 29 1 = some (1, false, 1) := by kernel_rfl
@[simp] theorem ft_fldOf_29_2 : fldOf Try.prog 29 2 = some (2, false, 1) := by kernel_rfl
@[simp] theorem ft_fldOf_29_3 : fldOf Try.prog 29 3 = some (3, false, 1) := by kernel_rfl
@[simp] theorem ft_fldOf_29_4 : fldOf Try.prog 29 4 = some (4, false, 1) := by kernel_rfl
@[simp] theorem ft_tySz_30 : tySz Try.prog 30 = some (false, 1) := by kernel_rfl
@[simp] theorem ft_esz_30 : esz Try.prog 30 = some 3 := by kernel_rfl
@[simp] theorem ft_isSl_30 : isSl Try.prog 30 = true := by kernel_rfl
@[simp] theorem ft_zeroOf_30 : zeroOf Try.prog 30 = some (Value.slice none 0 0) := by kernel_rfl
@[simp] theorem ft_elZ_30 : elZ Try.prog 30 = some (3, [C.v (Value.int IntKind.i64 (0)), C.v (Value.int IntKind.i64 (0)), C.v (Value.string ⟨#[]⟩)]) := by kernel_rfl
@[simp] theorem ft_slT_30 : slT Try.prog 30 = some (3, 32) := by kernel_rfl
@[simp ↓] theorem ft_vmk_30 (l c : S) (y : Nat) (st : St) (K : St → Prop) : vmk Try.prog 30 l c y st K = force (tick (sint l)) fun l => force (tick (sint c)) fun c => vmkZ (some (3, [C.v (Value.int IntKind.i64 (0)), C.v (Value.int IntKind.i64 (0)), C.v (Value.string ⟨#[]⟩)])) (some (3, 32)) l c y st K := vmk_iff st K 30 l c y ft_elZ_30 ft_slT_30
@[simp] theorem ft_apT_30 : apT Try.prog 30 30 = some (3, 32) := by kernel_rfl
@[simp] theorem ft_und_30 : (Try.prog.underlying 30).isSome = true := by kernel_rfl
@[simp] theorem ft_tySz_31 : tySz Try.prog 31 = some (true, 2) := by kernel_rfl
@[simp] theorem ft_zeroOf_31 : zeroOf Try.prog 31 = some (Value.agg [Value.int IntKind.i64 (0), Value.int IntKind.i64 (0)].toArray) := by kernel_rfl
@[simp] theorem ft_plOf_31 : plOf Try.prog 31 = some (Sum.inl [(0, 1), (1, 1)]) := by kernel_rfl
@[simp] theorem ft_eqT_31 : eqT Try.prog 31 = some [FK.i, FK.i] := by kernel_rfl
@[simp] theorem ft_und_31 : (Try.prog.underlying 31).isSome = true := by kernel_rfl
@[simp] theorem ft_fldOf_31_0 : fldOf Try.prog 31 0 = some (0, false, 1) := by kernel_rfl
@[simp] theorem ft_fldOf_31_1 : fldOf Try.prog 31 1 = some (1, false, 1) := by kernel_rfl
@[simp] theorem ft_tySz_32 : tySz Try.prog 32 = some (true, 2) := by kernel_rfl
@[simp] theorem ft_zeroOf_32 : zeroOf Try.prog 32 = some (Value.agg [Value.int IntKind.i64 (0), Value.int IntKind.i64 (0)].toArray) := by kernel_rfl
@[simp] theorem ft_plOf_32 : plOf Try.prog 32 = some (Sum.inl [(0, 1), (1, 1)]) := by kernel_rfl
@[simp] theorem ft_eqT_32 : eqT Try.prog 32 = some [FK.i, FK.i] := by kernel_rfl
@[simp] theorem ft_und_32 : (Try.prog.underlying 32).isSome = true := by kernel_rfl
@[simp] theorem ft_fldOf_32_0 : fldOf Try.prog 32 0 = some (0, false, 1) := by kernel_rfl
@[simp] theorem ft_fldOf_32_1 : fldOf Try.prog 32 1 = some (1, false, 1) := by kernel_rfl
@[simp] theorem ft_tySz_33 : tySz Try.prog 33 = some (true, 3) := by kernel_rfl
@[simp] theorem ft_zeroOf_33 : zeroOf Try.prog 33 = some (Value.agg [Value.slice none 0 0, Value.int IntKind.i64 (0), Value.int IntKind.i64 (0)].toArray) := by kernel_rfl
@[simp] theorem ft_plOf_33 : plOf Try.prog 33 = some (Sum.inl [(0, 1), (1, 2)]) := by kernel_rfl
@[simp] theorem ft_und_33 : (Try.prog.underlying 33).isSome = true := by kernel_rfl
@[simp] theorem ft_fldOf_33_0 : fldOf Try.prog 33 0 = some (0, false, 1) := by kernel_rfl
@[simp] theorem ft_fldOf_33_1 : fldOf Try.prog 33 1 = some (1, true, 2) := by kernel_rfl
@[simp] theorem ft_tySz_34 : tySz Try.prog 34 = some (true, 3) := by kernel_rfl
@[simp] theorem ft_zeroOf_34 : zeroOf Try.prog 34 = some (Value.agg [Value.slice none 0 0, Value.int IntKind.i64 (0), Value.int IntKind.i64 (0)].toArray) := by kernel_rfl
@[simp] theorem ft_plOf_34 : plOf Try.prog 34 = some (Sum.inl [(0, 1), (1, 2)]) := by kernel_rfl
@[simp] theorem ft_und_34 : (Try.prog.underlying 34).isSome = true := by kernel_rfl
@[simp] theorem ft_fldOf_34_0 : fldOf Try.prog 34 0 = some (0, false, 1) := by kernel_rfl
@[simp] theorem ft_fldOf_34_1 : fldOf Try.prog 34 1 = some (1, true, 2) := by kernel_rfl
@[simp] theorem ft_tySz_35 : tySz Try.prog 35 = some (true, 9) := by kernel_rfl
@[simp] theorem ft_zeroOf_35 : zeroOf Try.prog 35 = some (Value.agg [Value.int IntKind.i64 (0), Value.string ⟨#[]⟩, Value.slice none 0 0, Value.slice none 0 0, Value.bool false, Value.slice none 0 0, Value.int IntKind.i64 (0), Value.int IntKind.i64 (0), Value.slice none 0 0].toArray) := by kernel_rfl
@[simp] theorem ft_plOf_35 : plOf Try.prog 35 = some (Sum.inl [(0, 5), (5, 3), (8, 1)]) := by kernel_rfl
@[simp] theorem ft_und_35 : (Try.prog.underlying 35).isSome = true := by kernel_rfl
@[simp] theorem ft_fldOf_35_0 : fldOf Try.prog 35 0 = some (0, true, 5) := by kernel_rfl
@[simp] theorem ft_fldOf_35_1 : fldOf Try.prog 35 1 = some (5, true, 3) := by kernel_rfl
@[simp] theorem ft_fldOf_35_2 : fldOf Try.prog 35 2 = some (8, false, 1) := by kernel_rfl
@[simp] theorem ft_tySz_36 : tySz Try.prog 36 = some (true, 9) := by kernel_rfl
@[simp] theorem ft_zeroOf_36 : zeroOf Try.prog 36 = some (Value.agg [Value.int IntKind.i64 (0), Value.string ⟨#[]⟩, Value.slice none 0 0, Value.slice none 0 0, Value.bool false, Value.slice none 0 0, Value.int IntKind.i64 (0), Value.int IntKind.i64 (0), Value.slice none 0 0].toArray) := by kernel_rfl
@[simp] theorem ft_plOf_36 : plOf Try.prog 36 = some (Sum.inl [(0, 5), (5, 3), (8, 1)]) := by kernel_rfl
@[simp] theorem ft_und_36 : (Try.prog.underlying 36).isSome = true := by kernel_rfl
@[simp] theorem ft_fldOf_36_0 : fldOf Try.prog 36 0 = some (0, true, 5) := by kernel_rfl
@[simp] theorem ft_fldOf_36_1 : fldOf Try.prog 36 1 = some (5, true, 3) := by kernel_rfl
@[simp] theorem ft_fldOf_36_2 : fldOf Try.prog 36 2 = some (8, false, 1) := by kernel_rfl
@[simp] theorem ft_tySz_37 : tySz Try.prog 37 = some (false, 1) := by kernel_rfl
@[simp] theorem ft_zeroOf_37 : zeroOf Try.prog 37 = some Value.nilFunc := by kernel_rfl
@[simp] theorem ft_und_37 : (Try.prog.underlying 37).isSome = true := by kernel_rfl
@[simp] theorem ft_tySz_38 : tySz Try.prog 38 = some (false, 1) := by kernel_rfl
@[simp] theorem ft_intOfTy_38 : intOfTy Try.prog 38 = some IntKind.i64 := by kernel_rfl
@[simp] theorem ft_zeroOf_38 : zeroOf Try.prog 38 = some (Value.int IntKind.i64 (0)) := by kernel_rfl
@[simp] theorem ft_und_38 : (Try.prog.underlying 38).isSome = true := by kernel_rfl
@[simp] theorem ft_tySz_39 : tySz Try.prog 39 = some (false, 1) := by kernel_rfl
@[simp] theorem ft_zeroOf_39 : zeroOf Try.prog 39 = some (Value.tuple [Value.slice none 0 0, Value.int IntKind.i64 (0)].toArray) := by kernel_rfl
@[simp] theorem ft_und_39 : (Try.prog.underlying 39).isSome = true := by kernel_rfl
@[simp] theorem ft_tySz_40 : tySz Try.prog 40 = some (false, 1) := by kernel_rfl
@[simp] theorem ft_zeroOf_40 : zeroOf Try.prog 40 = some Value.nilFunc := by kernel_rfl
@[simp] theorem ft_und_40 : (Try.prog.underlying 40).isSome = true := by kernel_rfl
@[simp] theorem ft_tySz_41 : tySz Try.prog 41 = some (false, 1) := by kernel_rfl
@[simp] theorem ft_zeroOf_41 : zeroOf Try.prog 41 = some (Value.tuple [Value.slice none 0 0, Value.int IntKind.i64 (0)].toArray) := by kernel_rfl
@[simp] theorem ft_und_41 : (Try.prog.underlying 41).isSome = true := by kernel_rfl
@[simp] theorem ft_tySz_42 : tySz Try.prog 42 = some (false, 1) := by kernel_rfl
@[simp] theorem ft_zeroOf_42 : zeroOf Try.prog 42 = some Value.nilFunc := by kernel_rfl
@[simp] theorem ft_und_42 : (Try.prog.underlying 42).isSome = true := by kernel_rfl
@[simp] theorem ft_tySz_43 : tySz Try.prog 43 = some (true, 2) := by kernel_rfl
@[simp] theorem ft_zeroOf_43 : zeroOf Try.prog 43 = some (Value.agg [Value.slice none 0 0, Value.slice none 0 0].toArray) := by kernel_rfl
@[simp] theorem ft_plOf_43 : plOf Try.prog 43 = some (Sum.inl [(0, 1), (1, 1)]) := by kernel_rfl
@[simp] theorem ft_und_43 : (Try.prog.underlying 43).isSome = true := by kernel_rfl
@[simp] theorem ft_fldOf_43_0 : fldOf Try.prog 43 0 = some (0, false, 1) := by kernel_rfl
@[simp] theorem ft_fldOf_43_1 : fldOf Try.prog 43 1 = some (1, false, 1) := by kernel_rfl
@[simp] theorem ft_tySz_44 : tySz Try.prog 44 = some (false, 1) := by kernel_rfl
@[simp] theorem ft_zeroOf_44 : zeroOf Try.prog 44 = some (Value.tuple [Value.int IntKind.i64 (0), Value.int IntKind.i64 (0), Value.bool false].toArray) := by kernel_rfl
@[simp] theorem ft_und_44 : (Try.prog.underlying 44).isSome = true := by kernel_rfl
@[simp] theorem ft_tySz_45 : tySz Try.prog 45 = some (false, 1) := by kernel_rfl
@[simp] theorem ft_zeroOf_45 : zeroOf Try.prog 45 = some Value.nilFunc := by kernel_rfl
@[simp] theorem ft_und_45 : (Try.prog.underlying 45).isSome = true := by kernel_rfl
@[simp] theorem ft_tySz_46 : tySz Try.prog 46 = some (false, 1) := by kernel_rfl
@[simp] theorem ft_zeroOf_46 : zeroOf Try.prog 46 = some Value.nilFunc := by kernel_rfl
@[simp] theorem ft_und_46 : (Try.prog.underlying 46).isSome = true := by kernel_rfl
@[simp] theorem ft_tySz_47 : tySz Try.prog 47 = some (true, 5) := by kernel_rfl
@[simp] theorem ft_zeroOf_47 : zeroOf Try.prog 47 = some (Value.agg [Value.int IntKind.i64 (0), Value.string ⟨#[]⟩, Value.slice none 0 0, Value.slice none 0 0, Value.bool false].toArray) := by kernel_rfl
@[simp] theorem ft_plOf_47 : plOf Try.prog 47 = some (Sum.inl [(0, 1), (1, 1), (2, 1), (3, 1), (4, 1)]) := by kernel_rfl
@[simp] theorem ft_und_47 : (Try.prog.underlying 47).isSome = true := by kernel_rfl
@[simp] theorem ft_fldOf_47_0 : fldOf Try.prog 47 0 = some (0, false, 1) := by kernel_rfl
@[simp] theorem ft_fldOf_47_1 : fldOf Try.prog 47 1 = some (1, false, 1) := by kernel_rfl
@[simp] theorem ft_fldOf_47_2 : fldOf Try.prog 47 2 = some (2, false, 1) := by kernel_rfl
@[simp] theorem ft_fldOf_47_3 : fldOf Try.prog 47 3 = some (3, false, 1) := by kernel_rfl
@[simp] theorem ft_fldOf_47_4 : fldOf Try.prog 47 4 = some (4, false, 1) := by kernel_rfl
@[simp] theorem ft_tySz_48 : tySz Try.prog 48 = some (false, 1) := by kernel_rfl
@[simp] theorem ft_zeroOf_48 : zeroOf Try.prog 48 = some Value.nilFunc := by kernel_rfl
@[simp] theorem ft_und_48 : (Try.prog.underlying 48).isSome = true := by kernel_rfl
@[simp] theorem ft_tySz_49 : tySz Try.prog 49 = some (false, 1) := by kernel_rfl
@[simp] theorem ft_zeroOf_49 : zeroOf Try.prog 49 = some Value.nilFunc := by kernel_rfl
@[simp] theorem ft_und_49 : (Try.prog.underlying 49).isSome = true := by kernel_rfl
@[simp] theorem ft_tySz_50 : tySz Try.prog 50 = some (false, 1) := by kernel_rfl
@[simp] theorem ft_zeroOf_50 : zeroOf Try.prog 50 = some Value.nilFunc := by kernel_rfl
@[simp] theorem ft_und_50 : (Try.prog.underlying 50).isSome = true := by kernel_rfl
@[simp] theorem ft_tySz_51 : tySz Try.prog 51 = some (false, 1) := by kernel_rfl
@[simp] theorem ft_zeroOf_51 : zeroOf Try.prog 51 = some Value.nilFunc := by kernel_rfl
@[simp] theorem ft_und_51 : (Try.prog.underlying 51).isSome = true := by kernel_rfl
@[simp] theorem ft_tySz_52 : tySz Try.prog 52 = some (false, 1) := by kernel_rfl
@[simp] theorem ft_esz_52 : esz Try.prog 52 = some 3 := by kernel_rfl
@[simp] theorem ft_isSl_52 : isSl Try.prog 52 = true := by kernel_rfl
@[simp] theorem ft_zeroOf_52 : zeroOf Try.prog 52 = some (Value.slice none 0 0) := by kernel_rfl
@[simp] theorem ft_elZ_52 : elZ Try.prog 52 = some (3, [C.v (Value.int IntKind.i64 (0)), C.v (Value.int IntKind.i64 (0)), C.sl true []]) := by kernel_rfl
@[simp] theorem ft_slT_52 : slT Try.prog 52 = some (3, 40) := by kernel_rfl
@[simp ↓] theorem ft_vmk_52 (l c : S) (y : Nat) (st : St) (K : St → Prop) : vmk Try.prog 52 l c y st K = force (tick (sint l)) fun l => force (tick (sint c)) fun c => vmkZ (some (3, [C.v (Value.int IntKind.i64 (0)), C.v (Value.int IntKind.i64 (0)), C.sl true []])) (some (3, 40)) l c y st K := vmk_iff st K 52 l c y ft_elZ_52 ft_slT_52
@[simp] theorem ft_apT_52 : apT Try.prog 52 52 = some (3, 40) := by kernel_rfl
@[simp] theorem ft_und_52 : (Try.prog.underlying 52).isSome = true := by kernel_rfl
@[simp] theorem ft_tySz_53 : tySz Try.prog 53 = some (false, 1) := by kernel_rfl
@[simp] theorem ft_zeroOf_53 : zeroOf Try.prog 53 = some Value.nilFunc := by kernel_rfl
@[simp] theorem ft_und_53 : (Try.prog.underlying 53).isSome = true := by kernel_rfl
@[simp] theorem ft_tySz_54 : tySz Try.prog 54 = some (false, 1) := by kernel_rfl
@[simp] theorem ft_esz_54 : esz Try.prog 54 = some 1 := by kernel_rfl
@[simp] theorem ft_isSl_54 : isSl Try.prog 54 = true := by kernel_rfl
@[simp] theorem ft_zeroOf_54 : zeroOf Try.prog 54 = some (Value.slice none 0 0) := by kernel_rfl
@[simp] theorem ft_elZ_54 : elZ Try.prog 54 = some (1, [C.sl true []]) := by kernel_rfl
@[simp] theorem ft_slT_54 : slT Try.prog 54 = some (1, 24) := by kernel_rfl
@[simp ↓] theorem ft_vmk_54 (l c : S) (y : Nat) (st : St) (K : St → Prop) : vmk Try.prog 54 l c y st K = force (tick (sint l)) fun l => force (tick (sint c)) fun c => vmkZ (some (1, [C.sl true []])) (some (1, 24)) l c y st K := vmk_iff st K 54 l c y ft_elZ_54 ft_slT_54
@[simp] theorem ft_apT_54 : apT Try.prog 54 54 = some (1, 24) := by kernel_rfl
@[simp] theorem ft_und_54 : (Try.prog.underlying 54).isSome = true := by kernel_rfl
@[simp] theorem ft_tySz_55 : tySz Try.prog 55 = some (true, 3) := by kernel_rfl
@[simp] theorem ft_zeroOf_55 : zeroOf Try.prog 55 = some (Value.agg [Value.int IntKind.i64 (0), Value.int IntKind.i64 (0), Value.slice none 0 0].toArray) := by kernel_rfl
@[simp] theorem ft_plOf_55 : plOf Try.prog 55 = some (Sum.inl [(0, 1), (1, 1), (2, 1)]) := by kernel_rfl
@[simp] theorem ft_und_55 : (Try.prog.underlying 55).isSome = true := by kernel_rfl
@[simp] theorem ft_fldOf_55_0 : fldOf Try.prog 55 0 = some (0, false, 1) := by kernel_rfl
@[simp] theorem ft_fldOf_55_1 : fldOf Try.prog 55 1 = some (1, false, 1) := by kernel_rfl
@[simp] theorem ft_fldOf_55_2 : fldOf Try.prog 55 2 = some (2, false, 1) := by kernel_rfl
@[simp] theorem ft_tySz_56 : tySz Try.prog 56 = some (true, 3) := by kernel_rfl
@[simp] theorem ft_zeroOf_56 : zeroOf Try.prog 56 = some (Value.agg [Value.int IntKind.i64 (0), Value.int IntKind.i64 (0), Value.slice none 0 0].toArray) := by kernel_rfl
@[simp] theorem ft_plOf_56 : plOf Try.prog 56 = some (Sum.inl [(0, 1), (1, 1), (2, 1)]) := by kernel_rfl
@[simp] theorem ft_und_56 : (Try.prog.underlying 56).isSome = true := by kernel_rfl
@[simp] theorem ft_fldOf_56_0 : fldOf Try.prog 56 0 = some (0, false, 1) := by kernel_rfl
@[simp] theorem ft_fldOf_56_1 : fldOf Try.prog 56 1 = some (1, false, 1) := by kernel_rfl
@[simp] theorem ft_fldOf_56_2 : fldOf Try.prog 56 2 = some (2, false, 1) := by kernel_rfl
@[simp] theorem ft_tySz_57 : tySz Try.prog 57 = some (true, 3) := by kernel_rfl
@[simp] theorem ft_zeroOf_57 : zeroOf Try.prog 57 = some (Value.agg [Value.int IntKind.i64 (0), Value.int IntKind.i64 (0), Value.string ⟨#[]⟩].toArray) := by kernel_rfl
@[simp] theorem ft_plOf_57 : plOf Try.prog 57 = some (Sum.inl [(0, 1), (1, 1), (2, 1)]) := by kernel_rfl
@[simp] theorem ft_eqT_57 : eqT Try.prog 57 = some [FK.i, FK.i, FK.s] := by kernel_rfl
@[simp] theorem ft_und_57 : (Try.prog.underlying 57).isSome = true := by kernel_rfl
@[simp] theorem ft_fldOf_57_0 : fldOf Try.prog 57 0 = some (0, false, 1) := by kernel_rfl
@[simp] theorem ft_fldOf_57_1 : fldOf Try.prog 57 1 = some (1, false, 1) := by kernel_rfl
@[simp] theorem ft_fldOf_57_2 : fldOf Try.prog 57 2 = some (2, false, 1) := by kernel_rfl
@[simp] theorem ft_tySz_58 : tySz Try.prog 58 = some (true, 3) := by kernel_rfl
@[simp] theorem ft_zeroOf_58 : zeroOf Try.prog 58 = some (Value.agg [Value.int IntKind.i64 (0), Value.int IntKind.i64 (0), Value.string ⟨#[]⟩].toArray) := by kernel_rfl
@[simp] theorem ft_plOf_58 : plOf Try.prog 58 = some (Sum.inl [(0, 1), (1, 1), (2, 1)]) := by kernel_rfl
@[simp] theorem ft_eqT_58 : eqT Try.prog 58 = some [FK.i, FK.i, FK.s] := by kernel_rfl
@[simp] theorem ft_und_58 : (Try.prog.underlying 58).isSome = true := by kernel_rfl
@[simp] theorem ft_fldOf_58_0 : fldOf Try.prog 58 0 = some (0, false, 1) := by kernel_rfl
@[simp] theorem ft_fldOf_58_1 : fldOf Try.prog 58 1 = some (1, false, 1) := by kernel_rfl
@[simp] theorem ft_fldOf_58_2 : fldOf Try.prog 58 2 = some (2, false, 1) := by kernel_rfl
@[simp] theorem ft_tySz_59 : tySz Try.prog 59 = some (false, 1) := by kernel_rfl
@[simp] theorem ft_zeroOf_59 : zeroOf Try.prog 59 = some Value.nilFunc := by kernel_rfl
@[simp] theorem ft_und_59 : (Try.prog.underlying 59).isSome = true := by kernel_rfl
@[simp] theorem ft_tySz_60 : tySz Try.prog 60 = some (false, 1) := by kernel_rfl
@[simp] theorem ft_zeroOf_60 : zeroOf Try.prog 60 = some Value.nilFunc := by kernel_rfl
@[simp] theorem ft_und_60 : (Try.prog.underlying 60).isSome = true := by kernel_rfl
@[simp] theorem ft_tySz_61 : tySz Try.prog 61 = some (false, 1) := by kernel_rfl
@[simp] theorem ft_esz_61 : esz Try.prog 61 = some 5 := by kernel_rfl
@[simp] theorem ft_isSl_61 : isSl Try.prog 61 = true := by kernel_rfl
@[simp] theorem ft_zeroOf_61 : zeroOf Try.prog 61 = some (Value.slice none 0 0) := by kernel_rfl
@[simp] theorem ft_elZ_61 : elZ Try.prog 61 = some (5, [C.v (Value.string ⟨#[]⟩), C.v (Value.int IntKind.i64 (0)), C.v (Value.string ⟨#[]⟩), C.v (Value.string ⟨#[]⟩), C.sl true []]) := by kernel_rfl
@[simp] theorem ft_slT_61 : slT Try.prog 61 = some (5, 80) := by kernel_rfl
@[simp ↓] theorem ft_vmk_61 (l c : S) (y : Nat) (st : St) (K : St → Prop) : vmk Try.prog 61 l c y st K = force (tick (sint l)) fun l => force (tick (sint c)) fun c => vmkZ (some (5, [C.v (Value.string ⟨#[]⟩), C.v (Value.int IntKind.i64 (0)), C.v (Value.string ⟨#[]⟩), C.v (Value.string ⟨#[]⟩), C.sl true []])) (some (5, 80)) l c y st K := vmk_iff st K 61 l c y ft_elZ_61 ft_slT_61
@[simp] theorem ft_apT_61 : apT Try.prog 61 61 = some (5, 80) := by kernel_rfl
@[simp] theorem ft_und_61 : (Try.prog.underlying 61).isSome = true := by kernel_rfl
@[simp] theorem ft_tySz_62 : tySz Try.prog 62 = some (true, 5) := by kernel_rfl
@[simp] theorem ft_zeroOf_62 : zeroOf Try.prog 62 = some (Value.agg [Value.int IntKind.i64 (0), Value.int IntKind.i64 (0), Value.slice none 0 0, Value.slice none 0 0, Value.slice none 0 0].toArray) := by kernel_rfl
@[simp] theorem ft_plOf_62 : plOf Try.prog 62 = some (Sum.inl [(0, 2), (2, 1), (3, 1), (4, 1)]) := by kernel_rfl
@[simp] theorem ft_und_62 : (Try.prog.underlying 62).isSome = true := by kernel_rfl
@[simp] theorem ft_fldOf_62_0 : fldOf Try.prog 62 0 = some (0, true, 2) := by kernel_rfl
@[simp] theorem ft_fldOf_62_1 : fldOf Try.prog 62 1 = some (2, false, 1) := by kernel_rfl
@[simp] theorem ft_fldOf_62_2 : fldOf Try.prog 62 2 = some (3, false, 1) := by kernel_rfl
@[simp] theorem ft_fldOf_62_3 : fldOf Try.prog 62 3 = some (4, false, 1) := by kernel_rfl
@[simp] theorem ft_tySz_63 : tySz Try.prog 63 = some (true, 5) := by kernel_rfl
@[simp] theorem ft_zeroOf_63 : zeroOf Try.prog 63 = some (Value.agg [Value.int IntKind.i64 (0), Value.int IntKind.i64 (0), Value.slice none 0 0, Value.slice none 0 0, Value.slice none 0 0].toArray) := by kernel_rfl
@[simp] theorem ft_plOf_63 : plOf Try.prog 63 = some (Sum.inl [(0, 2), (2, 1), (3, 1), (4, 1)]) := by kernel_rfl
@[simp] theorem ft_und_63 : (Try.prog.underlying 63).isSome = true := by kernel_rfl
@[simp] theorem ft_fldOf_63_0 : fldOf Try.prog 63 0 = some (0, true, 2) := by kernel_rfl
@[simp] theorem ft_fldOf_63_1 : fldOf Try.prog 63 1 = some (2, false, 1) := by kernel_rfl
@[simp] theorem ft_fldOf_63_2 : fldOf Try.prog 63 2 = some (3, false, 1) := by kernel_rfl
@[simp] theorem ft_fldOf_63_3 : fldOf Try.prog 63 3 = some (4, false, 1) := by kernel_rfl
@[simp] theorem ft_tySz_64 : tySz Try.prog 64 = some (false, 1) := by kernel_rfl
@[simp] theorem ft_esz_64 : esz Try.prog 64 = some 7 := by kernel_rfl
@[simp] theorem ft_isSl_64 : isSl Try.prog 64 = true := by kernel_rfl
@[simp] theorem ft_zeroOf_64 : zeroOf Try.prog 64 = some (Value.slice none 0 0) := by kernel_rfl
@[simp] theorem ft_elZ_64 : elZ Try.prog 64 = some (7, [C.v (Value.string ⟨#[]⟩), C.v (Value.int IntKind.i64 (0)), C.v (Value.int IntKind.i64 (0)), C.v (Value.int IntKind.i64 (0)), C.v (Value.string ⟨#[]⟩), C.v (Value.int IntKind.i64 (0)), C.sl true []]) := by kernel_rfl
@[simp] theorem ft_slT_64 : slT Try.prog 64 = some (7, 88) := by kernel_rfl
@[simp ↓] theorem ft_vmk_64 (l c : S) (y : Nat) (st : St) (K : St → Prop) : vmk Try.prog 64 l c y st K = force (tick (sint l)) fun l => force (tick (sint c)) fun c => vmkZ (some (7, [C.v (Value.string ⟨#[]⟩), C.v (Value.int IntKind.i64 (0)), C.v (Value.int IntKind.i64 (0)), C.v (Value.int IntKind.i64 (0)), C.v (Value.string ⟨#[]⟩), C.v (Value.int IntKind.i64 (0)), C.sl true []])) (some (7, 88)) l c y st K := vmk_iff st K 64 l c y ft_elZ_64 ft_slT_64
@[simp] theorem ft_apT_64 : apT Try.prog 64 64 = some (7, 88) := by kernel_rfl
@[simp] theorem ft_und_64 : (Try.prog.underlying 64).isSome = true := by kernel_rfl
@[simp] theorem ft_tySz_65 : tySz Try.prog 65 = some (false, 1) := by kernel_rfl
@[simp] theorem ft_esz_65 : esz Try.prog 65 = some 8 := by kernel_rfl
@[simp] theorem ft_isSl_65 : isSl Try.prog 65 = true := by kernel_rfl
@[simp] theorem ft_zeroOf_65 : zeroOf Try.prog 65 = some (Value.slice none 0 0) := by kernel_rfl
@[simp] theorem ft_elZ_65 : elZ Try.prog 65 = some (8, [C.v (Value.int IntKind.i64 (0)), C.v (Value.string ⟨#[]⟩), C.v (Value.int IntKind.i64 (0)), C.v (Value.int IntKind.i64 (0)), C.v (Value.int IntKind.i64 (0)), C.v (Value.string ⟨#[]⟩), C.v (Value.int IntKind.i64 (0)), C.sl true []]) := by kernel_rfl
@[simp] theorem ft_slT_65 : slT Try.prog 65 = some (8, 96) := by kernel_rfl
@[simp ↓] theorem ft_vmk_65 (l c : S) (y : Nat) (st : St) (K : St → Prop) : vmk Try.prog 65 l c y st K = force (tick (sint l)) fun l => force (tick (sint c)) fun c => vmkZ (some (8, [C.v (Value.int IntKind.i64 (0)), C.v (Value.string ⟨#[]⟩), C.v (Value.int IntKind.i64 (0)), C.v (Value.int IntKind.i64 (0)), C.v (Value.int IntKind.i64 (0)), C.v (Value.string ⟨#[]⟩), C.v (Value.int IntKind.i64 (0)), C.sl true []])) (some (8, 96)) l c y st K := vmk_iff st K 65 l c y ft_elZ_65 ft_slT_65
@[simp] theorem ft_apT_65 : apT Try.prog 65 65 = some (8, 96) := by kernel_rfl
@[simp] theorem ft_und_65 : (Try.prog.underlying 65).isSome = true := by kernel_rfl
@[simp] theorem ft_tySz_66 : tySz Try.prog 66 = some (false, 1) := by kernel_rfl
@[simp] theorem ft_esz_66 : esz Try.prog 66 = some 6 := by kernel_rfl
@[simp] theorem ft_isSl_66 : isSl Try.prog 66 = true := by kernel_rfl
@[simp] theorem ft_zeroOf_66 : zeroOf Try.prog 66 = some (Value.slice none 0 0) := by kernel_rfl
@[simp] theorem ft_elZ_66 : elZ Try.prog 66 = some (6, [C.v (Value.int IntKind.i64 (0)), C.v (Value.string ⟨#[]⟩), C.v (Value.int IntKind.i64 (0)), C.v (Value.string ⟨#[]⟩), C.v (Value.string ⟨#[]⟩), C.sl true []]) := by kernel_rfl
@[simp] theorem ft_slT_66 : slT Try.prog 66 = some (6, 88) := by kernel_rfl
@[simp ↓] theorem ft_vmk_66 (l c : S) (y : Nat) (st : St) (K : St → Prop) : vmk Try.prog 66 l c y st K = force (tick (sint l)) fun l => force (tick (sint c)) fun c => vmkZ (some (6, [C.v (Value.int IntKind.i64 (0)), C.v (Value.string ⟨#[]⟩), C.v (Value.int IntKind.i64 (0)), C.v (Value.string ⟨#[]⟩), C.v (Value.string ⟨#[]⟩), C.sl true []])) (some (6, 88)) l c y st K := vmk_iff st K 66 l c y ft_elZ_66 ft_slT_66
@[simp] theorem ft_apT_66 : apT Try.prog 66 66 = some (6, 88) := by kernel_rfl
@[simp] theorem ft_und_66 : (Try.prog.underlying 66).isSome = true := by kernel_rfl
@[simp] theorem ft_tySz_67 : tySz Try.prog 67 = some (false, 1) := by kernel_rfl
@[simp] theorem ft_zeroOf_67 : zeroOf Try.prog 67 = some (Value.tuple [Value.slice none 0 0, Value.slice none 0 0, Value.slice none 0 0, Value.slice none 0 0].toArray) := by kernel_rfl
@[simp] theorem ft_und_67 : (Try.prog.underlying 67).isSome = true := by kernel_rfl
@[simp] theorem ft_tySz_68 : tySz Try.prog 68 = some (false, 1) := by kernel_rfl
@[simp] theorem ft_zeroOf_68 : zeroOf Try.prog 68 = some Value.nilFunc := by kernel_rfl
@[simp] theorem ft_und_68 : (Try.prog.underlying 68).isSome = true := by kernel_rfl
@[simp] theorem ft_tySz_69 : tySz Try.prog 69 = some (false, 1) := by kernel_rfl
@[simp] theorem ft_zeroOf_69 : zeroOf Try.prog 69 = some Value.nilFunc := by kernel_rfl
@[simp] theorem ft_und_69 : (Try.prog.underlying 69).isSome = true := by kernel_rfl
@[simp] theorem ft_tySz_70 : tySz Try.prog 70 = some (false, 1) := by kernel_rfl
@[simp] theorem ft_zeroOf_70 : zeroOf Try.prog 70 = some (Value.tuple [Value.agg [Value.slice none 0 0, Value.slice none 0 0].toArray, Value.int IntKind.i64 (0)].toArray) := by kernel_rfl
@[simp] theorem ft_und_70 : (Try.prog.underlying 70).isSome = true := by kernel_rfl
@[simp] theorem ft_tySz_71 : tySz Try.prog 71 = some (false, 1) := by kernel_rfl
@[simp] theorem ft_zeroOf_71 : zeroOf Try.prog 71 = some Value.nilFunc := by kernel_rfl
@[simp] theorem ft_und_71 : (Try.prog.underlying 71).isSome = true := by kernel_rfl
@[simp] theorem ft_tySz_72 : tySz Try.prog 72 = some (false, 1) := by kernel_rfl
@[simp] theorem ft_zeroOf_72 : zeroOf Try.prog 72 = some (Value.tuple [Value.agg [Value.slice none 0 0, Value.slice none 0 0].toArray, Value.int IntKind.i64 (0)].toArray) := by kernel_rfl
@[simp] theorem ft_und_72 : (Try.prog.underlying 72).isSome = true := by kernel_rfl
@[simp] theorem ft_tySz_73 : tySz Try.prog 73 = some (false, 1) := by kernel_rfl
@[simp] theorem ft_zeroOf_73 : zeroOf Try.prog 73 = some Value.nilFunc := by kernel_rfl
@[simp] theorem ft_und_73 : (Try.prog.underlying 73).isSome = true := by kernel_rfl
@[simp] theorem ft_tySz_74 : tySz Try.prog 74 = some (false, 1) := by kernel_rfl
@[simp] theorem ft_esz_74 : esz Try.prog 74 = some 3 := by kernel_rfl
@[simp] theorem ft_isSl_74 : isSl Try.prog 74 = true := by kernel_rfl
@[simp] theorem ft_zeroOf_74 : zeroOf Try.prog 74 = some (Value.slice none 0 0) := by kernel_rfl
@[simp] theorem ft_elZ_74 : elZ Try.prog 74 = some (3, [C.v (Value.string ⟨#[]⟩), C.v (Value.string ⟨#[]⟩), C.v (Value.int IntKind.i64 (0))]) := by kernel_rfl
@[simp] theorem ft_slT_74 : slT Try.prog 74 = some (3, 40) := by kernel_rfl
@[simp ↓] theorem ft_vmk_74 (l c : S) (y : Nat) (st : St) (K : St → Prop) : vmk Try.prog 74 l c y st K = force (tick (sint l)) fun l => force (tick (sint c)) fun c => vmkZ (some (3, [C.v (Value.string ⟨#[]⟩), C.v (Value.string ⟨#[]⟩), C.v (Value.int IntKind.i64 (0))])) (some (3, 40)) l c y st K := vmk_iff st K 74 l c y ft_elZ_74 ft_slT_74
@[simp] theorem ft_apT_74 : apT Try.prog 74 74 = some (3, 40) := by kernel_rfl
@[simp] theorem ft_und_74 : (Try.prog.underlying 74).isSome = true := by kernel_rfl
@[simp] theorem ft_tySz_75 : tySz Try.prog 75 = some (false, 1) := by kernel_rfl
@[simp] theorem ft_zeroOf_75 : zeroOf Try.prog 75 = some Value.nilFunc := by kernel_rfl
@[simp] theorem ft_und_75 : (Try.prog.underlying 75).isSome = true := by kernel_rfl
@[simp] theorem ft_tySz_76 : tySz Try.prog 76 = some (false, 1) := by kernel_rfl
@[simp] theorem ft_zeroOf_76 : zeroOf Try.prog 76 = some Value.nilFunc := by kernel_rfl
@[simp] theorem ft_und_76 : (Try.prog.underlying 76).isSome = true := by kernel_rfl
@[simp] theorem ft_tySz_77 : tySz Try.prog 77 = some (false, 1) := by kernel_rfl
@[simp] theorem ft_zeroOf_77 : zeroOf Try.prog 77 = some Value.nilFunc := by kernel_rfl
@[simp] theorem ft_und_77 : (Try.prog.underlying 77).isSome = true := by kernel_rfl
@[simp] theorem ft_tySz_78 : tySz Try.prog 78 = some (false, 1) := by kernel_rfl
@[simp] theorem ft_zeroOf_78 : zeroOf Try.prog 78 = some Value.nilFunc := by kernel_rfl
@[simp] theorem ft_und_78 : (Try.prog.underlying 78).isSome = true := by kernel_rfl
@[simp] theorem ft_tySz_79 : tySz Try.prog 79 = some (false, 1) := by kernel_rfl
@[simp] theorem ft_zeroOf_79 : zeroOf Try.prog 79 = some Value.nilFunc := by kernel_rfl
@[simp] theorem ft_und_79 : (Try.prog.underlying 79).isSome = true := by kernel_rfl
@[simp] theorem ft_tySz_80 : tySz Try.prog 80 = some (false, 1) := by kernel_rfl
@[simp] theorem ft_zeroOf_80 : zeroOf Try.prog 80 = some Value.nilFunc := by kernel_rfl
@[simp] theorem ft_und_80 : (Try.prog.underlying 80).isSome = true := by kernel_rfl
@[simp] theorem ft_tySz_81 : tySz Try.prog 81 = some (false, 1) := by kernel_rfl
@[simp] theorem ft_zeroOf_81 : zeroOf Try.prog 81 = some Value.nilFunc := by kernel_rfl
@[simp] theorem ft_und_81 : (Try.prog.underlying 81).isSome = true := by kernel_rfl
@[simp] theorem ft_tySz_82 : tySz Try.prog 82 = some (false, 1) := by kernel_rfl
@[simp] theorem ft_zeroOf_82 : zeroOf Try.prog 82 = some Value.nilFunc := by kernel_rfl
@[simp] theorem ft_und_82 : (Try.prog.underlying 82).isSome = true := by kernel_rfl
@[simp] theorem ft_tySz_83 : tySz Try.prog 83 = some (false, 1) := by kernel_rfl
@[simp] theorem ft_zeroOf_83 : zeroOf Try.prog 83 = some Value.nilFunc := by kernel_rfl
@[simp] theorem ft_und_83 : (Try.prog.underlying 83).isSome = true := by kernel_rfl
@[simp] theorem ft_tySz_84 : tySz Try.prog 84 = some (false, 1) := by kernel_rfl
@[simp] theorem ft_zeroOf_84 : zeroOf Try.prog 84 = some Value.nilFunc := by kernel_rfl
@[simp] theorem ft_und_84 : (Try.prog.underlying 84).isSome = true := by kernel_rfl
@[simp] theorem ft_tySz_85 : tySz Try.prog 85 = some (false, 1) := by kernel_rfl
@[simp] theorem ft_zeroOf_85 : zeroOf Try.prog 85 = some Value.nilFunc := by kernel_rfl
@[simp] theorem ft_und_85 : (Try.prog.underlying 85).isSome = true := by kernel_rfl
@[simp] theorem ft_tySz_86 : tySz Try.prog 86 = some (false, 1) := by kernel_rfl
@[simp] theorem ft_zeroOf_86 : zeroOf Try.prog 86 = some Value.nilFunc := by kernel_rfl
@[simp] theorem ft_und_86 : (Try.prog.underlying 86).isSome = true := by kernel_rfl
@[simp] theorem ft_tySz_87 : tySz Try.prog 87 = some (false, 1) := by kernel_rfl
@[simp] theorem ft_esz_87 : esz Try.prog 87 = some 1 := by kernel_rfl
@[simp] theorem ft_isSl_87 : isSl Try.prog 87 = true := by kernel_rfl
@[simp] theorem ft_zeroOf_87 : zeroOf Try.prog 87 = some (Value.slice none 0 0) := by kernel_rfl
@[simp] theorem ft_elZ_87 : elZ Try.prog 87 = some (1, [C.v (Value.bool false)]) := by kernel_rfl
@[simp] theorem ft_slT_87 : slT Try.prog 87 = some (1, 1) := by kernel_rfl
@[simp ↓] theorem ft_vmk_87 (l c : S) (y : Nat) (st : St) (K : St → Prop) : vmk Try.prog 87 l c y st K = force (tick (sint l)) fun l => force (tick (sint c)) fun c => vmkZ (some (1, [C.v (Value.bool false)])) (some (1, 1)) l c y st K := vmk_iff st K 87 l c y ft_elZ_87 ft_slT_87
@[simp] theorem ft_apT_87 : apT Try.prog 87 87 = some (1, 1) := by kernel_rfl
@[simp] theorem ft_und_87 : (Try.prog.underlying 87).isSome = true := by kernel_rfl
@[simp] theorem ft_tySz_88 : tySz Try.prog 88 = some (false, 1) := by kernel_rfl
@[simp] theorem ft_zeroOf_88 : zeroOf Try.prog 88 = some Value.nilFunc := by kernel_rfl
@[simp] theorem ft_und_88 : (Try.prog.underlying 88).isSome = true := by kernel_rfl
@[simp] theorem ft_tySz_89 : tySz Try.prog 89 = some (false, 1) := by kernel_rfl
@[simp] theorem ft_zeroOf_89 : zeroOf Try.prog 89 = some Value.nilFunc := by kernel_rfl
@[simp] theorem ft_und_89 : (Try.prog.underlying 89).isSome = true := by kernel_rfl
@[simp] theorem ft_tySz_90 : tySz Try.prog 90 = some (false, 1) := by kernel_rfl
@[simp] theorem ft_zeroOf_90 : zeroOf Try.prog 90 = some (Value.tuple [Value.agg [Value.int IntKind.i64 (0), Value.int IntKind.i64 (0)].toArray, Value.bool false].toArray) := by kernel_rfl
@[simp] theorem ft_und_90 : (Try.prog.underlying 90).isSome = true := by kernel_rfl
@[simp] theorem ft_tySz_91 : tySz Try.prog 91 = some (false, 1) := by kernel_rfl
@[simp] theorem ft_zeroOf_91 : zeroOf Try.prog 91 = some Value.nilFunc := by kernel_rfl
@[simp] theorem ft_und_91 : (Try.prog.underlying 91).isSome = true := by kernel_rfl
@[simp] theorem ft_tySz_92 : tySz Try.prog 92 = some (false, 1) := by kernel_rfl
@[simp] theorem ft_zeroOf_92 : zeroOf Try.prog 92 = some Value.nilFunc := by kernel_rfl
@[simp] theorem ft_und_92 : (Try.prog.underlying 92).isSome = true := by kernel_rfl
@[simp] theorem ft_tySz_93 : tySz Try.prog 93 = some (true, 2) := by kernel_rfl
@[simp] theorem ft_zeroOf_93 : zeroOf Try.prog 93 = some (Value.agg [Value.string ⟨#[]⟩, Value.int IntKind.i64 (0)].toArray) := by kernel_rfl
@[simp] theorem ft_plOf_93 : plOf Try.prog 93 = some (Sum.inl [(0, 1), (1, 1)]) := by kernel_rfl
@[simp] theorem ft_eqT_93 : eqT Try.prog 93 = some [FK.s, FK.i] := by kernel_rfl
@[simp] theorem ft_und_93 : (Try.prog.underlying 93).isSome = true := by kernel_rfl
@[simp] theorem ft_fldOf_93_0 : fldOf Try.prog 93 0 = some (0, false, 1) := by kernel_rfl
@[simp] theorem ft_fldOf_93_1 : fldOf Try.prog 93 1 = some (1, false, 1) := by kernel_rfl
@[simp] theorem ft_tySz_94 : tySz Try.prog 94 = some (true, 2) := by kernel_rfl
@[simp] theorem ft_zeroOf_94 : zeroOf Try.prog 94 = some (Value.agg [Value.string ⟨#[]⟩, Value.int IntKind.i64 (0)].toArray) := by kernel_rfl
@[simp] theorem ft_plOf_94 : plOf Try.prog 94 = some (Sum.inl [(0, 1), (1, 1)]) := by kernel_rfl
@[simp] theorem ft_eqT_94 : eqT Try.prog 94 = some [FK.s, FK.i] := by kernel_rfl
@[simp] theorem ft_und_94 : (Try.prog.underlying 94).isSome = true := by kernel_rfl
@[simp] theorem ft_fldOf_94_0 : fldOf Try.prog 94 0 = some (0, false, 1) := by kernel_rfl
@[simp] theorem ft_fldOf_94_1 : fldOf Try.prog 94 1 = some (1, false, 1) := by kernel_rfl
@[simp] theorem ft_tySz_95 : tySz Try.prog 95 = some (false, 1) := by kernel_rfl
@[simp] theorem ft_zeroOf_95 : zeroOf Try.prog 95 = some Value.nilFunc := by kernel_rfl
@[simp] theorem ft_und_95 : (Try.prog.underlying 95).isSome = true := by kernel_rfl
@[simp] theorem ft_tySz_96 : tySz Try.prog 96 = some (false, 1) := by kernel_rfl
@[simp] theorem ft_zeroOf_96 : zeroOf Try.prog 96 = some Value.nilFunc := by kernel_rfl
@[simp] theorem ft_und_96 : (Try.prog.underlying 96).isSome = true := by kernel_rfl
@[simp] theorem ft_tySz_97 : tySz Try.prog 97 = some (false, 1) := by kernel_rfl
@[simp] theorem ft_zeroOf_97 : zeroOf Try.prog 97 = some Value.nilFunc := by kernel_rfl
@[simp] theorem ft_und_97 : (Try.prog.underlying 97).isSome = true := by kernel_rfl
@[simp] theorem ft_tySz_98 : tySz Try.prog 98 = some (false, 1) := by kernel_rfl
@[simp] theorem ft_esz_98 : esz Try.prog 98 = some 1 := by kernel_rfl
@[simp] theorem ft_isSl_98 : isSl Try.prog 98 = true := by kernel_rfl
@[simp] theorem ft_zeroOf_98 : zeroOf Try.prog 98 = some (Value.slice none 0 0) := by kernel_rfl
@[simp] theorem ft_elZ_98 : elZ Try.prog 98 = some (1, [C.v (Value.int IntKind.i64 (0))]) := by kernel_rfl
@[simp] theorem ft_slT_98 : slT Try.prog 98 = some (1, 8) := by kernel_rfl
@[simp ↓] theorem ft_vmk_98 (l c : S) (y : Nat) (st : St) (K : St → Prop) : vmk Try.prog 98 l c y st K = force (tick (sint l)) fun l => force (tick (sint c)) fun c => vmkZ (some (1, [C.v (Value.int IntKind.i64 (0))])) (some (1, 8)) l c y st K := vmk_iff st K 98 l c y ft_elZ_98 ft_slT_98
@[simp] theorem ft_apT_98 : apT Try.prog 98 98 = some (1, 8) := by kernel_rfl
@[simp] theorem ft_und_98 : (Try.prog.underlying 98).isSome = true := by kernel_rfl
@[simp] theorem ft_tySz_99 : tySz Try.prog 99 = some (false, 1) := by kernel_rfl
@[simp] theorem ft_zeroOf_99 : zeroOf Try.prog 99 = some Value.nilFunc := by kernel_rfl
@[simp] theorem ft_und_99 : (Try.prog.underlying 99).isSome = true := by kernel_rfl
@[simp] theorem ft_tySz_100 : tySz Try.prog 100 = some (false, 1) := by kernel_rfl
@[simp] theorem ft_esz_100 : esz Try.prog 100 = some 4 := by kernel_rfl
@[simp] theorem ft_isSl_100 : isSl Try.prog 100 = true := by kernel_rfl
@[simp] theorem ft_zeroOf_100 : zeroOf Try.prog 100 = some (Value.slice none 0 0) := by kernel_rfl
@[simp] theorem ft_elZ_100 : elZ Try.prog 100 = some (4, [C.v (Value.int IntKind.i64 (0)), C.v (Value.int IntKind.i64 (0)), C.v (Value.int IntKind.i64 (0)), C.sl true []]) := by kernel_rfl
@[simp] theorem ft_slT_100 : slT Try.prog 100 = some (4, 48) := by kernel_rfl
@[simp ↓] theorem ft_vmk_100 (l c : S) (y : Nat) (st : St) (K : St → Prop) : vmk Try.prog 100 l c y st K = force (tick (sint l)) fun l => force (tick (sint c)) fun c => vmkZ (some (4, [C.v (Value.int IntKind.i64 (0)), C.v (Value.int IntKind.i64 (0)), C.v (Value.int IntKind.i64 (0)), C.sl true []])) (some (4, 48)) l c y st K := vmk_iff st K 100 l c y ft_elZ_100 ft_slT_100
@[simp] theorem ft_apT_100 : apT Try.prog 100 100 = some (4, 48) := by kernel_rfl
@[simp] theorem ft_und_100 : (Try.prog.underlying 100).isSome = true := by kernel_rfl
@[simp] theorem ft_tySz_101 : tySz Try.prog 101 = some (false, 1) := by kernel_rfl
@[simp] theorem ft_zeroOf_101 : zeroOf Try.prog 101 = some Value.nilFunc := by kernel_rfl
@[simp] theorem ft_und_101 : (Try.prog.underlying 101).isSome = true := by kernel_rfl
@[simp] theorem ft_tySz_102 : tySz Try.prog 102 = some (true, 4) := by kernel_rfl
@[simp] theorem ft_zeroOf_102 : zeroOf Try.prog 102 = some (Value.agg [Value.int IntKind.i64 (0), Value.int IntKind.i64 (0), Value.int IntKind.i64 (0), Value.slice none 0 0].toArray) := by kernel_rfl
@[simp] theorem ft_plOf_102 : plOf Try.prog 102 = some (Sum.inl [(0, 1), (1, 2), (3, 1)]) := by kernel_rfl
@[simp] theorem ft_und_102 : (Try.prog.underlying 102).isSome = true := by kernel_rfl
@[simp] theorem ft_fldOf_102_0 : fldOf Try.prog 102 0 = some (0, false, 1) := by kernel_rfl
@[simp] theorem ft_fldOf_102_1 : fldOf Try.prog 102 1 = some (1, true, 2) := by kernel_rfl
@[simp] theorem ft_fldOf_102_2 : fldOf Try.prog 102 2 = some (3, false, 1) := by kernel_rfl
@[simp] theorem ft_tySz_103 : tySz Try.prog 103 = some (true, 4) := by kernel_rfl
@[simp] theorem ft_zeroOf_103 : zeroOf Try.prog 103 = some (Value.agg [Value.int IntKind.i64 (0), Value.int IntKind.i64 (0), Value.int IntKind.i64 (0), Value.slice none 0 0].toArray) := by kernel_rfl
@[simp] theorem ft_plOf_103 : plOf Try.prog 103 = some (Sum.inl [(0, 1), (1, 2), (3, 1)]) := by kernel_rfl
@[simp] theorem ft_und_103 : (Try.prog.underlying 103).isSome = true := by kernel_rfl
@[simp] theorem ft_fldOf_103_0 : fldOf Try.prog 103 0 = some (0, false, 1) := by kernel_rfl
@[simp] theorem ft_fldOf_103_1 : fldOf Try.prog 103 1 = some (1, true, 2) := by kernel_rfl
@[simp] theorem ft_fldOf_103_2 : fldOf Try.prog 103 2 = some (3, false, 1) := by kernel_rfl
@[simp] theorem ft_tySz_104 : tySz Try.prog 104 = some (false, 1) := by kernel_rfl
@[simp] theorem ft_esz_104 : esz Try.prog 104 = some 3 := by kernel_rfl
@[simp] theorem ft_isSl_104 : isSl Try.prog 104 = true := by kernel_rfl
@[simp] theorem ft_zeroOf_104 : zeroOf Try.prog 104 = some (Value.slice none 0 0) := by kernel_rfl
@[simp] theorem ft_elZ_104 : elZ Try.prog 104 = some (3, [C.v (Value.string ⟨#[]⟩), C.v (Value.string ⟨#[]⟩), C.v (Value.int IntKind.i64 (0))]) := by kernel_rfl
@[simp] theorem ft_slT_104 : slT Try.prog 104 = some (3, 40) := by kernel_rfl
@[simp ↓] theorem ft_vmk_104 (l c : S) (y : Nat) (st : St) (K : St → Prop) : vmk Try.prog 104 l c y st K = force (tick (sint l)) fun l => force (tick (sint c)) fun c => vmkZ (some (3, [C.v (Value.string ⟨#[]⟩), C.v (Value.string ⟨#[]⟩), C.v (Value.int IntKind.i64 (0))])) (some (3, 40)) l c y st K := vmk_iff st K 104 l c y ft_elZ_104 ft_slT_104
@[simp] theorem ft_apT_104 : apT Try.prog 104 104 = some (3, 40) := by kernel_rfl
@[simp] theorem ft_und_104 : (Try.prog.underlying 104).isSome = true := by kernel_rfl
@[simp] theorem ft_tySz_105 : tySz Try.prog 105 = some (false, 1) := by kernel_rfl
@[simp] theorem ft_zeroOf_105 : zeroOf Try.prog 105 = some Value.nilFunc := by kernel_rfl
@[simp] theorem ft_und_105 : (Try.prog.underlying 105).isSome = true := by kernel_rfl
@[simp] theorem ft_tySz_106 : tySz Try.prog 106 = some (true, 5) := by kernel_rfl
@[simp] theorem ft_zeroOf_106 : zeroOf Try.prog 106 = some (Value.agg [Value.string ⟨#[]⟩, Value.int IntKind.i64 (0), Value.string ⟨#[]⟩, Value.string ⟨#[]⟩, Value.slice none 0 0].toArray) := by kernel_rfl
@[simp] theorem ft_plOf_106 : plOf Try.prog 106 = some (Sum.inl [(0, 1), (1, 1), (2, 1), (3, 1), (4, 1)]) := by kernel_rfl
@[simp] theorem ft_und_106 : (Try.prog.underlying 106).isSome = true := by kernel_rfl
@[simp] theorem ft_fldOf_106_0 : fldOf Try.prog 106 0 = some (0, false, 1) := by kernel_rfl
@[simp] theorem ft_fldOf_106_1 : fldOf Try.prog 106 1 = some (1, false, 1) := by kernel_rfl
@[simp] theorem ft_fldOf_106_2 : fldOf Try.prog 106 2 = some (2, false, 1) := by kernel_rfl
@[simp] theorem ft_fldOf_106_3 : fldOf Try.prog 106 3 = some (3, false, 1) := by kernel_rfl
@[simp] theorem ft_fldOf_106_4 : fldOf Try.prog 106 4 = some (4, false, 1) := by kernel_rfl
@[simp] theorem ft_tySz_107 : tySz Try.prog 107 = some (true, 5) := by kernel_rfl
@[simp] theorem ft_zeroOf_107 : zeroOf Try.prog 107 = some (Value.agg [Value.string ⟨#[]⟩, Value.int IntKind.i64 (0), Value.string ⟨#[]⟩, Value.string ⟨#[]⟩, Value.slice none 0 0].toArray) := by kernel_rfl
@[simp] theorem ft_plOf_107 : plOf Try.prog 107 = some (Sum.inl [(0, 1), (1, 1), (2, 1), (3, 1), (4, 1)]) := by kernel_rfl
@[simp] theorem ft_und_107 : (Try.prog.underlying 107).isSome = true := by kernel_rfl
@[simp] theorem ft_fldOf_107_0 : fldOf Try.prog 107 0 = some (0, false, 1) := by kernel_rfl
@[simp] theorem ft_fldOf_107_1 : fldOf Try.prog 107 1 = some (1, false, 1) := by kernel_rfl
@[simp] theorem ft_fldOf_107_2 : fldOf Try.prog 107 2 = some (2, false, 1) := by kernel_rfl
@[simp] theorem ft_fldOf_107_3 : fldOf Try.prog 107 3 = some (3, false, 1) := by kernel_rfl
@[simp] theorem ft_fldOf_107_4 : fldOf Try.prog 107 4 = some (4, false, 1) := by kernel_rfl
@[simp] theorem ft_tySz_108 : tySz Try.prog 108 = some (true, 7) := by kernel_rfl
@[simp] theorem ft_zeroOf_108 : zeroOf Try.prog 108 = some (Value.agg [Value.string ⟨#[]⟩, Value.int IntKind.i64 (0), Value.int IntKind.i64 (0), Value.int IntKind.i64 (0), Value.string ⟨#[]⟩, Value.int IntKind.i64 (0), Value.slice none 0 0].toArray) := by kernel_rfl
@[simp] theorem ft_plOf_108 : plOf Try.prog 108 = some (Sum.inl [(0, 1), (1, 1), (2, 3), (5, 1), (6, 1)]) := by kernel_rfl
@[simp] theorem ft_und_108 : (Try.prog.underlying 108).isSome = true := by kernel_rfl
@[simp] theorem ft_fldOf_108_0 : fldOf Try.prog 108 0 = some (0, false, 1) := by kernel_rfl
@[simp] theorem ft_fldOf_108_1 : fldOf Try.prog 108 1 = some (1, false, 1) := by kernel_rfl
@[simp] theorem ft_fldOf_108_2 : fldOf Try.prog 108 2 = some (2, true, 3) := by kernel_rfl
@[simp] theorem ft_fldOf_108_3 : fldOf Try.prog 108 3 = some (5, false, 1) := by kernel_rfl
@[simp] theorem ft_fldOf_108_4 : fldOf Try.prog 108 4 = some (6, false, 1) := by kernel_rfl
@[simp] theorem ft_tySz_109 : tySz Try.prog 109 = some (true, 7) := by kernel_rfl
@[simp] theorem ft_zeroOf_109 : zeroOf Try.prog 109 = some (Value.agg [Value.string ⟨#[]⟩, Value.int IntKind.i64 (0), Value.int IntKind.i64 (0), Value.int IntKind.i64 (0), Value.string ⟨#[]⟩, Value.int IntKind.i64 (0), Value.slice none 0 0].toArray) := by kernel_rfl
@[simp] theorem ft_plOf_109 : plOf Try.prog 109 = some (Sum.inl [(0, 1), (1, 1), (2, 3), (5, 1), (6, 1)]) := by kernel_rfl
@[simp] theorem ft_und_109 : (Try.prog.underlying 109).isSome = true := by kernel_rfl
@[simp] theorem ft_fldOf_109_0 : fldOf Try.prog 109 0 = some (0, false, 1) := by kernel_rfl
@[simp] theorem ft_fldOf_109_1 : fldOf Try.prog 109 1 = some (1, false, 1) := by kernel_rfl
@[simp] theorem ft_fldOf_109_2 : fldOf Try.prog 109 2 = some (2, true, 3) := by kernel_rfl
@[simp] theorem ft_fldOf_109_3 : fldOf Try.prog 109 3 = some (5, false, 1) := by kernel_rfl
@[simp] theorem ft_fldOf_109_4 : fldOf Try.prog 109 4 = some (6, false, 1) := by kernel_rfl
@[simp] theorem ft_tySz_110 : tySz Try.prog 110 = some (false, 1) := by kernel_rfl
@[simp] theorem ft_zeroOf_110 : zeroOf Try.prog 110 = some (Value.tuple [Value.agg [Value.string ⟨#[]⟩, Value.int IntKind.i64 (0), Value.int IntKind.i64 (0), Value.int IntKind.i64 (0), Value.string ⟨#[]⟩, Value.int IntKind.i64 (0), Value.slice none 0 0].toArray, Value.int IntKind.i64 (0)].toArray) := by kernel_rfl
@[simp] theorem ft_und_110 : (Try.prog.underlying 110).isSome = true := by kernel_rfl
@[simp] theorem ft_tySz_111 : tySz Try.prog 111 = some (false, 1) := by kernel_rfl
@[simp] theorem ft_zeroOf_111 : zeroOf Try.prog 111 = some Value.nilFunc := by kernel_rfl
@[simp] theorem ft_und_111 : (Try.prog.underlying 111).isSome = true := by kernel_rfl
@[simp] theorem ft_tySz_112 : tySz Try.prog 112 = some (true, 8) := by kernel_rfl
@[simp] theorem ft_zeroOf_112 : zeroOf Try.prog 112 = some (Value.agg [Value.int IntKind.i64 (0), Value.string ⟨#[]⟩, Value.int IntKind.i64 (0), Value.int IntKind.i64 (0), Value.int IntKind.i64 (0), Value.string ⟨#[]⟩, Value.int IntKind.i64 (0), Value.slice none 0 0].toArray) := by kernel_rfl
@[simp] theorem ft_plOf_112 : plOf Try.prog 112 = some (Sum.inl [(0, 1), (1, 7)]) := by kernel_rfl
@[simp] theorem ft_und_112 : (Try.prog.underlying 112).isSome = true := by kernel_rfl
@[simp] theorem ft_fldOf_112_0 : fldOf Try.prog 112 0 = some (0, false, 1) := by kernel_rfl
@[simp] theorem ft_fldOf_112_1 : fldOf Try.prog 112 1 = some (1, true, 7) := by kernel_rfl
@[simp] theorem ft_tySz_113 : tySz Try.prog 113 = some (true, 8) := by kernel_rfl
@[simp] theorem ft_zeroOf_113 : zeroOf Try.prog 113 = some (Value.agg [Value.int IntKind.i64 (0), Value.string ⟨#[]⟩, Value.int IntKind.i64 (0), Value.int IntKind.i64 (0), Value.int IntKind.i64 (0), Value.string ⟨#[]⟩, Value.int IntKind.i64 (0), Value.slice none 0 0].toArray) := by kernel_rfl
@[simp] theorem ft_plOf_113 : plOf Try.prog 113 = some (Sum.inl [(0, 1), (1, 7)]) := by kernel_rfl
@[simp] theorem ft_und_113 : (Try.prog.underlying 113).isSome = true := by kernel_rfl
@[simp] theorem ft_fldOf_113_0 : fldOf Try.prog 113 0 = some (0, false, 1) := by kernel_rfl
@[simp] theorem ft_fldOf_113_1 : fldOf Try.prog 113 1 = some (1, true, 7) := by kernel_rfl
@[simp] theorem ft_tySz_114 : tySz Try.prog 114 = some (true, 6) := by kernel_rfl
@[simp] theorem ft_zeroOf_114 : zeroOf Try.prog 114 = some (Value.agg [Value.int IntKind.i64 (0), Value.string ⟨#[]⟩, Value.int IntKind.i64 (0), Value.string ⟨#[]⟩, Value.string ⟨#[]⟩, Value.slice none 0 0].toArray) := by kernel_rfl
@[simp] theorem ft_plOf_114 : plOf Try.prog 114 = some (Sum.inl [(0, 1), (1, 5)]) := by kernel_rfl
@[simp] theorem ft_und_114 : (Try.prog.underlying 114).isSome = true := by kernel_rfl
@[simp] theorem ft_fldOf_114_0 : fldOf Try.prog 114 0 = some (0, false, 1) := by kernel_rfl
@[simp] theorem ft_fldOf_114_1 : fldOf Try.prog 114 1 = some (1, true, 5) := by kernel_rfl
@[simp] theorem ft_tySz_115 : tySz Try.prog 115 = some (true, 6) := by kernel_rfl
@[simp] theorem ft_zeroOf_115 : zeroOf Try.prog 115 = some (Value.agg [Value.int IntKind.i64 (0), Value.string ⟨#[]⟩, Value.int IntKind.i64 (0), Value.string ⟨#[]⟩, Value.string ⟨#[]⟩, Value.slice none 0 0].toArray) := by kernel_rfl
@[simp] theorem ft_plOf_115 : plOf Try.prog 115 = some (Sum.inl [(0, 1), (1, 5)]) := by kernel_rfl
@[simp] theorem ft_und_115 : (Try.prog.underlying 115).isSome = true := by kernel_rfl
@[simp] theorem ft_fldOf_115_0 : fldOf Try.prog 115 0 = some (0, false, 1) := by kernel_rfl
@[simp] theorem ft_fldOf_115_1 : fldOf Try.prog 115 1 = some (1, true, 5) := by kernel_rfl
@[simp] theorem ft_tySz_116 : tySz Try.prog 116 = some (false, 1) := by kernel_rfl
@[simp] theorem ft_zeroOf_116 : zeroOf Try.prog 116 = some (Value.tuple [Value.agg [Value.int IntKind.i64 (0), Value.int IntKind.i64 (0), Value.string ⟨#[]⟩].toArray, Value.int IntKind.i64 (0)].toArray) := by kernel_rfl
@[simp] theorem ft_und_116 : (Try.prog.underlying 116).isSome = true := by kernel_rfl
@[simp] theorem ft_tySz_117 : tySz Try.prog 117 = some (false, 1) := by kernel_rfl
@[simp] theorem ft_zeroOf_117 : zeroOf Try.prog 117 = some Value.nilFunc := by kernel_rfl
@[simp] theorem ft_und_117 : (Try.prog.underlying 117).isSome = true := by kernel_rfl
@[simp] theorem ft_tySz_118 : tySz Try.prog 118 = some (false, 1) := by kernel_rfl
@[simp] theorem ft_zeroOf_118 : zeroOf Try.prog 118 = some Value.nilFunc := by kernel_rfl
@[simp] theorem ft_und_118 : (Try.prog.underlying 118).isSome = true := by kernel_rfl
@[simp] theorem ft_tySz_119 : tySz Try.prog 119 = some (false, 1) := by kernel_rfl
@[simp] theorem ft_zeroOf_119 : zeroOf Try.prog 119 = some (Value.tuple [Value.agg [Value.int IntKind.i64 (0), Value.int IntKind.i64 (0), Value.string ⟨#[]⟩].toArray, Value.int IntKind.i64 (0)].toArray) := by kernel_rfl
@[simp] theorem ft_und_119 : (Try.prog.underlying 119).isSome = true := by kernel_rfl
@[simp] theorem ft_tySz_120 : tySz Try.prog 120 = some (false, 1) := by kernel_rfl
@[simp] theorem ft_zeroOf_120 : zeroOf Try.prog 120 = some Value.nilFunc := by kernel_rfl
@[simp] theorem ft_und_120 : (Try.prog.underlying 120).isSome = true := by kernel_rfl
@[simp] theorem ft_tySz_121 : tySz Try.prog 121 = some (false, 1) := by kernel_rfl
@[simp] theorem ft_zeroOf_121 : zeroOf Try.prog 121 = some Value.nilFunc := by kernel_rfl
@[simp] theorem ft_und_121 : (Try.prog.underlying 121).isSome = true := by kernel_rfl
@[simp] theorem ft_tySz_122 : tySz Try.prog 122 = some (false, 1) := by kernel_rfl
@[simp] theorem ft_zeroOf_122 : zeroOf Try.prog 122 = some Value.nilFunc := by kernel_rfl
@[simp] theorem ft_und_122 : (Try.prog.underlying 122).isSome = true := by kernel_rfl
@[simp] theorem ft_tySz_123 : tySz Try.prog 123 = some (false, 1) := by kernel_rfl
@[simp] theorem ft_zeroOf_123 : zeroOf Try.prog 123 = some Value.nilFunc := by kernel_rfl
@[simp] theorem ft_und_123 : (Try.prog.underlying 123).isSome = true := by kernel_rfl
@[simp] theorem ft_tySz_124 : tySz Try.prog 124 = some (false, 1) := by kernel_rfl
@[simp] theorem ft_esz_124 : esz Try.prog 124 = some 5 := by kernel_rfl
@[simp] theorem ft_isSl_124 : isSl Try.prog 124 = true := by kernel_rfl
@[simp] theorem ft_zeroOf_124 : zeroOf Try.prog 124 = some (Value.slice none 0 0) := by kernel_rfl
@[simp] theorem ft_elZ_124 : elZ Try.prog 124 = some (5, [C.v (Value.int IntKind.i64 (0)), C.v (Value.string ⟨#[]⟩), C.sl true [], C.sl true [], C.v (Value.bool false)]) := by kernel_rfl
@[simp] theorem ft_slT_124 : slT Try.prog 124 = some (5, 80) := by kernel_rfl
@[simp ↓] theorem ft_vmk_124 (l c : S) (y : Nat) (st : St) (K : St → Prop) : vmk Try.prog 124 l c y st K = force (tick (sint l)) fun l => force (tick (sint c)) fun c => vmkZ (some (5, [C.v (Value.int IntKind.i64 (0)), C.v (Value.string ⟨#[]⟩), C.sl true [], C.sl true [], C.v (Value.bool false)])) (some (5, 80)) l c y st K := vmk_iff st K 124 l c y ft_elZ_124 ft_slT_124
@[simp] theorem ft_apT_124 : apT Try.prog 124 124 = some (5, 80) := by kernel_rfl
@[simp] theorem ft_und_124 : (Try.prog.underlying 124).isSome = true := by kernel_rfl
@[simp] theorem ft_tySz_125 : tySz Try.prog 125 = some (false, 1) := by kernel_rfl
@[simp] theorem ft_zeroOf_125 : zeroOf Try.prog 125 = some Value.nilFunc := by kernel_rfl
@[simp] theorem ft_und_125 : (Try.prog.underlying 125).isSome = true := by kernel_rfl
@[simp] theorem ft_tySz_126 : tySz Try.prog 126 = some (false, 1) := by kernel_rfl
@[simp] theorem ft_esz_126 : esz Try.prog 126 = some 2 := by kernel_rfl
@[simp] theorem ft_isSl_126 : isSl Try.prog 126 = true := by kernel_rfl
@[simp] theorem ft_zeroOf_126 : zeroOf Try.prog 126 = some (Value.slice none 0 0) := by kernel_rfl
@[simp] theorem ft_elZ_126 : elZ Try.prog 126 = some (2, [C.v (Value.int IntKind.i64 (0)), C.v (Value.int IntKind.i64 (0))]) := by kernel_rfl
@[simp] theorem ft_slT_126 : slT Try.prog 126 = some (2, 16) := by kernel_rfl
@[simp ↓] theorem ft_vmk_126 (l c : S) (y : Nat) (st : St) (K : St → Prop) : vmk Try.prog 126 l c y st K = force (tick (sint l)) fun l => force (tick (sint c)) fun c => vmkZ (some (2, [C.v (Value.int IntKind.i64 (0)), C.v (Value.int IntKind.i64 (0))])) (some (2, 16)) l c y st K := vmk_iff st K 126 l c y ft_elZ_126 ft_slT_126
@[simp] theorem ft_apT_126 : apT Try.prog 126 126 = some (2, 16) := by kernel_rfl
@[simp] theorem ft_und_126 : (Try.prog.underlying 126).isSome = true := by kernel_rfl
@[simp] theorem ft_tySz_127 : tySz Try.prog 127 = some (false, 1) := by kernel_rfl
@[simp] theorem ft_zeroOf_127 : zeroOf Try.prog 127 = some Value.nilFunc := by kernel_rfl
@[simp] theorem ft_und_127 : (Try.prog.underlying 127).isSome = true := by kernel_rfl
@[simp] theorem ft_tySz_128 : tySz Try.prog 128 = some (false, 1) := by kernel_rfl
@[simp] theorem ft_zeroOf_128 : zeroOf Try.prog 128 = some Value.nilFunc := by kernel_rfl
@[simp] theorem ft_und_128 : (Try.prog.underlying 128).isSome = true := by kernel_rfl
@[simp] theorem ft_tySz_129 : tySz Try.prog 129 = some (false, 1) := by kernel_rfl
@[simp] theorem ft_zeroOf_129 : zeroOf Try.prog 129 = some Value.nilFunc := by kernel_rfl
@[simp] theorem ft_und_129 : (Try.prog.underlying 129).isSome = true := by kernel_rfl
@[simp] theorem ft_tySz_130 : tySz Try.prog 130 = some (false, 1) := by kernel_rfl
@[simp] theorem ft_esz_130 : esz Try.prog 130 = some 5 := by kernel_rfl
@[simp] theorem ft_isSl_130 : isSl Try.prog 130 = true := by kernel_rfl
@[simp] theorem ft_zeroOf_130 : zeroOf Try.prog 130 = some (Value.slice none 0 0) := by kernel_rfl
@[simp] theorem ft_elZ_130 : elZ Try.prog 130 = some (5, [C.v (Value.int IntKind.i64 (0)), C.v (Value.string ⟨#[]⟩), C.sl true [], C.sl true [], C.v (Value.bool false)]) := by kernel_rfl
@[simp] theorem ft_slT_130 : slT Try.prog 130 = some (5, 80) := by kernel_rfl
@[simp ↓] theorem ft_vmk_130 (l c : S) (y : Nat) (st : St) (K : St → Prop) : vmk Try.prog 130 l c y st K = force (tick (sint l)) fun l => force (tick (sint c)) fun c => vmkZ (some (5, [C.v (Value.int IntKind.i64 (0)), C.v (Value.string ⟨#[]⟩), C.sl true [], C.sl true [], C.v (Value.bool false)])) (some (5, 80)) l c y st K := vmk_iff st K 130 l c y ft_elZ_130 ft_slT_130
@[simp] theorem ft_apT_130 : apT Try.prog 130 130 = some (5, 80) := by kernel_rfl
@[simp] theorem ft_und_130 : (Try.prog.underlying 130).isSome = true := by kernel_rfl
@[simp] theorem ft_tySz_131 : tySz Try.prog 131 = some (true, 3) := by kernel_rfl
@[simp] theorem ft_zeroOf_131 : zeroOf Try.prog 131 = some (Value.agg [Value.string ⟨#[]⟩, Value.string ⟨#[]⟩, Value.int IntKind.i64 (0)].toArray) := by kernel_rfl
@[simp] theorem ft_plOf_131 : plOf Try.prog 131 = some (Sum.inl [(0, 1), (1, 2)]) := by kernel_rfl
@[simp] theorem ft_und_131 : (Try.prog.underlying 131).isSome = true := by kernel_rfl
@[simp] theorem ft_fldOf_131_0 : fldOf Try.prog 131 0 = some (0, false, 1) := by kernel_rfl
@[simp] theorem ft_fldOf_131_1 : fldOf Try.prog 131 1 = some (1, true, 2) := by kernel_rfl
@[simp] theorem ft_tySz_132 : tySz Try.prog 132 = some (true, 3) := by kernel_rfl
@[simp] theorem ft_zeroOf_132 : zeroOf Try.prog 132 = some (Value.agg [Value.string ⟨#[]⟩, Value.string ⟨#[]⟩, Value.int IntKind.i64 (0)].toArray) := by kernel_rfl
@[simp] theorem ft_plOf_132 : plOf Try.prog 132 = some (Sum.inl [(0, 1), (1, 2)]) := by kernel_rfl
@[simp] theorem ft_und_132 : (Try.prog.underlying 132).isSome = true := by kernel_rfl
@[simp] theorem ft_fldOf_132_0 : fldOf Try.prog 132 0 = some (0, false, 1) := by kernel_rfl
@[simp] theorem ft_fldOf_132_1 : fldOf Try.prog 132 1 = some (1, true, 2) := by kernel_rfl
@[simp] theorem ft_tySz_133 : tySz Try.prog 133 = some (false, 1) := by kernel_rfl
@[simp] theorem ft_zeroOf_133 : zeroOf Try.prog 133 = some (Value.tuple [Value.int IntKind.i64 (0), Value.int IntKind.i64 (0)].toArray) := by kernel_rfl
@[simp] theorem ft_und_133 : (Try.prog.underlying 133).isSome = true := by kernel_rfl
@[simp] theorem ft_tySz_134 : tySz Try.prog 134 = some (false, 1) := by kernel_rfl
@[simp] theorem ft_zeroOf_134 : zeroOf Try.prog 134 = some Value.nilFunc := by kernel_rfl
@[simp] theorem ft_und_134 : (Try.prog.underlying 134).isSome = true := by kernel_rfl
@[simp] theorem ft_tySz_135 : tySz Try.prog 135 = some (false, 1) := by kernel_rfl
@[simp] theorem ft_zeroOf_135 : zeroOf Try.prog 135 = some (Value.tuple [Value.int IntKind.i64 (0), Value.bool false].toArray) := by kernel_rfl
@[simp] theorem ft_und_135 : (Try.prog.underlying 135).isSome = true := by kernel_rfl
@[simp] theorem ft_tySz_136 : tySz Try.prog 136 = some (false, 1) := by kernel_rfl
@[simp] theorem ft_zeroOf_136 : zeroOf Try.prog 136 = some Value.nilFunc := by kernel_rfl
@[simp] theorem ft_und_136 : (Try.prog.underlying 136).isSome = true := by kernel_rfl
@[simp] theorem ft_tySz_137 : tySz Try.prog 137 = some (true, 1) := by kernel_rfl
@[simp] theorem ft_zeroOf_137 : zeroOf Try.prog 137 = some (Value.agg [Value.int IntKind.i64 (0)].toArray) := by kernel_rfl
@[simp] theorem ft_plOf_137 : plOf Try.prog 137 = some (Sum.inl [(0, 1)]) := by kernel_rfl
@[simp] theorem ft_eqT_137 : eqT Try.prog 137 = some [FK.i] := by kernel_rfl
@[simp] theorem ft_und_137 : (Try.prog.underlying 137).isSome = true := by kernel_rfl
@[simp] theorem ft_fldOf_137_0 : fldOf Try.prog 137 0 = some (0, false, 1) := by kernel_rfl
@[simp] theorem ft_tySz_138 : tySz Try.prog 138 = some (true, 1) := by kernel_rfl
@[simp] theorem ft_zeroOf_138 : zeroOf Try.prog 138 = some (Value.agg [Value.int IntKind.i64 (0)].toArray) := by kernel_rfl
@[simp] theorem ft_plOf_138 : plOf Try.prog 138 = some (Sum.inl [(0, 1)]) := by kernel_rfl
@[simp] theorem ft_eqT_138 : eqT Try.prog 138 = some [FK.i] := by kernel_rfl
@[simp] theorem ft_und_138 : (Try.prog.underlying 138).isSome = true := by kernel_rfl
@[simp] theorem ft_fldOf_138_0 : fldOf Try.prog 138 0 = some (0, false, 1) := by kernel_rfl
@[simp] theorem ft_tySz_139 : tySz Try.prog 139 = some (false, 1) := by kernel_rfl
@[simp] theorem ft_zeroOf_139 : zeroOf Try.prog 139 = some (Value.tuple [Value.agg [Value.int IntKind.i64 (0)].toArray, Value.bool false].toArray) := by kernel_rfl
@[simp] theorem ft_und_139 : (Try.prog.underlying 139).isSome = true := by kernel_rfl
@[simp] theorem ft_tySz_140 : tySz Try.prog 140 = some (false, 1) := by kernel_rfl
@[simp] theorem ft_zeroOf_140 : zeroOf Try.prog 140 = some Value.nilFunc := by kernel_rfl
@[simp] theorem ft_und_140 : (Try.prog.underlying 140).isSome = true := by kernel_rfl
@[simp] theorem ft_tySz_141 : tySz Try.prog 141 = some (false, 1) := by kernel_rfl
@[simp] theorem ft_zeroOf_141 : zeroOf Try.prog 141 = some Value.nilFunc := by kernel_rfl
@[simp] theorem ft_und_141 : (Try.prog.underlying 141).isSome = true := by kernel_rfl
@[simp] theorem ft_tySz_142 : tySz Try.prog 142 = some (false, 1) := by kernel_rfl
@[simp] theorem ft_zeroOf_142 : zeroOf Try.prog 142 = some (Value.tuple [Value.int IntKind.i64 (0), Value.int IntKind.i64 (0)].toArray) := by kernel_rfl
@[simp] theorem ft_und_142 : (Try.prog.underlying 142).isSome = true := by kernel_rfl
@[simp] theorem ft_tySz_143 : tySz Try.prog 143 = some (false, 1) := by kernel_rfl
@[simp] theorem ft_zeroOf_143 : zeroOf Try.prog 143 = some Value.nilFunc := by kernel_rfl
@[simp] theorem ft_und_143 : (Try.prog.underlying 143).isSome = true := by kernel_rfl
@[simp] theorem ft_tySz_144 : tySz Try.prog 144 = some (true, 3) := by kernel_rfl
@[simp] theorem ft_zeroOf_144 : zeroOf Try.prog 144 = some (Value.agg [Value.string ⟨#[]⟩, Value.string ⟨#[]⟩, Value.int IntKind.i64 (0)].toArray) := by kernel_rfl
@[simp] theorem ft_plOf_144 : plOf Try.prog 144 = some (Sum.inl [(0, 1), (1, 1), (2, 1)]) := by kernel_rfl
@[simp] theorem ft_eqT_144 : eqT Try.prog 144 = some [FK.s, FK.s, FK.i] := by kernel_rfl
@[simp] theorem ft_und_144 : (Try.prog.underlying 144).isSome = true := by kernel_rfl
@[simp] theorem ft_fldOf_144_0 : fldOf Try.prog 144 0 = some (0, false, 1) := by kernel_rfl
@[simp] theorem ft_fldOf_144_1 : fldOf Try.prog 144 1 = some (1, false, 1) := by kernel_rfl
@[simp] theorem ft_fldOf_144_2 : fldOf Try.prog 144 2 = some (2, false, 1) := by kernel_rfl
@[simp] theorem ft_tySz_145 : tySz Try.prog 145 = some (true, 3) := by kernel_rfl
@[simp] theorem ft_zeroOf_145 : zeroOf Try.prog 145 = some (Value.agg [Value.string ⟨#[]⟩, Value.string ⟨#[]⟩, Value.int IntKind.i64 (0)].toArray) := by kernel_rfl
@[simp] theorem ft_plOf_145 : plOf Try.prog 145 = some (Sum.inl [(0, 1), (1, 1), (2, 1)]) := by kernel_rfl
@[simp] theorem ft_eqT_145 : eqT Try.prog 145 = some [FK.s, FK.s, FK.i] := by kernel_rfl
@[simp] theorem ft_und_145 : (Try.prog.underlying 145).isSome = true := by kernel_rfl
@[simp] theorem ft_fldOf_145_0 : fldOf Try.prog 145 0 = some (0, false, 1) := by kernel_rfl
@[simp] theorem ft_fldOf_145_1 : fldOf Try.prog 145 1 = some (1, false, 1) := by kernel_rfl
@[simp] theorem ft_fldOf_145_2 : fldOf Try.prog 145 2 = some (2, false, 1) := by kernel_rfl
@[simp] theorem ft_tySz_146 : tySz Try.prog 146 = some (false, 1) := by kernel_rfl
@[simp] theorem ft_zeroOf_146 : zeroOf Try.prog 146 = some Value.nilFunc := by kernel_rfl
@[simp] theorem ft_und_146 : (Try.prog.underlying 146).isSome = true := by kernel_rfl
@[simp] theorem ft_tySz_147 : tySz Try.prog 147 = some (false, 1) := by kernel_rfl
@[simp] theorem ft_zeroOf_147 : zeroOf Try.prog 147 = some Value.nilFunc := by kernel_rfl
@[simp] theorem ft_und_147 : (Try.prog.underlying 147).isSome = true := by kernel_rfl
@[simp] theorem ft_tySz_148 : tySz Try.prog 148 = some (false, 1) := by kernel_rfl
@[simp] theorem ft_zeroOf_148 : zeroOf Try.prog 148 = some Value.nilFunc := by kernel_rfl
@[simp] theorem ft_und_148 : (Try.prog.underlying 148).isSome = true := by kernel_rfl
@[simp] theorem ft_tySz_149 : tySz Try.prog 149 = some (false, 1) := by kernel_rfl
@[simp] theorem ft_zeroOf_149 : zeroOf Try.prog 149 = some Value.nilFunc := by kernel_rfl
@[simp] theorem ft_und_149 : (Try.prog.underlying 149).isSome = true := by kernel_rfl
@[simp] theorem ft_tySz_150 : tySz Try.prog 150 = some (false, 1) := by kernel_rfl
@[simp] theorem ft_zeroOf_150 : zeroOf Try.prog 150 = some Value.nilFunc := by kernel_rfl
@[simp] theorem ft_und_150 : (Try.prog.underlying 150).isSome = true := by kernel_rfl
@[simp] theorem ft_tySz_151 : tySz Try.prog 151 = some (false, 1) := by kernel_rfl
@[simp] theorem ft_zeroOf_151 : zeroOf Try.prog 151 = some Value.nilFunc := by kernel_rfl
@[simp] theorem ft_und_151 : (Try.prog.underlying 151).isSome = true := by kernel_rfl
@[simp] theorem ft_tySz_152 : tySz Try.prog 152 = some (true, 2) := by kernel_rfl
@[simp] theorem ft_zeroOf_152 : zeroOf Try.prog 152 = some (Value.agg [Value.int IntKind.i64 (0), Value.int IntKind.i64 (0)].toArray) := by kernel_rfl
@[simp] theorem ft_plOf_152 : plOf Try.prog 152 = some (Sum.inr 1) := by kernel_rfl
@[simp] theorem ft_arrOf_152 : arrOf Try.prog 152 = some (2, false, 1) := by kernel_rfl
@[simp] theorem ft_und_152 : (Try.prog.underlying 152).isSome = true := by kernel_rfl
@[simp] theorem ft_tySz_153 : tySz Try.prog 153 = some (false, 1) := by kernel_rfl
@[simp] theorem ft_zeroOf_153 : zeroOf Try.prog 153 = some Value.nilFunc := by kernel_rfl
@[simp] theorem ft_und_153 : (Try.prog.underlying 153).isSome = true := by kernel_rfl
@[simp] theorem ft_tySz_154 : tySz Try.prog 154 = some (false, 1) := by kernel_rfl
@[simp] theorem ft_zeroOf_154 : zeroOf Try.prog 154 = some Value.nilFunc := by kernel_rfl
@[simp] theorem ft_und_154 : (Try.prog.underlying 154).isSome = true := by kernel_rfl
@[simp] theorem ft_tySz_155 : tySz Try.prog 155 = some (false, 1) := by kernel_rfl
@[simp] theorem ft_zeroOf_155 : zeroOf Try.prog 155 = some Value.nilFunc := by kernel_rfl
@[simp] theorem ft_und_155 : (Try.prog.underlying 155).isSome = true := by kernel_rfl
@[simp] theorem ft_tySz_156 : tySz Try.prog 156 = some (false, 1) := by kernel_rfl
@[simp] theorem ft_zeroOf_156 : zeroOf Try.prog 156 = some Value.nilFunc := by kernel_rfl
@[simp] theorem ft_und_156 : (Try.prog.underlying 156).isSome = true := by kernel_rfl
@[simp] theorem ft_tySz_157 : tySz Try.prog 157 = some (false, 1) := by kernel_rfl
@[simp] theorem ft_zeroOf_157 : zeroOf Try.prog 157 = some Value.nilFunc := by kernel_rfl
@[simp] theorem ft_und_157 : (Try.prog.underlying 157).isSome = true := by kernel_rfl
@[simp] theorem ft_tySz_158 : tySz Try.prog 158 = some (false, 1) := by kernel_rfl
@[simp] theorem ft_zeroOf_158 : zeroOf Try.prog 158 = some Value.nilFunc := by kernel_rfl
@[simp] theorem ft_und_158 : (Try.prog.underlying 158).isSome = true := by kernel_rfl
@[simp] theorem ft_tySz_159 : tySz Try.prog 159 = some (false, 1) := by kernel_rfl
@[simp] theorem ft_zeroOf_159 : zeroOf Try.prog 159 = some (Value.tuple [Value.int IntKind.i64 (0), Value.bool false].toArray) := by kernel_rfl
@[simp] theorem ft_und_159 : (Try.prog.underlying 159).isSome = true := by kernel_rfl
@[simp] theorem ft_tySz_160 : tySz Try.prog 160 = some (false, 1) := by kernel_rfl
@[simp] theorem ft_zeroOf_160 : zeroOf Try.prog 160 = some Value.nilFunc := by kernel_rfl
@[simp] theorem ft_und_160 : (Try.prog.underlying 160).isSome = true := by kernel_rfl
@[simp] theorem ft_tySz_161 : tySz Try.prog 161 = some (false, 1) := by kernel_rfl
@[simp] theorem ft_zeroOf_161 : zeroOf Try.prog 161 = some Value.nilFunc := by kernel_rfl
@[simp] theorem ft_und_161 : (Try.prog.underlying 161).isSome = true := by kernel_rfl
@[simp] theorem ft_tySz_162 : tySz Try.prog 162 = some (false, 1) := by kernel_rfl
@[simp] theorem ft_zeroOf_162 : zeroOf Try.prog 162 = some Value.nilFunc := by kernel_rfl
@[simp] theorem ft_und_162 : (Try.prog.underlying 162).isSome = true := by kernel_rfl
@[simp] theorem ft_tySz_163 : tySz Try.prog 163 = some (false, 1) := by kernel_rfl
@[simp] theorem ft_intOfTy_163 : intOfTy Try.prog 163 = some IntKind.u64 := by kernel_rfl
@[simp] theorem ft_zeroOf_163 : zeroOf Try.prog 163 = some (Value.int IntKind.u64 (0)) := by kernel_rfl
@[simp] theorem ft_und_163 : (Try.prog.underlying 163).isSome = true := by kernel_rfl
@[simp] theorem ft_tySz_164 : tySz Try.prog 164 = some (false, 1) := by kernel_rfl
@[simp] theorem ft_zeroOf_164 : zeroOf Try.prog 164 = some Value.nilFunc := by kernel_rfl
@[simp] theorem ft_und_164 : (Try.prog.underlying 164).isSome = true := by kernel_rfl
@[simp] theorem ft_tySz_165 : tySz Try.prog 165 = some (false, 1) := by kernel_rfl
@[simp] theorem ft_zeroOf_165 : zeroOf Try.prog 165 = some Value.nilFunc := by kernel_rfl
@[simp] theorem ft_und_165 : (Try.prog.underlying 165).isSome = true := by kernel_rfl
@[simp] theorem ft_tySz_166 : tySz Try.prog 166 = some (false, 1) := by kernel_rfl
@[simp] theorem ft_zeroOf_166 : zeroOf Try.prog 166 = some Value.nilFunc := by kernel_rfl
@[simp] theorem ft_und_166 : (Try.prog.underlying 166).isSome = true := by kernel_rfl
@[simp] theorem ft_tySz_167 : tySz Try.prog 167 = some (false, 1) := by kernel_rfl
@[simp] theorem ft_zeroOf_167 : zeroOf Try.prog 167 = some Value.nilFunc := by kernel_rfl
@[simp] theorem ft_und_167 : (Try.prog.underlying 167).isSome = true := by kernel_rfl
@[simp] theorem ft_tySz_168 : tySz Try.prog 168 = some (false, 1) := by kernel_rfl
@[simp] theorem ft_zeroOf_168 : zeroOf Try.prog 168 = some Value.nilFunc := by kernel_rfl
@[simp] theorem ft_und_168 : (Try.prog.underlying 168).isSome = true := by kernel_rfl
@[simp] theorem ft_tySz_169 : tySz Try.prog 169 = some (false, 1) := by kernel_rfl
@[simp] theorem ft_zeroOf_169 : zeroOf Try.prog 169 = some Value.nilFunc := by kernel_rfl
@[simp] theorem ft_und_169 : (Try.prog.underlying 169).isSome = true := by kernel_rfl
@[simp] theorem ft_tySz_170 : tySz Try.prog 170 = some (false, 1) := by kernel_rfl
@[simp] theorem ft_zeroOf_170 : zeroOf Try.prog 170 = some Value.nilFunc := by kernel_rfl
@[simp] theorem ft_und_170 : (Try.prog.underlying 170).isSome = true := by kernel_rfl
@[simp] theorem ft_tySz_171 : tySz Try.prog 171 = some (false, 1) := by kernel_rfl
@[simp] theorem ft_intOfTy_171 : intOfTy Try.prog 171 = some IntKind.u64 := by kernel_rfl
@[simp] theorem ft_zeroOf_171 : zeroOf Try.prog 171 = some (Value.int IntKind.u64 (0)) := by kernel_rfl
@[simp] theorem ft_und_171 : (Try.prog.underlying 171).isSome = true := by kernel_rfl
@[simp] theorem ft_tySz_172 : tySz Try.prog 172 = some (false, 1) := by kernel_rfl
@[simp] theorem ft_zeroOf_172 : zeroOf Try.prog 172 = some (Value.tuple [Value.int IntKind.u64 (0), Value.int IntKind.u64 (0)].toArray) := by kernel_rfl
@[simp] theorem ft_und_172 : (Try.prog.underlying 172).isSome = true := by kernel_rfl
@[simp] theorem ft_tySz_173 : tySz Try.prog 173 = some (false, 1) := by kernel_rfl
@[simp] theorem ft_zeroOf_173 : zeroOf Try.prog 173 = some Value.nilFunc := by kernel_rfl
@[simp] theorem ft_und_173 : (Try.prog.underlying 173).isSome = true := by kernel_rfl
@[simp] theorem ft_tySz_174 : tySz Try.prog 174 = some (false, 1) := by kernel_rfl
@[simp] theorem ft_zeroOf_174 : zeroOf Try.prog 174 = some Value.nilFunc := by kernel_rfl
@[simp] theorem ft_und_174 : (Try.prog.underlying 174).isSome = true := by kernel_rfl
@[simp] theorem ft_tySz_175 : tySz Try.prog 175 = some (false, 1) := by kernel_rfl
@[simp] theorem ft_zeroOf_175 : zeroOf Try.prog 175 = some Value.nilFunc := by kernel_rfl
@[simp] theorem ft_und_175 : (Try.prog.underlying 175).isSome = true := by kernel_rfl
@[simp] theorem ft_tySz_176 : tySz Try.prog 176 = some (false, 1) := by kernel_rfl
@[simp] theorem ft_zeroOf_176 : zeroOf Try.prog 176 = some Value.nilFunc := by kernel_rfl
@[simp] theorem ft_und_176 : (Try.prog.underlying 176).isSome = true := by kernel_rfl
@[simp] theorem ft_tySz_177 : tySz Try.prog 177 = some (false, 1) := by kernel_rfl
@[simp] theorem ft_intOfTy_177 : intOfTy Try.prog 177 = some IntKind.i64 := by kernel_rfl
@[simp] theorem ft_zeroOf_177 : zeroOf Try.prog 177 = some (Value.int IntKind.i64 (0)) := by kernel_rfl
@[simp] theorem ft_und_177 : (Try.prog.underlying 177).isSome = true := by kernel_rfl
@[simp] theorem ft_tySz_178 : tySz Try.prog 178 = some (false, 1) := by kernel_rfl
@[simp] theorem ft_zeroOf_178 : zeroOf Try.prog 178 = some (Value.tuple [Value.int IntKind.i64 (0), Value.int IntKind.i64 (0)].toArray) := by kernel_rfl
@[simp] theorem ft_und_178 : (Try.prog.underlying 178).isSome = true := by kernel_rfl
@[simp] theorem ft_tySz_179 : tySz Try.prog 179 = some (false, 1) := by kernel_rfl
@[simp] theorem ft_zeroOf_179 : zeroOf Try.prog 179 = some Value.nilFunc := by kernel_rfl
@[simp] theorem ft_und_179 : (Try.prog.underlying 179).isSome = true := by kernel_rfl
@[simp] theorem ft_tySz_180 : tySz Try.prog 180 = some (false, 1) := by kernel_rfl
@[simp] theorem ft_zeroOf_180 : zeroOf Try.prog 180 = some Value.nilFunc := by kernel_rfl
@[simp] theorem ft_und_180 : (Try.prog.underlying 180).isSome = true := by kernel_rfl
@[simp] theorem ft_tySz_181 : tySz Try.prog 181 = some (false, 1) := by kernel_rfl
@[simp] theorem ft_zeroOf_181 : zeroOf Try.prog 181 = some Value.nilFunc := by kernel_rfl
@[simp] theorem ft_und_181 : (Try.prog.underlying 181).isSome = true := by kernel_rfl
@[simp] theorem ft_tySz_182 : tySz Try.prog 182 = some (false, 1) := by kernel_rfl
@[simp] theorem ft_zeroOf_182 : zeroOf Try.prog 182 = some Value.nilFunc := by kernel_rfl
@[simp] theorem ft_und_182 : (Try.prog.underlying 182).isSome = true := by kernel_rfl
@[simp] theorem ft_tySz_183 : tySz Try.prog 183 = some (false, 1) := by kernel_rfl
@[simp] theorem ft_zeroOf_183 : zeroOf Try.prog 183 = some Value.nilFunc := by kernel_rfl
@[simp] theorem ft_und_183 : (Try.prog.underlying 183).isSome = true := by kernel_rfl
@[simp] theorem ft_tySz_184 : tySz Try.prog 184 = some (false, 1) := by kernel_rfl
@[simp] theorem ft_intOfTy_184 : intOfTy Try.prog 184 = some IntKind.u32 := by kernel_rfl
@[simp] theorem ft_zeroOf_184 : zeroOf Try.prog 184 = some (Value.int IntKind.u32 (0)) := by kernel_rfl
@[simp] theorem ft_und_184 : (Try.prog.underlying 184).isSome = true := by kernel_rfl
@[simp] theorem ft_tySz_185 : tySz Try.prog 185 = some (false, 1) := by kernel_rfl
@[simp] theorem ft_zeroOf_185 : zeroOf Try.prog 185 = some Value.nilFunc := by kernel_rfl
@[simp] theorem ft_und_185 : (Try.prog.underlying 185).isSome = true := by kernel_rfl
@[simp] theorem ft_tySz_186 : tySz Try.prog 186 = some (false, 1) := by kernel_rfl
@[simp] theorem ft_zeroOf_186 : zeroOf Try.prog 186 = some Value.nilFunc := by kernel_rfl
@[simp] theorem ft_und_186 : (Try.prog.underlying 186).isSome = true := by kernel_rfl
@[simp] theorem ft_tySz_187 : tySz Try.prog 187 = some (false, 1) := by kernel_rfl
@[simp] theorem ft_zeroOf_187 : zeroOf Try.prog 187 = some Value.nilFunc := by kernel_rfl
@[simp] theorem ft_und_187 : (Try.prog.underlying 187).isSome = true := by kernel_rfl
@[simp] theorem ft_tySz_188 : tySz Try.prog 188 = some (false, 1) := by kernel_rfl
@[simp] theorem ft_zeroOf_188 : zeroOf Try.prog 188 = some Value.nilFunc := by kernel_rfl
@[simp] theorem ft_und_188 : (Try.prog.underlying 188).isSome = true := by kernel_rfl
@[simp] theorem ft_tySz_189 : tySz Try.prog 189 = some (false, 1) := by kernel_rfl
@[simp] theorem ft_zeroOf_189 : zeroOf Try.prog 189 = some Value.nilFunc := by kernel_rfl
@[simp] theorem ft_und_189 : (Try.prog.underlying 189).isSome = true := by kernel_rfl
@[simp] theorem ft_tySz_190 : tySz Try.prog 190 = some (false, 1) := by kernel_rfl
@[simp] theorem ft_zeroOf_190 : zeroOf Try.prog 190 = some Value.nilFunc := by kernel_rfl
@[simp] theorem ft_und_190 : (Try.prog.underlying 190).isSome = true := by kernel_rfl
@[simp] theorem ft_tySz_191 : tySz Try.prog 191 = some (false, 1) := by kernel_rfl
@[simp] theorem ft_intOfTy_191 : intOfTy Try.prog 191 = some IntKind.u64 := by kernel_rfl
@[simp] theorem ft_zeroOf_191 : zeroOf Try.prog 191 = some (Value.int IntKind.u64 (0)) := by kernel_rfl
@[simp] theorem ft_und_191 : (Try.prog.underlying 191).isSome = true := by kernel_rfl
@[simp] theorem ft_tySz_192 : tySz Try.prog 192 = some (false, 1) := by kernel_rfl
@[simp] theorem ft_zeroOf_192 : zeroOf Try.prog 192 = some Value.nilFunc := by kernel_rfl
@[simp] theorem ft_und_192 : (Try.prog.underlying 192).isSome = true := by kernel_rfl
@[simp] theorem ft_tySz_193 : tySz Try.prog 193 = some (false, 1) := by kernel_rfl
@[simp] theorem ft_zeroOf_193 : zeroOf Try.prog 193 = some Value.nilFunc := by kernel_rfl
@[simp] theorem ft_und_193 : (Try.prog.underlying 193).isSome = true := by kernel_rfl
@[simp] theorem ft_tySz_194 : tySz Try.prog 194 = some (false, 1) := by kernel_rfl
@[simp] theorem ft_zeroOf_194 : zeroOf Try.prog 194 = some Value.nilFunc := by kernel_rfl
@[simp] theorem ft_und_194 : (Try.prog.underlying 194).isSome = true := by kernel_rfl
@[simp] theorem ft_tySz_195 : tySz Try.prog 195 = some (false, 1) := by kernel_rfl
@[simp] theorem ft_isPt_195 : isPt Try.prog 195 = true := by kernel_rfl
@[simp] theorem ft_zeroOf_195 : zeroOf Try.prog 195 = some (Value.pointer none) := by kernel_rfl
@[simp] theorem ft_und_195 : (Try.prog.underlying 195).isSome = true := by kernel_rfl
@[simp] theorem ft_tySz_196 : tySz Try.prog 196 = some (false, 1) := by kernel_rfl
@[simp] theorem ft_zeroOf_196 : zeroOf Try.prog 196 = some Value.nilFunc := by kernel_rfl
@[simp] theorem ft_und_196 : (Try.prog.underlying 196).isSome = true := by kernel_rfl
@[simp] theorem ft_tySz_197 : tySz Try.prog 197 = some (false, 1) := by kernel_rfl
@[simp] theorem ft_zeroOf_197 : zeroOf Try.prog 197 = some Value.nilFunc := by kernel_rfl
@[simp] theorem ft_und_197 : (Try.prog.underlying 197).isSome = true := by kernel_rfl
@[simp] theorem ft_tySz_198 : tySz Try.prog 198 = some (false, 1) := by kernel_rfl
@[simp] theorem ft_zeroOf_198 : zeroOf Try.prog 198 = some Value.nilFunc := by kernel_rfl
@[simp] theorem ft_und_198 : (Try.prog.underlying 198).isSome = true := by kernel_rfl
@[simp] theorem ft_tySz_199 : tySz Try.prog 199 = some (false, 1) := by kernel_rfl
@[simp] theorem ft_zeroOf_199 : zeroOf Try.prog 199 = some Value.nilFunc := by kernel_rfl
@[simp] theorem ft_und_199 : (Try.prog.underlying 199).isSome = true := by kernel_rfl
@[simp] theorem ft_tySz_200 : tySz Try.prog 200 = some (false, 1) := by kernel_rfl
@[simp] theorem ft_zeroOf_200 : zeroOf Try.prog 200 = some Value.nilFunc := by kernel_rfl
@[simp] theorem ft_und_200 : (Try.prog.underlying 200).isSome = true := by kernel_rfl
@[simp] theorem ft_tySz_201 : tySz Try.prog 201 = some (false, 1) := by kernel_rfl
@[simp] theorem ft_zeroOf_201 : zeroOf Try.prog 201 = some Value.nilFunc := by kernel_rfl
@[simp] theorem ft_und_201 : (Try.prog.underlying 201).isSome = true := by kernel_rfl
@[simp] theorem ft_tySz_202 : tySz Try.prog 202 = some (false, 1) := by kernel_rfl
@[simp] theorem ft_isPt_202 : isPt Try.prog 202 = true := by kernel_rfl
@[simp] theorem ft_zeroOf_202 : zeroOf Try.prog 202 = some (Value.pointer none) := by kernel_rfl
@[simp] theorem ft_und_202 : (Try.prog.underlying 202).isSome = true := by kernel_rfl
@[simp] theorem ft_tySz_203 : tySz Try.prog 203 = some (false, 1) := by kernel_rfl
@[simp] theorem ft_zeroOf_203 : zeroOf Try.prog 203 = some Value.nilFunc := by kernel_rfl
@[simp] theorem ft_und_203 : (Try.prog.underlying 203).isSome = true := by kernel_rfl
@[simp] theorem ft_tySz_204 : tySz Try.prog 204 = some (false, 1) := by kernel_rfl
@[simp] theorem ft_zeroOf_204 : zeroOf Try.prog 204 = some Value.nilFunc := by kernel_rfl
@[simp] theorem ft_und_204 : (Try.prog.underlying 204).isSome = true := by kernel_rfl
@[simp] theorem ft_tySz_205 : tySz Try.prog 205 = some (false, 1) := by kernel_rfl
@[simp] theorem ft_zeroOf_205 : zeroOf Try.prog 205 = some Value.nilFunc := by kernel_rfl
@[simp] theorem ft_und_205 : (Try.prog.underlying 205).isSome = true := by kernel_rfl
@[simp] theorem ft_tySz_206 : tySz Try.prog 206 = some (false, 1) := by kernel_rfl
@[simp] theorem ft_zeroOf_206 : zeroOf Try.prog 206 = some Value.nilFunc := by kernel_rfl
@[simp] theorem ft_und_206 : (Try.prog.underlying 206).isSome = true := by kernel_rfl
@[simp] theorem ft_tySz_207 : tySz Try.prog 207 = some (false, 1) := by kernel_rfl
@[simp] theorem ft_zeroOf_207 : zeroOf Try.prog 207 = some Value.nilFunc := by kernel_rfl
@[simp] theorem ft_und_207 : (Try.prog.underlying 207).isSome = true := by kernel_rfl
@[simp] theorem ft_tySz_208 : tySz Try.prog 208 = some (true, 4) := by kernel_rfl
@[simp] theorem ft_zeroOf_208 : zeroOf Try.prog 208 = some (Value.agg [Value.pointer none, Value.pointer none, Value.pointer none, Value.string ⟨#[]⟩].toArray) := by kernel_rfl
@[simp] theorem ft_plOf_208 : plOf Try.prog 208 = some (Sum.inl [(0, 1), (1, 1), (2, 1), (3, 1)]) := by kernel_rfl
@[simp] theorem ft_und_208 : (Try.prog.underlying 208).isSome = true := by kernel_rfl
@[simp] theorem ft_fldOf_208_0 : fldOf Try.prog 208 0 = some (0, false, 1) := by kernel_rfl
@[simp] theorem ft_fldOf_208_1 : fldOf Try.prog 208 1 = some (1, false, 1) := by kernel_rfl
@[simp] theorem ft_fldOf_208_2 : fldOf Try.prog 208 2 = some (2, false, 1) := by kernel_rfl
@[simp] theorem ft_fldOf_208_3 : fldOf Try.prog 208 3 = some (3, false, 1) := by kernel_rfl
@[simp] theorem ft_tySz_209 : tySz Try.prog 209 = some (true, 4) := by kernel_rfl
@[simp] theorem ft_zeroOf_209 : zeroOf Try.prog 209 = some (Value.agg [Value.pointer none, Value.pointer none, Value.pointer none, Value.string ⟨#[]⟩].toArray) := by kernel_rfl
@[simp] theorem ft_plOf_209 : plOf Try.prog 209 = some (Sum.inl [(0, 1), (1, 1), (2, 1), (3, 1)]) := by kernel_rfl
@[simp] theorem ft_und_209 : (Try.prog.underlying 209).isSome = true := by kernel_rfl
@[simp] theorem ft_fldOf_209_0 : fldOf Try.prog 209 0 = some (0, false, 1) := by kernel_rfl
@[simp] theorem ft_fldOf_209_1 : fldOf Try.prog 209 1 = some (1, false, 1) := by kernel_rfl
@[simp] theorem ft_fldOf_209_2 : fldOf Try.prog 209 2 = some (2, false, 1) := by kernel_rfl
@[simp] theorem ft_fldOf_209_3 : fldOf Try.prog 209 3 = some (3, false, 1) := by kernel_rfl
@[simp] theorem ft_tySz_210 : tySz Try.prog 210 = some (true, 0) := by kernel_rfl
@[simp] theorem ft_zeroOf_210 : zeroOf Try.prog 210 = some (Value.agg [].toArray) := by kernel_rfl
@[simp] theorem ft_plOf_210 : plOf Try.prog 210 = some (Sum.inr 1) := by kernel_rfl
@[simp] theorem ft_arrOf_210 : arrOf Try.prog 210 = some (0, false, 1) := by kernel_rfl
@[simp] theorem ft_und_210 : (Try.prog.underlying 210).isSome = true := by kernel_rfl
@[simp] theorem ft_tySz_211 : tySz Try.prog 211 = some (true, 0) := by kernel_rfl
@[simp] theorem ft_zeroOf_211 : zeroOf Try.prog 211 = some (Value.agg [].toArray) := by kernel_rfl
@[simp] theorem ft_plOf_211 : plOf Try.prog 211 = some (Sum.inl [(0, 0)]) := by kernel_rfl
@[simp] theorem ft_und_211 : (Try.prog.underlying 211).isSome = true := by kernel_rfl
@[simp] theorem ft_fldOf_211_0 : fldOf Try.prog 211 0 = some (0, true, 0) := by kernel_rfl
@[simp] theorem ft_tySz_212 : tySz Try.prog 212 = some (true, 0) := by kernel_rfl
@[simp] theorem ft_zeroOf_212 : zeroOf Try.prog 212 = some (Value.agg [].toArray) := by kernel_rfl
@[simp] theorem ft_plOf_212 : plOf Try.prog 212 = some (Sum.inl [(0, 0)]) := by kernel_rfl
@[simp] theorem ft_und_212 : (Try.prog.underlying 212).isSome = true := by kernel_rfl
@[simp] theorem ft_fldOf_212_0 : fldOf Try.prog 212 0 = some (0, true, 0) := by kernel_rfl
@[simp] theorem ft_tySz_213 : tySz Try.prog 213 = some (false, 1) := by kernel_rfl
@[simp] theorem ft_zeroOf_213 : zeroOf Try.prog 213 = some Value.nilFunc := by kernel_rfl
@[simp] theorem ft_und_213 : (Try.prog.underlying 213).isSome = true := by kernel_rfl
@[simp] theorem ft_tySz_214 : tySz Try.prog 214 = some (false, 1) := by kernel_rfl
@[simp] theorem ft_intOfTy_214 : intOfTy Try.prog 214 = some IntKind.u8 := by kernel_rfl
@[simp] theorem ft_zeroOf_214 : zeroOf Try.prog 214 = some (Value.int IntKind.u8 (0)) := by kernel_rfl
@[simp] theorem ft_und_214 : (Try.prog.underlying 214).isSome = true := by kernel_rfl
@[simp] theorem ft_tySz_215 : tySz Try.prog 215 = some (false, 1) := by kernel_rfl
@[simp] theorem ft_intOfTy_215 : intOfTy Try.prog 215 = some IntKind.u8 := by kernel_rfl
@[simp] theorem ft_zeroOf_215 : zeroOf Try.prog 215 = some (Value.int IntKind.u8 (0)) := by kernel_rfl
@[simp] theorem ft_und_215 : (Try.prog.underlying 215).isSome = true := by kernel_rfl
@[simp] theorem ft_tySz_216 : tySz Try.prog 216 = some (false, 1) := by kernel_rfl
@[simp] theorem ft_zeroOf_216 : zeroOf Try.prog 216 = some Value.nilFunc := by kernel_rfl
@[simp] theorem ft_und_216 : (Try.prog.underlying 216).isSome = true := by kernel_rfl
@[simp] theorem ft_tySz_217 : tySz Try.prog 217 = some (false, 1) := by kernel_rfl
@[simp] theorem ft_isPt_217 : isPt Try.prog 217 = true := by kernel_rfl
@[simp] theorem ft_zeroOf_217 : zeroOf Try.prog 217 = some (Value.pointer none) := by kernel_rfl
@[simp] theorem ft_und_217 : (Try.prog.underlying 217).isSome = true := by kernel_rfl
@[simp] theorem ft_tySz_218 : tySz Try.prog 218 = some (false, 1) := by kernel_rfl
@[simp] theorem ft_intOfTy_218 : intOfTy Try.prog 218 = some IntKind.i32 := by kernel_rfl
@[simp] theorem ft_zeroOf_218 : zeroOf Try.prog 218 = some (Value.int IntKind.i32 (0)) := by kernel_rfl
@[simp] theorem ft_und_218 : (Try.prog.underlying 218).isSome = true := by kernel_rfl
@[simp] theorem ft_tySz_219 : tySz Try.prog 219 = some (false, 1) := by kernel_rfl
@[simp] theorem ft_intOfTy_219 : intOfTy Try.prog 219 = some IntKind.i32 := by kernel_rfl
@[simp] theorem ft_zeroOf_219 : zeroOf Try.prog 219 = some (Value.int IntKind.i32 (0)) := by kernel_rfl
@[simp] theorem ft_und_219 : (Try.prog.underlying 219).isSome = true := by kernel_rfl
@[simp] theorem ft_tySz_220 : tySz Try.prog 220 = some (true, 11) := by kernel_rfl
@[simp] theorem ft_zeroOf_220 : zeroOf Try.prog 220 = some (Value.agg [Value.int IntKind.u64 (0), Value.int IntKind.u64 (0), Value.int IntKind.u32 (0), Value.int IntKind.u8 (0), Value.int IntKind.u8 (0), Value.int IntKind.u8 (0), Value.int IntKind.u8 (0), Value.nilFunc, Value.pointer none, Value.int IntKind.i32 (0), Value.int IntKind.i32 (0)].toArray) := by kernel_rfl
@[simp] theorem ft_plOf_220 : plOf Try.prog 220 = some (Sum.inl [(0, 1), (1, 1), (2, 1), (3, 1), (4, 1), (5, 1), (6, 1), (7, 1), (8, 1), (9, 1), (10, 1)]) := by kernel_rfl
@[simp] theorem ft_und_220 : (Try.prog.underlying 220).isSome = true := by kernel_rfl
@[simp] theorem ft_fldOf_220_0 : fldOf Try.prog 220 0 = some (0, false, 1) := by kernel_rfl
@[simp] theorem ft_fldOf_220_1 : fldOf Try.prog 220 1 = some (1, false, 1) := by kernel_rfl
@[simp] theorem ft_fldOf_220_2 : fldOf Try.prog 220 2 = some (2, false, 1) := by kernel_rfl
@[simp] theorem ft_fldOf_220_3 : fldOf Try.prog 220 3 = some (3, false, 1) := by kernel_rfl
@[simp] theorem ft_fldOf_220_4 : fldOf Try.prog 220 4 = some (4, false, 1) := by kernel_rfl
@[simp] theorem ft_fldOf_220_5 : fldOf Try.prog 220 5 = some (5, false, 1) := by kernel_rfl
@[simp] theorem ft_fldOf_220_6 : fldOf Try.prog 220 6 = some (6, false, 1) := by kernel_rfl
@[simp] theorem ft_fldOf_220_7 : fldOf Try.prog 220 7 = some (7, false, 1) := by kernel_rfl
@[simp] theorem ft_fldOf_220_8 : fldOf Try.prog 220 8 = some (8, false, 1) := by kernel_rfl
@[simp] theorem ft_fldOf_220_9 : fldOf Try.prog 220 9 = some (9, false, 1) := by kernel_rfl
@[simp] theorem ft_fldOf_220_10 : fldOf Try.prog 220 10 = some (10, false, 1) := by kernel_rfl
@[simp] theorem ft_tySz_221 : tySz Try.prog 221 = some (true, 11) := by kernel_rfl
@[simp] theorem ft_zeroOf_221 : zeroOf Try.prog 221 = some (Value.agg [Value.int IntKind.u64 (0), Value.int IntKind.u64 (0), Value.int IntKind.u32 (0), Value.int IntKind.u8 (0), Value.int IntKind.u8 (0), Value.int IntKind.u8 (0), Value.int IntKind.u8 (0), Value.nilFunc, Value.pointer none, Value.int IntKind.i32 (0), Value.int IntKind.i32 (0)].toArray) := by kernel_rfl
@[simp] theorem ft_plOf_221 : plOf Try.prog 221 = some (Sum.inl [(0, 1), (1, 1), (2, 1), (3, 1), (4, 1), (5, 1), (6, 1), (7, 1), (8, 1), (9, 1), (10, 1)]) := by kernel_rfl
@[simp] theorem ft_und_221 : (Try.prog.underlying 221).isSome = true := by kernel_rfl
@[simp] theorem ft_fldOf_221_0 : fldOf Try.prog 221 0 = some (0, false, 1) := by kernel_rfl
@[simp] theorem ft_fldOf_221_1 : fldOf Try.prog 221 1 = some (1, false, 1) := by kernel_rfl
@[simp] theorem ft_fldOf_221_2 : fldOf Try.prog 221 2 = some (2, false, 1) := by kernel_rfl
@[simp] theorem ft_fldOf_221_3 : fldOf Try.prog 221 3 = some (3, false, 1) := by kernel_rfl
@[simp] theorem ft_fldOf_221_4 : fldOf Try.prog 221 4 = some (4, false, 1) := by kernel_rfl
@[simp] theorem ft_fldOf_221_5 : fldOf Try.prog 221 5 = some (5, false, 1) := by kernel_rfl
@[simp] theorem ft_fldOf_221_6 : fldOf Try.prog 221 6 = some (6, false, 1) := by kernel_rfl
@[simp] theorem ft_fldOf_221_7 : fldOf Try.prog 221 7 = some (7, false, 1) := by kernel_rfl
@[simp] theorem ft_fldOf_221_8 : fldOf Try.prog 221 8 = some (8, false, 1) := by kernel_rfl
@[simp] theorem ft_fldOf_221_9 : fldOf Try.prog 221 9 = some (9, false, 1) := by kernel_rfl
@[simp] theorem ft_fldOf_221_10 : fldOf Try.prog 221 10 = some (10, false, 1) := by kernel_rfl
@[simp] theorem ft_tySz_222 : tySz Try.prog 222 = some (false, 1) := by kernel_rfl
@[simp] theorem ft_zeroOf_222 : zeroOf Try.prog 222 = some Value.nilFunc := by kernel_rfl
@[simp] theorem ft_und_222 : (Try.prog.underlying 222).isSome = true := by kernel_rfl
@[simp] theorem ft_tySz_223 : tySz Try.prog 223 = some (false, 1) := by kernel_rfl
@[simp] theorem ft_zeroOf_223 : zeroOf Try.prog 223 = some (Value.pointer none) := by kernel_rfl
@[simp] theorem ft_und_223 : (Try.prog.underlying 223).isSome = true := by kernel_rfl
end Go.Proofs.Ytkfiiomdkljjnaa
