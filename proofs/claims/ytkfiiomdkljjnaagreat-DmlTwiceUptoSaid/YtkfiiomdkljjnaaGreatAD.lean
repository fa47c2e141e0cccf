/- The types' facts of the seat, each by kernel_rfl. -/
import Derived.Test.YtkfiiomdkljjnaaGreatVC
import Derived.Test.YtkfiiomdkljjnaaGreatProg
import Derived.KernelRfl
set_option linter.unusedSimpArgs false
set_option linter.unusedVariables false
namespace Go.Proofs.YtkfiiomdkljjnaaGreat
open Go.VL Go.RowKit
@[simp] theorem ft_tySz_0 : tySz Tryz.prog 0 = some (false, 1) := by kernel_rfl
@[simp] theorem ft_zeroOf_0 : zeroOf Tryz.prog 0 = some (Value.tuple [].toArray) := by kernel_rfl
@[simp] theorem ft_und_0 : (Tryz.prog.underlying 0).isSome = true := by kernel_rfl
@[simp] theorem ft_tySz_1 : tySz Tryz.prog 1 = some (false, 1) := by kernel_rfl
@[simp] theorem ft_zeroOf_1 : zeroOf Tryz.prog 1 = some Value.nilFunc := by kernel_rfl
@[simp] theorem ft_und_1 : (Tryz.prog.underlying 1).isSome = true := by kernel_rfl
@[simp] theorem ft_tySz_2 : tySz Tryz.prog 2 = some (false, 1) := by kernel_rfl
@[simp] theorem ft_intOfTy_2 : intOfTy Tryz.prog 2 = some IntKind.i64 := by kernel_rfl
@[simp] theorem ft_zeroOf_2 : zeroOf Tryz.prog 2 = some (Value.int IntKind.i64 (0)) := by kernel_rfl
@[simp] theorem ft_und_2 : (Tryz.prog.underlying 2).isSome = true := by kernel_rfl
@[simp] theorem ft_tySz_3 : tySz Tryz.prog 3 = some (false, 1) := by kernel_rfl
@[simp] theorem ft_intOfTy_3 : intOfTy Tryz.prog 3 = some IntKind.i64 := by kernel_rfl
@[simp] theorem ft_zeroOf_3 : zeroOf Tryz.prog 3 = some (Value.int IntKind.i64 (0)) := by kernel_rfl
@[simp] theorem ft_und_3 : (Tryz.prog.underlying 3).isSome = true := by kernel_rfl
@[simp] theorem ft_tySz_4 : tySz Tryz.prog 4 = some (false, 1) := by kernel_rfl
@[simp] theorem ft_zeroOf_4 : zeroOf Tryz.prog 4 = some (Value.bool false) := by kernel_rfl
@[simp] theorem ft_und_4 : (Tryz.prog.underlying 4).isSome = true := by kernel_rfl
@[simp] theorem ft_tySz_5 : tySz Tryz.prog 5 = some (false, 1) := by kernel_rfl
@[simp] theorem ft_intOfTy_5 : intOfTy Tryz.prog 5 = some IntKind.u8 := by kernel_rfl
@[simp] theorem ft_zeroOf_5 : zeroOf Tryz.prog 5 = some (Value.int IntKind.u8 (0)) := by kernel_rfl
@[simp] theorem ft_und_5 : (Tryz.prog.underlying 5).isSome = true := by kernel_rfl
@[simp] theorem ft_tySz_6 : tySz Tryz.prog 6 = some (false, 1) := by kernel_rfl
@[simp] theorem ft_intOfTy_6 : intOfTy Tryz.prog 6 = some IntKind.u8 := by kernel_rfl
@[simp] theorem ft_zeroOf_6 : zeroOf Tryz.prog 6 = some (Value.int IntKind.u8 (0)) := by kernel_rfl
@[simp] theorem ft_und_6 : (Tryz.prog.underlying 6).isSome = true := by kernel_rfl
@[simp] theorem ft_tySz_7 : tySz Tryz.prog 7 = some (true, 4) := by kernel_rfl
@[simp] theorem ft_zeroOf_7 : zeroOf Tryz.prog 7 = some (Value.agg [Value.int IntKind.i64 (0), Value.int IntKind.i64 (0), Value.bool false, Value.int IntKind.u8 (0)].toArray) := by kernel_rfl
@[simp] theorem ft_plOf_7 : plOf Tryz.prog 7 = some (Sum.inl [(0, 1), (1, 1), (2, 1), (3, 1)]) := by kernel_rfl
@[simp] theorem ft_eqT_7 : eqT Tryz.prog 7 = some [FK.i, FK.i, FK.b, FK.i] := by kernel_rfl
@[simp] theorem ft_und_7 : (Tryz.prog.underlying 7).isSome = true := by kernel_rfl
@[simp] theorem ft_fldOf_7_0 : fldOf Tryz.prog 7 0 = some (0, false, 1) := by kernel_rfl
@[simp] theorem ft_fldOf_7_1 : fldOf Tryz.prog 7 1 = some (1, false, 1) := by kernel_rfl
@[simp] theorem ft_fldOf_7_2 : fldOf Tryz.prog 7 2 = some (2, false, 1) := by kernel_rfl
@[simp] theorem ft_fldOf_7_3 : fldOf Tryz.prog 7 3 = some (3, false, 1) := by kernel_rfl
@[simp] theorem ft_tySz_8 : tySz Tryz.prog 8 = some (true, 4) := by kernel_rfl
@[simp] theorem ft_zeroOf_8 : zeroOf Tryz.prog 8 = some (Value.agg [Value.int IntKind.i64 (0), Value.int IntKind.i64 (0), Value.bool false, Value.int IntKind.u8 (0)].toArray) := by kernel_rfl
@[simp] theorem ft_plOf_8 : plOf Tryz.prog 8 = some (Sum.inl [(0, 1), (1, 1), (2, 1), (3, 1)]) := by kernel_rfl
@[simp] theorem ft_eqT_8 : eqT Tryz.prog 8 = some [FK.i, FK.i, FK.b, FK.i] := by kernel_rfl
@[simp] theorem ft_und_8 : (Tryz.prog.underlying 8).isSome = true := by kernel_rfl
@[simp] theorem ft_fldOf_8_0 : fldOf Tryz.prog 8 0 = some (0, false, 1) := by kernel_rfl
@[simp] theorem ft_fldOf_8_1 : fldOf Tryz.prog 8 1 = some (1, false, 1) := by kernel_rfl
@[simp] theorem ft_fldOf_8_2 : fldOf Tryz.prog 8 2 = some (2, false, 1) := by kernel_rfl
@[simp] theorem ft_fldOf_8_3 : fldOf Tryz.prog 8 3 = some (3, false, 1) := by kernel_rfl
@[simp] theorem ft_tySz_9 : tySz Tryz.prog 9 = some (false, 1) := by kernel_rfl
@[simp] theorem ft_zeroOf_9 : zeroOf Tryz.prog 9 = some (Value.string ⟨#[]⟩) := by kernel_rfl
@[simp] theorem ft_und_9 : (Tryz.prog.underlying 9).isSome = true := by kernel_rfl
@[simp] theorem ft_tySz_10 : tySz Tryz.prog 10 = some (false, 1) := by kernel_rfl
@[simp] theorem ft_zeroOf_10 : zeroOf Tryz.prog 10 = some (Value.string ⟨#[]⟩) := by kernel_rfl
@[simp] theorem ft_und_10 : (Tryz.prog.underlying 10).isSome = true := by kernel_rfl
@[simp] theorem ft_tySz_11 : tySz Tryz.prog 11 = some (false, 1) := by kernel_rfl
@[simp] theorem ft_zeroOf_11 : zeroOf Tryz.prog 11 = some (Value.string ⟨#[]⟩) := by kernel_rfl
@[simp] theorem ft_und_11 : (Tryz.prog.underlying 11).isSome = true := by kernel_rfl
@[simp] theorem ft_tySz_12 : tySz Tryz.prog 12 = some (false, 1) := by kernel_rfl
@[simp] theorem ft_intOfTy_12 : intOfTy Tryz.prog 12 = some IntKind.u64 := by kernel_rfl
@[simp] theorem ft_zeroOf_12 : zeroOf Tryz.prog 12 = some (Value.int IntKind.u64 (0)) := by kernel_rfl
@[simp] theorem ft_und_12 : (Tryz.prog.underlying 12).isSome = true := by kernel_rfl
@[simp] theorem ft_tySz_13 : tySz Tryz.prog 13 = some (true, 2) := by kernel_rfl
@[simp] theorem ft_zeroOf_13 : zeroOf Tryz.prog 13 = some (Value.agg [Value.string ⟨#[]⟩, Value.int IntKind.u64 (0)].toArray) := by kernel_rfl
@[simp] theorem ft_plOf_13 : plOf Tryz.prog 13 = some (Sum.inl [(0, 1), (1, 1)]) := by kernel_rfl
@[simp] theorem ft_und_13 : (Tryz.prog.underlying 13).isSome = true := by kernel_rfl
@[simp] theorem ft_fldOf_13_0 : fldOf Tryz.prog 13 0 = some (0, false, 1) := by kernel_rfl
@[simp] theorem ft_fldOf_13_1 : fldOf Tryz.prog 13 1 = some (1, false, 1) := by kernel_rfl
@[simp] theorem ft_tySz_14 : tySz Tryz.prog 14 = some (true, 2) := by kernel_rfl
@[simp] theorem ft_zeroOf_14 : zeroOf Tryz.prog 14 = some (Value.agg [Value.string ⟨#[]⟩, Value.int IntKind.u64 (0)].toArray) := by kernel_rfl
@[simp] theorem ft_plOf_14 : plOf Tryz.prog 14 = some (Sum.inl [(0, 1), (1, 1)]) := by kernel_rfl
@[simp] theorem ft_und_14 : (Tryz.prog.underlying 14).isSome = true := by kernel_rfl
@[simp] theorem ft_fldOf_14_0 : fldOf Tryz.prog 14 0 = some (0, false, 1) := by kernel_rfl
@[simp] theorem ft_fldOf_14_1 : fldOf Tryz.prog 14 1 = some (1, false, 1) := by kernel_rfl
@[simp] theorem ft_tySz_15 : tySz Tryz.prog 15 = some (false, 1) := by kernel_rfl
@[simp] theorem ft_isPt_15 : isPt Tryz.prog 15 = true := by kernel_rfl
@[simp] theorem ft_zeroOf_15 : zeroOf Tryz.prog 15 = some (Value.pointer none) := by kernel_rfl
@[simp] theorem ft_und_15 : (Tryz.prog.underlying 15).isSome = true := by kernel_rfl
@[simp] theorem ft_tySz_16 : tySz Tryz.prog 16 = some (false, 1) := by kernel_rfl
@[simp] theorem ft_isPt_16 : isPt Tryz.prog 16 = true := by kernel_rfl
@[simp] theorem ft_zeroOf_16 : zeroOf Tryz.prog 16 = some (Value.pointer none) := by kernel_rfl
@[simp] theorem ft_und_16 : (Tryz.prog.underlying 16).isSome = true := by kernel_rfl
@[simp] theorem ft_tySz_17 : tySz Tryz.prog 17 = some (false, 1) := by kernel_rfl
@[simp] theorem ft_isPt_17 : isPt Tryz.prog 17 = true := by kernel_rfl
@[simp] theorem ft_zeroOf_17 : zeroOf Tryz.prog 17 = some (Value.pointer none) := by kernel_rfl
@[simp] theorem ft_und_17 : (Tryz.prog.underlying 17).isSome = true := by kernel_rfl
@[simp] theorem ft_tySz_18 : tySz Tryz.prog 18 = some (true, 1) := by kernel_rfl
@[simp] theorem ft_zeroOf_18 : zeroOf Tryz.prog 18 = some (Value.agg [Value.pointer none].toArray) := by kernel_rfl
@[simp] theorem ft_plOf_18 : plOf Tryz.prog 18 = some (Sum.inl [(0, 1)]) := by kernel_rfl
@[simp] theorem ft_und_18 : (Tryz.prog.underlying 18).isSome = true := by kernel_rfl
@[simp] theorem ft_fldOf_18_0 : fldOf Tryz.prog 18 0 = some (0, false, 1) := by kernel_rfl
@[simp] theorem ft_tySz_19 : tySz Tryz.prog 19 = some (true, 1) := by kernel_rfl
@[simp] theorem ft_zeroOf_19 : zeroOf Tryz.prog 19 = some (Value.agg [Value.pointer none].toArray) := by kernel_rfl
@[simp] theorem ft_plOf_19 : plOf Tryz.prog 19 = some (Sum.inl [(0, 1)]) := by kernel_rfl
@[simp] theorem ft_und_19 : (Tryz.prog.underlying 19).isSome = true := by kernel_rfl
@[simp] theorem ft_fldOf_19_0 : fldOf Tryz.prog 19 0 = some (0, false, 1) := by kernel_rfl
@[simp] theorem ft_tySz_20 : tySz Tryz.prog 20 = some (false, 1) := by kernel_rfl
@[simp] theorem ft_zeroOf_20 : zeroOf Tryz.prog 20 = some Value.nilIface := by kernel_rfl
@[simp] theorem ft_und_20 : (Tryz.prog.underlying 20).isSome = true := by kernel_rfl
@[simp] theorem ft_tySz_21 : tySz Tryz.prog 21 = some (false, 1) := by kernel_rfl
@[simp] theorem ft_intOfTy_21 : intOfTy Tryz.prog 21 = some IntKind.i32 := by kernel_rfl
@[simp] theorem ft_zeroOf_21 : zeroOf Tryz.prog 21 = some (Value.int IntKind.i32 (0)) := by kernel_rfl
@[simp] theorem ft_und_21 : (Tryz.prog.underlying 21).isSome = true := by kernel_rfl
@[simp] theorem ft_tySz_22 : tySz Tryz.prog 22 = some (false, 1) := by kernel_rfl
@[simp] theorem ft_esz_22 : esz Tryz.prog 22 = some 3 := by kernel_rfl
@[simp] theorem ft_isSl_22 : isSl Tryz.prog 22 = true := by kernel_rfl
@[simp] theorem ft_zeroOf_22 : zeroOf Tryz.prog 22 = some (Value.slice none 0 0) := by kernel_rfl
@[simp] theorem ft_elZ_22 : elZ Tryz.prog 22 = some (3, [C.sl true [], C.v (Value.int IntKind.i64 (0)), C.v (Value.int IntKind.i64 (0))]) := by kernel_rfl
@[simp] theorem ft_slT_22 : slT Tryz.prog 22 = some (3, 40) := by kernel_rfl
@[simp] theorem ft_apT_22 : apT Tryz.prog 22 22 = some (3, 40) := by kernel_rfl
@[simp ↓] theorem ft_vmk_22 (l c : S) (y : Nat) (st : St) (K : St → Prop) : vmk Tryz.prog 22 l c y st K = force (tick (sint l)) fun l => force (tick (sint c)) fun c => vmkZ (some (3, [C.sl true [], C.v (Value.int IntKind.i64 (0)), C.v (Value.int IntKind.i64 (0))])) (some (3, 40)) l c y st K := vmk_iff st K 22 l c y ft_elZ_22 ft_slT_22
@[simp] theorem ft_und_22 : (Tryz.prog.underlying 22).isSome = true := by kernel_rfl
@[simp] theorem ft_tySz_23 : tySz Tryz.prog 23 = some (true, 2) := by kernel_rfl
@[simp] theorem ft_zeroOf_23 : zeroOf Tryz.prog 23 = some (Value.agg [Value.int IntKind.i64 (0), Value.int IntKind.i64 (0)].toArray) := by kernel_rfl
@[simp] theorem ft_plOf_23 : plOf Tryz.prog 23 = some (Sum.inl [(0, 1), (1, 1)]) := by kernel_rfl
@[simp] theorem ft_eqT_23 : eqT Tryz.prog 23 = some [FK.i, FK.i] := by kernel_rfl
@[simp] theorem ft_und_23 : (Tryz.prog.underlying 23).isSome = true := by kernel_rfl
@[simp] theorem ft_fldOf_23_0 : fldOf Tryz.prog 23 0 = some (0, false, 1) := by kernel_rfl
@[simp] theorem ft_fldOf_23_1 : fldOf Tryz.prog 23 1 = some (1, false, 1) := by kernel_rfl
@[simp] theorem ft_tySz_24 : tySz Tryz.prog 24 = some (true, 2) := by kernel_rfl
@[simp] theorem ft_zeroOf_24 : zeroOf Tryz.prog 24 = some (Value.agg [Value.int IntKind.i64 (0), Value.int IntKind.i64 (0)].toArray) := by kernel_rfl
@[simp] theorem ft_plOf_24 : plOf Tryz.prog 24 = some (Sum.inl [(0, 1), (1, 1)]) := by kernel_rfl
@[simp] theorem ft_eqT_24 : eqT Tryz.prog 24 = some [FK.i, FK.i] := by kernel_rfl
@[simp] theorem ft_und_24 : (Tryz.prog.underlying 24).isSome = true := by kernel_rfl
@[simp] theorem ft_fldOf_24_0 : fldOf Tryz.prog 24 0 = some (0, false, 1) := by kernel_rfl
@[simp] theorem ft_fldOf_24_1 : fldOf Tryz.prog 24 1 = some (1, false, 1) := by kernel_rfl
@[simp] theorem ft_tySz_25 : tySz Tryz.prog 25 = some (false, 1) := by kernel_rfl
@[simp] theorem ft_esz_25 : esz Tryz.prog 25 = some 5 := by kernel_rfl
@[simp] theorem ft_isSl_25 : isSl Tryz.prog 25 = true := by kernel_rfl
@[simp] theorem ft_zeroOf_25 : zeroOf Tryz.prog 25 = some (Value.slice none 0 0) := by kernel_rfl
@[simp] theorem ft_elZ_25 : elZ Tryz.prog 25 = some (5, [C.v (Value.string ⟨#[]⟩), C.v (Value.int IntKind.i64 (0)), C.v (Value.string ⟨#[]⟩), C.v (Value.string ⟨#[]⟩), C.sl true []]) := by kernel_rfl
@[simp] theorem ft_slT_25 : slT Tryz.prog 25 = some (5, 80) := by kernel_rfl
@[simp] theorem ft_apT_25 : apT Tryz.prog 25 25 = some (5, 80) := by kernel_rfl
@[simp ↓] theorem ft_vmk_25 (l c : S) (y : Nat) (st : St) (K : St → Prop) : vmk Tryz.prog 25 l c y st K = force (tick (sint l)) fun l => force (tick (sint c)) fun c => vmkZ (some (5, [C.v (Value.string ⟨#[]⟩), C.v (Value.int IntKind.i64 (0)), C.v (Value.string ⟨#[]⟩), C.v (Value.string ⟨#[]⟩), C.sl true []])) (some (5, 80)) l c y st K := vmk_iff st K 25 l c y ft_elZ_25 ft_slT_25
@[simp] theorem ft_und_25 : (Tryz.prog.underlying 25).isSome = true := by kernel_rfl
@[simp] theorem ft_tySz_26 : tySz Tryz.prog 26 = some (false, 1) := by kernel_rfl
@[simp] theorem ft_esz_26 : esz Tryz.prog 26 = some 1 := by kernel_rfl
@[simp] theorem ft_isSl_26 : isSl Tryz.prog 26 = true := by kernel_rfl
@[simp] theorem ft_zeroOf_26 : zeroOf Tryz.prog 26 = some (Value.slice none 0 0) := by kernel_rfl
@[simp] theorem ft_elZ_26 : elZ Tryz.prog 26 = some (1, [C.v (Value.int IntKind.i64 (0))]) := by kernel_rfl
@[simp] theorem ft_slT_26 : slT Tryz.prog 26 = some (1, 8) := by kernel_rfl
@[simp] theorem ft_apT_26 : apT Tryz.prog 26 26 = some (1, 8) := by kernel_rfl
@[simp ↓] theorem ft_vmk_26 (l c : S) (y : Nat) (st : St) (K : St → Prop) : vmk Tryz.prog 26 l c y st K = force (tick (sint l)) fun l => force (tick (sint c)) fun c => vmkZ (some (1, [C.v (Value.int IntKind.i64 (0))])) (some (1, 8)) l c y st K := vmk_iff st K 26 l c y ft_elZ_26 ft_slT_26
@[simp] theorem ft_und_26 : (Tryz.prog.underlying 26).isSome = true := by kernel_rfl
@[simp] theorem ft_tySz_27 : tySz Tryz.prog 27 = some (true, 5) := by kernel_rfl
@[simp] theorem ft_zeroOf_27 : zeroOf Tryz.prog 27 = some (Value.agg [Value.int IntKind.i64 (0), Value.int IntKind.i64 (0), Value.slice none 0 0, Value.slice none 0 0, Value.slice none 0 0].toArray) := by kernel_rfl
@[simp] theorem ft_plOf_27 : plOf Tryz.prog 27 = some (Sum.inl [(0, 2), (2, 1), (3, 1), (4, 1)]) := by kernel_rfl
@[simp] theorem ft_und_27 : (Tryz.prog.underlying 27).isSome = true := by kernel_rfl
@[simp] theorem ft_fldOf_27_0 : fldOf Tryz.prog 27 0 = some (0, true, 2) := by kernel_rfl
@[simp] theorem ft_fldOf_27_1 : fldOf Tryz.prog 27 1 = some (2, false, 1) := by kernel_rfl
@[simp] theorem ft_fldOf_27_2 : fldOf Tryz.prog 27 2 = some (3, false, 1) := by kernel_rfl
@[simp] theorem ft_fldOf_27_3 : fldOf Tryz.prog 27 3 = some (4, false, 1) := by kernel_rfl
@[simp] theorem ft_tySz_28 : tySz Tryz.prog 28 = some (true, 5) := by kernel_rfl
@[simp] theorem ft_zeroOf_28 : zeroOf Tryz.prog 28 = some (Value.agg [Value.int IntKind.i64 (0), Value.int IntKind.i64 (0), Value.slice none 0 0, Value.slice none 0 0, Value.slice none 0 0].toArray) := by kernel_rfl
@[simp] theorem ft_plOf_28 : plOf Tryz.prog 28 = some (Sum.inl [(0, 2), (2, 1), (3, 1), (4, 1)]) := by kernel_rfl
@[simp] theorem ft_und_28 : (Tryz.prog.underlying 28).isSome = true := by kernel_rfl
@[simp] theorem ft_fldOf_28_0 : fldOf Tryz.prog 28 0 = some (0, true, 2) := by kernel_rfl
@[simp] theorem ft_fldOf_28_1 : fldOf Tryz.prog 28 1 = some (2, false, 1) := by kernel_rfl
@[simp] theorem ft_fldOf_28_2 : fldOf Tryz.prog 28 2 = some (3, false, 1) := by kernel_rfl
@[simp] theorem ft_fldOf_28_3 : fldOf Tryz.prog 28 3 = some (4, false, 1) := by kernel_rfl
@[simp] theorem ft_tySz_29 : tySz Tryz.prog 29 = some (false, 1) := by kernel_rfl
@[simp] theorem ft_zeroOf_29 : zeroOf Tryz.prog 29 = some Value.nilFunc := by kernel_rfl
@[simp] theorem ft_und_29 : (Tryz.prog.underlying 29).isSome = true := by kernel_rfl
@[simp] theorem ft_tySz_30 : tySz Tryz.prog 30 = some (false, 1) := by kernel_rfl
@[simp] theorem ft_zeroOf_30 : zeroOf Tryz.prog 30 = some Value.nilFunc := by kernel_rfl
@[simp] theorem ft_und_30 : (Tryz.prog.underlying 30).isSome = true := by kernel_rfl
@[simp] theorem ft_tySz_31 : tySz Tryz.prog 31 = some (false, 1) := by kernel_rfl
@[simp] theorem ft_esz_31 : esz Tryz.prog 31 = some 7 := by kernel_rfl
@[simp] theorem ft_isSl_31 : isSl Tryz.prog 31 = true := by kernel_rfl
@[simp] theorem ft_zeroOf_31 : zeroOf Tryz.prog 31 = some (Value.slice none 0 0) := by kernel_rfl
@[simp] theorem ft_elZ_31 : elZ Tryz.prog 31 = some (7, [C.v (Value.string ⟨#[]⟩), C.v (Value.int IntKind.i64 (0)), C.v (Value.int IntKind.i64 (0)), C.v (Value.int IntKind.i64 (0)), C.v (Value.string ⟨#[]⟩), C.v (Value.int IntKind.i64 (0)), C.sl true []]) := by kernel_rfl
@[simp] theorem ft_slT_31 : slT Tryz.prog 31 = some (7, 88) := by kernel_rfl
@[simp] theorem ft_apT_31 : apT Tryz.prog 31 31 = some (7, 88) := by kernel_rfl
@[simp ↓] theorem ft_vmk_31 (l c : S) (y : Nat) (st : St) (K : St → Prop) : vmk Tryz.prog 31 l c y st K = force (tick (sint l)) fun l => force (tick (sint c)) fun c => vmkZ (some (7, [C.v (Value.string ⟨#[]⟩), C.v (Value.int IntKind.i64 (0)), C.v (Value.int IntKind.i64 (0)), C.v (Value.int IntKind.i64 (0)), C.v (Value.string ⟨#[]⟩), C.v (Value.int IntKind.i64 (0)), C.sl true []])) (some (7, 88)) l c y st K := vmk_iff st K 31 l c y ft_elZ_31 ft_slT_31
@[simp] theorem ft_und_31 : (Tryz.prog.underlying 31).isSome = true := by kernel_rfl
@[simp] theorem ft_tySz_32 : tySz Tryz.prog 32 = some (false, 1) := by kernel_rfl
@[simp] theorem ft_esz_32 : esz Tryz.prog 32 = some 8 := by kernel_rfl
@[simp] theorem ft_isSl_32 : isSl Tryz.prog 32 = true := by kernel_rfl
@[simp] theorem ft_zeroOf_32 : zeroOf Tryz.prog 32 = some (Value.slice none 0 0) := by kernel_rfl
@[simp] theorem ft_elZ_32 : elZ Tryz.prog 32 = some (8, [C.v (Value.int IntKind.i64 (0)), C.v (Value.string ⟨#[]⟩), C.v (Value.int IntKind.i64 (0)), C.v (Value.int IntKind.i64 (0)), C.v (Value.int IntKind.i64 (0)), C.v (Value.string ⟨#[]⟩), C.v (Value.int IntKind.i64 (0)), C.sl true []]) := by kernel_rfl
@[simp] theorem ft_slT_32 : slT Tryz.prog 32 = some (8, 96) := by kernel_rfl
@[simp] theorem ft_apT_32 : apT Tryz.prog 32 32 = some (8, 96) := by kernel_rfl
@[simp ↓] theorem ft_vmk_32 (l c : S) (y : Nat) (st : St) (K : St → Prop) : vmk Tryz.prog 32 l c y st K = force (tick (sint l)) fun l => force (tick (sint c)) fun c => vmkZ (some (8, [C.v (Value.int IntKind.i64 (0)), C.v (Value.string ⟨#[]⟩), C.v (Value.int IntKind.i64 (0)), C.v (Value.int IntKind.i64 (0)), C.v (Value.int IntKind.i64 (0)), C.v (Value.string ⟨#[]⟩), C.v (Value.int IntKind.i64 (0)), C.sl true []])) (some (8, 96)) l c y st K := vmk_iff st K 32 l c y ft_elZ_32 ft_slT_32
@[simp] theorem ft_und_32 : (Tryz.prog.underlying 32).isSome = true := by kernel_rfl
@[simp] theorem ft_tySz_33 : tySz Tryz.prog 33 = some (false, 1) := by kernel_rfl
@[simp] theorem ft_esz_33 : esz Tryz.prog 33 = some 6 := by kernel_rfl
@[simp] theorem ft_isSl_33 : isSl Tryz.prog 33 = true := by kernel_rfl
@[simp] theorem ft_zeroOf_33 : zeroOf Tryz.prog 33 = some (Value.slice none 0 0) := by kernel_rfl
@[simp] theorem ft_elZ_33 : elZ Tryz.prog 33 = some (6, [C.v (Value.int IntKind.i64 (0)), C.v (Value.string ⟨#[]⟩), C.v (Value.int IntKind.i64 (0)), C.v (Value.string ⟨#[]⟩), C.v (Value.string ⟨#[]⟩), C.sl true []]) := by kernel_rfl
@[simp] theorem ft_slT_33 : slT Tryz.prog 33 = some (6, 88) := by kernel_rfl
@[simp] theorem ft_apT_33 : apT Tryz.prog 33 33 = some (6, 88) := by kernel_rfl
@[simp ↓] theorem ft_vmk_33 (l c : S) (y : Nat) (st : St) (K : St → Prop) : vmk Tryz.prog 33 l c y st K = force (tick (sint l)) fun l => force (tick (sint c)) fun c => vmkZ (some (6, [C.v (Value.int IntKind.i64 (0)), C.v (Value.string ⟨#[]⟩), C.v (Value.int IntKind.i64 (0)), C.v (Value.string ⟨#[]⟩), C.v (Value.string ⟨#[]⟩), C.sl true []])) (some (6, 88)) l c y st K := vmk_iff st K 33 l c y ft_elZ_33 ft_slT_33
@[simp] theorem ft_und_33 : (Tryz.prog.underlying 33).isSome = true := by kernel_rfl
@[simp] theorem ft_tySz_34 : tySz Tryz.prog 34 = some (false, 1) := by kernel_rfl
@[simp] theorem ft_zeroOf_34 : zeroOf Tryz.prog 34 = some (Value.tuple [Value.slice none 0 0, Value.slice none 0 0, Value.slice none 0 0, Value.slice none 0 0].toArray) := by kernel_rfl
@[simp] theorem ft_und_34 : (Tryz.prog.underlying 34).isSome = true := by kernel_rfl
@[simp] theorem ft_tySz_35 : tySz Tryz.prog 35 = some (false, 1) := by kernel_rfl
@[simp] theorem ft_zeroOf_35 : zeroOf Tryz.prog 35 = some Value.nilFunc := by kernel_rfl
@[simp] theorem ft_und_35 : (Tryz.prog.underlying 35).isSome = true := by kernel_rfl
@[simp] theorem ft_tySz_36 : tySz Tryz.prog 36 = some (false, 1) := by kernel_rfl
@[simp] theorem ft_intOfTy_36 : intOfTy Tryz.prog 36 = some IntKind.i64 := by kernel_rfl
@[simp] theorem ft_zeroOf_36 : zeroOf Tryz.prog 36 = some (Value.int IntKind.i64 (0)) := by kernel_rfl
@[simp] theorem ft_und_36 : (Tryz.prog.underlying 36).isSome = true := by kernel_rfl
@[simp] theorem ft_tySz_37 : tySz Tryz.prog 37 = some (false, 1) := by kernel_rfl
@[simp] theorem ft_zeroOf_37 : zeroOf Tryz.prog 37 = some (Value.tuple [Value.slice none 0 0, Value.int IntKind.i64 (0)].toArray) := by kernel_rfl
@[simp] theorem ft_und_37 : (Tryz.prog.underlying 37).isSome = true := by kernel_rfl
@[simp] theorem ft_tySz_38 : tySz Tryz.prog 38 = some (false, 1) := by kernel_rfl
@[simp] theorem ft_zeroOf_38 : zeroOf Tryz.prog 38 = some Value.nilFunc := by kernel_rfl
@[simp] theorem ft_und_38 : (Tryz.prog.underlying 38).isSome = true := by kernel_rfl
@[simp] theorem ft_tySz_39 : tySz Tryz.prog 39 = some (true, 2) := by kernel_rfl
@[simp] theorem ft_zeroOf_39 : zeroOf Tryz.prog 39 = some (Value.agg [Value.slice none 0 0, Value.slice none 0 0].toArray) := by kernel_rfl
@[simp] theorem ft_plOf_39 : plOf Tryz.prog 39 = some (Sum.inl [(0, 1), (1, 1)]) := by kernel_rfl
@[simp] theorem ft_und_39 : (Tryz.prog.underlying 39).isSome = true := by kernel_rfl
@[simp] theorem ft_fldOf_39_0 : fldOf Tryz.prog 39 0 = some (0, false, 1) := by kernel_rfl
@[simp] theorem ft_fldOf_39_1 : fldOf Tryz.prog 39 1 = some (1, false, 1) := by kernel_rfl
@[simp] theorem ft_tySz_40 : tySz Tryz.prog 40 = some (true, 2) := by kernel_rfl
@[simp] theorem ft_zeroOf_40 : zeroOf Tryz.prog 40 = some (Value.agg [Value.slice none 0 0, Value.slice none 0 0].toArray) := by kernel_rfl
@[simp] theorem ft_plOf_40 : plOf Tryz.prog 40 = some (Sum.inl [(0, 1), (1, 1)]) := by kernel_rfl
@[simp] theorem ft_und_40 : (Tryz.prog.underlying 40).isSome = true := by kernel_rfl
@[simp] theorem ft_fldOf_40_0 : fldOf Tryz.prog 40 0 = some (0, false, 1) := by kernel_rfl
@[simp] theorem ft_fldOf_40_1 : fldOf Tryz.prog 40 1 = some (1, false, 1) := by kernel_rfl
@[simp] theorem ft_tySz_41 : tySz Tryz.prog 41 = some (false, 1) := by kernel_rfl
@[simp] theorem ft_zeroOf_41 : zeroOf Tryz.prog 41 = some Value.nilFunc := by kernel_rfl
@[simp] theorem ft_und_41 : (Tryz.prog.underlying 41).isSome = true := by kernel_rfl
@[simp] theorem ft_tySz_42 : tySz Tryz.prog 42 = some (false, 1) := by kernel_rfl
@[simp] theorem ft_zeroOf_42 : zeroOf Tryz.prog 42 = some Value.nilFunc := by kernel_rfl
@[simp] theorem ft_und_42 : (Tryz.prog.underlying 42).isSome = true := by kernel_rfl
@[simp] theorem ft_tySz_43 : tySz Tryz.prog 43 = some (false, 1) := by kernel_rfl
@[simp] theorem ft_zeroOf_43 : zeroOf Tryz.prog 43 = some Value.nilFunc := by kernel_rfl
@[simp] theorem ft_und_43 : (Tryz.prog.underlying 43).isSome = true := by kernel_rfl
@[simp] theorem ft_tySz_44 : tySz Tryz.prog 44 = some (false, 1) := by kernel_rfl
@[simp] theorem ft_zeroOf_44 : zeroOf Tryz.prog 44 = some Value.nilFunc := by kernel_rfl
@[simp] theorem ft_und_44 : (Tryz.prog.underlying 44).isSome = true := by kernel_rfl
@[simp] theorem ft_tySz_45 : tySz Tryz.prog 45 = some (false, 1) := by kernel_rfl
@[simp] theorem ft_esz_45 : esz Tryz.prog 45 = some 3 := by kernel_rfl
@[simp] theorem ft_isSl_45 : isSl Tryz.prog 45 = true := by kernel_rfl
@[simp] theorem ft_zeroOf_45 : zeroOf Tryz.prog 45 = some (Value.slice none 0 0) := by kernel_rfl
@[simp] theorem ft_elZ_45 : elZ Tryz.prog 45 = some (3, [C.v (Value.int IntKind.i64 (0)), C.v (Value.int IntKind.i64 (0)), C.v (Value.string ⟨#[]⟩)]) := by kernel_rfl
@[simp] theorem ft_slT_45 : slT Tryz.prog 45 = some (3, 32) := by kernel_rfl
@[simp] theorem ft_apT_45 : apT Tryz.prog 45 45 = some (3, 32) := by kernel_rfl
@[simp ↓] theorem ft_vmk_45 (l c : S) (y : Nat) (st : St) (K : St → Prop) : vmk Tryz.prog 45 l c y st K = force (tick (sint l)) fun l => force (tick (sint c)) fun c => vmkZ (some (3, [C.v (Value.int IntKind.i64 (0)), C.v (Value.int IntKind.i64 (0)), C.v (Value.string ⟨#[]⟩)])) (some (3, 32)) l c y st K := vmk_iff st K 45 l c y ft_elZ_45 ft_slT_45
@[simp] theorem ft_und_45 : (Tryz.prog.underlying 45).isSome = true := by kernel_rfl
@[simp] theorem ft_tySz_46 : tySz Tryz.prog 46 = some (true, 3) := by kernel_rfl
@[simp] theorem ft_zeroOf_46 : zeroOf Tryz.prog 46 = some (Value.agg [Value.slice none 0 0, Value.int IntKind.i64 (0), Value.int IntKind.i64 (0)].toArray) := by kernel_rfl
@[simp] theorem ft_plOf_46 : plOf Tryz.prog 46 = some (Sum.inl [(0, 1), (1, 2)]) := by kernel_rfl
@[simp] theorem ft_und_46 : (Tryz.prog.underlying 46).isSome = true := by kernel_rfl
@[simp] theorem ft_fldOf_46_0 : fldOf Tryz.prog 46 0 = some (0, false, 1) := by kernel_rfl
@[simp] theorem ft_fldOf_46_1 : fldOf Tryz.prog 46 1 = some (1, true, 2) := by kernel_rfl
@[simp] theorem ft_tySz_47 : tySz Tryz.prog 47 = some (true, 3) := by kernel_rfl
@[simp] theorem ft_zeroOf_47 : zeroOf Tryz.prog 47 = some (Value.agg [Value.slice none 0 0, Value.int IntKind.i64 (0), Value.int IntKind.i64 (0)].toArray) := by kernel_rfl
@[simp] theorem ft_plOf_47 : plOf Tryz.prog 47 = some (Sum.inl [(0, 1), (1, 2)]) := by kernel_rfl
@[simp] theorem ft_und_47 : (Tryz.prog.underlying 47).isSome = true := by kernel_rfl
@[simp] theorem ft_fldOf_47_0 : fldOf Tryz.prog 47 0 = some (0, false, 1) := by kernel_rfl
@[simp] theorem ft_fldOf_47_1 : fldOf Tryz.prog 47 1 = some (1, true, 2) := by kernel_rfl
@[simp] theorem ft_tySz_48 : tySz Tryz.prog 48 = some (false, 1) := by kernel_rfl
@[simp] theorem ft_zeroOf_48 : zeroOf Tryz.prog 48 = some Value.nilFunc := by kernel_rfl
@[simp] theorem ft_und_48 : (Tryz.prog.underlying 48).isSome = true := by kernel_rfl
@[simp] theorem ft_tySz_49 : tySz Tryz.prog 49 = some (false, 1) := by kernel_rfl
@[simp] theorem ft_zeroOf_49 : zeroOf Tryz.prog 49 = some Value.nilFunc := by kernel_rfl
@[simp] theorem ft_und_49 : (Tryz.prog.underlying 49).isSome = true := by kernel_rfl
@[simp] theorem ft_tySz_50 : tySz Tryz.prog 50 = some (false, 1) := by kernel_rfl
@[simp] theorem ft_zeroOf_50 : zeroOf Tryz.prog 50 = some Value.nilFunc := by kernel_rfl
@[simp] theorem ft_und_50 : (Tryz.prog.underlying 50).isSome = true := by kernel_rfl
@[simp] theorem ft_tySz_51 : tySz Tryz.prog 51 = some (false, 1) := by kernel_rfl
@[simp] theorem ft_zeroOf_51 : zeroOf Tryz.prog 51 = some (Value.tuple [Value.int IntKind.i64 (0), Value.int IntKind.i64 (0), Value.bool false].toArray) := by kernel_rfl
@[simp] theorem ft_und_51 : (Tryz.prog.underlying 51).isSome = true := by kernel_rfl
@[simp] theorem ft_tySz_52 : tySz Tryz.prog 52 = some (false, 1) := by kernel_rfl
@[simp] theorem ft_zeroOf_52 : zeroOf Tryz.prog 52 = some Value.nilFunc := by kernel_rfl
@[simp] theorem ft_und_52 : (Tryz.prog.underlying 52).isSome = true := by kernel_rfl
@[simp] theorem ft_tySz_53 : tySz Tryz.prog 53 = some (false, 1) := by kernel_rfl
@[simp] theorem ft_zeroOf_53 : zeroOf Tryz.prog 53 = some Value.nilFunc := by kernel_rfl
@[simp] theorem ft_und_53 : (Tryz.prog.underlying 53).isSome = true := by kernel_rfl
@[simp] theorem ft_tySz_54 : tySz Tryz.prog 54 = some (false, 1) := by kernel_rfl
@[simp] theorem ft_esz_54 : esz Tryz.prog 54 = some 2 := by kernel_rfl
@[simp] theorem ft_isSl_54 : isSl Tryz.prog 54 = true := by kernel_rfl
@[simp] theorem ft_zeroOf_54 : zeroOf Tryz.prog 54 = some (Value.slice none 0 0) := by kernel_rfl
@[simp] theorem ft_elZ_54 : elZ Tryz.prog 54 = some (2, [C.v (Value.string ⟨#[]⟩), C.v (Value.int IntKind.i64 (0))]) := by kernel_rfl
@[simp] theorem ft_slT_54 : slT Tryz.prog 54 = some (2, 24) := by kernel_rfl
@[simp] theorem ft_apT_54 : apT Tryz.prog 54 54 = some (2, 24) := by kernel_rfl
@[simp ↓] theorem ft_vmk_54 (l c : S) (y : Nat) (st : St) (K : St → Prop) : vmk Tryz.prog 54 l c y st K = force (tick (sint l)) fun l => force (tick (sint c)) fun c => vmkZ (some (2, [C.v (Value.string ⟨#[]⟩), C.v (Value.int IntKind.i64 (0))])) (some (2, 24)) l c y st K := vmk_iff st K 54 l c y ft_elZ_54 ft_slT_54
@[simp] theorem ft_und_54 : (Tryz.prog.underlying 54).isSome = true := by kernel_rfl
@[simp] theorem ft_tySz_55 : tySz Tryz.prog 55 = some (false, 1) := by kernel_rfl
@[simp] theorem ft_esz_55 : esz Tryz.prog 55 = some 1 := by kernel_rfl
@[simp] theorem ft_isSl_55 : isSl Tryz.prog 55 = true := by kernel_rfl
@[simp] theorem ft_zeroOf_55 : zeroOf Tryz.prog 55 = some (Value.slice none 0 0) := by kernel_rfl
@[simp] theorem ft_elZ_55 : elZ Tryz.prog 55 = some (1, [C.v (Value.string ⟨#[]⟩)]) := by kernel_rfl
@[simp] theorem ft_slT_55 : slT Tryz.prog 55 = some (1, 16) := by kernel_rfl
@[simp] theorem ft_apT_55 : apT Tryz.prog 55 55 = some (1, 16) := by kernel_rfl
@[simp ↓] theorem ft_vmk_55 (l c : S) (y : Nat) (st : St) (K : St → Prop) : vmk Tryz.prog 55 l c y st K = force (tick (sint l)) fun l => force (tick (sint c)) fun c => vmkZ (some (1, [C.v (Value.string ⟨#[]⟩)])) (some (1, 16)) l c y st K := vmk_iff st K 55 l c y ft_elZ_55 ft_slT_55
@[simp] theorem ft_und_55 : (Tryz.prog.underlying 55).isSome = true := by kernel_rfl
@[simp] theorem ft_tySz_56 : tySz Tryz.prog 56 = some (true, 5) := by kernel_rfl
@[simp] theorem ft_zeroOf_56 : zeroOf Tryz.prog 56 = some (Value.agg [Value.int IntKind.i64 (0), Value.string ⟨#[]⟩, Value.slice none 0 0, Value.slice none 0 0, Value.bool false].toArray) := by kernel_rfl
@[simp] theorem ft_plOf_56 : plOf Tryz.prog 56 = some (Sum.inl [(0, 1), (1, 1), (2, 1), (3, 1), (4, 1)]) := by kernel_rfl
@[simp] theorem ft_und_56 : (Tryz.prog.underlying 56).isSome = true := by kernel_rfl
@[simp] theorem ft_fldOf_56_0 : fldOf Tryz.prog 56 0 = some (0, false, 1) := by kernel_rfl
@[simp] theorem ft_fldOf_56_1 : fldOf Tryz.prog 56 1 = some (1, false, 1) := by kernel_rfl
@[simp] theorem ft_fldOf_56_2 : fldOf Tryz.prog 56 2 = some (2, false, 1) := by kernel_rfl
@[simp] theorem ft_fldOf_56_3 : fldOf Tryz.prog 56 3 = some (3, false, 1) := by kernel_rfl
@[simp] theorem ft_fldOf_56_4 : fldOf Tryz.prog 56 4 = some (4, false, 1) := by kernel_rfl
@[simp] theorem ft_tySz_57 : tySz Tryz.prog 57 = some (true, 5) := by kernel_rfl
@[simp] theorem ft_zeroOf_57 : zeroOf Tryz.prog 57 = some (Value.agg [Value.int IntKind.i64 (0), Value.string ⟨#[]⟩, Value.slice none 0 0, Value.slice none 0 0, Value.bool false].toArray) := by kernel_rfl
@[simp] theorem ft_plOf_57 : plOf Tryz.prog 57 = some (Sum.inl [(0, 1), (1, 1), (2, 1), (3, 1), (4, 1)]) := by kernel_rfl
@[simp] theorem ft_und_57 : (Tryz.prog.underlying 57).isSome = true := by kernel_rfl
@[simp] theorem ft_fldOf_57_0 : fldOf Tryz.prog 57 0 = some (0, false, 1) := by kernel_rfl
@[simp] theorem ft_fldOf_57_1 : fldOf Tryz.prog 57 1 = some (1, false, 1) := by kernel_rfl
@[simp] theorem ft_fldOf_57_2 : fldOf Tryz.prog 57 2 = some (2, false, 1) := by kernel_rfl
@[simp] theorem ft_fldOf_57_3 : fldOf Tryz.prog 57 3 = some (3, false, 1) := by kernel_rfl
@[simp] theorem ft_fldOf_57_4 : fldOf Tryz.prog 57 4 = some (4, false, 1) := by kernel_rfl
@[simp] theorem ft_tySz_58 : tySz Tryz.prog 58 = some (false, 1) := by kernel_rfl
@[simp] theorem ft_zeroOf_58 : zeroOf Tryz.prog 58 = some Value.nilFunc := by kernel_rfl
@[simp] theorem ft_und_58 : (Tryz.prog.underlying 58).isSome = true := by kernel_rfl
@[simp] theorem ft_tySz_59 : tySz Tryz.prog 59 = some (false, 1) := by kernel_rfl
@[simp] theorem ft_esz_59 : esz Tryz.prog 59 = some 3 := by kernel_rfl
@[simp] theorem ft_isSl_59 : isSl Tryz.prog 59 = true := by kernel_rfl
@[simp] theorem ft_zeroOf_59 : zeroOf Tryz.prog 59 = some (Value.slice none 0 0) := by kernel_rfl
@[simp] theorem ft_elZ_59 : elZ Tryz.prog 59 = some (3, [C.v (Value.string ⟨#[]⟩), C.v (Value.string ⟨#[]⟩), C.v (Value.int IntKind.i64 (0))]) := by kernel_rfl
@[simp] theorem ft_slT_59 : slT Tryz.prog 59 = some (3, 40) := by kernel_rfl
@[simp] theorem ft_apT_59 : apT Tryz.prog 59 59 = some (3, 40) := by kernel_rfl
@[simp ↓] theorem ft_vmk_59 (l c : S) (y : Nat) (st : St) (K : St → Prop) : vmk Tryz.prog 59 l c y st K = force (tick (sint l)) fun l => force (tick (sint c)) fun c => vmkZ (some (3, [C.v (Value.string ⟨#[]⟩), C.v (Value.string ⟨#[]⟩), C.v (Value.int IntKind.i64 (0))])) (some (3, 40)) l c y st K := vmk_iff st K 59 l c y ft_elZ_59 ft_slT_59
@[simp] theorem ft_und_59 : (Tryz.prog.underlying 59).isSome = true := by kernel_rfl
@[simp] theorem ft_tySz_60 : tySz Tryz.prog 60 = some (false, 1) := by kernel_rfl
@[simp] theorem ft_zeroOf_60 : zeroOf Tryz.prog 60 = some Value.nilFunc := by kernel_rfl
@[simp] theorem ft_und_60 : (Tryz.prog.underlying 60).isSome = true := by kernel_rfl
@[simp] theorem ft_tySz_61 : tySz Tryz.prog 61 = some (true, 5) := by kernel_rfl
@[simp] theorem ft_zeroOf_61 : zeroOf Tryz.prog 61 = some (Value.agg [Value.string ⟨#[]⟩, Value.int IntKind.i64 (0), Value.string ⟨#[]⟩, Value.string ⟨#[]⟩, Value.slice none 0 0].toArray) := by kernel_rfl
@[simp] theorem ft_plOf_61 : plOf Tryz.prog 61 = some (Sum.inl [(0, 1), (1, 1), (2, 1), (3, 1), (4, 1)]) := by kernel_rfl
@[simp] theorem ft_und_61 : (Tryz.prog.underlying 61).isSome = true := by kernel_rfl
@[simp] theorem ft_fldOf_61_0 : fldOf Tryz.prog 61 0 = some (0, false, 1) := by kernel_rfl
@[simp] theorem ft_fldOf_61_1 : fldOf Tryz.prog 61 1 = some (1, false, 1) := by kernel_rfl
@[simp] theorem ft_fldOf_61_2 : fldOf Tryz.prog 61 2 = some (2, false, 1) := by kernel_rfl
@[simp] theorem ft_fldOf_61_3 : fldOf Tryz.prog 61 3 = some (3, false, 1) := by kernel_rfl
@[simp] theorem ft_fldOf_61_4 : fldOf Tryz.prog 61 4 = some (4, false, 1) := by kernel_rfl
@[simp] theorem ft_tySz_62 : tySz Tryz.prog 62 = some (true, 5) := by kernel_rfl
@[simp] theorem ft_zeroOf_62 : zeroOf Tryz.prog 62 = some (Value.agg [Value.string ⟨#[]⟩, Value.int IntKind.i64 (0), Value.string ⟨#[]⟩, Value.string ⟨#[]⟩, Value.slice none 0 0].toArray) := by kernel_rfl
@[simp] theorem ft_plOf_62 : plOf Tryz.prog 62 = some (Sum.inl [(0, 1), (1, 1), (2, 1), (3, 1), (4, 1)]) := by kernel_rfl
@[simp] theorem ft_und_62 : (Tryz.prog.underlying 62).isSome = true := by kernel_rfl
@[simp] theorem ft_fldOf_62_0 : fldOf Tryz.prog 62 0 = some (0, false, 1) := by kernel_rfl
@[simp] theorem ft_fldOf_62_1 : fldOf Tryz.prog 62 1 = some (1, false, 1) := by kernel_rfl
@[simp] theorem ft_fldOf_62_2 : fldOf Tryz.prog 62 2 = some (2, false, 1) := by kernel_rfl
@[simp] theorem ft_fldOf_62_3 : fldOf Tryz.prog 62 3 = some (3, false, 1) := by kernel_rfl
@[simp] theorem ft_fldOf_62_4 : fldOf Tryz.prog 62 4 = some (4, false, 1) := by kernel_rfl
@[simp] theorem ft_tySz_63 : tySz Tryz.prog 63 = some (true, 3) := by kernel_rfl
@[simp] theorem ft_zeroOf_63 : zeroOf Tryz.prog 63 = some (Value.agg [Value.int IntKind.i64 (0), Value.int IntKind.i64 (0), Value.string ⟨#[]⟩].toArray) := by kernel_rfl
@[simp] theorem ft_plOf_63 : plOf Tryz.prog 63 = some (Sum.inl [(0, 1), (1, 1), (2, 1)]) := by kernel_rfl
@[simp] theorem ft_eqT_63 : eqT Tryz.prog 63 = some [FK.i, FK.i, FK.s] := by kernel_rfl
@[simp] theorem ft_und_63 : (Tryz.prog.underlying 63).isSome = true := by kernel_rfl
@[simp] theorem ft_fldOf_63_0 : fldOf Tryz.prog 63 0 = some (0, false, 1) := by kernel_rfl
@[simp] theorem ft_fldOf_63_1 : fldOf Tryz.prog 63 1 = some (1, false, 1) := by kernel_rfl
@[simp] theorem ft_fldOf_63_2 : fldOf Tryz.prog 63 2 = some (2, false, 1) := by kernel_rfl
@[simp] theorem ft_tySz_64 : tySz Tryz.prog 64 = some (true, 3) := by kernel_rfl
@[simp] theorem ft_zeroOf_64 : zeroOf Tryz.prog 64 = some (Value.agg [Value.int IntKind.i64 (0), Value.int IntKind.i64 (0), Value.string ⟨#[]⟩].toArray) := by kernel_rfl
@[simp] theorem ft_plOf_64 : plOf Tryz.prog 64 = some (Sum.inl [(0, 1), (1, 1), (2, 1)]) := by kernel_rfl
@[simp] theorem ft_eqT_64 : eqT Tryz.prog 64 = some [FK.i, FK.i, FK.s] := by kernel_rfl
@[simp] theorem ft_und_64 : (Tryz.prog.underlying 64).isSome = true := by kernel_rfl
@[simp] theorem ft_fldOf_64_0 : fldOf Tryz.prog 64 0 = some (0, false, 1) := by kernel_rfl
@[simp] theorem ft_fldOf_64_1 : fldOf Tryz.prog 64 1 = some (1, false, 1) := by kernel_rfl
@[simp] theorem ft_fldOf_64_2 : fldOf Tryz.prog 64 2 = some (2, false, 1) := by kernel_rfl
@[simp] theorem ft_tySz_65 : tySz Tryz.prog 65 = some (true, 7) := by kernel_rfl
@[simp] theorem ft_zeroOf_65 : zeroOf Tryz.prog 65 = some (Value.agg [Value.string ⟨#[]⟩, Value.int IntKind.i64 (0), Value.int IntKind.i64 (0), Value.int IntKind.i64 (0), Value.string ⟨#[]⟩, Value.int IntKind.i64 (0), Value.slice none 0 0].toArray) := by kernel_rfl
@[simp] theorem ft_plOf_65 : plOf Tryz.prog 65 = some (Sum.inl [(0, 1), (1, 1), (2, 3), (5, 1), (6, 1)]) := by kernel_rfl
@[simp] theorem ft_und_65 : (Tryz.prog.underlying 65).isSome = true := by kernel_rfl
@[simp] theorem ft_fldOf_65_0 : fldOf Tryz.prog 65 0 = some (0, false, 1) := by kernel_rfl
@[simp] theorem ft_fldOf_65_1 : fldOf Tryz.prog 65 1 = some (1, false, 1) := by kernel_rfl
@[simp] theorem ft_fldOf_65_2 : fldOf Tryz.prog 65 2 = some (2, true, 3) := by kernel_rfl
@[simp] theorem ft_fldOf_65_3 : fldOf Tryz.prog 65 3 = some (5, false, 1) := by kernel_rfl
@[simp] theorem ft_fldOf_65_4 : fldOf Tryz.prog 65 4 = some (6, false, 1) := by kernel_rfl
@[simp] theorem ft_tySz_66 : tySz Tryz.prog 66 = some (true, 7) := by kernel_rfl
@[simp] theorem ft_zeroOf_66 : zeroOf Tryz.prog 66 = some (Value.agg [Value.string ⟨#[]⟩, Value.int IntKind.i64 (0), Value.int IntKind.i64 (0), Value.int IntKind.i64 (0), Value.string ⟨#[]⟩, Value.int IntKind.i64 (0), Value.slice none 0 0].toArray) := by kernel_rfl
@[simp] theorem ft_plOf_66 : plOf Tryz.prog 66 = some (Sum.inl [(0, 1), (1, 1), (2, 3), (5, 1), (6, 1)]) := by kernel_rfl
@[simp] theorem ft_und_66 : (Tryz.prog.underlying 66).isSome = true := by kernel_rfl
@[simp] theorem ft_fldOf_66_0 : fldOf Tryz.prog 66 0 = some (0, false, 1) := by kernel_rfl
@[simp] theorem ft_fldOf_66_1 : fldOf Tryz.prog 66 1 = some (1, false, 1) := by kernel_rfl
@[simp] theorem ft_fldOf_66_2 : fldOf Tryz.prog 66 2 = some (2, true, 3) := by kernel_rfl
@[simp] theorem ft_fldOf_66_3 : fldOf Tryz.prog 66 3 = some (5, false, 1) := by kernel_rfl
@[simp] theorem ft_fldOf_66_4 : fldOf Tryz.prog 66 4 = some (6, false, 1) := by kernel_rfl
@[simp] theorem ft_tySz_67 : tySz Tryz.prog 67 = some (false, 1) := by kernel_rfl
@[simp] theorem ft_zeroOf_67 : zeroOf Tryz.prog 67 = some (Value.tuple [Value.agg [Value.string ⟨#[]⟩, Value.int IntKind.i64 (0), Value.int IntKind.i64 (0), Value.int IntKind.i64 (0), Value.string ⟨#[]⟩, Value.int IntKind.i64 (0), Value.slice none 0 0].toArray, Value.int IntKind.i64 (0)].toArray) := by kernel_rfl
@[simp] theorem ft_und_67 : (Tryz.prog.underlying 67).isSome = true := by kernel_rfl
@[simp] theorem ft_tySz_68 : tySz Tryz.prog 68 = some (false, 1) := by kernel_rfl
@[simp] theorem ft_zeroOf_68 : zeroOf Tryz.prog 68 = some Value.nilFunc := by kernel_rfl
@[simp] theorem ft_und_68 : (Tryz.prog.underlying 68).isSome = true := by kernel_rfl
@[simp] theorem ft_tySz_69 : tySz Tryz.prog 69 = some (true, 8) := by kernel_rfl
@[simp] theorem ft_zeroOf_69 : zeroOf Tryz.prog 69 = some (Value.agg [Value.int IntKind.i64 (0), Value.string ⟨#[]⟩, Value.int IntKind.i64 (0), Value.int IntKind.i64 (0), Value.int IntKind.i64 (0), Value.string ⟨#[]⟩, Value.int IntKind.i64 (0), Value.slice none 0 0].toArray) := by kernel_rfl
@[simp] theorem ft_plOf_69 : plOf Tryz.prog 69 = some (Sum.inl [(0, 1), (1, 7)]) := by kernel_rfl
@[simp] theorem ft_und_69 : (Tryz.prog.underlying 69).isSome = true := by kernel_rfl
@[simp] theorem ft_fldOf_69_0 : fldOf Tryz.prog 69 0 = some (0, false, 1) := by kernel_rfl
@[simp] theorem ft_fldOf_69_1 : fldOf Tryz.prog 69 1 = some (1, true, 7) := by kernel_rfl
@[simp] theorem ft_tySz_70 : tySz Tryz.prog 70 = some (true, 8) := by kernel_rfl
@[simp] theorem ft_zeroOf_70 : zeroOf Tryz.prog 70 = some (Value.agg [Value.int IntKind.i64 (0), Value.string ⟨#[]⟩, Value.int IntKind.i64 (0), Value.int IntKind.i64 (0), Value.int IntKind.i64 (0), Value.string ⟨#[]⟩, Value.int IntKind.i64 (0), Value.slice none 0 0].toArray) := by kernel_rfl
@[simp] theorem ft_plOf_70 : plOf Tryz.prog 70 = some (Sum.inl [(0, 1), (1, 7)]) := by kernel_rfl
@[simp] theorem ft_und_70 : (Tryz.prog.underlying 70).isSome = true := by kernel_rfl
@[simp] theorem ft_fldOf_70_0 : fldOf Tryz.prog 70 0 = some (0, false, 1) := by kernel_rfl
@[simp] theorem ft_fldOf_70_1 : fldOf Tryz.prog 70 1 = some (1, true, 7) := by kernel_rfl
@[simp] theorem ft_tySz_71 : tySz Tryz.prog 71 = some (true, 6) := by kernel_rfl
@[simp] theorem ft_zeroOf_71 : zeroOf Tryz.prog 71 = some (Value.agg [Value.int IntKind.i64 (0), Value.string ⟨#[]⟩, Value.int IntKind.i64 (0), Value.string ⟨#[]⟩, Value.string ⟨#[]⟩, Value.slice none 0 0].toArray) := by kernel_rfl
@[simp] theorem ft_plOf_71 : plOf Tryz.prog 71 = some (Sum.inl [(0, 1), (1, 5)]) := by kernel_rfl
@[simp] theorem ft_und_71 : (Tryz.prog.underlying 71).isSome = true := by kernel_rfl
@[simp] theorem ft_fldOf_71_0 : fldOf Tryz.prog 71 0 = some (0, false, 1) := by kernel_rfl
@[simp] theorem ft_fldOf_71_1 : fldOf Tryz.prog 71 1 = some (1, true, 5) := by kernel_rfl
@[simp] theorem ft_tySz_72 : tySz Tryz.prog 72 = some (true, 6) := by kernel_rfl
@[simp] theorem ft_zeroOf_72 : zeroOf Tryz.prog 72 = some (Value.agg [Value.int IntKind.i64 (0), Value.string ⟨#[]⟩, Value.int IntKind.i64 (0), Value.string ⟨#[]⟩, Value.string ⟨#[]⟩, Value.slice none 0 0].toArray) := by kernel_rfl
@[simp] theorem ft_plOf_72 : plOf Tryz.prog 72 = some (Sum.inl [(0, 1), (1, 5)]) := by kernel_rfl
@[simp] theorem ft_und_72 : (Tryz.prog.underlying 72).isSome = true := by kernel_rfl
@[simp] theorem ft_fldOf_72_0 : fldOf Tryz.prog 72 0 = some (0, false, 1) := by kernel_rfl
@[simp] theorem ft_fldOf_72_1 : fldOf Tryz.prog 72 1 = some (1, true, 5) := by kernel_rfl
@[simp] theorem ft_tySz_73 : tySz Tryz.prog 73 = some (false, 1) := by kernel_rfl
@[simp] theorem ft_esz_73 : esz Tryz.prog 73 = some 1 := by kernel_rfl
@[simp] theorem ft_isSl_73 : isSl Tryz.prog 73 = true := by kernel_rfl
@[simp] theorem ft_zeroOf_73 : zeroOf Tryz.prog 73 = some (Value.slice none 0 0) := by kernel_rfl
@[simp] theorem ft_elZ_73 : elZ Tryz.prog 73 = some (1, [C.v (Value.bool false)]) := by kernel_rfl
@[simp] theorem ft_slT_73 : slT Tryz.prog 73 = some (1, 1) := by kernel_rfl
@[simp] theorem ft_apT_73 : apT Tryz.prog 73 73 = some (1, 1) := by kernel_rfl
@[simp ↓] theorem ft_vmk_73 (l c : S) (y : Nat) (st : St) (K : St → Prop) : vmk Tryz.prog 73 l c y st K = force (tick (sint l)) fun l => force (tick (sint c)) fun c => vmkZ (some (1, [C.v (Value.bool false)])) (some (1, 1)) l c y st K := vmk_iff st K 73 l c y ft_elZ_73 ft_slT_73
@[simp] theorem ft_und_73 : (Tryz.prog.underlying 73).isSome = true := by kernel_rfl
@[simp] theorem ft_tySz_74 : tySz Tryz.prog 74 = some (false, 1) := by kernel_rfl
@[simp] theorem ft_zeroOf_74 : zeroOf Tryz.prog 74 = some Value.nilFunc := by kernel_rfl
@[simp] theorem ft_und_74 : (Tryz.prog.underlying 74).isSome = true := by kernel_rfl
@[simp] theorem ft_tySz_75 : tySz Tryz.prog 75 = some (false, 1) := by kernel_rfl
@[simp] theorem ft_esz_75 : esz Tryz.prog 75 = some 4 := by kernel_rfl
@[simp] theorem ft_isSl_75 : isSl Tryz.prog 75 = true := by kernel_rfl
@[simp] theorem ft_zeroOf_75 : zeroOf Tryz.prog 75 = some (Value.slice none 0 0) := by kernel_rfl
@[simp] theorem ft_elZ_75 : elZ Tryz.prog 75 = some (4, [C.v (Value.int IntKind.i64 (0)), C.v (Value.int IntKind.i64 (0)), C.v (Value.int IntKind.i64 (0)), C.sl true []]) := by kernel_rfl
@[simp] theorem ft_slT_75 : slT Tryz.prog 75 = some (4, 48) := by kernel_rfl
@[simp] theorem ft_apT_75 : apT Tryz.prog 75 75 = some (4, 48) := by kernel_rfl
@[simp ↓] theorem ft_vmk_75 (l c : S) (y : Nat) (st : St) (K : St → Prop) : vmk Tryz.prog 75 l c y st K = force (tick (sint l)) fun l => force (tick (sint c)) fun c => vmkZ (some (4, [C.v (Value.int IntKind.i64 (0)), C.v (Value.int IntKind.i64 (0)), C.v (Value.int IntKind.i64 (0)), C.sl true []])) (some (4, 48)) l c y st K := vmk_iff st K 75 l c y ft_elZ_75 ft_slT_75
@[simp] theorem ft_und_75 : (Tryz.prog.underlying 75).isSome = true := by kernel_rfl
@[simp] theorem ft_tySz_76 : tySz Tryz.prog 76 = some (false, 1) := by kernel_rfl
@[simp] theorem ft_zeroOf_76 : zeroOf Tryz.prog 76 = some Value.nilFunc := by kernel_rfl
@[simp] theorem ft_und_76 : (Tryz.prog.underlying 76).isSome = true := by kernel_rfl
@[simp] theorem ft_tySz_77 : tySz Tryz.prog 77 = some (true, 4) := by kernel_rfl
@[simp] theorem ft_zeroOf_77 : zeroOf Tryz.prog 77 = some (Value.agg [Value.int IntKind.i64 (0), Value.int IntKind.i64 (0), Value.int IntKind.i64 (0), Value.slice none 0 0].toArray) := by kernel_rfl
@[simp] theorem ft_plOf_77 : plOf Tryz.prog 77 = some (Sum.inl [(0, 1), (1, 2), (3, 1)]) := by kernel_rfl
@[simp] theorem ft_und_77 : (Tryz.prog.underlying 77).isSome = true := by kernel_rfl
@[simp] theorem ft_fldOf_77_0 : fldOf Tryz.prog 77 0 = some (0, false, 1) := by kernel_rfl
@[simp] theorem ft_fldOf_77_1 : fldOf Tryz.prog 77 1 = some (1, true, 2) := by kernel_rfl
@[simp] theorem ft_fldOf_77_2 : fldOf Tryz.prog 77 2 = some (3, false, 1) := by kernel_rfl
@[simp] theorem ft_tySz_78 : tySz Tryz.prog 78 = some (true, 4) := by kernel_rfl
@[simp] theorem ft_zeroOf_78 : zeroOf Tryz.prog 78 = some (Value.agg [Value.int IntKind.i64 (0), Value.int IntKind.i64 (0), Value.int IntKind.i64 (0), Value.slice none 0 0].toArray) := by kernel_rfl
@[simp] theorem ft_plOf_78 : plOf Tryz.prog 78 = some (Sum.inl [(0, 1), (1, 2), (3, 1)]) := by kernel_rfl
@[simp] theorem ft_und_78 : (Tryz.prog.underlying 78).isSome = true := by kernel_rfl
@[simp] theorem ft_fldOf_78_0 : fldOf Tryz.prog 78 0 = some (0, false, 1) := by kernel_rfl
@[simp] theorem ft_fldOf_78_1 : fldOf Tryz.prog 78 1 = some (1, true, 2) := by kernel_rfl
@[simp] theorem ft_fldOf_78_2 : fldOf Tryz.prog 78 2 = some (3, false, 1) := by kernel_rfl
@[simp] theorem ft_tySz_79 : tySz Tryz.prog 79 = some (false, 1) := by kernel_rfl
@[simp] theorem ft_zeroOf_79 : zeroOf Tryz.prog 79 = some Value.nilFunc := by kernel_rfl
@[simp] theorem ft_und_79 : (Tryz.prog.underlying 79).isSome = true := by kernel_rfl
@[simp] theorem ft_tySz_80 : tySz Tryz.prog 80 = some (false, 1) := by kernel_rfl
@[simp] theorem ft_esz_80 : esz Tryz.prog 80 = some 1 := by kernel_rfl
@[simp] theorem ft_isSl_80 : isSl Tryz.prog 80 = true := by kernel_rfl
@[simp] theorem ft_zeroOf_80 : zeroOf Tryz.prog 80 = some (Value.slice none 0 0) := by kernel_rfl
@[simp] theorem ft_elZ_80 : elZ Tryz.prog 80 = some (1, [C.sl true []]) := by kernel_rfl
@[simp] theorem ft_slT_80 : slT Tryz.prog 80 = some (1, 24) := by kernel_rfl
@[simp] theorem ft_apT_80 : apT Tryz.prog 80 80 = some (1, 24) := by kernel_rfl
@[simp ↓] theorem ft_vmk_80 (l c : S) (y : Nat) (st : St) (K : St → Prop) : vmk Tryz.prog 80 l c y st K = force (tick (sint l)) fun l => force (tick (sint c)) fun c => vmkZ (some (1, [C.sl true []])) (some (1, 24)) l c y st K := vmk_iff st K 80 l c y ft_elZ_80 ft_slT_80
@[simp] theorem ft_und_80 : (Tryz.prog.underlying 80).isSome = true := by kernel_rfl
@[simp] theorem ft_tySz_81 : tySz Tryz.prog 81 = some (false, 1) := by kernel_rfl
@[simp] theorem ft_zeroOf_81 : zeroOf Tryz.prog 81 = some Value.nilFunc := by kernel_rfl
@[simp] theorem ft_und_81 : (Tryz.prog.underlying 81).isSome = true := by kernel_rfl
@[simp] theorem ft_tySz_82 : tySz Tryz.prog 82 = some (false, 1) := by kernel_rfl
@[simp] theorem ft_zeroOf_82 : zeroOf Tryz.prog 82 = some Value.nilFunc := by kernel_rfl
@[simp] theorem ft_und_82 : (Tryz.prog.underlying 82).isSome = true := by kernel_rfl
@[simp] theorem ft_tySz_83 : tySz Tryz.prog 83 = some (false, 1) := by kernel_rfl
@[simp] theorem ft_esz_83 : esz Tryz.prog 83 = some 2 := by kernel_rfl
@[simp] theorem ft_isSl_83 : isSl Tryz.prog 83 = true := by kernel_rfl
@[simp] theorem ft_zeroOf_83 : zeroOf Tryz.prog 83 = some (Value.slice none 0 0) := by kernel_rfl
@[simp] theorem ft_elZ_83 : elZ Tryz.prog 83 = some (2, [C.v (Value.int IntKind.i64 (0)), C.v (Value.int IntKind.i64 (0))]) := by kernel_rfl
@[simp] theorem ft_slT_83 : slT Tryz.prog 83 = some (2, 16) := by kernel_rfl
@[simp] theorem ft_apT_83 : apT Tryz.prog 83 83 = some (2, 16) := by kernel_rfl
@[simp ↓] theorem ft_vmk_83 (l c : S) (y : Nat) (st : St) (K : St → Prop) : vmk Tryz.prog 83 l c y st K = force (tick (sint l)) fun l => force (tick (sint c)) fun c => vmkZ (some (2, [C.v (Value.int IntKind.i64 (0)), C.v (Value.int IntKind.i64 (0))])) (some (2, 16)) l c y st K := vmk_iff st K 83 l c y ft_elZ_83 ft_slT_83
@[simp] theorem ft_und_83 : (Tryz.prog.underlying 83).isSome = true := by kernel_rfl
@[simp] theorem ft_tySz_84 : tySz Tryz.prog 84 = some (false, 1) := by kernel_rfl
@[simp] theorem ft_zeroOf_84 : zeroOf Tryz.prog 84 = some Value.nilFunc := by kernel_rfl
@[simp] theorem ft_und_84 : (Tryz.prog.underlying 84).isSome = true := by kernel_rfl
@[simp] theorem ft_tySz_85 : tySz Tryz.prog 85 = some (false, 1) := by kernel_rfl
@[simp] theorem ft_esz_85 : esz Tryz.prog 85 = some 3 := by kernel_rfl
@[simp] theorem ft_isSl_85 : isSl Tryz.prog 85 = true := by kernel_rfl
@[simp] theorem ft_zeroOf_85 : zeroOf Tryz.prog 85 = some (Value.slice none 0 0) := by kernel_rfl
@[simp] theorem ft_elZ_85 : elZ Tryz.prog 85 = some (3, [C.v (Value.int IntKind.i64 (0)), C.v (Value.int IntKind.i64 (0)), C.v (Value.int IntKind.i64 (0))]) := by kernel_rfl
@[simp] theorem ft_slT_85 : slT Tryz.prog 85 = some (3, 24) := by kernel_rfl
@[simp] theorem ft_apT_85 : apT Tryz.prog 85 85 = some (3, 24) := by kernel_rfl
@[simp ↓] theorem ft_vmk_85 (l c : S) (y : Nat) (st : St) (K : St → Prop) : vmk Tryz.prog 85 l c y st K = force (tick (sint l)) fun l => force (tick (sint c)) fun c => vmkZ (some (3, [C.v (Value.int IntKind.i64 (0)), C.v (Value.int IntKind.i64 (0)), C.v (Value.int IntKind.i64 (0))])) (some (3, 24)) l c y st K := vmk_iff st K 85 l c y ft_elZ_85 ft_slT_85
@[simp] theorem ft_und_85 : (Tryz.prog.underlying 85).isSome = true := by kernel_rfl
@[simp] theorem ft_tySz_86 : tySz Tryz.prog 86 = some (false, 1) := by kernel_rfl
@[simp] theorem ft_zeroOf_86 : zeroOf Tryz.prog 86 = some Value.nilFunc := by kernel_rfl
@[simp] theorem ft_und_86 : (Tryz.prog.underlying 86).isSome = true := by kernel_rfl
@[simp] theorem ft_tySz_87 : tySz Tryz.prog 87 = some (false, 1) := by kernel_rfl
@[simp] theorem ft_zeroOf_87 : zeroOf Tryz.prog 87 = some Value.nilFunc := by kernel_rfl
@[simp] theorem ft_und_87 : (Tryz.prog.underlying 87).isSome = true := by kernel_rfl
@[simp] theorem ft_tySz_88 : tySz Tryz.prog 88 = some (false, 1) := by kernel_rfl
@[simp] theorem ft_zeroOf_88 : zeroOf Tryz.prog 88 = some Value.nilFunc := by kernel_rfl
@[simp] theorem ft_und_88 : (Tryz.prog.underlying 88).isSome = true := by kernel_rfl
@[simp] theorem ft_tySz_89 : tySz Tryz.prog 89 = some (false, 1) := by kernel_rfl
@[simp] theorem ft_zeroOf_89 : zeroOf Tryz.prog 89 = some Value.nilFunc := by kernel_rfl
@[simp] theorem ft_und_89 : (Tryz.prog.underlying 89).isSome = true := by kernel_rfl
@[simp] theorem ft_tySz_90 : tySz Tryz.prog 90 = some (false, 1) := by kernel_rfl
@[simp] theorem ft_zeroOf_90 : zeroOf Tryz.prog 90 = some (Value.tuple [Value.agg [Value.int IntKind.i64 (0), Value.int IntKind.i64 (0)].toArray, Value.bool false].toArray) := by kernel_rfl
@[simp] theorem ft_und_90 : (Tryz.prog.underlying 90).isSome = true := by kernel_rfl
@[simp] theorem ft_tySz_91 : tySz Tryz.prog 91 = some (false, 1) := by kernel_rfl
@[simp] theorem ft_zeroOf_91 : zeroOf Tryz.prog 91 = some Value.nilFunc := by kernel_rfl
@[simp] theorem ft_und_91 : (Tryz.prog.underlying 91).isSome = true := by kernel_rfl
@[simp] theorem ft_tySz_92 : tySz Tryz.prog 92 = some (false, 1) := by kernel_rfl
@[simp] theorem ft_zeroOf_92 : zeroOf Tryz.prog 92 = some Value.nilFunc := by kernel_rfl
@[simp] theorem ft_und_92 : (Tryz.prog.underlying 92).isSome = true := by kernel_rfl
@[simp] theorem ft_tySz_93 : tySz Tryz.prog 93 = some (true, 2) := by kernel_rfl
@[simp] theorem ft_zeroOf_93 : zeroOf Tryz.prog 93 = some (Value.agg [Value.string ⟨#[]⟩, Value.int IntKind.i64 (0)].toArray) := by kernel_rfl
@[simp] theorem ft_plOf_93 : plOf Tryz.prog 93 = some (Sum.inl [(0, 1), (1, 1)]) := by kernel_rfl
@[simp] theorem ft_eqT_93 : eqT Tryz.prog 93 = some [FK.s, FK.i] := by kernel_rfl
@[simp] theorem ft_und_93 : (Tryz.prog.underlying 93).isSome = true := by kernel_rfl
@[simp] theorem ft_fldOf_93_0 : fldOf Tryz.prog 93 0 = some (0, false, 1) := by kernel_rfl
@[simp] theorem ft_fldOf_93_1 : fldOf Tryz.prog 93 1 = some (1, false, 1) := by kernel_rfl
@[simp] theorem ft_tySz_94 : tySz Tryz.prog 94 = some (true, 2) := by kernel_rfl
@[simp] theorem ft_zeroOf_94 : zeroOf Tryz.prog 94 = some (Value.agg [Value.string ⟨#[]⟩, Value.int IntKind.i64 (0)].toArray) := by kernel_rfl
@[simp] theorem ft_plOf_94 : plOf Tryz.prog 94 = some (Sum.inl [(0, 1), (1, 1)]) := by kernel_rfl
@[simp] theorem ft_eqT_94 : eqT Tryz.prog 94 = some [FK.s, FK.i] := by kernel_rfl
@[simp] theorem ft_und_94 : (Tryz.prog.underlying 94).isSome = true := by kernel_rfl
@[simp] theorem ft_fldOf_94_0 : fldOf Tryz.prog 94 0 = some (0, false, 1) := by kernel_rfl
@[simp] theorem ft_fldOf_94_1 : fldOf Tryz.prog 94 1 = some (1, false, 1) := by kernel_rfl
@[simp] theorem ft_tySz_95 : tySz Tryz.prog 95 = some (false, 1) := by kernel_rfl
@[simp] theorem ft_zeroOf_95 : zeroOf Tryz.prog 95 = some Value.nilFunc := by kernel_rfl
@[simp] theorem ft_und_95 : (Tryz.prog.underlying 95).isSome = true := by kernel_rfl
@[simp] theorem ft_tySz_96 : tySz Tryz.prog 96 = some (false, 1) := by kernel_rfl
@[simp] theorem ft_zeroOf_96 : zeroOf Tryz.prog 96 = some Value.nilFunc := by kernel_rfl
@[simp] theorem ft_und_96 : (Tryz.prog.underlying 96).isSome = true := by kernel_rfl
@[simp] theorem ft_tySz_97 : tySz Tryz.prog 97 = some (false, 1) := by kernel_rfl
@[simp] theorem ft_esz_97 : esz Tryz.prog 97 = some 5 := by kernel_rfl
@[simp] theorem ft_isSl_97 : isSl Tryz.prog 97 = true := by kernel_rfl
@[simp] theorem ft_zeroOf_97 : zeroOf Tryz.prog 97 = some (Value.slice none 0 0) := by kernel_rfl
@[simp] theorem ft_elZ_97 : elZ Tryz.prog 97 = some (5, [C.v (Value.int IntKind.i64 (0)), C.v (Value.string ⟨#[]⟩), C.sl true [], C.sl true [], C.v (Value.bool false)]) := by kernel_rfl
@[simp] theorem ft_slT_97 : slT Tryz.prog 97 = some (5, 80) := by kernel_rfl
@[simp] theorem ft_apT_97 : apT Tryz.prog 97 97 = some (5, 80) := by kernel_rfl
@[simp ↓] theorem ft_vmk_97 (l c : S) (y : Nat) (st : St) (K : St → Prop) : vmk Tryz.prog 97 l c y st K = force (tick (sint l)) fun l => force (tick (sint c)) fun c => vmkZ (some (5, [C.v (Value.int IntKind.i64 (0)), C.v (Value.string ⟨#[]⟩), C.sl true [], C.sl true [], C.v (Value.bool false)])) (some (5, 80)) l c y st K := vmk_iff st K 97 l c y ft_elZ_97 ft_slT_97
@[simp] theorem ft_und_97 : (Tryz.prog.underlying 97).isSome = true := by kernel_rfl
@[simp] theorem ft_tySz_98 : tySz Tryz.prog 98 = some (true, 3) := by kernel_rfl
@[simp] theorem ft_zeroOf_98 : zeroOf Tryz.prog 98 = some (Value.agg [Value.string ⟨#[]⟩, Value.string ⟨#[]⟩, Value.int IntKind.i64 (0)].toArray) := by kernel_rfl
@[simp] theorem ft_plOf_98 : plOf Tryz.prog 98 = some (Sum.inl [(0, 1), (1, 2)]) := by kernel_rfl
@[simp] theorem ft_und_98 : (Tryz.prog.underlying 98).isSome = true := by kernel_rfl
@[simp] theorem ft_fldOf_98_0 : fldOf Tryz.prog 98 0 = some (0, false, 1) := by kernel_rfl
@[simp] theorem ft_fldOf_98_1 : fldOf Tryz.prog 98 1 = some (1, true, 2) := by kernel_rfl
@[simp] theorem ft_tySz_99 : tySz Tryz.prog 99 = some (true, 3) := by kernel_rfl
@[simp] theorem ft_zeroOf_99 : zeroOf Tryz.prog 99 = some (Value.agg [Value.string ⟨#[]⟩, Value.string ⟨#[]⟩, Value.int IntKind.i64 (0)].toArray) := by kernel_rfl
@[simp] theorem ft_plOf_99 : plOf Tryz.prog 99 = some (Sum.inl [(0, 1), (1, 2)]) := by kernel_rfl
@[simp] theorem ft_und_99 : (Tryz.prog.underlying 99).isSome = true := by kernel_rfl
@[simp] theorem ft_fldOf_99_0 : fldOf Tryz.prog 99 0 = some (0, false, 1) := by kernel_rfl
@[simp] theorem ft_fldOf_99_1 : fldOf Tryz.prog 99 1 = some (1, true, 2) := by kernel_rfl
@[simp] theorem ft_tySz_100 : tySz Tryz.prog 100 = some (false, 1) := by kernel_rfl
@[simp] theorem ft_zeroOf_100 : zeroOf Tryz.prog 100 = some (Value.tuple [Value.int IntKind.i64 (0), Value.int IntKind.i64 (0)].toArray) := by kernel_rfl
@[simp] theorem ft_und_100 : (Tryz.prog.underlying 100).isSome = true := by kernel_rfl
@[simp] theorem ft_tySz_101 : tySz Tryz.prog 101 = some (false, 1) := by kernel_rfl
@[simp] theorem ft_zeroOf_101 : zeroOf Tryz.prog 101 = some Value.nilFunc := by kernel_rfl
@[simp] theorem ft_und_101 : (Tryz.prog.underlying 101).isSome = true := by kernel_rfl
@[simp] theorem ft_tySz_102 : tySz Tryz.prog 102 = some (false, 1) := by kernel_rfl
@[simp] theorem ft_zeroOf_102 : zeroOf Tryz.prog 102 = some (Value.tuple [Value.int IntKind.i64 (0), Value.bool false].toArray) := by kernel_rfl
@[simp] theorem ft_und_102 : (Tryz.prog.underlying 102).isSome = true := by kernel_rfl
@[simp] theorem ft_tySz_103 : tySz Tryz.prog 103 = some (false, 1) := by kernel_rfl
@[simp] theorem ft_zeroOf_103 : zeroOf Tryz.prog 103 = some Value.nilFunc := by kernel_rfl
@[simp] theorem ft_und_103 : (Tryz.prog.underlying 103).isSome = true := by kernel_rfl
@[simp] theorem ft_tySz_104 : tySz Tryz.prog 104 = some (false, 1) := by kernel_rfl
@[simp] theorem ft_zeroOf_104 : zeroOf Tryz.prog 104 = some Value.nilFunc := by kernel_rfl
@[simp] theorem ft_und_104 : (Tryz.prog.underlying 104).isSome = true := by kernel_rfl
@[simp] theorem ft_tySz_105 : tySz Tryz.prog 105 = some (false, 1) := by kernel_rfl
@[simp] theorem ft_zeroOf_105 : zeroOf Tryz.prog 105 = some Value.nilFunc := by kernel_rfl
@[simp] theorem ft_und_105 : (Tryz.prog.underlying 105).isSome = true := by kernel_rfl
@[simp] theorem ft_tySz_106 : tySz Tryz.prog 106 = some (false, 1) := by kernel_rfl
@[simp] theorem ft_zeroOf_106 : zeroOf Tryz.prog 106 = some Value.nilFunc := by kernel_rfl
@[simp] theorem ft_und_106 : (Tryz.prog.underlying 106).isSome = true := by kernel_rfl
@[simp] theorem ft_tySz_107 : tySz Tryz.prog 107 = some (false, 1) := by kernel_rfl
@[simp] theorem ft_zeroOf_107 : zeroOf Tryz.prog 107 = some Value.nilFunc := by kernel_rfl
@[simp] theorem ft_und_107 : (Tryz.prog.underlying 107).isSome = true := by kernel_rfl
@[simp] theorem ft_tySz_108 : tySz Tryz.prog 108 = some (true, 3) := by kernel_rfl
@[simp] theorem ft_zeroOf_108 : zeroOf Tryz.prog 108 = some (Value.agg [Value.int IntKind.i64 (0), Value.int IntKind.i64 (0), Value.int IntKind.i64 (0)].toArray) := by kernel_rfl
@[simp] theorem ft_plOf_108 : plOf Tryz.prog 108 = some (Sum.inl [(0, 2), (2, 1)]) := by kernel_rfl
@[simp] theorem ft_und_108 : (Tryz.prog.underlying 108).isSome = true := by kernel_rfl
@[simp] theorem ft_fldOf_108_0 : fldOf Tryz.prog 108 0 = some (0, true, 2) := by kernel_rfl
@[simp] theorem ft_fldOf_108_1 : fldOf Tryz.prog 108 1 = some (2, false, 1) := by kernel_rfl
@[simp] theorem ft_tySz_109 : tySz Tryz.prog 109 = some (true, 3) := by kernel_rfl
@[simp] theorem ft_zeroOf_109 : zeroOf Tryz.prog 109 = some (Value.agg [Value.int IntKind.i64 (0), Value.int IntKind.i64 (0), Value.int IntKind.i64 (0)].toArray) := by kernel_rfl
@[simp] theorem ft_plOf_109 : plOf Tryz.prog 109 = some (Sum.inl [(0, 2), (2, 1)]) := by kernel_rfl
@[simp] theorem ft_und_109 : (Tryz.prog.underlying 109).isSome = true := by kernel_rfl
@[simp] theorem ft_fldOf_109_0 : fldOf Tryz.prog 109 0 = some (0, true, 2) := by kernel_rfl
@[simp] theorem ft_fldOf_109_1 : fldOf Tryz.prog 109 1 = some (2, false, 1) := by kernel_rfl
@[simp] theorem ft_tySz_110 : tySz Tryz.prog 110 = some (false, 1) := by kernel_rfl
@[simp] theorem ft_zeroOf_110 : zeroOf Tryz.prog 110 = some Value.nilFunc := by kernel_rfl
@[simp] theorem ft_und_110 : (Tryz.prog.underlying 110).isSome = true := by kernel_rfl
@[simp] theorem ft_tySz_111 : tySz Tryz.prog 111 = some (false, 1) := by kernel_rfl
@[simp] theorem ft_esz_111 : esz Tryz.prog 111 = some 1 := by kernel_rfl
@[simp] theorem ft_isSl_111 : isSl Tryz.prog 111 = true := by kernel_rfl
@[simp] theorem ft_zeroOf_111 : zeroOf Tryz.prog 111 = some (Value.slice none 0 0) := by kernel_rfl
@[simp] theorem ft_elZ_111 : elZ Tryz.prog 111 = some (1, [C.v (Value.int IntKind.i64 (0))]) := by kernel_rfl
@[simp] theorem ft_slT_111 : slT Tryz.prog 111 = some (1, 8) := by kernel_rfl
@[simp] theorem ft_apT_111 : apT Tryz.prog 111 111 = some (1, 8) := by kernel_rfl
@[simp ↓] theorem ft_vmk_111 (l c : S) (y : Nat) (st : St) (K : St → Prop) : vmk Tryz.prog 111 l c y st K = force (tick (sint l)) fun l => force (tick (sint c)) fun c => vmkZ (some (1, [C.v (Value.int IntKind.i64 (0))])) (some (1, 8)) l c y st K := vmk_iff st K 111 l c y ft_elZ_111 ft_slT_111
@[simp] theorem ft_und_111 : (Tryz.prog.underlying 111).isSome = true := by kernel_rfl
@[simp] theorem ft_tySz_112 : tySz Tryz.prog 112 = some (false, 1) := by kernel_rfl
@[simp] theorem ft_zeroOf_112 : zeroOf Tryz.prog 112 = some Value.nilFunc := by kernel_rfl
@[simp] theorem ft_und_112 : (Tryz.prog.underlying 112).isSome = true := by kernel_rfl
@[simp] theorem ft_tySz_113 : tySz Tryz.prog 113 = some (false, 1) := by kernel_rfl
@[simp] theorem ft_zeroOf_113 : zeroOf Tryz.prog 113 = some Value.nilFunc := by kernel_rfl
@[simp] theorem ft_und_113 : (Tryz.prog.underlying 113).isSome = true := by kernel_rfl
@[simp] theorem ft_tySz_114 : tySz Tryz.prog 114 = some (false, 1) := by kernel_rfl
@[simp] theorem ft_zeroOf_114 : zeroOf Tryz.prog 114 = some Value.nilFunc := by kernel_rfl
@[simp] theorem ft_und_114 : (Tryz.prog.underlying 114).isSome = true := by kernel_rfl
@[simp] theorem ft_tySz_115 : tySz Tryz.prog 115 = some (false, 1) := by kernel_rfl
@[simp] theorem ft_zeroOf_115 : zeroOf Tryz.prog 115 = some Value.nilFunc := by kernel_rfl
@[simp] theorem ft_und_115 : (Tryz.prog.underlying 115).isSome = true := by kernel_rfl
@[simp] theorem ft_tySz_116 : tySz Tryz.prog 116 = some (false, 1) := by kernel_rfl
@[simp] theorem ft_zeroOf_116 : zeroOf Tryz.prog 116 = some Value.nilFunc := by kernel_rfl
@[simp] theorem ft_und_116 : (Tryz.prog.underlying 116).isSome = true := by kernel_rfl
@[simp] theorem ft_tySz_117 : tySz Tryz.prog 117 = some (false, 1) := by kernel_rfl
@[simp] theorem ft_intOfTy_117 : intOfTy Tryz.prog 117 = some IntKind.u64 := by kernel_rfl
@[simp] theorem ft_zeroOf_117 : zeroOf Tryz.prog 117 = some (Value.int IntKind.u64 (0)) := by kernel_rfl
@[simp] theorem ft_und_117 : (Tryz.prog.underlying 117).isSome = true := by kernel_rfl
@[simp] theorem ft_tySz_118 : tySz Tryz.prog 118 = some (false, 1) := by kernel_rfl
@[simp] theorem ft_zeroOf_118 : zeroOf Tryz.prog 118 = some Value.nilFunc := by kernel_rfl
@[simp] theorem ft_und_118 : (Tryz.prog.underlying 118).isSome = true := by kernel_rfl
@[simp] theorem ft_tySz_119 : tySz Tryz.prog 119 = some (false, 1) := by kernel_rfl
@[simp] theorem ft_zeroOf_119 : zeroOf Tryz.prog 119 = some Value.nilFunc := by kernel_rfl
@[simp] theorem ft_und_119 : (Tryz.prog.underlying 119).isSome = true := by kernel_rfl
@[simp] theorem ft_tySz_120 : tySz Tryz.prog 120 = some (false, 1) := by kernel_rfl
@[simp] theorem ft_esz_120 : esz Tryz.prog 120 = some 1 := by kernel_rfl
@[simp] theorem ft_isSl_120 : isSl Tryz.prog 120 = true := by kernel_rfl
@[simp] theorem ft_zeroOf_120 : zeroOf Tryz.prog 120 = some (Value.slice none 0 0) := by kernel_rfl
@[simp] theorem ft_elZ_120 : elZ Tryz.prog 120 = some (1, [C.sl true []]) := by kernel_rfl
@[simp] theorem ft_slT_120 : slT Tryz.prog 120 = some (1, 24) := by kernel_rfl
@[simp] theorem ft_apT_120 : apT Tryz.prog 120 120 = some (1, 24) := by kernel_rfl
@[simp ↓] theorem ft_vmk_120 (l c : S) (y : Nat) (st : St) (K : St → Prop) : vmk Tryz.prog 120 l c y st K = force (tick (sint l)) fun l => force (tick (sint c)) fun c => vmkZ (some (1, [C.sl true []])) (some (1, 24)) l c y st K := vmk_iff st K 120 l c y ft_elZ_120 ft_slT_120
@[simp] theorem ft_und_120 : (Tryz.prog.underlying 120).isSome = true := by kernel_rfl
@[simp] theorem ft_tySz_121 : tySz Tryz.prog 121 = some (false, 1) := by kernel_rfl
@[simp] theorem ft_zeroOf_121 : zeroOf Tryz.prog 121 = some Value.nilFunc := by kernel_rfl
@[simp] theorem ft_und_121 : (Tryz.prog.underlying 121).isSome = true := by kernel_rfl
@[simp] theorem ft_tySz_122 : tySz Tryz.prog 122 = some (false, 1) := by kernel_rfl
@[simp] theorem ft_zeroOf_122 : zeroOf Tryz.prog 122 = some Value.nilFunc := by kernel_rfl
@[simp] theorem ft_und_122 : (Tryz.prog.underlying 122).isSome = true := by kernel_rfl
@[simp] theorem ft_tySz_123 : tySz Tryz.prog 123 = some (false, 1) := by kernel_rfl
@[simp] theorem ft_zeroOf_123 : zeroOf Tryz.prog 123 = some Value.nilFunc := by kernel_rfl
@[simp] theorem ft_und_123 : (Tryz.prog.underlying 123).isSome = true := by kernel_rfl
@[simp] theorem ft_tySz_124 : tySz Tryz.prog 124 = some (false, 1) := by kernel_rfl
@[simp] theorem ft_zeroOf_124 : zeroOf Tryz.prog 124 = some (Value.tuple [Value.agg [Value.int IntKind.i64 (0), Value.int IntKind.i64 (0), Value.string ⟨#[]⟩].toArray, Value.int IntKind.i64 (0)].toArray) := by kernel_rfl
@[simp] theorem ft_und_124 : (Tryz.prog.underlying 124).isSome = true := by kernel_rfl
@[simp] theorem ft_tySz_125 : tySz Tryz.prog 125 = some (false, 1) := by kernel_rfl
@[simp] theorem ft_zeroOf_125 : zeroOf Tryz.prog 125 = some Value.nilFunc := by kernel_rfl
@[simp] theorem ft_und_125 : (Tryz.prog.underlying 125).isSome = true := by kernel_rfl
@[simp] theorem ft_tySz_126 : tySz Tryz.prog 126 = some (false, 1) := by kernel_rfl
@[simp] theorem ft_zeroOf_126 : zeroOf Tryz.prog 126 = some Value.nilFunc := by kernel_rfl
@[simp] theorem ft_und_126 : (Tryz.prog.underlying 126).isSome = true := by kernel_rfl
@[simp] theorem ft_tySz_127 : tySz Tryz.prog 127 = some (false, 1) := by kernel_rfl
@[simp] theorem ft_zeroOf_127 : zeroOf Tryz.prog 127 = some Value.nilFunc := by kernel_rfl
@[simp] theorem ft_und_127 : (Tryz.prog.underlying 127).isSome = true := by kernel_rfl
@[simp] theorem ft_tySz_128 : tySz Tryz.prog 128 = some (false, 1) := by kernel_rfl
@[simp] theorem ft_zeroOf_128 : zeroOf Tryz.prog 128 = some Value.nilFunc := by kernel_rfl
@[simp] theorem ft_und_128 : (Tryz.prog.underlying 128).isSome = true := by kernel_rfl
@[simp] theorem ft_tySz_129 : tySz Tryz.prog 129 = some (false, 1) := by kernel_rfl
@[simp] theorem ft_zeroOf_129 : zeroOf Tryz.prog 129 = some Value.nilFunc := by kernel_rfl
@[simp] theorem ft_und_129 : (Tryz.prog.underlying 129).isSome = true := by kernel_rfl
@[simp] theorem ft_tySz_130 : tySz Tryz.prog 130 = some (false, 1) := by kernel_rfl
@[simp] theorem ft_zeroOf_130 : zeroOf Tryz.prog 130 = some Value.nilFunc := by kernel_rfl
@[simp] theorem ft_und_130 : (Tryz.prog.underlying 130).isSome = true := by kernel_rfl
@[simp] theorem ft_tySz_131 : tySz Tryz.prog 131 = some (false, 1) := by kernel_rfl
@[simp] theorem ft_zeroOf_131 : zeroOf Tryz.prog 131 = some Value.nilFunc := by kernel_rfl
@[simp] theorem ft_und_131 : (Tryz.prog.underlying 131).isSome = true := by kernel_rfl
@[simp] theorem ft_tySz_132 : tySz Tryz.prog 132 = some (false, 1) := by kernel_rfl
@[simp] theorem ft_zeroOf_132 : zeroOf Tryz.prog 132 = some Value.nilFunc := by kernel_rfl
@[simp] theorem ft_und_132 : (Tryz.prog.underlying 132).isSome = true := by kernel_rfl
@[simp] theorem ft_tySz_133 : tySz Tryz.prog 133 = some (false, 1) := by kernel_rfl
@[simp] theorem ft_zeroOf_133 : zeroOf Tryz.prog 133 = some Value.nilFunc := by kernel_rfl
@[simp] theorem ft_und_133 : (Tryz.prog.underlying 133).isSome = true := by kernel_rfl
@[simp] theorem ft_tySz_134 : tySz Tryz.prog 134 = some (false, 1) := by kernel_rfl
@[simp] theorem ft_zeroOf_134 : zeroOf Tryz.prog 134 = some Value.nilFunc := by kernel_rfl
@[simp] theorem ft_und_134 : (Tryz.prog.underlying 134).isSome = true := by kernel_rfl
@[simp] theorem ft_tySz_135 : tySz Tryz.prog 135 = some (false, 1) := by kernel_rfl
@[simp] theorem ft_intOfTy_135 : intOfTy Tryz.prog 135 = some IntKind.i64 := by kernel_rfl
@[simp] theorem ft_zeroOf_135 : zeroOf Tryz.prog 135 = some (Value.int IntKind.i64 (0)) := by kernel_rfl
@[simp] theorem ft_und_135 : (Tryz.prog.underlying 135).isSome = true := by kernel_rfl
@[simp] theorem ft_tySz_136 : tySz Tryz.prog 136 = some (false, 1) := by kernel_rfl
@[simp] theorem ft_zeroOf_136 : zeroOf Tryz.prog 136 = some (Value.tuple [Value.int IntKind.i64 (0), Value.int IntKind.i64 (0)].toArray) := by kernel_rfl
@[simp] theorem ft_und_136 : (Tryz.prog.underlying 136).isSome = true := by kernel_rfl
@[simp] theorem ft_tySz_137 : tySz Tryz.prog 137 = some (false, 1) := by kernel_rfl
@[simp] theorem ft_zeroOf_137 : zeroOf Tryz.prog 137 = some Value.nilFunc := by kernel_rfl
@[simp] theorem ft_und_137 : (Tryz.prog.underlying 137).isSome = true := by kernel_rfl
@[simp] theorem ft_tySz_138 : tySz Tryz.prog 138 = some (false, 1) := by kernel_rfl
@[simp] theorem ft_zeroOf_138 : zeroOf Tryz.prog 138 = some Value.nilFunc := by kernel_rfl
@[simp] theorem ft_und_138 : (Tryz.prog.underlying 138).isSome = true := by kernel_rfl
@[simp] theorem ft_tySz_139 : tySz Tryz.prog 139 = some (false, 1) := by kernel_rfl
@[simp] theorem ft_zeroOf_139 : zeroOf Tryz.prog 139 = some Value.nilFunc := by kernel_rfl
@[simp] theorem ft_und_139 : (Tryz.prog.underlying 139).isSome = true := by kernel_rfl
@[simp] theorem ft_tySz_140 : tySz Tryz.prog 140 = some (false, 1) := by kernel_rfl
@[simp] theorem ft_zeroOf_140 : zeroOf Tryz.prog 140 = some Value.nilFunc := by kernel_rfl
@[simp] theorem ft_und_140 : (Tryz.prog.underlying 140).isSome = true := by kernel_rfl
@[simp] theorem ft_tySz_141 : tySz Tryz.prog 141 = some (false, 1) := by kernel_rfl
@[simp] theorem ft_zeroOf_141 : zeroOf Tryz.prog 141 = some Value.nilFunc := by kernel_rfl
@[simp] theorem ft_und_141 : (Tryz.prog.underlying 141).isSome = true := by kernel_rfl
@[simp] theorem ft_tySz_142 : tySz Tryz.prog 142 = some (false, 1) := by kernel_rfl
@[simp] theorem ft_intOfTy_142 : intOfTy Tryz.prog 142 = some IntKind.u32 := by kernel_rfl
@[simp] theorem ft_zeroOf_142 : zeroOf Tryz.prog 142 = some (Value.int IntKind.u32 (0)) := by kernel_rfl
@[simp] theorem ft_und_142 : (Tryz.prog.underlying 142).isSome = true := by kernel_rfl
@[simp] theorem ft_tySz_143 : tySz Tryz.prog 143 = some (false, 1) := by kernel_rfl
@[simp] theorem ft_zeroOf_143 : zeroOf Tryz.prog 143 = some Value.nilFunc := by kernel_rfl
@[simp] theorem ft_und_143 : (Tryz.prog.underlying 143).isSome = true := by kernel_rfl
@[simp] theorem ft_tySz_144 : tySz Tryz.prog 144 = some (false, 1) := by kernel_rfl
@[simp] theorem ft_intOfTy_144 : intOfTy Tryz.prog 144 = some IntKind.u64 := by kernel_rfl
@[simp] theorem ft_zeroOf_144 : zeroOf Tryz.prog 144 = some (Value.int IntKind.u64 (0)) := by kernel_rfl
@[simp] theorem ft_und_144 : (Tryz.prog.underlying 144).isSome = true := by kernel_rfl
@[simp] theorem ft_tySz_145 : tySz Tryz.prog 145 = some (false, 1) := by kernel_rfl
@[simp] theorem ft_zeroOf_145 : zeroOf Tryz.prog 145 = some Value.nilFunc := by kernel_rfl
@[simp] theorem ft_und_145 : (Tryz.prog.underlying 145).isSome = true := by kernel_rfl
@[simp] theorem ft_tySz_146 : tySz Tryz.prog 146 = some (false, 1) := by kernel_rfl
@[simp] theorem ft_zeroOf_146 : zeroOf Tryz.prog 146 = some Value.nilFunc := by kernel_rfl
@[simp] theorem ft_und_146 : (Tryz.prog.underlying 146).isSome = true := by kernel_rfl
@[simp] theorem ft_tySz_147 : tySz Tryz.prog 147 = some (true, 1) := by kernel_rfl
@[simp] theorem ft_zeroOf_147 : zeroOf Tryz.prog 147 = some (Value.agg [Value.int IntKind.i64 (0)].toArray) := by kernel_rfl
@[simp] theorem ft_plOf_147 : plOf Tryz.prog 147 = some (Sum.inl [(0, 1)]) := by kernel_rfl
@[simp] theorem ft_eqT_147 : eqT Tryz.prog 147 = some [FK.i] := by kernel_rfl
@[simp] theorem ft_und_147 : (Tryz.prog.underlying 147).isSome = true := by kernel_rfl
@[simp] theorem ft_fldOf_147_0 : fldOf Tryz.prog 147 0 = some (0, false, 1) := by kernel_rfl
@[simp] theorem ft_tySz_148 : tySz Tryz.prog 148 = some (true, 1) := by kernel_rfl
@[simp] theorem ft_zeroOf_148 : zeroOf Tryz.prog 148 = some (Value.agg [Value.int IntKind.i64 (0)].toArray) := by kernel_rfl
@[simp] theorem ft_plOf_148 : plOf Tryz.prog 148 = some (Sum.inl [(0, 1)]) := by kernel_rfl
@[simp] theorem ft_eqT_148 : eqT Tryz.prog 148 = some [FK.i] := by kernel_rfl
@[simp] theorem ft_und_148 : (Tryz.prog.underlying 148).isSome = true := by kernel_rfl
@[simp] theorem ft_fldOf_148_0 : fldOf Tryz.prog 148 0 = some (0, false, 1) := by kernel_rfl
@[simp] theorem ft_tySz_149 : tySz Tryz.prog 149 = some (false, 1) := by kernel_rfl
@[simp] theorem ft_zeroOf_149 : zeroOf Tryz.prog 149 = some (Value.tuple [Value.agg [Value.int IntKind.i64 (0)].toArray, Value.bool false].toArray) := by kernel_rfl
@[simp] theorem ft_und_149 : (Tryz.prog.underlying 149).isSome = true := by kernel_rfl
@[simp] theorem ft_tySz_150 : tySz Tryz.prog 150 = some (false, 1) := by kernel_rfl
@[simp] theorem ft_zeroOf_150 : zeroOf Tryz.prog 150 = some Value.nilFunc := by kernel_rfl
@[simp] theorem ft_und_150 : (Tryz.prog.underlying 150).isSome = true := by kernel_rfl
@[simp] theorem ft_tySz_151 : tySz Tryz.prog 151 = some (false, 1) := by kernel_rfl
@[simp] theorem ft_zeroOf_151 : zeroOf Tryz.prog 151 = some Value.nilFunc := by kernel_rfl
@[simp] theorem ft_und_151 : (Tryz.prog.underlying 151).isSome = true := by kernel_rfl
@[simp] theorem ft_tySz_152 : tySz Tryz.prog 152 = some (false, 1) := by kernel_rfl
@[simp] theorem ft_zeroOf_152 : zeroOf Tryz.prog 152 = some Value.nilFunc := by kernel_rfl
@[simp] theorem ft_und_152 : (Tryz.prog.underlying 152).isSome = true := by kernel_rfl
@[simp] theorem ft_tySz_153 : tySz Tryz.prog 153 = some (false, 1) := by kernel_rfl
@[simp] theorem ft_zeroOf_153 : zeroOf Tryz.prog 153 = some Value.nilFunc := by kernel_rfl
@[simp] theorem ft_und_153 : (Tryz.prog.underlying 153).isSome = true := by kernel_rfl
@[simp] theorem ft_tySz_154 : tySz Tryz.prog 154 = some (false, 1) := by kernel_rfl
@[simp] theorem ft_intOfTy_154 : intOfTy Tryz.prog 154 = some IntKind.u64 := by kernel_rfl
@[simp] theorem ft_zeroOf_154 : zeroOf Tryz.prog 154 = some (Value.int IntKind.u64 (0)) := by kernel_rfl
@[simp] theorem ft_und_154 : (Tryz.prog.underlying 154).isSome = true := by kernel_rfl
@[simp] theorem ft_tySz_155 : tySz Tryz.prog 155 = some (false, 1) := by kernel_rfl
@[simp] theorem ft_zeroOf_155 : zeroOf Tryz.prog 155 = some Value.nilFunc := by kernel_rfl
@[simp] theorem ft_und_155 : (Tryz.prog.underlying 155).isSome = true := by kernel_rfl
@[simp] theorem ft_tySz_156 : tySz Tryz.prog 156 = some (false, 1) := by kernel_rfl
@[simp] theorem ft_zeroOf_156 : zeroOf Tryz.prog 156 = some Value.nilFunc := by kernel_rfl
@[simp] theorem ft_und_156 : (Tryz.prog.underlying 156).isSome = true := by kernel_rfl
@[simp] theorem ft_tySz_157 : tySz Tryz.prog 157 = some (false, 1) := by kernel_rfl
@[simp] theorem ft_zeroOf_157 : zeroOf Tryz.prog 157 = some Value.nilFunc := by kernel_rfl
@[simp] theorem ft_und_157 : (Tryz.prog.underlying 157).isSome = true := by kernel_rfl
@[simp] theorem ft_tySz_158 : tySz Tryz.prog 158 = some (false, 1) := by kernel_rfl
@[simp] theorem ft_isPt_158 : isPt Tryz.prog 158 = true := by kernel_rfl
@[simp] theorem ft_zeroOf_158 : zeroOf Tryz.prog 158 = some (Value.pointer none) := by kernel_rfl
@[simp] theorem ft_und_158 : (Tryz.prog.underlying 158).isSome = true := by kernel_rfl
@[simp] theorem ft_tySz_159 : tySz Tryz.prog 159 = some (false, 1) := by kernel_rfl
@[simp] theorem ft_zeroOf_159 : zeroOf Tryz.prog 159 = some Value.nilFunc := by kernel_rfl
@[simp] theorem ft_und_159 : (Tryz.prog.underlying 159).isSome = true := by kernel_rfl
@[simp] theorem ft_tySz_160 : tySz Tryz.prog 160 = some (false, 1) := by kernel_rfl
@[simp] theorem ft_zeroOf_160 : zeroOf Tryz.prog 160 = some Value.nilFunc := by kernel_rfl
@[simp] theorem ft_und_160 : (Tryz.prog.underlying 160).isSome = true := by kernel_rfl
@[simp] theorem ft_tySz_161 : tySz Tryz.prog 161 = some (false, 1) := by kernel_rfl
@[simp] theorem ft_zeroOf_161 : zeroOf Tryz.prog 161 = some Value.nilFunc := by kernel_rfl
@[simp] theorem ft_und_161 : (Tryz.prog.underlying 161).isSome = true := by kernel_rfl
@[simp] theorem ft_tySz_162 : tySz Tryz.prog 162 = some (false, 1) := by kernel_rfl
@[simp] theorem ft_zeroOf_162 : zeroOf Tryz.prog 162 = some Value.nilFunc := by kernel_rfl
@[simp] theorem ft_und_162 : (Tryz.prog.underlying 162).isSome = true := by kernel_rfl
@[simp] theorem ft_tySz_163 : tySz Tryz.prog 163 = some (false, 1) := by kernel_rfl
@[simp] theorem ft_zeroOf_163 : zeroOf Tryz.prog 163 = some Value.nilFunc := by kernel_rfl
@[simp] theorem ft_und_163 : (Tryz.prog.underlying 163).isSome = true := by kernel_rfl
@[simp] theorem ft_tySz_164 : tySz Tryz.prog 164 = some (false, 1) := by kernel_rfl
@[simp] theorem ft_zeroOf_164 : zeroOf Tryz.prog 164 = some Value.nilFunc := by kernel_rfl
@[simp] theorem ft_und_164 : (Tryz.prog.underlying 164).isSome = true := by kernel_rfl
@[simp] theorem ft_tySz_165 : tySz Tryz.prog 165 = some (false, 1) := by kernel_rfl
@[simp] theorem ft_zeroOf_165 : zeroOf Tryz.prog 165 = some Value.nilFunc := by kernel_rfl
@[simp] theorem ft_und_165 : (Tryz.prog.underlying 165).isSome = true := by kernel_rfl
@[simp] theorem ft_tySz_166 : tySz Tryz.prog 166 = some (false, 1) := by kernel_rfl
@[simp] theorem ft_zeroOf_166 : zeroOf Tryz.prog 166 = some Value.nilFunc := by kernel_rfl
@[simp] theorem ft_und_166 : (Tryz.prog.underlying 166).isSome = true := by kernel_rfl
@[simp] theorem ft_tySz_167 : tySz Tryz.prog 167 = some (false, 1) := by kernel_rfl
@[simp] theorem ft_zeroOf_167 : zeroOf Tryz.prog 167 = some Value.nilFunc := by kernel_rfl
@[simp] theorem ft_und_167 : (Tryz.prog.underlying 167).isSome = true := by kernel_rfl
@[simp] theorem ft_tySz_168 : tySz Tryz.prog 168 = some (false, 1) := by kernel_rfl
@[simp] theorem ft_zeroOf_168 : zeroOf Tryz.prog 168 = some Value.nilFunc := by kernel_rfl
@[simp] theorem ft_und_168 : (Tryz.prog.underlying 168).isSome = true := by kernel_rfl
@[simp] theorem ft_tySz_169 : tySz Tryz.prog 169 = some (false, 1) := by kernel_rfl
@[simp] theorem ft_zeroOf_169 : zeroOf Tryz.prog 169 = some Value.nilFunc := by kernel_rfl
@[simp] theorem ft_und_169 : (Tryz.prog.underlying 169).isSome = true := by kernel_rfl
@[simp] theorem ft_tySz_170 : tySz Tryz.prog 170 = some (false, 1) := by kernel_rfl
@[simp] theorem ft_zeroOf_170 : zeroOf Tryz.prog 170 = some Value.nilFunc := by kernel_rfl
@[simp] theorem ft_und_170 : (Tryz.prog.underlying 170).isSome = true := by kernel_rfl
@[simp] theorem ft_tySz_171 : tySz Tryz.prog 171 = some (false, 1) := by kernel_rfl
@[simp] theorem ft_zeroOf_171 : zeroOf Tryz.prog 171 = some Value.nilFunc := by kernel_rfl
@[simp] theorem ft_und_171 : (Tryz.prog.underlying 171).isSome = true := by kernel_rfl
@[simp] theorem ft_tySz_172 : tySz Tryz.prog 172 = some (false, 1) := by kernel_rfl
@[simp] theorem ft_zeroOf_172 : zeroOf Tryz.prog 172 = some Value.nilFunc := by kernel_rfl
@[simp] theorem ft_und_172 : (Tryz.prog.underlying 172).isSome = true := by kernel_rfl
@[simp] theorem ft_tySz_173 : tySz Tryz.prog 173 = some (false, 1) := by kernel_rfl
@[simp] theorem ft_zeroOf_173 : zeroOf Tryz.prog 173 = some Value.nilFunc := by kernel_rfl
@[simp] theorem ft_und_173 : (Tryz.prog.underlying 173).isSome = true := by kernel_rfl
@[simp] theorem ft_tySz_174 : tySz Tryz.prog 174 = some (false, 1) := by kernel_rfl
@[simp] theorem ft_isPt_174 : isPt Tryz.prog 174 = true := by kernel_rfl
@[simp] theorem ft_zeroOf_174 : zeroOf Tryz.prog 174 = some (Value.pointer none) := by kernel_rfl
@[simp] theorem ft_und_174 : (Tryz.prog.underlying 174).isSome = true := by kernel_rfl
@[simp] theorem ft_tySz_175 : tySz Tryz.prog 175 = some (false, 1) := by kernel_rfl
@[simp] theorem ft_zeroOf_175 : zeroOf Tryz.prog 175 = some (Value.tuple [Value.int IntKind.i64 (0), Value.int IntKind.i64 (0)].toArray) := by kernel_rfl
@[simp] theorem ft_und_175 : (Tryz.prog.underlying 175).isSome = true := by kernel_rfl
@[simp] theorem ft_tySz_176 : tySz Tryz.prog 176 = some (false, 1) := by kernel_rfl
@[simp] theorem ft_zeroOf_176 : zeroOf Tryz.prog 176 = some Value.nilFunc := by kernel_rfl
@[simp] theorem ft_und_176 : (Tryz.prog.underlying 176).isSome = true := by kernel_rfl
@[simp] theorem ft_tySz_177 : tySz Tryz.prog 177 = some (false, 1) := by kernel_rfl
@[simp] theorem ft_zeroOf_177 : zeroOf Tryz.prog 177 = some (Value.tuple [Value.int IntKind.u64 (0), Value.int IntKind.u64 (0)].toArray) := by kernel_rfl
@[simp] theorem ft_und_177 : (Tryz.prog.underlying 177).isSome = true := by kernel_rfl
@[simp] theorem ft_tySz_178 : tySz Tryz.prog 178 = some (false, 1) := by kernel_rfl
@[simp] theorem ft_zeroOf_178 : zeroOf Tryz.prog 178 = some Value.nilFunc := by kernel_rfl
@[simp] theorem ft_und_178 : (Tryz.prog.underlying 178).isSome = true := by kernel_rfl
@[simp] theorem ft_tySz_179 : tySz Tryz.prog 179 = some (false, 1) := by kernel_rfl
@[simp] theorem ft_zeroOf_179 : zeroOf Tryz.prog 179 = some Value.nilFunc := by kernel_rfl
@[simp] theorem ft_und_179 : (Tryz.prog.underlying 179).isSome = true := by kernel_rfl
@[simp] theorem ft_tySz_180 : tySz Tryz.prog 180 = some (false, 1) := by kernel_rfl
@[simp] theorem ft_zeroOf_180 : zeroOf Tryz.prog 180 = some Value.nilFunc := by kernel_rfl
@[simp] theorem ft_und_180 : (Tryz.prog.underlying 180).isSome = true := by kernel_rfl
@[simp] theorem ft_tySz_181 : tySz Tryz.prog 181 = some (false, 1) := by kernel_rfl
@[simp] theorem ft_zeroOf_181 : zeroOf Tryz.prog 181 = some Value.nilFunc := by kernel_rfl
@[simp] theorem ft_und_181 : (Tryz.prog.underlying 181).isSome = true := by kernel_rfl
@[simp] theorem ft_tySz_182 : tySz Tryz.prog 182 = some (false, 1) := by kernel_rfl
@[simp] theorem ft_zeroOf_182 : zeroOf Tryz.prog 182 = some Value.nilFunc := by kernel_rfl
@[simp] theorem ft_und_182 : (Tryz.prog.underlying 182).isSome = true := by kernel_rfl
@[simp] theorem ft_tySz_183 : tySz Tryz.prog 183 = some (false, 1) := by kernel_rfl
@[simp] theorem ft_zeroOf_183 : zeroOf Tryz.prog 183 = some Value.nilFunc := by kernel_rfl
@[simp] theorem ft_und_183 : (Tryz.prog.underlying 183).isSome = true := by kernel_rfl
@[simp] theorem ft_tySz_184 : tySz Tryz.prog 184 = some (false, 1) := by kernel_rfl
@[simp] theorem ft_zeroOf_184 : zeroOf Tryz.prog 184 = some Value.nilFunc := by kernel_rfl
@[simp] theorem ft_und_184 : (Tryz.prog.underlying 184).isSome = true := by kernel_rfl
@[simp] theorem ft_tySz_185 : tySz Tryz.prog 185 = some (false, 1) := by kernel_rfl
@[simp] theorem ft_zeroOf_185 : zeroOf Tryz.prog 185 = some Value.nilFunc := by kernel_rfl
@[simp] theorem ft_und_185 : (Tryz.prog.underlying 185).isSome = true := by kernel_rfl
@[simp] theorem ft_tySz_186 : tySz Tryz.prog 186 = some (false, 1) := by kernel_rfl
@[simp] theorem ft_zeroOf_186 : zeroOf Tryz.prog 186 = some Value.nilFunc := by kernel_rfl
@[simp] theorem ft_und_186 : (Tryz.prog.underlying 186).isSome = true := by kernel_rfl
@[simp] theorem ft_tySz_187 : tySz Tryz.prog 187 = some (false, 1) := by kernel_rfl
@[simp] theorem ft_zeroOf_187 : zeroOf Tryz.prog 187 = some Value.nilFunc := by kernel_rfl
@[simp] theorem ft_und_187 : (Tryz.prog.underlying 187).isSome = true := by kernel_rfl
@[simp] theorem ft_tySz_188 : tySz Tryz.prog 188 = some (true, 4) := by kernel_rfl
@[simp] theorem ft_zeroOf_188 : zeroOf Tryz.prog 188 = some (Value.agg [Value.pointer none, Value.pointer none, Value.pointer none, Value.string ⟨#[]⟩].toArray) := by kernel_rfl
@[simp] theorem ft_plOf_188 : plOf Tryz.prog 188 = some (Sum.inl [(0, 1), (1, 1), (2, 1), (3, 1)]) := by kernel_rfl
@[simp] theorem ft_und_188 : (Tryz.prog.underlying 188).isSome = true := by kernel_rfl
@[simp] theorem ft_fldOf_188_0 : fldOf Tryz.prog 188 0 = some (0, false, 1) := by kernel_rfl
@[simp] theorem ft_fldOf_188_1 : fldOf Tryz.prog 188 1 = some (1, false, 1) := by kernel_rfl
@[simp] theorem ft_fldOf_188_2 : fldOf Tryz.prog 188 2 = some (2, false, 1) := by kernel_rfl
@[simp] theorem ft_fldOf_188_3 : fldOf Tryz.prog 188 3 = some (3, false, 1) := by kernel_rfl
@[simp] theorem ft_tySz_189 : tySz Tryz.prog 189 = some (true, 4) := by kernel_rfl
@[simp] theorem ft_zeroOf_189 : zeroOf Tryz.prog 189 = some (Value.agg [Value.pointer none, Value.pointer none, Value.pointer none, Value.string ⟨#[]⟩].toArray) := by kernel_rfl
@[simp] theorem ft_plOf_189 : plOf Tryz.prog 189 = some (Sum.inl [(0, 1), (1, 1), (2, 1), (3, 1)]) := by kernel_rfl
@[simp] theorem ft_und_189 : (Tryz.prog.underlying 189).isSome = true := by kernel_rfl
@[simp] theorem ft_fldOf_189_0 : fldOf Tryz.prog 189 0 = some (0, false, 1) := by kernel_rfl
@[simp] theorem ft_fldOf_189_1 : fldOf Tryz.prog 189 1 = some (1, false, 1) := by kernel_rfl
@[simp] theorem ft_fldOf_189_2 : fldOf Tryz.prog 189 2 = some (2, false, 1) := by kernel_rfl
@[simp] theorem ft_fldOf_189_3 : fldOf Tryz.prog 189 3 = some (3, false, 1) := by kernel_rfl
@[simp] theorem ft_tySz_190 : tySz Tryz.prog 190 = some (true, 0) := by kernel_rfl
@[simp] theorem ft_zeroOf_190 : zeroOf Tryz.prog 190 = some (Value.agg [].toArray) := by kernel_rfl
@[simp] theorem ft_plOf_190 : plOf Tryz.prog 190 = some (Sum.inr 1) := by kernel_rfl
@[simp] theorem ft_arrOf_190 : arrOf Tryz.prog 190 = some (0, false, 1) := by kernel_rfl
@[simp] theorem ft_und_190 : (Tryz.prog.underlying 190).isSome = true := by kernel_rfl
@[simp] theorem ft_tySz_191 : tySz Tryz.prog 191 = some (true, 0) := by kernel_rfl
@[simp] theorem ft_zeroOf_191 : zeroOf Tryz.prog 191 = some (Value.agg [].toArray) := by kernel_rfl
@[simp] theorem ft_plOf_191 : plOf Tryz.prog 191 = some (Sum.inl [(0, 0)]) := by kernel_rfl
@[simp] theorem ft_und_191 : (Tryz.prog.underlying 191).isSome = true := by kernel_rfl
@[simp] theorem ft_fldOf_191_0 : fldOf Tryz.prog 191 0 = some (0, true, 0) := by kernel_rfl
@[simp] theorem ft_tySz_192 : tySz Tryz.prog 192 = some (true, 0) := by kernel_rfl
@[simp] theorem ft_zeroOf_192 : zeroOf Tryz.prog 192 = some (Value.agg [].toArray) := by kernel_rfl
@[simp] theorem ft_plOf_192 : plOf Tryz.prog 192 = some (Sum.inl [(0, 0)]) := by kernel_rfl
@[simp] theorem ft_und_192 : (Tryz.prog.underlying 192).isSome = true := by kernel_rfl
@[simp] theorem ft_fldOf_192_0 : fldOf Tryz.prog 192 0 = some (0, true, 0) := by kernel_rfl
@[simp] theorem ft_tySz_193 : tySz Tryz.prog 193 = some (false, 1) := by kernel_rfl
@[simp] theorem ft_zeroOf_193 : zeroOf Tryz.prog 193 = some Value.nilFunc := by kernel_rfl
@[simp] theorem ft_und_193 : (Tryz.prog.underlying 193).isSome = true := by kernel_rfl
@[simp] theorem ft_tySz_194 : tySz Tryz.prog 194 = some (false, 1) := by kernel_rfl
@[simp] theorem ft_intOfTy_194 : intOfTy Tryz.prog 194 = some IntKind.u8 := by kernel_rfl
@[simp] theorem ft_zeroOf_194 : zeroOf Tryz.prog 194 = some (Value.int IntKind.u8 (0)) := by kernel_rfl
@[simp] theorem ft_und_194 : (Tryz.prog.underlying 194).isSome = true := by kernel_rfl
@[simp] theorem ft_tySz_195 : tySz Tryz.prog 195 = some (false, 1) := by kernel_rfl
@[simp] theorem ft_intOfTy_195 : intOfTy Tryz.prog 195 = some IntKind.u8 := by kernel_rfl
@[simp] theorem ft_zeroOf_195 : zeroOf Tryz.prog 195 = some (Value.int IntKind.u8 (0)) := by kernel_rfl
@[simp] theorem ft_und_195 : (Tryz.prog.underlying 195).isSome = true := by kernel_rfl
@[simp] theorem ft_tySz_196 : tySz Tryz.prog 196 = some (false, 1) := by kernel_rfl
@[simp] theorem ft_zeroOf_196 : zeroOf Tryz.prog 196 = some Value.nilFunc := by kernel_rfl
@[simp] theorem ft_und_196 : (Tryz.prog.underlying 196).isSome = true := by kernel_rfl
@[simp] theorem ft_tySz_197 : tySz Tryz.prog 197 = some (false, 1) := by kernel_rfl
@[simp] theorem ft_isPt_197 : isPt Tryz.prog 197 = true := by kernel_rfl
@[simp] theorem ft_zeroOf_197 : zeroOf Tryz.prog 197 = some (Value.pointer none) := by kernel_rfl
@[simp] theorem ft_und_197 : (Tryz.prog.underlying 197).isSome = true := by kernel_rfl
@[simp] theorem ft_tySz_198 : tySz Tryz.prog 198 = some (false, 1) := by kernel_rfl
@[simp] theorem ft_intOfTy_198 : intOfTy Tryz.prog 198 = some IntKind.i32 := by kernel_rfl
@[simp] theorem ft_zeroOf_198 : zeroOf Tryz.prog 198 = some (Value.int IntKind.i32 (0)) := by kernel_rfl
@[simp] theorem ft_und_198 : (Tryz.prog.underlying 198).isSome = true := by kernel_rfl
@[simp] theorem ft_tySz_199 : tySz Tryz.prog 199 = some (false, 1) := by kernel_rfl
@[simp] theorem ft_intOfTy_199 : intOfTy Tryz.prog 199 = some IntKind.i32 := by kernel_rfl
@[simp] theorem ft_zeroOf_199 : zeroOf Tryz.prog 199 = some (Value.int IntKind.i32 (0)) := by kernel_rfl
@[simp] theorem ft_und_199 : (Tryz.prog.underlying 199).isSome = true := by kernel_rfl
@[simp] theorem ft_tySz_200 : tySz Tryz.prog 200 = some (true, 11) := by kernel_rfl
@[simp] theorem ft_zeroOf_200 : zeroOf Tryz.prog 200 = some (Value.agg [Value.int IntKind.u64 (0), Value.int IntKind.u64 (0), Value.int IntKind.u32 (0), Value.int IntKind.u8 (0), Value.int IntKind.u8 (0), Value.int IntKind.u8 (0), Value.int IntKind.u8 (0), Value.nilFunc, Value.pointer none, Value.int IntKind.i32 (0), Value.int IntKind.i32 (0)].toArray) := by kernel_rfl
@[simp] theorem ft_plOf_200 : plOf Tryz.prog 200 = some (Sum.inl [(0, 1), (1, 1), (2, 1), (3, 1), (4, 1), (5, 1), (6, 1), (7, 1), (8, 1), (9, 1), (10, 1)]) := by kernel_rfl
@[simp] theorem ft_und_200 : (Tryz.prog.underlying 200).isSome = true := by kernel_rfl
@[simp] theorem ft_fldOf_200_0 : fldOf Tryz.prog 200 0 = some (0, false, 1) := by kernel_rfl
@[simp] theorem ft_fldOf_200_1 : fldOf Tryz.prog 200 1 = some (1, false, 1) := by kernel_rfl
@[simp] theorem ft_fldOf_200_2 : fldOf Tryz.prog 200 2 = some (2, false, 1) := by kernel_rfl
@[simp] theorem ft_fldOf_200_3 : fldOf Tryz.prog 200 3 = some (3, false, 1) := by kernel_rfl
@[simp] theorem ft_fldOf_200_4 : fldOf Tryz.prog 200 4 = some (4, false, 1) := by kernel_rfl
@[simp] theorem ft_fldOf_200_5 : fldOf Tryz.prog 200 5 = some (5, false, 1) := by kernel_rfl
@[simp] theorem ft_fldOf_200_6 : fldOf Tryz.prog 200 6 = some (6, false, 1) := by kernel_rfl
@[simp] theorem ft_fldOf_200_7 : fldOf Tryz.prog 200 7 = some (7, false, 1) := by kernel_rfl
@[simp] theorem ft_fldOf_200_8 : fldOf Tryz.prog 200 8 = some (8, false, 1) := by kernel_rfl
@[simp] theorem ft_fldOf_200_9 : fldOf Tryz.prog 200 9 = some (9, false, 1) := by kernel_rfl
@[simp] theorem ft_fldOf_200_10 : fldOf Tryz.prog 200 10 = some (10, false, 1) := by kernel_rfl
@[simp] theorem ft_tySz_201 : tySz Tryz.prog 201 = some (true, 11) := by kernel_rfl
@[simp] theorem ft_zeroOf_201 : zeroOf Tryz.prog 201 = some (Value.agg [Value.int IntKind.u64 (0), Value.int IntKind.u64 (0), Value.int IntKind.u32 (0), Value.int IntKind.u8 (0), Value.int IntKind.u8 (0), Value.int IntKind.u8 (0), Value.int IntKind.u8 (0), Value.nilFunc, Value.pointer none, Value.int IntKind.i32 (0), Value.int IntKind.i32 (0)].toArray) := by kernel_rfl
@[simp] theorem ft_plOf_201 : plOf Tryz.prog 201 = some (Sum.inl [(0, 1), (1, 1), (2, 1), (3, 1), (4, 1), (5, 1), (6, 1), (7, 1), (8, 1), (9, 1), (10, 1)]) := by kernel_rfl
@[simp] theorem ft_und_201 : (Tryz.prog.underlying 201).isSome = true := by kernel_rfl
@[simp] theorem ft_fldOf_201_0 : fldOf Tryz.prog 201 0 = some (0, false, 1) := by kernel_rfl
@[simp] theorem ft_fldOf_201_1 : fldOf Tryz.prog 201 1 = some (1, false, 1) := by kernel_rfl
@[simp] theorem ft_fldOf_201_2 : fldOf Tryz.prog 201 2 = some (2, false, 1) := by kernel_rfl
@[simp] theorem ft_fldOf_201_3 : fldOf Tryz.prog 201 3 = some (3, false, 1) := by kernel_rfl
@[simp] theorem ft_fldOf_201_4 : fldOf Tryz.prog 201 4 = some (4, false, 1) := by kernel_rfl
@[simp] theorem ft_fldOf_201_5 : fldOf Tryz.prog 201 5 = some (5, false, 1) := by kernel_rfl
@[simp] theorem ft_fldOf_201_6 : fldOf Tryz.prog 201 6 = some (6, false, 1) := by kernel_rfl
@[simp] theorem ft_fldOf_201_7 : fldOf Tryz.prog 201 7 = some (7, false, 1) := by kernel_rfl
@[simp] theorem ft_fldOf_201_8 : fldOf Tryz.prog 201 8 = some (8, false, 1) := by kernel_rfl
@[simp] theorem ft_fldOf_201_9 : fldOf Tryz.prog 201 9 = some (9, false, 1) := by kernel_rfl
@[simp] theorem ft_fldOf_201_10 : fldOf Tryz.prog 201 10 = some (10, false, 1) := by kernel_rfl
@[simp] theorem ft_tySz_202 : tySz Tryz.prog 202 = some (false, 1) := by kernel_rfl
@[simp] theorem ft_zeroOf_202 : zeroOf Tryz.prog 202 = some Value.nilFunc := by kernel_rfl
@[simp] theorem ft_und_202 : (Tryz.prog.underlying 202).isSome = true := by kernel_rfl
@[simp] theorem ft_tySz_203 : tySz Tryz.prog 203 = some (false, 1) := by kernel_rfl
@[simp] theorem ft_zeroOf_203 : zeroOf Tryz.prog 203 = some (Value.pointer none) := by kernel_rfl
@[simp] theorem ft_und_203 : (Tryz.prog.underlying 203).isSome = true := by kernel_rfl
end Go.Proofs.YtkfiiomdkljjnaaGreat
