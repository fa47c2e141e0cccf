/- Contracts of functions of the seat, proved in a logic on data over the model (part AD). -/
import Derived.Test.YtlphpbcafplnbaaGreatProg
import Derived.KernelRfl
import Derived.Test.YtlphpbcafplnbaaGreatVN17
set_option linter.unusedSimpArgs false
set_option linter.unusedVariables false
namespace Go.Proofs.YtlphpbcafplnbaaGreat
open Go.VL Go.RowKit
@[simp] theorem ft_tySz_2:tySz Tryz.prog 2=some (false,1):=by kernel_rfl
@[simp] theorem ft_intOfTy_2:intOfTy Tryz.prog 2=some IntKind.i64:=by kernel_rfl
@[simp] theorem ft_tySz_3:tySz Tryz.prog 3=some (false,1):=by kernel_rfl
@[simp] theorem ft_dfl_3:dflC Tryz.prog 3 = .v (.int .i64 0):=by kernel_rfl
@[simp] theorem ft_intOfTy_3:intOfTy Tryz.prog 3=some IntKind.i64:=by kernel_rfl
@[simp] theorem ft_tySz_4:tySz Tryz.prog 4=some (false,1):=by kernel_rfl
@[simp] theorem ft_intOfTy_5:intOfTy Tryz.prog 5=some IntKind.u8:=by kernel_rfl
@[simp] theorem ft_tySz_9:tySz Tryz.prog 9=some (false,1):=by kernel_rfl
@[simp] theorem ft_dfl_9:dflC Tryz.prog 9 = .v (.int .i64 0):=by kernel_rfl
@[simp] theorem ft_tySz_22:tySz Tryz.prog 22=some (false,1):=by kernel_rfl
@[simp] theorem ft_esz_22:esz Tryz.prog 22=some 3:=by kernel_rfl
@[simp] theorem ft_isSl_22:isSl Tryz.prog 22=true:=by kernel_rfl
@[simp] theorem ft_zeroOf_22:zeroOf Tryz.prog 22=some (Value.slice none 0 0):=by kernel_rfl
@[simp] theorem ft_elZ_22:elZ Tryz.prog 22=some (3,[C.sl true [],C.v (Value.int IntKind.i64 (0)),C.v (Value.int IntKind.i64 (0))]):=by kernel_rfl
@[simp] theorem ft_slT_22:slT Tryz.prog 22=some (3,40):=by kernel_rfl
@[simp] theorem ft_apT_22:apT Tryz.prog 22 22=some (3,40):=by kernel_rfl
@[simp ↓] theorem ft_vmk_22 (l c:S) (y:Nat) (st:St) (K:St→Prop):vmk Tryz.prog 22 l c y st K=force (tick (sint l)) fun l=>force (tick (sint c)) fun c=>vmkZ (some (3,[C.sl true [],C.v (Value.int IntKind.i64 (0)),C.v (Value.int IntKind.i64 (0))])) (some (3,40)) l c y st K:=vmk_iff st K 22 l c y ft_elZ_22 ft_slT_22
@[simp] theorem ft_tySz_26:tySz Tryz.prog 26=some (false,1):=by kernel_rfl
@[simp] theorem ft_isIf_26:isIf Tryz.prog 26=true:=by kernel_rfl
@[simp] theorem ft_tySz_27:tySz Tryz.prog 27=some (false,1):=by kernel_rfl
@[simp] theorem ft_zeroOf_27:zeroOf Tryz.prog 27=some (Value.int IntKind.i64 (0)):=by kernel_rfl
@[simp] theorem ft_tySz_36:tySz Tryz.prog 36=some (false,1):=by kernel_rfl
@[simp] theorem ft_esz_36:esz Tryz.prog 36=some 3:=by kernel_rfl
@[simp] theorem ft_dfl_36:dflC Tryz.prog 36 = .sl true []:=by kernel_rfl
@[simp] theorem ft_isSl_36:isSl Tryz.prog 36=true:=by kernel_rfl
@[simp] theorem ft_elZ_36:elZ Tryz.prog 36=some (3,[C.v (Value.int IntKind.i64 (0)),C.v (Value.int IntKind.i64 (0)),C.v (Value.string ⟨#[]⟩)]):=by kernel_rfl
@[simp] theorem ft_slT_36:slT Tryz.prog 36=some (3,32):=by kernel_rfl
@[simp] theorem ft_apT_36:apT Tryz.prog 36 36=some (3,32):=by kernel_rfl
@[simp ↓] theorem ft_vmk_36 (l c:S) (y:Nat) (st:St) (K:St→Prop):vmk Tryz.prog 36 l c y st K=force (tick (sint l)) fun l=>force (tick (sint c)) fun c=>vmkZ (some (3,[C.v (Value.int IntKind.i64 (0)),C.v (Value.int IntKind.i64 (0)),C.v (Value.string ⟨#[]⟩)])) (some (3,32)) l c y st K:=vmk_iff st K 36 l c y ft_elZ_36 ft_slT_36
@[simp] theorem ft_tySz_38:tySz Tryz.prog 38=some (true,2):=by kernel_rfl
@[simp] theorem ft_zeroOf_38:zeroOf Tryz.prog 38=some (Value.agg [Value.int IntKind.i64 (0),Value.int IntKind.i64 (0)].toArray):=by kernel_rfl
@[simp] theorem ft_plOf_38:plOf Tryz.prog 38=some (Sum.inl [(0,1),(1,1)]):=by kernel_rfl
@[simp] theorem ft_eqT_38:eqT Tryz.prog 38=some [FK.i,FK.i]:=by kernel_rfl
@[simp] theorem ft_fldOf_38_0:fldOf Tryz.prog 38 0=some (0,false,1):=by kernel_rfl
@[simp] theorem ft_fldOf_38_1:fldOf Tryz.prog 38 1=some (1,false,1):=by kernel_rfl
@[simp] theorem ft_tySz_40:tySz Tryz.prog 40=some (true,3):=by kernel_rfl
@[simp] theorem ft_zeroOf_40:zeroOf Tryz.prog 40=some (Value.agg [Value.slice none 0 0,Value.int IntKind.i64 (0),Value.int IntKind.i64 (0)].toArray):=by kernel_rfl
@[simp] theorem ft_plOf_40:plOf Tryz.prog 40=some (Sum.inl [(0,1),(1,2)]):=by kernel_rfl
@[simp] theorem ft_fldOf_40_0:fldOf Tryz.prog 40 0=some (0,false,1):=by kernel_rfl
@[simp] theorem ft_fldOf_40_1:fldOf Tryz.prog 40 1=some (1,true,2):=by kernel_rfl
@[simp] theorem ft_esz_45:esz Tryz.prog 45=some 1:=by kernel_rfl
@[simp] theorem ft_isSl_45:isSl Tryz.prog 45=true:=by kernel_rfl
@[simp] theorem ft_elZ_45:elZ Tryz.prog 45=some (1,[C.sl true []]):=by kernel_rfl
@[simp] theorem ft_tySz_53:tySz Tryz.prog 53=some (false,1):=by kernel_rfl
@[simp] theorem ft_esz_53:esz Tryz.prog 53=some 1:=by kernel_rfl
@[simp] theorem ft_isSl_53:isSl Tryz.prog 53=true:=by kernel_rfl
@[simp] theorem ft_elZ_53:elZ Tryz.prog 53=some (1,[C.v (Value.int IntKind.i64 (0))]):=by kernel_rfl
@[simp] theorem ft_slT_53:slT Tryz.prog 53=some (1,8):=by kernel_rfl
@[simp] theorem ft_apT_53:apT Tryz.prog 53 53=some (1,8):=by kernel_rfl
@[simp ↓] theorem ft_vmk_53 (l c:S) (y:Nat) (st:St) (K:St→Prop):vmk Tryz.prog 53 l c y st K=force (tick (sint l)) fun l=>force (tick (sint c)) fun c=>vmkZ (some (1,[C.v (Value.int IntKind.i64 (0))])) (some (1,8)) l c y st K:=vmk_iff st K 53 l c y ft_elZ_53 ft_slT_53
@[simp] theorem ft_tySz_58:tySz Tryz.prog 58=some (true,3):=by kernel_rfl
@[simp] theorem ft_zeroOf_58:zeroOf Tryz.prog 58=some (Value.agg [Value.int IntKind.i64 (0),Value.int IntKind.i64 (0),Value.string ⟨#[]⟩].toArray):=by kernel_rfl
@[simp] theorem ft_plOf_58:plOf Tryz.prog 58=some (Sum.inl [(0,1),(1,1),(2,1)]):=by kernel_rfl
@[simp] theorem ft_eqT_58:eqT Tryz.prog 58=some [FK.i,FK.i,FK.s]:=by kernel_rfl
@[simp] theorem ft_fldOf_58_0:fldOf Tryz.prog 58 0=some (0,false,1):=by kernel_rfl
@[simp] theorem ft_fldOf_58_1:fldOf Tryz.prog 58 1=some (1,false,1):=by kernel_rfl
@[simp] theorem ft_fldOf_58_2:fldOf Tryz.prog 58 2=some (2,false,1):=by kernel_rfl
@[simp] theorem ft_tySz_60:tySz Tryz.prog 60=some (false,1):=by kernel_rfl
@[simp] theorem ft_esz_60:esz Tryz.prog 60=some 5:=by kernel_rfl
@[simp] theorem ft_isSl_60:isSl Tryz.prog 60=true:=by kernel_rfl
@[simp] theorem ft_elZ_60:elZ Tryz.prog 60=some (5,[C.v (Value.string ⟨#[]⟩),C.v (Value.int IntKind.i64 (0)),C.v (Value.string ⟨#[]⟩),C.v (Value.string ⟨#[]⟩),C.sl true []]):=by kernel_rfl
@[simp] theorem ft_apT_60:apT Tryz.prog 60 60=some (5,80):=by kernel_rfl
@[simp] theorem ft_fldOf_62_0:fldOf Tryz.prog 62 0=some (0,true,2):=by kernel_rfl
@[simp] theorem ft_fldOf_62_1:fldOf Tryz.prog 62 1=some (2,false,1):=by kernel_rfl
@[simp] theorem ft_tySz_63:tySz Tryz.prog 63=some (false,1):=by kernel_rfl
@[simp] theorem ft_esz_63:esz Tryz.prog 63=some 7:=by kernel_rfl
@[simp] theorem ft_isSl_63:isSl Tryz.prog 63=true:=by kernel_rfl
@[simp] theorem ft_elZ_63:elZ Tryz.prog 63=some (7,[C.v (Value.string ⟨#[]⟩),C.v (Value.int IntKind.i64 (0)),C.v (Value.int IntKind.i64 (0)),C.v (Value.int IntKind.i64 (0)),C.v (Value.string ⟨#[]⟩),C.v (Value.int IntKind.i64 (0)),C.sl true []]):=by kernel_rfl
@[simp] theorem ft_apT_63:apT Tryz.prog 63 63=some (7,88):=by kernel_rfl
@[simp] theorem ft_tySz_65:tySz Tryz.prog 65=some (true,5):=by kernel_rfl
@[simp] theorem ft_zeroOf_65:zeroOf Tryz.prog 65=some (Value.agg [Value.string ⟨#[]⟩,Value.int IntKind.i64 (0),Value.string ⟨#[]⟩,Value.string ⟨#[]⟩,Value.slice none 0 0].toArray):=by kernel_rfl
@[simp] theorem ft_fldOf_65_0:fldOf Tryz.prog 65 0=some (0,false,1):=by kernel_rfl
@[simp] theorem ft_fldOf_65_1:fldOf Tryz.prog 65 1=some (1,false,1):=by kernel_rfl
@[simp] theorem ft_fldOf_65_2:fldOf Tryz.prog 65 2=some (2,false,1):=by kernel_rfl
@[simp] theorem ft_fldOf_65_3:fldOf Tryz.prog 65 3=some (3,false,1):=by kernel_rfl
@[simp] theorem ft_fldOf_65_4:fldOf Tryz.prog 65 4=some (4,false,1):=by kernel_rfl
@[simp] theorem ft_tySz_67:tySz Tryz.prog 67=some (true,7):=by kernel_rfl
@[simp] theorem ft_zeroOf_67:zeroOf Tryz.prog 67=some (Value.agg [Value.string ⟨#[]⟩,Value.int IntKind.i64 (0),Value.int IntKind.i64 (0),Value.int IntKind.i64 (0),Value.string ⟨#[]⟩,Value.int IntKind.i64 (0),Value.slice none 0 0].toArray):=by kernel_rfl
@[simp] theorem ft_plOf_67:plOf Tryz.prog 67=some (Sum.inl [(0,1),(1,1),(2,3),(5,1),(6,1)]):=by kernel_rfl
@[simp] theorem ft_fldOf_67_0:fldOf Tryz.prog 67 0=some (0,false,1):=by kernel_rfl
@[simp] theorem ft_fldOf_67_1:fldOf Tryz.prog 67 1=some (1,false,1):=by kernel_rfl
@[simp] theorem ft_fldOf_67_2:fldOf Tryz.prog 67 2=some (2,true,3):=by kernel_rfl
@[simp] theorem ft_fldOf_67_3:fldOf Tryz.prog 67 3=some (5,false,1):=by kernel_rfl
@[simp] theorem ft_fldOf_67_4:fldOf Tryz.prog 67 4=some (6,false,1):=by kernel_rfl
@[simp] theorem ft_esz_70:esz Tryz.prog 70=some 3:=by kernel_rfl
@[simp] theorem ft_isSl_70:isSl Tryz.prog 70=true:=by kernel_rfl
@[simp] theorem ft_elZ_70:elZ Tryz.prog 70=some (3,[C.v (Value.string ⟨#[]⟩),C.v (Value.string ⟨#[]⟩),C.v (Value.int IntKind.i64 (0))]):=by kernel_rfl
@[simp] theorem ft_apT_70:apT Tryz.prog 70 70=some (3,40):=by kernel_rfl
@[simp] theorem ft_tySz_72:tySz Tryz.prog 72=some (false,1):=by kernel_rfl
@[simp] theorem ft_esz_72:esz Tryz.prog 72=some 2:=by kernel_rfl
@[simp] theorem ft_isSl_72:isSl Tryz.prog 72=true:=by kernel_rfl
@[simp] theorem ft_elZ_72:elZ Tryz.prog 72=some (2,[C.v (Value.string ⟨#[]⟩),C.v (Value.int IntKind.i64 (0))]):=by kernel_rfl
@[simp] theorem ft_tySz_73:tySz Tryz.prog 73=some (false,1):=by kernel_rfl
@[simp] theorem ft_esz_73:esz Tryz.prog 73=some 1:=by kernel_rfl
@[simp] theorem ft_isSl_73:isSl Tryz.prog 73=true:=by kernel_rfl
@[simp] theorem ft_elZ_73:elZ Tryz.prog 73=some (1,[C.v (Value.string ⟨#[]⟩)]):=by kernel_rfl
@[simp] theorem ft_apT_73:apT Tryz.prog 73 73=some (1,16):=by kernel_rfl
@[simp] theorem ft_tySz_75:tySz Tryz.prog 75=some (true,5):=by kernel_rfl
@[simp] theorem ft_zeroOf_75:zeroOf Tryz.prog 75=some (Value.agg [Value.int IntKind.i64 (0),Value.string ⟨#[]⟩,Value.slice none 0 0,Value.slice none 0 0,Value.bool false].toArray):=by kernel_rfl
@[simp] theorem ft_plOf_75:plOf Tryz.prog 75=some (Sum.inl [(0,1),(1,1),(2,1),(3,1),(4,1)]):=by kernel_rfl
@[simp] theorem ft_fldOf_75_1:fldOf Tryz.prog 75 1=some (1,false,1):=by kernel_rfl
@[simp] theorem ft_fldOf_75_2:fldOf Tryz.prog 75 2=some (2,false,1):=by kernel_rfl
@[simp] theorem ft_esz_78:esz Tryz.prog 78=some 3:=by kernel_rfl
@[simp] theorem ft_isSl_78:isSl Tryz.prog 78=true:=by kernel_rfl
@[simp] theorem ft_elZ_78:elZ Tryz.prog 78=some (3,[C.v (Value.string ⟨#[]⟩),C.v (Value.string ⟨#[]⟩),C.v (Value.int IntKind.i64 (0))]):=by kernel_rfl
@[simp] theorem ft_apT_78:apT Tryz.prog 78 78=some (3,40):=by kernel_rfl
@[simp] theorem ft_arrOf_82:arrOf Tryz.prog 82=some (2,false,1):=by kernel_rfl
@[simp] theorem ft_tySz_83:tySz Tryz.prog 83=some (false,1):=by kernel_rfl
@[simp] theorem ft_esz_83:esz Tryz.prog 83=some 2:=by kernel_rfl
@[simp] theorem ft_isSl_83:isSl Tryz.prog 83=true:=by kernel_rfl
@[simp] theorem ft_elZ_83:elZ Tryz.prog 83=some (2,[C.v (Value.int IntKind.i64 (0)),C.v (Value.int IntKind.i64 (0))]):=by kernel_rfl
@[simp] theorem ft_apT_83:apT Tryz.prog 83 83=some (2,16):=by kernel_rfl
@[simp] theorem ft_tySz_85:tySz Tryz.prog 85=some (true,9):=by kernel_rfl
@[simp] theorem ft_zeroOf_85:zeroOf Tryz.prog 85=some (Value.agg [Value.slice none 0 0,Value.slice none 0 0,Value.bool false,Value.bool false,Value.bool false,Value.slice none 0 0,Value.slice none 0 0,Value.int IntKind.i64 (0),Value.bool false].toArray):=by kernel_rfl
@[simp] theorem ft_plOf_85:plOf Tryz.prog 85=some (Sum.inl [(0,1),(1,1),(2,1),(3,2),(5,1),(6,1),(7,1),(8,1)]):=by kernel_rfl
@[simp] theorem ft_fldOf_85_0:fldOf Tryz.prog 85 0=some (0,false,1):=by kernel_rfl
@[simp] theorem ft_fldOf_85_1:fldOf Tryz.prog 85 1=some (1,false,1):=by kernel_rfl
@[simp] theorem ft_fldOf_85_2:fldOf Tryz.prog 85 2=some (2,false,1):=by kernel_rfl
@[simp] theorem ft_fldOf_85_3:fldOf Tryz.prog 85 3=some (3,true,2):=by kernel_rfl
@[simp] theorem ft_fldOf_85_4:fldOf Tryz.prog 85 4=some (5,false,1):=by kernel_rfl
@[simp] theorem ft_fldOf_85_5:fldOf Tryz.prog 85 5=some (6,false,1):=by kernel_rfl
@[simp] theorem ft_fldOf_85_6:fldOf Tryz.prog 85 6=some (7,false,1):=by kernel_rfl
@[simp] theorem ft_fldOf_85_7:fldOf Tryz.prog 85 7=some (8,false,1):=by kernel_rfl
@[simp] theorem ft_tySz_87:tySz Tryz.prog 87=some (true,4):=by kernel_rfl
@[simp] theorem ft_zeroOf_87:zeroOf Tryz.prog 87=some (Value.agg [Value.bool false,Value.int IntKind.i64 (0),Value.bool false,Value.bool false].toArray):=by kernel_rfl
@[simp] theorem ft_plOf_87:plOf Tryz.prog 87=some (Sum.inl [(0,1),(1,1),(2,1),(3,1)]):=by kernel_rfl
@[simp] theorem ft_eqT_87:eqT Tryz.prog 87=some [FK.b,FK.i,FK.b,FK.b]:=by kernel_rfl
@[simp] theorem ft_fldOf_87_0:fldOf Tryz.prog 87 0=some (0,false,1):=by kernel_rfl
@[simp] theorem ft_fldOf_87_1:fldOf Tryz.prog 87 1=some (1,false,1):=by kernel_rfl
@[simp] theorem ft_fldOf_87_2:fldOf Tryz.prog 87 2=some (2,false,1):=by kernel_rfl
@[simp] theorem ft_fldOf_87_3:fldOf Tryz.prog 87 3=some (3,false,1):=by kernel_rfl
@[simp] theorem ft_tySz_88:tySz Tryz.prog 88=some (false,1):=by kernel_rfl
@[simp] theorem ft_esz_88:esz Tryz.prog 88=some 3:=by kernel_rfl
@[simp] theorem ft_isSl_88:isSl Tryz.prog 88=true:=by kernel_rfl
@[simp] theorem ft_elZ_88:elZ Tryz.prog 88=some (3,[C.sl true [],C.v (Value.int IntKind.i64 (0)),C.v (Value.bool false)]):=by kernel_rfl
@[simp] theorem ft_apT_88:apT Tryz.prog 88 88=some (3,40):=by kernel_rfl
@[simp] theorem ft_tySz_90:tySz Tryz.prog 90=some (true,3):=by kernel_rfl
@[simp] theorem ft_zeroOf_90:zeroOf Tryz.prog 90=some (Value.agg [Value.slice none 0 0,Value.slice none 0 0,Value.slice none 0 0].toArray):=by kernel_rfl
@[simp] theorem ft_plOf_90:plOf Tryz.prog 90=some (Sum.inl [(0,1),(1,1),(2,1)]):=by kernel_rfl
@[simp] theorem ft_fldOf_90_0:fldOf Tryz.prog 90 0=some (0,false,1):=by kernel_rfl
@[simp] theorem ft_fldOf_90_1:fldOf Tryz.prog 90 1=some (1,false,1):=by kernel_rfl
@[simp] theorem ft_fldOf_90_2:fldOf Tryz.prog 90 2=some (2,false,1):=by kernel_rfl
@[simp] theorem ft_tySz_91:tySz Tryz.prog 91=some (false,1):=by kernel_rfl
@[simp] theorem ft_elZ_91:elZ Tryz.prog 91=some (3,[C.sl true [],C.v (Value.int IntKind.i64 (0)),C.v (Value.bool false)]):=by kernel_rfl
@[simp] theorem ft_apT_91:apT Tryz.prog 91 91=some (3,40):=by kernel_rfl
@[simp] theorem ft_tySz_93:tySz Tryz.prog 93=some (true,4):=by kernel_rfl
@[simp] theorem ft_zeroOf_93:zeroOf Tryz.prog 93=some (Value.agg [Value.slice none 0 0,Value.slice none 0 0,Value.slice none 0 0,Value.slice none 0 0].toArray):=by kernel_rfl
@[simp] theorem ft_plOf_93:plOf Tryz.prog 93=some (Sum.inl [(0,1),(1,1),(2,1),(3,1)]):=by kernel_rfl
@[simp] theorem ft_fldOf_93_0:fldOf Tryz.prog 93 0=some (0,false,1):=by kernel_rfl
@[simp] theorem ft_fldOf_93_1:fldOf Tryz.prog 93 1=some (1,false,1):=by kernel_rfl
@[simp] theorem ft_esz_96:esz Tryz.prog 96=some 4:=by kernel_rfl
@[simp] theorem ft_isSl_96:isSl Tryz.prog 96=true:=by kernel_rfl
@[simp] theorem ft_elZ_96:elZ Tryz.prog 96=some (4,[C.v (Value.bool false),C.v (Value.int IntKind.i64 (0)),C.v (Value.bool false),C.v (Value.bool false)]):=by kernel_rfl
@[simp] theorem ft_apT_96:apT Tryz.prog 96 96=some (4,24):=by kernel_rfl
@[simp] theorem ft_tySz_118:tySz Tryz.prog 118=some (true,3):=by kernel_rfl
@[simp] theorem ft_zeroOf_118:zeroOf Tryz.prog 118=some (Value.agg [Value.slice none 0 0,Value.int IntKind.i64 (0),Value.bool false].toArray):=by kernel_rfl
@[simp] theorem ft_plOf_118:plOf Tryz.prog 118=some (Sum.inl [(0,1),(1,1),(2,1)]):=by kernel_rfl
@[simp] theorem ft_fldOf_118_0:fldOf Tryz.prog 118 0=some (0,false,1):=by kernel_rfl
@[simp] theorem ft_fldOf_118_1:fldOf Tryz.prog 118 1=some (1,false,1):=by kernel_rfl
@[simp] theorem ft_fldOf_118_2:fldOf Tryz.prog 118 2=some (2,false,1):=by kernel_rfl
@[simp] theorem ft_tySz_123:tySz Tryz.prog 123=some (true,2):=by kernel_rfl
@[simp] theorem ft_zeroOf_123:zeroOf Tryz.prog 123=some (Value.agg [Value.nilIface,Value.nilIface].toArray):=by kernel_rfl
@[simp] theorem ft_plOf_123:plOf Tryz.prog 123=some (Sum.inl [(0,1),(1,1)]):=by kernel_rfl
@[simp] theorem ft_fldOf_123_0:fldOf Tryz.prog 123 0=some (0,false,1):=by kernel_rfl
@[simp] theorem ft_fldOf_123_1:fldOf Tryz.prog 123 1=some (1,false,1):=by kernel_rfl
@[simp] theorem ft_tySz_125:tySz Tryz.prog 125=some (true,2):=by kernel_rfl
@[simp] theorem ft_zeroOf_125:zeroOf Tryz.prog 125=some (Value.agg [Value.nilIface,Value.nilIface].toArray):=by kernel_rfl
@[simp] theorem ft_plOf_125:plOf Tryz.prog 125=some (Sum.inl [(0,2)]):=by kernel_rfl
@[simp] theorem ft_isIface_125:isIface Tryz.prog 125=false:=by kernel_rfl
@[simp] theorem ft_fldOf_125_0:fldOf Tryz.prog 125 0=some (0,true,2):=by kernel_rfl
@[simp] theorem ft_tySz_126:tySz Tryz.prog 126=some (true,2):=by kernel_rfl
@[simp] theorem ft_zeroOf_126:zeroOf Tryz.prog 126=some (Value.agg [Value.nilIface,Value.nilIface].toArray):=by kernel_rfl
@[simp] theorem ft_plOf_126:plOf Tryz.prog 126=some (Sum.inl [(0,2)]):=by kernel_rfl
@[simp] theorem ft_isIface_126:isIface Tryz.prog 126=false:=by kernel_rfl
@[simp] theorem ft_fldOf_126_0:fldOf Tryz.prog 126 0=some (0,true,2):=by kernel_rfl
@[simp] theorem ft_tySz_127:tySz Tryz.prog 127=some (true,2):=by kernel_rfl
@[simp] theorem ft_zeroOf_127:zeroOf Tryz.prog 127=some (Value.agg [Value.nilIface,Value.nilIface].toArray):=by kernel_rfl
@[simp] theorem ft_plOf_127:plOf Tryz.prog 127=some (Sum.inl [(0,2)]):=by kernel_rfl
@[simp] theorem ft_isIface_127:isIface Tryz.prog 127=false:=by kernel_rfl
@[simp] theorem ft_fldOf_127_0:fldOf Tryz.prog 127 0=some (0,true,2):=by kernel_rfl
@[simp] theorem ft_tySz_128:tySz Tryz.prog 128=some (true,2):=by kernel_rfl
@[simp] theorem ft_zeroOf_128:zeroOf Tryz.prog 128=some (Value.agg [Value.nilIface,Value.nilIface].toArray):=by kernel_rfl
@[simp] theorem ft_plOf_128:plOf Tryz.prog 128=some (Sum.inl [(0,2)]):=by kernel_rfl
@[simp] theorem ft_isIface_128:isIface Tryz.prog 128=false:=by kernel_rfl
@[simp] theorem ft_fldOf_128_0:fldOf Tryz.prog 128 0=some (0,true,2):=by kernel_rfl
@[simp] theorem ft_tySz_130:tySz Tryz.prog 130=some (true,1):=by kernel_rfl
@[simp] theorem ft_zeroOf_130:zeroOf Tryz.prog 130=some (Value.agg [Value.slice none 0 0].toArray):=by kernel_rfl
@[simp] theorem ft_plOf_130:plOf Tryz.prog 130=some (Sum.inl [(0,1)]):=by kernel_rfl
@[simp] theorem ft_isIface_130:isIface Tryz.prog 130=false:=by kernel_rfl
@[simp] theorem ft_fldOf_130_0:fldOf Tryz.prog 130 0=some (0,false,1):=by kernel_rfl
@[simp] theorem ft_esz_132:esz Tryz.prog 132=some 3:=by kernel_rfl
@[simp] theorem ft_isSl_132:isSl Tryz.prog 132=true:=by kernel_rfl
@[simp] theorem ft_elZ_132:elZ Tryz.prog 132=some (3,[C.v (Value.int IntKind.i64 (0)),C.v (Value.int IntKind.i64 (0)),C.sl true []]):=by kernel_rfl
@[simp] theorem ft_apT_132:apT Tryz.prog 132 132=some (3,40):=by kernel_rfl
@[simp] theorem ft_tySz_139:tySz Tryz.prog 139=some (true,1):=by kernel_rfl
@[simp] theorem ft_zeroOf_139:zeroOf Tryz.prog 139=some (Value.agg [Value.nilIface].toArray):=by kernel_rfl
@[simp] theorem ft_plOf_139:plOf Tryz.prog 139=some (Sum.inl [(0,1)]):=by kernel_rfl
@[simp] theorem ft_fldOf_139_0:fldOf Tryz.prog 139 0=some (0,false,1):=by kernel_rfl
@[simp] theorem ft_tySz_141:tySz Tryz.prog 141=some (true,2):=by kernel_rfl
@[simp] theorem ft_zeroOf_141:zeroOf Tryz.prog 141=some (Value.agg [Value.nilIface,Value.int IntKind.i64 (0)].toArray):=by kernel_rfl
@[simp] theorem ft_plOf_141:plOf Tryz.prog 141=some (Sum.inl [(0,1),(1,1)]):=by kernel_rfl
@[simp] theorem ft_isIface_141:isIface Tryz.prog 141=false:=by kernel_rfl
@[simp] theorem ft_fldOf_141_0:fldOf Tryz.prog 141 0=some (0,true,1):=by kernel_rfl
@[simp] theorem ft_fldOf_141_1:fldOf Tryz.prog 141 1=some (1,false,1):=by kernel_rfl
@[simp] theorem ft_tySz_143:tySz Tryz.prog 143=some (true,3):=by kernel_rfl
@[simp] theorem ft_zeroOf_143:zeroOf Tryz.prog 143=some (Value.agg [Value.nilIface,Value.int IntKind.i64 (0),Value.int IntKind.i64 (0)].toArray):=by kernel_rfl
@[simp] theorem ft_plOf_143:plOf Tryz.prog 143=some (Sum.inl [(0,1),(1,2)]):=by kernel_rfl
@[simp] theorem ft_isIface_143:isIface Tryz.prog 143=false:=by kernel_rfl
@[simp] theorem ft_fldOf_143_0:fldOf Tryz.prog 143 0=some (0,true,1):=by kernel_rfl
@[simp] theorem ft_fldOf_143_1:fldOf Tryz.prog 143 1=some (1,true,2):=by kernel_rfl
@[simp] theorem ft_tySz_153:tySz Tryz.prog 153=some (true,2):=by kernel_rfl
@[simp] theorem ft_zeroOf_153:zeroOf Tryz.prog 153=some (Value.agg [Value.string ⟨#[]⟩,Value.int IntKind.i64 (0)].toArray):=by kernel_rfl
@[simp] theorem ft_plOf_153:plOf Tryz.prog 153=some (Sum.inl [(0,1),(1,1)]):=by kernel_rfl
@[simp] theorem ft_fldOf_153_0:fldOf Tryz.prog 153 0=some (0,false,1):=by kernel_rfl
@[simp] theorem ft_fldOf_153_1:fldOf Tryz.prog 153 1=some (1,false,1):=by kernel_rfl
@[simp] theorem ft_tySz_155:tySz Tryz.prog 155=some (true,3):=by kernel_rfl
@[simp] theorem ft_zeroOf_155:zeroOf Tryz.prog 155=some (Value.agg [Value.string ⟨#[]⟩,Value.string ⟨#[]⟩,Value.int IntKind.i64 (0)].toArray):=by kernel_rfl
@[simp] theorem ft_plOf_155:plOf Tryz.prog 155=some (Sum.inl [(0,1),(1,2)]):=by kernel_rfl
@[simp] theorem ft_fldOf_155_0:fldOf Tryz.prog 155 0=some (0,false,1):=by kernel_rfl
@[simp] theorem ft_fldOf_155_1:fldOf Tryz.prog 155 1=some (1,true,2):=by kernel_rfl
@[simp] theorem ft_esz_158:esz Tryz.prog 158=some 5:=by kernel_rfl
@[simp] theorem ft_isSl_158:isSl Tryz.prog 158=true:=by kernel_rfl
@[simp] theorem ft_elZ_158:elZ Tryz.prog 158=some (5,[C.v (Value.int IntKind.i64 (0)),C.v (Value.string ⟨#[]⟩),C.sl true [],C.sl true [],C.v (Value.bool false)]):=by kernel_rfl
@[simp] theorem ft_apT_158:apT Tryz.prog 158 158=some (5,80):=by kernel_rfl
@[simp] theorem ft_tySz_159:tySz Tryz.prog 159=some (false,1):=by kernel_rfl
@[simp] theorem ft_esz_159:esz Tryz.prog 159=some 1:=by kernel_rfl
@[simp] theorem ft_isSl_159:isSl Tryz.prog 159=true:=by kernel_rfl
@[simp] theorem ft_elZ_159:elZ Tryz.prog 159=some (1,[C.sl true []]):=by kernel_rfl
@[simp] theorem ft_apT_159:apT Tryz.prog 159 159=some (1,24):=by kernel_rfl
@[simp] theorem ft_zeroOf_161:zeroOf Tryz.prog 161=some (Value.agg [Value.int IntKind.i64 (0),Value.int IntKind.i64 (0),Value.slice none 0 0].toArray):=by kernel_rfl
@[simp] theorem ft_plOf_161:plOf Tryz.prog 161=some (Sum.inl [(0,1),(1,1),(2,1)]):=by kernel_rfl
@[simp] theorem ft_fldOf_161_0:fldOf Tryz.prog 161 0=some (0,false,1):=by kernel_rfl
@[simp] theorem ft_fldOf_161_1:fldOf Tryz.prog 161 1=some (1,false,1):=by kernel_rfl
@[simp] theorem ft_fldOf_161_2:fldOf Tryz.prog 161 2=some (2,false,1):=by kernel_rfl
@[simp] theorem ft_esz_165:esz Tryz.prog 165=some 5:=by kernel_rfl
@[simp] theorem ft_isSl_165:isSl Tryz.prog 165=true:=by kernel_rfl
@[simp] theorem ft_elZ_165:elZ Tryz.prog 165=some (5,[C.v (Value.int IntKind.i64 (0)),C.v (Value.string ⟨#[]⟩),C.sl true [],C.sl true [],C.v (Value.bool false)]):=by kernel_rfl
@[simp] theorem ft_apT_165:apT Tryz.prog 165 165=some (5,80):=by kernel_rfl
@[simp] theorem ft_tySz_166:tySz Tryz.prog 166=some (true,5):=by kernel_rfl
@[simp] theorem ft_zeroOf_166:zeroOf Tryz.prog 166=some (Value.agg [Value.int IntKind.i64 (0),Value.string ⟨#[]⟩,Value.slice none 0 0,Value.slice none 0 0,Value.bool false].toArray):=by kernel_rfl
@[simp] theorem ft_plOf_166:plOf Tryz.prog 166=some (Sum.inl [(0,1),(1,1),(2,1),(3,1),(4,1)]):=by kernel_rfl
@[simp] theorem ft_fldOf_166_1:fldOf Tryz.prog 166 1=some (1,false,1):=by kernel_rfl
@[simp] theorem ft_fldOf_166_2:fldOf Tryz.prog 166 2=some (2,false,1):=by kernel_rfl
@[simp] theorem ft_tySz_170:tySz Tryz.prog 170=some (true,2):=by kernel_rfl
@[simp] theorem ft_zeroOf_170:zeroOf Tryz.prog 170=some (Value.agg [Value.nilIface,Value.slice none 0 0].toArray):=by kernel_rfl
@[simp] theorem ft_plOf_170:plOf Tryz.prog 170=some (Sum.inl [(0,1),(1,1)]):=by kernel_rfl
@[simp] theorem ft_isIface_170:isIface Tryz.prog 170=false:=by kernel_rfl
@[simp] theorem ft_fldOf_170_0:fldOf Tryz.prog 170 0=some (0,true,1):=by kernel_rfl
@[simp] theorem ft_fldOf_170_1:fldOf Tryz.prog 170 1=some (1,false,1):=by kernel_rfl
@[simp] theorem ft_tySz_172:tySz Tryz.prog 172=some (true,3):=by kernel_rfl
@[simp] theorem ft_zeroOf_172:zeroOf Tryz.prog 172=some (Value.agg [Value.slice none 0 0,Value.int IntKind.i64 (0),Value.bool false].toArray):=by kernel_rfl
@[simp] theorem ft_plOf_172:plOf Tryz.prog 172=some (Sum.inl [(0,1),(1,1),(2,1)]):=by kernel_rfl
@[simp] theorem ft_esz_173:esz Tryz.prog 173=some 1:=by kernel_rfl
@[simp] theorem ft_isSl_173:isSl Tryz.prog 173=true:=by kernel_rfl
@[simp] theorem ft_elZ_173:elZ Tryz.prog 173=some (1,[C.v (Value.bool false)]):=by kernel_rfl
@[simp] theorem ft_intOfTy_179:intOfTy Tryz.prog 179=some IntKind.u64:=by kernel_rfl
@[simp] theorem ft_tySz_180:tySz Tryz.prog 180=some (true,2):=by kernel_rfl
@[simp] theorem ft_zeroOf_180:zeroOf Tryz.prog 180=some (Value.agg [Value.int IntKind.i64 (0),Value.int IntKind.i64 (0)].toArray):=by kernel_rfl
@[simp] theorem ft_plOf_180:plOf Tryz.prog 180=some (Sum.inr 1):=by kernel_rfl
@[simp] theorem ft_arrOf_180:arrOf Tryz.prog 180=some (2,false,1):=by kernel_rfl
@[simp] theorem ft_tySz_185:tySz Tryz.prog 185=some (false,1):=by kernel_rfl
@[simp] theorem ft_esz_185:esz Tryz.prog 185=some 1:=by kernel_rfl
@[simp] theorem ft_isSl_185:isSl Tryz.prog 185=true:=by kernel_rfl
@[simp] theorem ft_zeroOf_185:zeroOf Tryz.prog 185=some (Value.slice none 0 0):=by kernel_rfl
@[simp] theorem ft_elZ_185:elZ Tryz.prog 185=some (1,[C.v (Value.int IntKind.i64 (0))]):=by kernel_rfl
@[simp] theorem ft_apT_185:apT Tryz.prog 185 185=some (1,8):=by kernel_rfl
@[simp] theorem ft_esz_189:esz Tryz.prog 189=some 3:=by kernel_rfl
@[simp] theorem ft_isSl_189:isSl Tryz.prog 189=true:=by kernel_rfl
@[simp] theorem ft_elZ_189:elZ Tryz.prog 189=some (3,[C.v (Value.int IntKind.i64 (0)),C.v (Value.int IntKind.i64 (0)),C.v (Value.int IntKind.i64 (0))]):=by kernel_rfl
@[simp] theorem ft_apT_189:apT Tryz.prog 189 189=some (3,24):=by kernel_rfl
@[simp] theorem ft_zeroOf_203:zeroOf Tryz.prog 203=some (Value.agg [Value.string ⟨#[]⟩,Value.string ⟨#[]⟩,Value.int IntKind.i64 (0)].toArray):=by kernel_rfl
@[simp] theorem ft_plOf_203:plOf Tryz.prog 203=some (Sum.inl [(0,1),(1,1),(2,1)]):=by kernel_rfl
@[simp] theorem ft_fldOf_203_0:fldOf Tryz.prog 203 0=some (0,false,1):=by kernel_rfl
@[simp] theorem ft_fldOf_203_1:fldOf Tryz.prog 203 1=some (1,false,1):=by kernel_rfl
@[simp] theorem ft_fldOf_203_2:fldOf Tryz.prog 203 2=some (2,false,1):=by kernel_rfl
@[simp] theorem ft_intOfTy_205:intOfTy Tryz.prog 205=some IntKind.u64:=by kernel_rfl
@[simp] theorem ft_tySz_214:tySz Tryz.prog 214=some (true,3):=by kernel_rfl
@[simp] theorem ft_zeroOf_214:zeroOf Tryz.prog 214=some (Value.agg [Value.int IntKind.i64 (0),Value.int IntKind.i64 (0),Value.int IntKind.i64 (0)].toArray):=by kernel_rfl
@[simp] theorem ft_plOf_214:plOf Tryz.prog 214=some (Sum.inl [(0,2),(2,1)]):=by kernel_rfl
@[simp] theorem ft_fldOf_214_0:fldOf Tryz.prog 214 0=some (0,true,2):=by kernel_rfl
@[simp] theorem ft_fldOf_214_1:fldOf Tryz.prog 214 1=some (2,false,1):=by kernel_rfl
@[simp] theorem ft_esz_305:esz Tryz.prog 305=some 4:=by kernel_rfl
@[simp] theorem ft_isSl_305:isSl Tryz.prog 305=true:=by kernel_rfl
@[simp] theorem ft_elZ_305:elZ Tryz.prog 305=some (4,[C.sl true [],C.v (Value.int IntKind.i64 (0)),C.v (Value.int IntKind.i64 (0)),C.v (Value.bool false)]):=by kernel_rfl
@[simp] theorem ft_apT_305:apT Tryz.prog 305 305=some (4,48):=by kernel_rfl
@[simp] theorem ft_tySz_307:tySz Tryz.prog 307=some (true,4):=by kernel_rfl
@[simp] theorem ft_zeroOf_307:zeroOf Tryz.prog 307=some (Value.agg [Value.slice none 0 0,Value.int IntKind.i64 (0),Value.int IntKind.i64 (0),Value.bool false].toArray):=by kernel_rfl
@[simp] theorem ft_plOf_307:plOf Tryz.prog 307=some (Sum.inl [(0,3),(3,1)]):=by kernel_rfl
@[simp] theorem ft_fldOf_307_0:fldOf Tryz.prog 307 0=some (0,true,3):=by kernel_rfl
@[simp] theorem ft_fldOf_307_1:fldOf Tryz.prog 307 1=some (3,false,1):=by kernel_rfl
@[simp] theorem ft_mpT_310:mpT Tryz.prog 310=some (4,TypeDesc.bool,22):=by kernel_rfl
@[simp] theorem ft_tySz_322:tySz Tryz.prog 322=some (false,1):=by kernel_rfl
@[simp] theorem ft_tySz_325:tySz Tryz.prog 325=some (false,1):=by kernel_rfl
@[simp] theorem ft_mpT_325:mpT Tryz.prog 325=some (2,TypeDesc.int IntKind.i64,38):=by kernel_rfl
@[simp] theorem ft_zeroOf_327:zeroOf Tryz.prog 327=some (Value.agg [Value.pointer none,Value.pointer none,Value.map none].toArray):=by kernel_rfl
@[simp] theorem ft_plOf_327:plOf Tryz.prog 327=some (Sum.inl [(0,1),(1,1),(2,1)]):=by kernel_rfl
@[simp] theorem ft_fldOf_327_0:fldOf Tryz.prog 327 0=some (0,false,1):=by kernel_rfl
@[simp] theorem ft_fldOf_327_1:fldOf Tryz.prog 327 1=some (1,false,1):=by kernel_rfl
@[simp] theorem ft_fldOf_327_2:fldOf Tryz.prog 327 2=some (2,false,1):=by kernel_rfl
@[simp] theorem ft_tySz_338:tySz Tryz.prog 338=some (true,1):=by kernel_rfl
@[simp] theorem ft_zeroOf_338:zeroOf Tryz.prog 338=some (Value.agg [Value.int IntKind.i64 (0)].toArray):=by kernel_rfl
@[simp] theorem ft_plOf_338:plOf Tryz.prog 338=some (Sum.inl [(0,1)]):=by kernel_rfl
@[simp] theorem ft_fldOf_338_0:fldOf Tryz.prog 338 0=some (0,false,1):=by kernel_rfl
@[simp] theorem ft_tySz_339:tySz Tryz.prog 339=some (false,1):=by kernel_rfl
@[simp] theorem ft_dfl_339:dflC Tryz.prog 339 = .v (.int .i64 0):=by kernel_rfl
@[simp] theorem ft_tySz_340:tySz Tryz.prog 340=some (false,1):=by kernel_rfl
@[simp] theorem ft_esz_340:esz Tryz.prog 340=some 1:=by kernel_rfl
@[simp] theorem ft_isSl_340:isSl Tryz.prog 340=true:=by kernel_rfl
@[simp] theorem ft_tySz_342:tySz Tryz.prog 342=some (true,3):=by kernel_rfl
@[simp] theorem ft_zeroOf_342:zeroOf Tryz.prog 342=some (Value.agg [Value.slice none 0 0,Value.slice none 0 0,Value.slice none 0 0].toArray):=by kernel_rfl
@[simp] theorem ft_plOf_342:plOf Tryz.prog 342=some (Sum.inl [(0,1),(1,1),(2,1)]):=by kernel_rfl
@[simp] theorem ft_fldOf_342_0:fldOf Tryz.prog 342 0=some (0,false,1):=by kernel_rfl
@[simp] theorem ft_fldOf_342_1:fldOf Tryz.prog 342 1=some (1,false,1):=by kernel_rfl
@[simp] theorem ft_fldOf_342_2:fldOf Tryz.prog 342 2=some (2,false,1):=by kernel_rfl
@[simp] theorem ft_zeroOf_344:zeroOf Tryz.prog 344=some (Value.agg [Value.int IntKind.i64 (0),Value.pointer none,Value.int IntKind.i64 (0)].toArray):=by kernel_rfl
@[simp] theorem ft_plOf_344:plOf Tryz.prog 344=some (Sum.inl [(0,1),(1,1),(2,1)]):=by kernel_rfl
@[simp] theorem ft_fldOf_344_0:fldOf Tryz.prog 344 0=some (0,true,1):=by kernel_rfl
@[simp] theorem ft_fldOf_344_1:fldOf Tryz.prog 344 1=some (1,false,1):=by kernel_rfl
@[simp] theorem ft_fldOf_344_2:fldOf Tryz.prog 344 2=some (2,false,1):=by kernel_rfl
@[simp] theorem ft_elZ_349:elZ Tryz.prog 349=some (1,[C.v (Value.int IntKind.u8 (0))]):=by kernel_rfl
@[simp] theorem ft_apT_349:apT Tryz.prog 349 349=some (1,1):=by kernel_rfl
@[simp] theorem ft_isBytes_349:isBytes Tryz.prog 349=true:=by kernel_rfl
@[simp] theorem ft_tySz_374:tySz Tryz.prog 374=some (true,3):=by kernel_rfl
@[simp] theorem ft_zeroOf_374:zeroOf Tryz.prog 374=some (Value.agg [Value.int IntKind.i64 (0),Value.int IntKind.i64 (0),Value.int IntKind.i64 (0)].toArray):=by kernel_rfl
@[simp] theorem ft_plOf_374:plOf Tryz.prog 374=some (Sum.inl [(0,1),(1,1),(2,1)]):=by kernel_rfl
@[simp] theorem ft_fldOf_374_0:fldOf Tryz.prog 374 0=some (0,false,1):=by kernel_rfl
@[simp] theorem ft_fldOf_374_1:fldOf Tryz.prog 374 1=some (1,false,1):=by kernel_rfl
@[simp] theorem ft_fldOf_374_2:fldOf Tryz.prog 374 2=some (2,false,1):=by kernel_rfl
@[simp] theorem ft_tySz_375:tySz Tryz.prog 375=some (false,1):=by kernel_rfl
@[simp] theorem ft_esz_375:esz Tryz.prog 375=some 3:=by kernel_rfl
@[simp] theorem ft_isSl_375:isSl Tryz.prog 375=true:=by kernel_rfl
@[simp] theorem ft_zeroOf_375:zeroOf Tryz.prog 375=some (Value.slice none 0 0):=by kernel_rfl
@[simp] theorem ft_elZ_375:elZ Tryz.prog 375=some (3,[C.v (Value.int IntKind.i64 (0)),C.v (Value.int IntKind.i64 (0)),C.v (Value.int IntKind.i64 (0))]):=by kernel_rfl
@[simp] theorem ft_apT_375:apT Tryz.prog 375 375=some (3,24):=by kernel_rfl
@[simp] theorem ft_tySz_377:tySz Tryz.prog 377=some (false,1):=by kernel_rfl
@[simp] theorem ft_mpT_377:mpT Tryz.prog 377=some (2,TypeDesc.int IntKind.i64,374):=by kernel_rfl
@[simp] theorem ft_tySz_378:tySz Tryz.prog 378=some (false,1):=by kernel_rfl
@[simp] theorem ft_isPt_378:isPt Tryz.prog 378=true:=by kernel_rfl
@[simp] theorem ft_zeroOf_380:zeroOf Tryz.prog 380=some (Value.agg [Value.pointer none,Value.map none].toArray):=by kernel_rfl
@[simp] theorem ft_plOf_380:plOf Tryz.prog 380=some (Sum.inl [(0,1),(1,1)]):=by kernel_rfl
@[simp] theorem ft_fldOf_380_0:fldOf Tryz.prog 380 0=some (0,false,1):=by kernel_rfl
@[simp] theorem ft_fldOf_380_1:fldOf Tryz.prog 380 1=some (1,false,1):=by kernel_rfl
@[simp] theorem ft_tySz_385:tySz Tryz.prog 385=some (true,5):=by kernel_rfl
@[simp] theorem ft_zeroOf_385:zeroOf Tryz.prog 385=some (Value.agg [Value.int IntKind.i64 (0),Value.int IntKind.i64 (0),Value.int IntKind.i64 (0),Value.pointer none,Value.pointer none].toArray):=by kernel_rfl
@[simp] theorem ft_plOf_385:plOf Tryz.prog 385=some (Sum.inl [(0,3),(3,1),(4,1)]):=by kernel_rfl
@[simp] theorem ft_fldOf_385_0:fldOf Tryz.prog 385 0=some (0,true,3):=by kernel_rfl
@[simp] theorem ft_fldOf_385_1:fldOf Tryz.prog 385 1=some (3,false,1):=by kernel_rfl
@[simp] theorem ft_fldOf_385_2:fldOf Tryz.prog 385 2=some (4,false,1):=by kernel_rfl
@[simp] theorem ft_tySz_395:tySz Tryz.prog 395=some (true,1):=by kernel_rfl
@[simp] theorem ft_zeroOf_395:zeroOf Tryz.prog 395=some (Value.agg [Value.int IntKind.i64 (0)].toArray):=by kernel_rfl
@[simp] theorem ft_plOf_395:plOf Tryz.prog 395=some (Sum.inl [(0,1)]):=by kernel_rfl
@[simp] theorem ft_fldOf_395_0:fldOf Tryz.prog 395 0=some (0,false,1):=by kernel_rfl
@[simp] theorem ft_meth_130:methOf Tryz.prog 130 "annals/exec.run" = some 281:=by kernel_rfl
@[simp] theorem ft_meth_141:methOf Tryz.prog 141 "annals/exec.run" = some 282:=by kernel_rfl
@[simp] theorem ft_meth_143:methOf Tryz.prog 143 "annals/exec.run" = some 283:=by kernel_rfl
@[simp] theorem ft_meth_170:methOf Tryz.prog 170 "annals/exec.run" = some 284:=by kernel_rfl
@[simp] theorem ft_meth_125:methOf Tryz.prog 125 "annals/exec.run" = some 215:=by kernel_rfl
@[simp] theorem ft_meth_126:methOf Tryz.prog 126 "annals/exec.run" = some 220:=by kernel_rfl
@[simp] theorem ft_meth_127:methOf Tryz.prog 127 "annals/exec.run" = some 231:=by kernel_rfl
@[simp] theorem ft_meth_128:methOf Tryz.prog 128 "annals/exec.run" = some 273:=by kernel_rfl
@[simp ↓] theorem vs_assign_nilI {P:Program} {ops:Array Oper} {st:St} {K:St→Prop} {ty:TypeId} {p:String} {af:Array Edge} (x:Nat) :
    vstep P ops st ⟨some x,.assign (.const .nilIface),ty,p,af,none⟩ K=(True∧K (st.put x (.c (.v .nilIface)))):=rfl
@[simp ↓] theorem vs_assign_nilP {P:Program} {ops:Array Oper} {st:St} {K:St→Prop} {ty:TypeId} {p:String} {af:Array Edge} (x:Nat) :
    vstep P ops st ⟨some x,.assign (.const (.pointer none)),ty,p,af,none⟩ K=(True∧K (st.put x (.c (.v (.pointer none))))):=rfl
end Go.Proofs.YtlphpbcafplnbaaGreat
