/- The types of the program, as far as they are asked. -/
import Derived.Test.YtbkbpnccnhaolaaProg
import Derived.Test.YtbkbpnccnhaolaaFwM
set_option linter.unusedSimpArgs false
set_option linter.unusedVariables false
namespace Go.Fw.Ty
open Go Go.Proofs

theorem tI_0 : tI Try.prog 0 = some (false, 1, [Value.tuple #[]]) := by kernel_rfl
theorem tI_1 : tI Try.prog 1 = some (false, 1, [Value.nilFunc]) := by kernel_rfl
theorem tI_2 : tI Try.prog 2 = some (false, 1, [Value.int IntKind.i64 0]) := by kernel_rfl
theorem tInt_2 : tInt Try.prog 2 = some IntKind.i64 := by kernel_rfl
theorem tI_3 : tI Try.prog 3 = some (false, 1, [Value.int IntKind.i64 0]) := by kernel_rfl
theorem tInt_3 : tInt Try.prog 3 = some IntKind.i64 := by kernel_rfl
theorem tI_4 : tI Try.prog 4 = some (false, 1, [Value.bool false]) := by kernel_rfl
theorem tBool_4 : tBool Try.prog 4 = true := by kernel_rfl
theorem tI_5 : tI Try.prog 5 = some (false, 1, [Value.int IntKind.u8 0]) := by kernel_rfl
theorem tInt_5 : tInt Try.prog 5 = some IntKind.u8 := by kernel_rfl
theorem tI_6 : tI Try.prog 6 = some (false, 1, [Value.int IntKind.u8 0]) := by kernel_rfl
theorem tInt_6 : tInt Try.prog 6 = some IntKind.u8 := by kernel_rfl
theorem tI_7 : tI Try.prog 7 = some (true, 4, [Value.int IntKind.i64 0, Value.int IntKind.i64 0, Value.bool false, Value.int IntKind.u8 0]) := by kernel_rfl
theorem fieldsOk_7 : fieldsOk Try.prog 7 = true := by kernel_rfl
theorem tField_7_0 : tField Try.prog 7 0 = some 0 := by kernel_rfl
theorem placeOf_7_0 : placeOf Try.prog 7 0 = some (0, 1) := by kernel_rfl
theorem tField_7_1 : tField Try.prog 7 1 = some 1 := by kernel_rfl
theorem placeOf_7_1 : placeOf Try.prog 7 1 = some (1, 1) := by kernel_rfl
theorem tField_7_2 : tField Try.prog 7 2 = some 2 := by kernel_rfl
theorem placeOf_7_2 : placeOf Try.prog 7 2 = some (2, 1) := by kernel_rfl
theorem tField_7_3 : tField Try.prog 7 3 = some 3 := by kernel_rfl
theorem placeOf_7_3 : placeOf Try.prog 7 3 = some (3, 1) := by kernel_rfl
theorem tI_8 : tI Try.prog 8 = some (true, 4, [Value.int IntKind.i64 0, Value.int IntKind.i64 0, Value.bool false, Value.int IntKind.u8 0]) := by kernel_rfl
theorem fieldsOk_8 : fieldsOk Try.prog 8 = true := by kernel_rfl
theorem tField_8_0 : tField Try.prog 8 0 = some 0 := by kernel_rfl
theorem placeOf_8_0 : placeOf Try.prog 8 0 = some (0, 1) := by kernel_rfl
theorem tField_8_1 : tField Try.prog 8 1 = some 1 := by kernel_rfl
theorem placeOf_8_1 : placeOf Try.prog 8 1 = some (1, 1) := by kernel_rfl
theorem tField_8_2 : tField Try.prog 8 2 = some 2 := by kernel_rfl
theorem placeOf_8_2 : placeOf Try.prog 8 2 = some (2, 1) := by kernel_rfl
theorem tField_8_3 : tField Try.prog 8 3 = some 3 := by kernel_rfl
theorem placeOf_8_3 : placeOf Try.prog 8 3 = some (3, 1) := by kernel_rfl
theorem tI_9 : tI Try.prog 9 = some (false, 1, [Value.string ⟨#[]⟩]) := by kernel_rfl
theorem tStr_9 : tStr Try.prog 9 = true := by kernel_rfl
theorem tI_10 : tI Try.prog 10 = some (false, 1, [Value.string ⟨#[]⟩]) := by kernel_rfl
theorem tStr_10 : tStr Try.prog 10 = true := by kernel_rfl
theorem tI_11 : tI Try.prog 11 = some (false, 1, [Value.string ⟨#[]⟩]) := by kernel_rfl
theorem tStr_11 : tStr Try.prog 11 = true := by kernel_rfl
theorem tI_12 : tI Try.prog 12 = some (false, 1, [Value.int IntKind.u64 0]) := by kernel_rfl
theorem tInt_12 : tInt Try.prog 12 = some IntKind.u64 := by kernel_rfl
theorem tI_13 : tI Try.prog 13 = some (true, 2, [Value.string ⟨#[]⟩, Value.int IntKind.u64 0]) := by kernel_rfl
theorem fieldsOk_13 : fieldsOk Try.prog 13 = true := by kernel_rfl
theorem tField_13_0 : tField Try.prog 13 0 = some 0 := by kernel_rfl
theorem placeOf_13_0 : placeOf Try.prog 13 0 = some (0, 1) := by kernel_rfl
theorem tField_13_1 : tField Try.prog 13 1 = some 1 := by kernel_rfl
theorem placeOf_13_1 : placeOf Try.prog 13 1 = some (1, 1) := by kernel_rfl
theorem tI_14 : tI Try.prog 14 = some (true, 2, [Value.string ⟨#[]⟩, Value.int IntKind.u64 0]) := by kernel_rfl
theorem fieldsOk_14 : fieldsOk Try.prog 14 = true := by kernel_rfl
theorem tField_14_0 : tField Try.prog 14 0 = some 0 := by kernel_rfl
theorem placeOf_14_0 : placeOf Try.prog 14 0 = some (0, 1) := by kernel_rfl
theorem tField_14_1 : tField Try.prog 14 1 = some 1 := by kernel_rfl
theorem placeOf_14_1 : placeOf Try.prog 14 1 = some (1, 1) := by kernel_rfl
theorem tI_15 : tI Try.prog 15 = some (false, 1, [Value.pointer Option.none]) := by kernel_rfl
theorem tI_16 : tI Try.prog 16 = some (false, 1, [Value.pointer Option.none]) := by kernel_rfl
theorem tI_17 : tI Try.prog 17 = some (false, 1, [Value.pointer Option.none]) := by kernel_rfl
theorem tI_18 : tI Try.prog 18 = some (true, 1, [Value.pointer Option.none]) := by kernel_rfl
theorem fieldsOk_18 : fieldsOk Try.prog 18 = true := by kernel_rfl
theorem tField_18_0 : tField Try.prog 18 0 = some 0 := by kernel_rfl
theorem placeOf_18_0 : placeOf Try.prog 18 0 = some (0, 1) := by kernel_rfl
theorem tI_19 : tI Try.prog 19 = some (true, 1, [Value.pointer Option.none]) := by kernel_rfl
theorem fieldsOk_19 : fieldsOk Try.prog 19 = true := by kernel_rfl
theorem tField_19_0 : tField Try.prog 19 0 = some 0 := by kernel_rfl
theorem placeOf_19_0 : placeOf Try.prog 19 0 = some (0, 1) := by kernel_rfl
theorem tI_20 : tI Try.prog 20 = some (false, 1, [Value.nilIface]) := by kernel_rfl
theorem tI_21 : tI Try.prog 21 = some (false, 1, [Value.int IntKind.i32 0]) := by kernel_rfl
theorem tInt_21 : tInt Try.prog 21 = some IntKind.i32 := by kernel_rfl
theorem tI_22 : tI Try.prog 22 = some (false, 1, [Value.slice Option.none 0 0]) := by kernel_rfl
theorem tElem_22 : tElem Try.prog 22 = some (1, 24, 36) := by kernel_rfl
theorem tI_23 : tI Try.prog 23 = some (false, 1, [Value.slice Option.none 0 0]) := by kernel_rfl
theorem tElem_23 : tElem Try.prog 23 = some (1, 1, 4) := by kernel_rfl
theorem tI_24 : tI Try.prog 24 = some (true, 2, [Value.slice Option.none 0 0, Value.slice Option.none 0 0]) := by kernel_rfl
theorem fieldsOk_24 : fieldsOk Try.prog 24 = true := by kernel_rfl
theorem tField_24_0 : tField Try.prog 24 0 = some 0 := by kernel_rfl
theorem placeOf_24_0 : placeOf Try.prog 24 0 = some (0, 1) := by kernel_rfl
theorem tField_24_1 : tField Try.prog 24 1 = some 1 := by kernel_rfl
theorem placeOf_24_1 : placeOf Try.prog 24 1 = some (1, 1) := by kernel_rfl
theorem tI_25 : tI Try.prog 25 = some (true, 2, [Value.slice Option.none 0 0, Value.slice Option.none 0 0]) := by kernel_rfl
theorem fieldsOk_25 : fieldsOk Try.prog 25 = true := by kernel_rfl
theorem tField_25_0 : tField Try.prog 25 0 = some 0 := by kernel_rfl
theorem placeOf_25_0 : placeOf Try.prog 25 0 = some (0, 1) := by kernel_rfl
theorem tField_25_1 : tField Try.prog 25 1 = some 1 := by kernel_rfl
theorem placeOf_25_1 : placeOf Try.prog 25 1 = some (1, 1) := by kernel_rfl
theorem tI_26 : tI Try.prog 26 = some (false, 1, [Value.nilFunc]) := by kernel_rfl
theorem tI_27 : tI Try.prog 27 = some (false, 1, [Value.nilFunc]) := by kernel_rfl
theorem tI_28 : tI Try.prog 28 = some (true, 2, [Value.slice Option.none 0 0, Value.slice Option.none 0 0]) := by kernel_rfl
theorem fieldsOk_28 : fieldsOk Try.prog 28 = true := by kernel_rfl
theorem tField_28_0 : tField Try.prog 28 0 = some 0 := by kernel_rfl
theorem placeOf_28_0 : placeOf Try.prog 28 0 = some (0, 1) := by kernel_rfl
theorem tField_28_1 : tField Try.prog 28 1 = some 1 := by kernel_rfl
theorem placeOf_28_1 : placeOf Try.prog 28 1 = some (1, 1) := by kernel_rfl
theorem tI_29 : tI Try.prog 29 = some (false, 1, [Value.nilFunc]) := by kernel_rfl
theorem tI_30 : tI Try.prog 30 = some (false, 1, [Value.nilFunc]) := by kernel_rfl
theorem tI_31 : tI Try.prog 31 = some (false, 1, [Value.nilFunc]) := by kernel_rfl
theorem tI_32 : tI Try.prog 32 = some (false, 1, [Value.nilFunc]) := by kernel_rfl
theorem tI_33 : tI Try.prog 33 = some (false, 1, [Value.nilFunc]) := by kernel_rfl
theorem tI_34 : tI Try.prog 34 = some (false, 1, [Value.nilFunc]) := by kernel_rfl
theorem tI_35 : tI Try.prog 35 = some (false, 1, [Value.slice Option.none 0 0]) := by kernel_rfl
theorem tElem_35 : tElem Try.prog 35 = some (3, 24, 131) := by kernel_rfl
theorem tI_36 : tI Try.prog 36 = some (false, 1, [Value.slice Option.none 0 0]) := by kernel_rfl
theorem tElem_36 : tElem Try.prog 36 = some (1, 8, 3) := by kernel_rfl
theorem tI_37 : tI Try.prog 37 = some (true, 4, [Value.int IntKind.i64 0, Value.slice Option.none 0 0, Value.slice Option.none 0 0, Value.slice Option.none 0 0]) := by kernel_rfl
theorem fieldsOk_37 : fieldsOk Try.prog 37 = true := by kernel_rfl
theorem tField_37_0 : tField Try.prog 37 0 = some 0 := by kernel_rfl
theorem placeOf_37_0 : placeOf Try.prog 37 0 = some (0, 1) := by kernel_rfl
theorem tField_37_1 : tField Try.prog 37 1 = some 1 := by kernel_rfl
theorem placeOf_37_1 : placeOf Try.prog 37 1 = some (1, 1) := by kernel_rfl
theorem tField_37_2 : tField Try.prog 37 2 = some 2 := by kernel_rfl
theorem placeOf_37_2 : placeOf Try.prog 37 2 = some (2, 1) := by kernel_rfl
theorem tField_37_3 : tField Try.prog 37 3 = some 3 := by kernel_rfl
theorem placeOf_37_3 : placeOf Try.prog 37 3 = some (3, 1) := by kernel_rfl
theorem tI_38 : tI Try.prog 38 = some (true, 4, [Value.int IntKind.i64 0, Value.slice Option.none 0 0, Value.slice Option.none 0 0, Value.slice Option.none 0 0]) := by kernel_rfl
theorem fieldsOk_38 : fieldsOk Try.prog 38 = true := by kernel_rfl
theorem tField_38_0 : tField Try.prog 38 0 = some 0 := by kernel_rfl
theorem placeOf_38_0 : placeOf Try.prog 38 0 = some (0, 1) := by kernel_rfl
theorem tField_38_1 : tField Try.prog 38 1 = some 1 := by kernel_rfl
theorem placeOf_38_1 : placeOf Try.prog 38 1 = some (1, 1) := by kernel_rfl
theorem tField_38_2 : tField Try.prog 38 2 = some 2 := by kernel_rfl
theorem placeOf_38_2 : placeOf Try.prog 38 2 = some (2, 1) := by kernel_rfl
theorem tField_38_3 : tField Try.prog 38 3 = some 3 := by kernel_rfl
theorem placeOf_38_3 : placeOf Try.prog 38 3 = some (3, 1) := by kernel_rfl
theorem tI_39 : tI Try.prog 39 = some (false, 1, [Value.nilFunc]) := by kernel_rfl
theorem tI_40 : tI Try.prog 40 = some (false, 1, [Value.nilFunc]) := by kernel_rfl
theorem tI_41 : tI Try.prog 41 = some (false, 1, [Value.slice Option.none 0 0]) := by kernel_rfl
theorem tElem_41 : tElem Try.prog 41 = some (3, 24, 129) := by kernel_rfl
theorem tI_42 : tI Try.prog 42 = some (true, 4, [Value.int IntKind.i64 0, Value.slice Option.none 0 0, Value.slice Option.none 0 0, Value.slice Option.none 0 0]) := by kernel_rfl
theorem fieldsOk_42 : fieldsOk Try.prog 42 = true := by kernel_rfl
theorem tField_42_0 : tField Try.prog 42 0 = some 0 := by kernel_rfl
theorem placeOf_42_0 : placeOf Try.prog 42 0 = some (0, 1) := by kernel_rfl
theorem tField_42_1 : tField Try.prog 42 1 = some 1 := by kernel_rfl
theorem placeOf_42_1 : placeOf Try.prog 42 1 = some (1, 1) := by kernel_rfl
theorem tField_42_2 : tField Try.prog 42 2 = some 2 := by kernel_rfl
theorem placeOf_42_2 : placeOf Try.prog 42 2 = some (2, 1) := by kernel_rfl
theorem tField_42_3 : tField Try.prog 42 3 = some 3 := by kernel_rfl
theorem placeOf_42_3 : placeOf Try.prog 42 3 = some (3, 1) := by kernel_rfl
theorem tI_43 : tI Try.prog 43 = some (true, 4, [Value.int IntKind.i64 0, Value.slice Option.none 0 0, Value.slice Option.none 0 0, Value.slice Option.none 0 0]) := by kernel_rfl
theorem fieldsOk_43 : fieldsOk Try.prog 43 = true := by kernel_rfl
theorem tField_43_0 : tField Try.prog 43 0 = some 0 := by kernel_rfl
theorem placeOf_43_0 : placeOf Try.prog 43 0 = some (0, 1) := by kernel_rfl
theorem tField_43_1 : tField Try.prog 43 1 = some 1 := by kernel_rfl
theorem placeOf_43_1 : placeOf Try.prog 43 1 = some (1, 1) := by kernel_rfl
theorem tField_43_2 : tField Try.prog 43 2 = some 2 := by kernel_rfl
theorem placeOf_43_2 : placeOf Try.prog 43 2 = some (2, 1) := by kernel_rfl
theorem tField_43_3 : tField Try.prog 43 3 = some 3 := by kernel_rfl
theorem placeOf_43_3 : placeOf Try.prog 43 3 = some (3, 1) := by kernel_rfl
theorem tI_44 : tI Try.prog 44 = some (false, 1, [Value.nilFunc]) := by kernel_rfl
theorem tI_45 : tI Try.prog 45 = some (false, 1, [Value.nilFunc]) := by kernel_rfl
theorem tI_46 : tI Try.prog 46 = some (false, 1, [Value.nilFunc]) := by kernel_rfl
theorem tI_47 : tI Try.prog 47 = some (false, 1, [Value.nilFunc]) := by kernel_rfl
theorem tI_48 : tI Try.prog 48 = some (false, 1, [Value.nilFunc]) := by kernel_rfl
theorem tI_49 : tI Try.prog 49 = some (false, 1, [Value.nilFunc]) := by kernel_rfl
theorem tI_50 : tI Try.prog 50 = some (false, 1, [Value.nilFunc]) := by kernel_rfl
theorem tI_51 : tI Try.prog 51 = some (false, 1, [Value.nilFunc]) := by kernel_rfl
theorem tI_52 : tI Try.prog 52 = some (false, 1, [Value.nilFunc]) := by kernel_rfl
theorem tI_53 : tI Try.prog 53 = some (false, 1, [Value.nilFunc]) := by kernel_rfl
theorem tI_54 : tI Try.prog 54 = some (false, 1, [Value.nilFunc]) := by kernel_rfl
theorem tI_55 : tI Try.prog 55 = some (false, 1, [Value.nilFunc]) := by kernel_rfl
theorem tI_56 : tI Try.prog 56 = some (false, 1, [Value.nilFunc]) := by kernel_rfl
theorem tI_57 : tI Try.prog 57 = some (false, 1, [Value.nilFunc]) := by kernel_rfl
theorem tI_58 : tI Try.prog 58 = some (false, 1, [Value.nilFunc]) := by kernel_rfl
theorem tI_59 : tI Try.prog 59 = some (false, 1, [Value.nilFunc]) := by kernel_rfl
theorem tI_60 : tI Try.prog 60 = some (false, 1, [Value.slice Option.none 0 0]) := by kernel_rfl
theorem tElem_60 : tElem Try.prog 60 = some (1, 24, 61) := by kernel_rfl
theorem tI_61 : tI Try.prog 61 = some (false, 1, [Value.slice Option.none 0 0]) := by kernel_rfl
theorem tElem_61 : tElem Try.prog 61 = some (1, 16, 9) := by kernel_rfl
theorem tI_62 : tI Try.prog 62 = some (true, 3, [Value.slice Option.none 0 0, Value.slice Option.none 0 0, Value.slice Option.none 0 0]) := by kernel_rfl
theorem fieldsOk_62 : fieldsOk Try.prog 62 = true := by kernel_rfl
theorem tField_62_0 : tField Try.prog 62 0 = some 0 := by kernel_rfl
theorem placeOf_62_0 : placeOf Try.prog 62 0 = some (0, 1) := by kernel_rfl
theorem tField_62_1 : tField Try.prog 62 1 = some 1 := by kernel_rfl
theorem placeOf_62_1 : placeOf Try.prog 62 1 = some (1, 1) := by kernel_rfl
theorem tField_62_2 : tField Try.prog 62 2 = some 2 := by kernel_rfl
theorem placeOf_62_2 : placeOf Try.prog 62 2 = some (2, 1) := by kernel_rfl
theorem tI_63 : tI Try.prog 63 = some (true, 3, [Value.slice Option.none 0 0, Value.slice Option.none 0 0, Value.slice Option.none 0 0]) := by kernel_rfl
theorem fieldsOk_63 : fieldsOk Try.prog 63 = true := by kernel_rfl
theorem tField_63_0 : tField Try.prog 63 0 = some 0 := by kernel_rfl
theorem placeOf_63_0 : placeOf Try.prog 63 0 = some (0, 1) := by kernel_rfl
theorem tField_63_1 : tField Try.prog 63 1 = some 1 := by kernel_rfl
theorem placeOf_63_1 : placeOf Try.prog 63 1 = some (1, 1) := by kernel_rfl
theorem tField_63_2 : tField Try.prog 63 2 = some 2 := by kernel_rfl
theorem placeOf_63_2 : placeOf Try.prog 63 2 = some (2, 1) := by kernel_rfl
theorem tI_64 : tI Try.prog 64 = some (false, 1, [Value.nilFunc]) := by kernel_rfl
theorem tI_65 : tI Try.prog 65 = some (false, 1, [Value.tuple { toList := [Value.agg { toList := [Value.slice Option.none 0 0, Value.slice Option.none 0 0] }, Value.bool false] }]) := by kernel_rfl
theorem tI_66 : tI Try.prog 66 = some (false, 1, [Value.nilFunc]) := by kernel_rfl
theorem tI_67 : tI Try.prog 67 = some (true, 3, [Value.slice Option.none 0 0, Value.slice Option.none 0 0, Value.slice Option.none 0 0]) := by kernel_rfl
theorem fieldsOk_67 : fieldsOk Try.prog 67 = true := by kernel_rfl
theorem tField_67_0 : tField Try.prog 67 0 = some 0 := by kernel_rfl
theorem placeOf_67_0 : placeOf Try.prog 67 0 = some (0, 1) := by kernel_rfl
theorem tField_67_1 : tField Try.prog 67 1 = some 1 := by kernel_rfl
theorem placeOf_67_1 : placeOf Try.prog 67 1 = some (1, 1) := by kernel_rfl
theorem tField_67_2 : tField Try.prog 67 2 = some 2 := by kernel_rfl
theorem placeOf_67_2 : placeOf Try.prog 67 2 = some (2, 1) := by kernel_rfl
theorem tI_68 : tI Try.prog 68 = some (false, 1, [Value.nilFunc]) := by kernel_rfl
theorem tI_69 : tI Try.prog 69 = some (false, 1, [Value.nilFunc]) := by kernel_rfl
theorem tI_70 : tI Try.prog 70 = some (false, 1, [Value.nilFunc]) := by kernel_rfl
theorem tI_71 : tI Try.prog 71 = some (false, 1, [Value.nilFunc]) := by kernel_rfl
theorem tI_72 : tI Try.prog 72 = some (false, 1, [Value.nilFunc]) := by kernel_rfl
theorem tI_73 : tI Try.prog 73 = some (false, 1, [Value.nilFunc]) := by kernel_rfl
theorem tI_74 : tI Try.prog 74 = some (false, 1, [Value.nilFunc]) := by kernel_rfl
theorem tI_75 : tI Try.prog 75 = some (false, 1, [Value.nilFunc]) := by kernel_rfl
theorem tI_76 : tI Try.prog 76 = some (false, 1, [Value.nilFunc]) := by kernel_rfl
theorem tI_77 : tI Try.prog 77 = some (false, 1, [Value.nilFunc]) := by kernel_rfl
theorem tI_78 : tI Try.prog 78 = some (false, 1, [Value.nilFunc]) := by kernel_rfl
theorem tI_79 : tI Try.prog 79 = some (false, 1, [Value.nilFunc]) := by kernel_rfl
theorem tI_80 : tI Try.prog 80 = some (false, 1, [Value.nilFunc]) := by kernel_rfl
theorem tI_81 : tI Try.prog 81 = some (false, 1, [Value.nilFunc]) := by kernel_rfl
theorem tI_82 : tI Try.prog 82 = some (false, 1, [Value.nilFunc]) := by kernel_rfl
theorem tI_83 : tI Try.prog 83 = some (false, 1, [Value.nilFunc]) := by kernel_rfl
theorem tI_84 : tI Try.prog 84 = some (false, 1, [Value.nilFunc]) := by kernel_rfl
theorem tI_85 : tI Try.prog 85 = some (false, 1, [Value.nilFunc]) := by kernel_rfl
theorem tI_86 : tI Try.prog 86 = some (false, 1, [Value.nilFunc]) := by kernel_rfl
theorem tI_87 : tI Try.prog 87 = some (false, 1, [Value.nilFunc]) := by kernel_rfl
theorem tI_88 : tI Try.prog 88 = some (false, 1, [Value.nilFunc]) := by kernel_rfl
theorem tI_89 : tI Try.prog 89 = some (false, 1, [Value.int IntKind.u64 0]) := by kernel_rfl
theorem tInt_89 : tInt Try.prog 89 = some IntKind.u64 := by kernel_rfl
theorem tI_90 : tI Try.prog 90 = some (true, 2, [Value.int IntKind.u64 0, Value.int IntKind.u64 0]) := by kernel_rfl
theorem tArr_90 : tArr Try.prog 90 = some (2, 1, false) := by kernel_rfl
theorem tEqS_90 : tEqS Try.prog 90 = some [IntKind.u64, IntKind.u64] := by kernel_rfl
theorem fieldsOk_90 : fieldsOk Try.prog 90 = true := by kernel_rfl
theorem placeOf_90_0 : placeOf Try.prog 90 0 = some (0, 1) := by kernel_rfl
theorem placeOf_90_1 : placeOf Try.prog 90 1 = some (1, 1) := by kernel_rfl
theorem placeOf_90_2 : placeOf Try.prog 90 2 = some (2, 1) := by kernel_rfl
theorem placeOf_90_3 : placeOf Try.prog 90 3 = some (3, 1) := by kernel_rfl
theorem placeOf_90_4 : placeOf Try.prog 90 4 = some (4, 1) := by kernel_rfl
theorem placeOf_90_5 : placeOf Try.prog 90 5 = some (5, 1) := by kernel_rfl
theorem placeOf_90_6 : placeOf Try.prog 90 6 = some (6, 1) := by kernel_rfl
theorem placeOf_90_7 : placeOf Try.prog 90 7 = some (7, 1) := by kernel_rfl
theorem placeOf_90_8 : placeOf Try.prog 90 8 = some (8, 1) := by kernel_rfl
theorem placeOf_90_9 : placeOf Try.prog 90 9 = some (9, 1) := by kernel_rfl
theorem placeOf_90_10 : placeOf Try.prog 90 10 = some (10, 1) := by kernel_rfl
theorem placeOf_90_11 : placeOf Try.prog 90 11 = some (11, 1) := by kernel_rfl
theorem tI_91 : tI Try.prog 91 = some (true, 2, [Value.int IntKind.u64 0, Value.int IntKind.u64 0]) := by kernel_rfl
theorem tArr_91 : tArr Try.prog 91 = some (2, 1, false) := by kernel_rfl
theorem tEqS_91 : tEqS Try.prog 91 = some [IntKind.u64, IntKind.u64] := by kernel_rfl
theorem fieldsOk_91 : fieldsOk Try.prog 91 = true := by kernel_rfl
theorem placeOf_91_0 : placeOf Try.prog 91 0 = some (0, 1) := by kernel_rfl
theorem placeOf_91_1 : placeOf Try.prog 91 1 = some (1, 1) := by kernel_rfl
theorem placeOf_91_2 : placeOf Try.prog 91 2 = some (2, 1) := by kernel_rfl
theorem placeOf_91_3 : placeOf Try.prog 91 3 = some (3, 1) := by kernel_rfl
theorem placeOf_91_4 : placeOf Try.prog 91 4 = some (4, 1) := by kernel_rfl
theorem placeOf_91_5 : placeOf Try.prog 91 5 = some (5, 1) := by kernel_rfl
theorem placeOf_91_6 : placeOf Try.prog 91 6 = some (6, 1) := by kernel_rfl
theorem placeOf_91_7 : placeOf Try.prog 91 7 = some (7, 1) := by kernel_rfl
theorem placeOf_91_8 : placeOf Try.prog 91 8 = some (8, 1) := by kernel_rfl
theorem placeOf_91_9 : placeOf Try.prog 91 9 = some (9, 1) := by kernel_rfl
theorem placeOf_91_10 : placeOf Try.prog 91 10 = some (10, 1) := by kernel_rfl
theorem placeOf_91_11 : placeOf Try.prog 91 11 = some (11, 1) := by kernel_rfl
theorem tI_92 : tI Try.prog 92 = some (false, 1, [Value.nilFunc]) := by kernel_rfl
theorem tI_93 : tI Try.prog 93 = some (false, 1, [Value.nilFunc]) := by kernel_rfl
theorem tI_94 : tI Try.prog 94 = some (false, 1, [Value.nilFunc]) := by kernel_rfl
theorem tI_95 : tI Try.prog 95 = some (false, 1, [Value.nilFunc]) := by kernel_rfl
theorem tI_96 : tI Try.prog 96 = some (false, 1, [Value.nilFunc]) := by kernel_rfl
theorem tI_97 : tI Try.prog 97 = some (false, 1, [Value.nilFunc]) := by kernel_rfl
theorem tI_98 : tI Try.prog 98 = some (false, 1, [Value.nilFunc]) := by kernel_rfl
theorem tI_99 : tI Try.prog 99 = some (false, 1, [Value.nilFunc]) := by kernel_rfl
theorem tI_100 : tI Try.prog 100 = some (false, 1, [Value.nilFunc]) := by kernel_rfl
theorem tI_101 : tI Try.prog 101 = some (false, 1, [Value.nilFunc]) := by kernel_rfl
theorem tI_102 : tI Try.prog 102 = some (false, 1, [Value.slice Option.none 0 0]) := by kernel_rfl
theorem tElem_102 : tElem Try.prog 102 = some (1, 24, 23) := by kernel_rfl
theorem tI_103 : tI Try.prog 103 = some (false, 1, [Value.tuple { toList := [Value.slice Option.none 0 0, Value.slice Option.none 0 0] }]) := by kernel_rfl
theorem tI_104 : tI Try.prog 104 = some (false, 1, [Value.nilFunc]) := by kernel_rfl
theorem tI_105 : tI Try.prog 105 = some (false, 1, [Value.tuple { toList := [Value.agg { toList := [Value.slice Option.none 0 0, Value.slice Option.none 0 0] }, Value.int IntKind.i64 0] }]) := by kernel_rfl
theorem tI_106 : tI Try.prog 106 = some (false, 1, [Value.nilFunc]) := by kernel_rfl
theorem tI_107 : tI Try.prog 107 = some (false, 1, [Value.nilFunc]) := by kernel_rfl
theorem tI_108 : tI Try.prog 108 = some (false, 1, [Value.nilFunc]) := by kernel_rfl
theorem tI_109 : tI Try.prog 109 = some (false, 1, [Value.nilFunc]) := by kernel_rfl
theorem tI_110 : tI Try.prog 110 = some (false, 1, [Value.nilFunc]) := by kernel_rfl
theorem tI_111 : tI Try.prog 111 = some (false, 1, [Value.nilFunc]) := by kernel_rfl
theorem tI_112 : tI Try.prog 112 = some (false, 1, [Value.nilFunc]) := by kernel_rfl
theorem tI_113 : tI Try.prog 113 = some (false, 1, [Value.nilFunc]) := by kernel_rfl
theorem tI_114 : tI Try.prog 114 = some (false, 1, [Value.nilFunc]) := by kernel_rfl
theorem tI_115 : tI Try.prog 115 = some (false, 1, [Value.nilFunc]) := by kernel_rfl
theorem tI_116 : tI Try.prog 116 = some (false, 1, [Value.slice Option.none 0 0]) := by kernel_rfl
theorem tElem_116 : tElem Try.prog 116 = some (2, 16, 120) := by kernel_rfl
theorem tI_117 : tI Try.prog 117 = some (false, 1, [Value.tuple { toList := [Value.agg { toList := [Value.slice Option.none 0 0, Value.slice Option.none 0 0] }, Value.slice Option.none 0 0, Value.bool false] }]) := by kernel_rfl
theorem tI_118 : tI Try.prog 118 = some (false, 1, [Value.nilFunc]) := by kernel_rfl
theorem tI_119 : tI Try.prog 119 = some (true, 2, [Value.int IntKind.i64 0, Value.int IntKind.i64 0]) := by kernel_rfl
theorem tArr_119 : tArr Try.prog 119 = some (2, 1, false) := by kernel_rfl
theorem tEqS_119 : tEqS Try.prog 119 = some [IntKind.i64, IntKind.i64] := by kernel_rfl
theorem fieldsOk_119 : fieldsOk Try.prog 119 = true := by kernel_rfl
theorem placeOf_119_0 : placeOf Try.prog 119 0 = some (0, 1) := by kernel_rfl
theorem placeOf_119_1 : placeOf Try.prog 119 1 = some (1, 1) := by kernel_rfl
theorem placeOf_119_2 : placeOf Try.prog 119 2 = some (2, 1) := by kernel_rfl
theorem placeOf_119_3 : placeOf Try.prog 119 3 = some (3, 1) := by kernel_rfl
theorem placeOf_119_4 : placeOf Try.prog 119 4 = some (4, 1) := by kernel_rfl
theorem placeOf_119_5 : placeOf Try.prog 119 5 = some (5, 1) := by kernel_rfl
theorem placeOf_119_6 : placeOf Try.prog 119 6 = some (6, 1) := by kernel_rfl
theorem placeOf_119_7 : placeOf Try.prog 119 7 = some (7, 1) := by kernel_rfl
theorem placeOf_119_8 : placeOf Try.prog 119 8 = some (8, 1) := by kernel_rfl
theorem placeOf_119_9 : placeOf Try.prog 119 9 = some (9, 1) := by kernel_rfl
theorem placeOf_119_10 : placeOf Try.prog 119 10 = some (10, 1) := by kernel_rfl
theorem placeOf_119_11 : placeOf Try.prog 119 11 = some (11, 1) := by kernel_rfl
theorem tI_120 : tI Try.prog 120 = some (true, 2, [Value.int IntKind.i64 0, Value.int IntKind.i64 0]) := by kernel_rfl
theorem tArr_120 : tArr Try.prog 120 = some (2, 1, false) := by kernel_rfl
theorem tEqS_120 : tEqS Try.prog 120 = some [IntKind.i64, IntKind.i64] := by kernel_rfl
theorem fieldsOk_120 : fieldsOk Try.prog 120 = true := by kernel_rfl
theorem placeOf_120_0 : placeOf Try.prog 120 0 = some (0, 1) := by kernel_rfl
theorem placeOf_120_1 : placeOf Try.prog 120 1 = some (1, 1) := by kernel_rfl
theorem placeOf_120_2 : placeOf Try.prog 120 2 = some (2, 1) := by kernel_rfl
theorem placeOf_120_3 : placeOf Try.prog 120 3 = some (3, 1) := by kernel_rfl
theorem placeOf_120_4 : placeOf Try.prog 120 4 = some (4, 1) := by kernel_rfl
theorem placeOf_120_5 : placeOf Try.prog 120 5 = some (5, 1) := by kernel_rfl
theorem placeOf_120_6 : placeOf Try.prog 120 6 = some (6, 1) := by kernel_rfl
theorem placeOf_120_7 : placeOf Try.prog 120 7 = some (7, 1) := by kernel_rfl
theorem placeOf_120_8 : placeOf Try.prog 120 8 = some (8, 1) := by kernel_rfl
theorem placeOf_120_9 : placeOf Try.prog 120 9 = some (9, 1) := by kernel_rfl
theorem placeOf_120_10 : placeOf Try.prog 120 10 = some (10, 1) := by kernel_rfl
theorem placeOf_120_11 : placeOf Try.prog 120 11 = some (11, 1) := by kernel_rfl
theorem tI_121 : tI Try.prog 121 = some (false, 1, [Value.nilFunc]) := by kernel_rfl
theorem tI_122 : tI Try.prog 122 = some (false, 1, [Value.nilFunc]) := by kernel_rfl
theorem tI_123 : tI Try.prog 123 = some (false, 1, [Value.nilFunc]) := by kernel_rfl
theorem tI_124 : tI Try.prog 124 = some (false, 1, [Value.nilFunc]) := by kernel_rfl
theorem tI_125 : tI Try.prog 125 = some (false, 1, [Value.nilFunc]) := by kernel_rfl
theorem tI_126 : tI Try.prog 126 = some (false, 1, [Value.nilFunc]) := by kernel_rfl
theorem tI_127 : tI Try.prog 127 = some (false, 1, [Value.nilFunc]) := by kernel_rfl
theorem tI_128 : tI Try.prog 128 = some (true, 3, [Value.int IntKind.i64 0, Value.int IntKind.i64 0, Value.int IntKind.i64 0]) := by kernel_rfl
theorem tEqS_128 : tEqS Try.prog 128 = some [IntKind.i64, IntKind.i64, IntKind.i64] := by kernel_rfl
theorem fieldsOk_128 : fieldsOk Try.prog 128 = true := by kernel_rfl
theorem tField_128_0 : tField Try.prog 128 0 = some 0 := by kernel_rfl
theorem placeOf_128_0 : placeOf Try.prog 128 0 = some (0, 1) := by kernel_rfl
theorem tField_128_1 : tField Try.prog 128 1 = some 1 := by kernel_rfl
theorem placeOf_128_1 : placeOf Try.prog 128 1 = some (1, 1) := by kernel_rfl
theorem tField_128_2 : tField Try.prog 128 2 = some 2 := by kernel_rfl
theorem placeOf_128_2 : placeOf Try.prog 128 2 = some (2, 1) := by kernel_rfl
theorem tI_129 : tI Try.prog 129 = some (true, 3, [Value.int IntKind.i64 0, Value.int IntKind.i64 0, Value.int IntKind.i64 0]) := by kernel_rfl
theorem tEqS_129 : tEqS Try.prog 129 = some [IntKind.i64, IntKind.i64, IntKind.i64] := by kernel_rfl
theorem fieldsOk_129 : fieldsOk Try.prog 129 = true := by kernel_rfl
theorem tField_129_0 : tField Try.prog 129 0 = some 0 := by kernel_rfl
theorem placeOf_129_0 : placeOf Try.prog 129 0 = some (0, 1) := by kernel_rfl
theorem tField_129_1 : tField Try.prog 129 1 = some 1 := by kernel_rfl
theorem placeOf_129_1 : placeOf Try.prog 129 1 = some (1, 1) := by kernel_rfl
theorem tField_129_2 : tField Try.prog 129 2 = some 2 := by kernel_rfl
theorem placeOf_129_2 : placeOf Try.prog 129 2 = some (2, 1) := by kernel_rfl
theorem tI_130 : tI Try.prog 130 = some (false, 1, [Value.nilFunc]) := by kernel_rfl
theorem tI_131 : tI Try.prog 131 = some (true, 3, [Value.int IntKind.i64 0, Value.int IntKind.i64 0, Value.int IntKind.i64 0]) := by kernel_rfl
theorem tEqS_131 : tEqS Try.prog 131 = some [IntKind.i64, IntKind.i64, IntKind.i64] := by kernel_rfl
theorem fieldsOk_131 : fieldsOk Try.prog 131 = true := by kernel_rfl
theorem tField_131_0 : tField Try.prog 131 0 = some 0 := by kernel_rfl
theorem placeOf_131_0 : placeOf Try.prog 131 0 = some (0, 1) := by kernel_rfl
theorem tField_131_1 : tField Try.prog 131 1 = some 1 := by kernel_rfl
theorem placeOf_131_1 : placeOf Try.prog 131 1 = some (1, 1) := by kernel_rfl
theorem tField_131_2 : tField Try.prog 131 2 = some 2 := by kernel_rfl
theorem placeOf_131_2 : placeOf Try.prog 131 2 = some (2, 1) := by kernel_rfl
theorem tI_132 : tI Try.prog 132 = some (false, 1, [Value.nilFunc]) := by kernel_rfl
theorem tI_133 : tI Try.prog 133 = some (false, 1, [Value.nilFunc]) := by kernel_rfl
theorem tI_134 : tI Try.prog 134 = some (false, 1, [Value.nilFunc]) := by kernel_rfl
theorem tI_135 : tI Try.prog 135 = some (false, 1, [Value.nilFunc]) := by kernel_rfl
theorem tI_136 : tI Try.prog 136 = some (false, 1, [Value.nilFunc]) := by kernel_rfl
theorem tI_137 : tI Try.prog 137 = some (false, 1, [Value.nilFunc]) := by kernel_rfl
theorem tI_138 : tI Try.prog 138 = some (false, 1, [Value.slice Option.none 0 0]) := by kernel_rfl
theorem tElem_138 : tElem Try.prog 138 = some (2, 16, 91) := by kernel_rfl
theorem tI_139 : tI Try.prog 139 = some (false, 1, [Value.tuple { toList := [Value.agg { toList := [Value.slice Option.none 0 0, Value.slice Option.none 0 0] }, Value.slice Option.none 0 0, Value.bool false] }]) := by kernel_rfl
theorem tI_140 : tI Try.prog 140 = some (false, 1, [Value.nilFunc]) := by kernel_rfl
theorem tI_141 : tI Try.prog 141 = some (false, 1, [Value.nilFunc]) := by kernel_rfl
theorem tI_142 : tI Try.prog 142 = some (false, 1, [Value.tuple { toList := [Value.agg { toList := [Value.slice Option.none 0 0, Value.slice Option.none 0 0] }, Value.slice Option.none 0 0, Value.bool false] }]) := by kernel_rfl
theorem tI_143 : tI Try.prog 143 = some (false, 1, [Value.nilFunc]) := by kernel_rfl
theorem tI_144 : tI Try.prog 144 = some (false, 1, [Value.nilFunc]) := by kernel_rfl
theorem tI_145 : tI Try.prog 145 = some (false, 1, [Value.nilFunc]) := by kernel_rfl
theorem tI_146 : tI Try.prog 146 = some (false, 1, [Value.map Option.none]) := by kernel_rfl
theorem tI_147 : tI Try.prog 147 = some (false, 1, [Value.tuple { toList := [Value.int IntKind.i64 0, Value.bool false] }]) := by kernel_rfl
theorem tI_148 : tI Try.prog 148 = some (false, 1, [Value.nilFunc]) := by kernel_rfl
theorem tI_149 : tI Try.prog 149 = some (false, 1, [Value.nilFunc]) := by kernel_rfl
theorem tI_150 : tI Try.prog 150 = some (false, 1, [Value.nilFunc]) := by kernel_rfl
theorem tI_151 : tI Try.prog 151 = some (false, 1, [Value.map Option.none]) := by kernel_rfl
theorem tI_152 : tI Try.prog 152 = some (false, 1, [Value.map Option.none]) := by kernel_rfl
theorem tI_153 : tI Try.prog 153 = some (false, 1, [Value.nilFunc]) := by kernel_rfl
theorem tI_154 : tI Try.prog 154 = some (false, 1, [Value.nilFunc]) := by kernel_rfl
theorem tI_155 : tI Try.prog 155 = some (false, 1, [Value.nilFunc]) := by kernel_rfl
theorem tI_156 : tI Try.prog 156 = some (false, 1, [Value.slice Option.none 0 0]) := by kernel_rfl
theorem tElem_156 : tElem Try.prog 156 = some (1, 1, 5) := by kernel_rfl
theorem tByteSl_156 : tByteSl Try.prog 156 = true := by kernel_rfl
theorem tI_157 : tI Try.prog 157 = some (false, 1, [Value.nilFunc]) := by kernel_rfl
theorem tI_158 : tI Try.prog 158 = some (true, 4, [Value.pointer Option.none, Value.pointer Option.none, Value.pointer Option.none, Value.string ⟨#[]⟩]) := by kernel_rfl
theorem fieldsOk_158 : fieldsOk Try.prog 158 = true := by kernel_rfl
theorem tField_158_0 : tField Try.prog 158 0 = some 0 := by kernel_rfl
theorem placeOf_158_0 : placeOf Try.prog 158 0 = some (0, 1) := by kernel_rfl
theorem tField_158_1 : tField Try.prog 158 1 = some 1 := by kernel_rfl
theorem placeOf_158_1 : placeOf Try.prog 158 1 = some (1, 1) := by kernel_rfl
theorem tField_158_2 : tField Try.prog 158 2 = some 2 := by kernel_rfl
theorem placeOf_158_2 : placeOf Try.prog 158 2 = some (2, 1) := by kernel_rfl
theorem tField_158_3 : tField Try.prog 158 3 = some 3 := by kernel_rfl
theorem placeOf_158_3 : placeOf Try.prog 158 3 = some (3, 1) := by kernel_rfl
theorem tI_159 : tI Try.prog 159 = some (true, 4, [Value.pointer Option.none, Value.pointer Option.none, Value.pointer Option.none, Value.string ⟨#[]⟩]) := by kernel_rfl
theorem fieldsOk_159 : fieldsOk Try.prog 159 = true := by kernel_rfl
theorem tField_159_0 : tField Try.prog 159 0 = some 0 := by kernel_rfl
theorem placeOf_159_0 : placeOf Try.prog 159 0 = some (0, 1) := by kernel_rfl
theorem tField_159_1 : tField Try.prog 159 1 = some 1 := by kernel_rfl
theorem placeOf_159_1 : placeOf Try.prog 159 1 = some (1, 1) := by kernel_rfl
theorem tField_159_2 : tField Try.prog 159 2 = some 2 := by kernel_rfl
theorem placeOf_159_2 : placeOf Try.prog 159 2 = some (2, 1) := by kernel_rfl
theorem tField_159_3 : tField Try.prog 159 3 = some 3 := by kernel_rfl
theorem placeOf_159_3 : placeOf Try.prog 159 3 = some (3, 1) := by kernel_rfl
theorem tI_160 : tI Try.prog 160 = some (true, 0, []) := by kernel_rfl
theorem tArr_160 : tArr Try.prog 160 = some (0, 1, false) := by kernel_rfl
theorem fieldsOk_160 : fieldsOk Try.prog 160 = true := by kernel_rfl
theorem placeOf_160_0 : placeOf Try.prog 160 0 = some (0, 1) := by kernel_rfl
theorem placeOf_160_1 : placeOf Try.prog 160 1 = some (1, 1) := by kernel_rfl
theorem placeOf_160_2 : placeOf Try.prog 160 2 = some (2, 1) := by kernel_rfl
theorem placeOf_160_3 : placeOf Try.prog 160 3 = some (3, 1) := by kernel_rfl
theorem placeOf_160_4 : placeOf Try.prog 160 4 = some (4, 1) := by kernel_rfl
theorem placeOf_160_5 : placeOf Try.prog 160 5 = some (5, 1) := by kernel_rfl
theorem placeOf_160_6 : placeOf Try.prog 160 6 = some (6, 1) := by kernel_rfl
theorem placeOf_160_7 : placeOf Try.prog 160 7 = some (7, 1) := by kernel_rfl
theorem placeOf_160_8 : placeOf Try.prog 160 8 = some (8, 1) := by kernel_rfl
theorem placeOf_160_9 : placeOf Try.prog 160 9 = some (9, 1) := by kernel_rfl
theorem placeOf_160_10 : placeOf Try.prog 160 10 = some (10, 1) := by kernel_rfl
theorem placeOf_160_11 : placeOf Try.prog 160 11 = some (11, 1) := by kernel_rfl
theorem tI_161 : tI Try.prog 161 = some (true, 0, []) := by kernel_rfl
theorem fieldsOk_161 : fieldsOk Try.prog 161 = true := by kernel_rfl
theorem placeOf_161_0 : placeOf Try.prog 161 0 = some (0, 0) := by kernel_rfl
theorem tI_162 : tI Try.prog 162 = some (true, 0, []) := by kernel_rfl
theorem fieldsOk_162 : fieldsOk Try.prog 162 = true := by kernel_rfl
theorem placeOf_162_0 : placeOf Try.prog 162 0 = some (0, 0) := by kernel_rfl
theorem tI_163 : tI Try.prog 163 = some (false, 1, [Value.nilFunc]) := by kernel_rfl
theorem tI_164 : tI Try.prog 164 = some (false, 1, [Value.int IntKind.u32 0]) := by kernel_rfl
theorem tInt_164 : tInt Try.prog 164 = some IntKind.u32 := by kernel_rfl
theorem tI_165 : tI Try.prog 165 = some (false, 1, [Value.int IntKind.u8 0]) := by kernel_rfl
theorem tInt_165 : tInt Try.prog 165 = some IntKind.u8 := by kernel_rfl
theorem tI_166 : tI Try.prog 166 = some (false, 1, [Value.int IntKind.u8 0]) := by kernel_rfl
theorem tInt_166 : tInt Try.prog 166 = some IntKind.u8 := by kernel_rfl
theorem tI_167 : tI Try.prog 167 = some (false, 1, [Value.nilFunc]) := by kernel_rfl
theorem tI_168 : tI Try.prog 168 = some (false, 1, [Value.pointer Option.none]) := by kernel_rfl
theorem tI_169 : tI Try.prog 169 = some (false, 1, [Value.int IntKind.i32 0]) := by kernel_rfl
theorem tInt_169 : tInt Try.prog 169 = some IntKind.i32 := by kernel_rfl
theorem tI_170 : tI Try.prog 170 = some (false, 1, [Value.int IntKind.i32 0]) := by kernel_rfl
theorem tInt_170 : tInt Try.prog 170 = some IntKind.i32 := by kernel_rfl
theorem tI_171 : tI Try.prog 171 = some (true, 11, [Value.int IntKind.u64 0, Value.int IntKind.u64 0, Value.int IntKind.u32 0, Value.int IntKind.u8 0, Value.int IntKind.u8 0, Value.int IntKind.u8 0, Value.int IntKind.u8 0, Value.nilFunc, Value.pointer Option.none, Value.int IntKind.i32 0, Value.int IntKind.i32 0]) := by kernel_rfl
theorem fieldsOk_171 : fieldsOk Try.prog 171 = true := by kernel_rfl
theorem tField_171_0 : tField Try.prog 171 0 = some 0 := by kernel_rfl
theorem placeOf_171_0 : placeOf Try.prog 171 0 = some (0, 1) := by kernel_rfl
theorem tField_171_1 : tField Try.prog 171 1 = some 1 := by kernel_rfl
theorem placeOf_171_1 : placeOf Try.prog 171 1 = some (1, 1) := by kernel_rfl
theorem tField_171_2 : tField Try.prog 171 2 = some 2 := by kernel_rfl
theorem placeOf_171_2 : placeOf Try.prog 171 2 = some (2, 1) := by kernel_rfl
theorem tField_171_3 : tField Try.prog 171 3 = some 3 := by kernel_rfl
theorem placeOf_171_3 : placeOf Try.prog 171 3 = some (3, 1) := by kernel_rfl
theorem tField_171_4 : tField Try.prog 171 4 = some 4 := by kernel_rfl
theorem placeOf_171_4 : placeOf Try.prog 171 4 = some (4, 1) := by kernel_rfl
theorem tField_171_5 : tField Try.prog 171 5 = some 5 := by kernel_rfl
theorem placeOf_171_5 : placeOf Try.prog 171 5 = some (5, 1) := by kernel_rfl
theorem tField_171_6 : tField Try.prog 171 6 = some 6 := by kernel_rfl
theorem placeOf_171_6 : placeOf Try.prog 171 6 = some (6, 1) := by kernel_rfl
theorem tField_171_7 : tField Try.prog 171 7 = some 7 := by kernel_rfl
theorem placeOf_171_7 : placeOf Try.prog 171 7 = some (7, 1) := by kernel_rfl
theorem tField_171_8 : tField Try.prog 171 8 = some 8 := by kernel_rfl
theorem placeOf_171_8 : placeOf Try.prog 171 8 = some (8, 1) := by kernel_rfl
theorem tField_171_9 : tField Try.prog 171 9 = some 9 := by kernel_rfl
theorem placeOf_171_9 : placeOf Try.prog 171 9 = some (9, 1) := by kernel_rfl
theorem tField_171_10 : tField Try.prog 171 10 = some 10 := by kernel_rfl
theorem placeOf_171_10 : placeOf Try.prog 171 10 = some (10, 1) := by kernel_rfl
theorem tI_172 : tI Try.prog 172 = some (true, 11, [Value.int IntKind.u64 0, Value.int IntKind.u64 0, Value.int IntKind.u32 0, Value.int IntKind.u8 0, Value.int IntKind.u8 0, Value.int IntKind.u8 0, Value.int IntKind.u8 0, Value.nilFunc, Value.pointer Option.none, Value.int IntKind.i32 0, Value.int IntKind.i32 0]) := by kernel_rfl
theorem fieldsOk_172 : fieldsOk Try.prog 172 = true := by kernel_rfl
theorem tField_172_0 : tField Try.prog 172 0 = some 0 := by kernel_rfl
theorem placeOf_172_0 : placeOf Try.prog 172 0 = some (0, 1) := by kernel_rfl
theorem tField_172_1 : tField Try.prog 172 1 = some 1 := by kernel_rfl
theorem placeOf_172_1 : placeOf Try.prog 172 1 = some (1, 1) := by kernel_rfl
theorem tField_172_2 : tField Try.prog 172 2 = some 2 := by kernel_rfl
theorem placeOf_172_2 : placeOf Try.prog 172 2 = some (2, 1) := by kernel_rfl
theorem tField_172_3 : tField Try.prog 172 3 = some 3 := by kernel_rfl
theorem placeOf_172_3 : placeOf Try.prog 172 3 = some (3, 1) := by kernel_rfl
theorem tField_172_4 : tField Try.prog 172 4 = some 4 := by kernel_rfl
theorem placeOf_172_4 : placeOf Try.prog 172 4 = some (4, 1) := by kernel_rfl
theorem tField_172_5 : tField Try.prog 172 5 = some 5 := by kernel_rfl
theorem placeOf_172_5 : placeOf Try.prog 172 5 = some (5, 1) := by kernel_rfl
theorem tField_172_6 : tField Try.prog 172 6 = some 6 := by kernel_rfl
theorem placeOf_172_6 : placeOf Try.prog 172 6 = some (6, 1) := by kernel_rfl
theorem tField_172_7 : tField Try.prog 172 7 = some 7 := by kernel_rfl
theorem placeOf_172_7 : placeOf Try.prog 172 7 = some (7, 1) := by kernel_rfl
theorem tField_172_8 : tField Try.prog 172 8 = some 8 := by kernel_rfl
theorem placeOf_172_8 : placeOf Try.prog 172 8 = some (8, 1) := by kernel_rfl
theorem tField_172_9 : tField Try.prog 172 9 = some 9 := by kernel_rfl
theorem placeOf_172_9 : placeOf Try.prog 172 9 = some (9, 1) := by kernel_rfl
theorem tField_172_10 : tField Try.prog 172 10 = some 10 := by kernel_rfl
theorem placeOf_172_10 : placeOf Try.prog 172 10 = some (10, 1) := by kernel_rfl
theorem tI_173 : tI Try.prog 173 = some (false, 1, [Value.nilFunc]) := by kernel_rfl
theorem tI_174 : tI Try.prog 174 = some (false, 1, [Value.pointer Option.none]) := by kernel_rfl
theorem callable_2 : callable Try.prog 2 = true := by kernel_rfl
theorem callable_3 : callable Try.prog 3 = true := by kernel_rfl
theorem callable_4 : callable Try.prog 4 = true := by kernel_rfl
theorem callable_5 : callable Try.prog 5 = true := by kernel_rfl
theorem callable_6 : callable Try.prog 6 = true := by kernel_rfl
theorem callable_7 : callable Try.prog 7 = true := by kernel_rfl
theorem callable_8 : callable Try.prog 8 = true := by kernel_rfl
theorem callable_9 : callable Try.prog 9 = true := by kernel_rfl
theorem callable_10 : callable Try.prog 10 = true := by kernel_rfl
theorem callable_11 : callable Try.prog 11 = true := by kernel_rfl
theorem callable_12 : callable Try.prog 12 = true := by kernel_rfl
theorem callable_13 : callable Try.prog 13 = true := by kernel_rfl
theorem callable_14 : callable Try.prog 14 = true := by kernel_rfl
theorem callable_15 : callable Try.prog 15 = true := by kernel_rfl
theorem callable_16 : callable Try.prog 16 = true := by kernel_rfl
theorem callable_17 : callable Try.prog 17 = true := by kernel_rfl
theorem callable_18 : callable Try.prog 18 = true := by kernel_rfl
theorem callable_19 : callable Try.prog 19 = true := by kernel_rfl
theorem callable_20 : callable Try.prog 20 = true := by kernel_rfl
theorem callable_21 : callable Try.prog 21 = true := by kernel_rfl
theorem callable_22 : callable Try.prog 22 = true := by kernel_rfl
theorem callable_23 : callable Try.prog 23 = true := by kernel_rfl
theorem callable_24 : callable Try.prog 24 = true := by kernel_rfl
theorem callable_25 : callable Try.prog 25 = true := by kernel_rfl
theorem callable_26 : callable Try.prog 26 = true := by kernel_rfl
theorem callable_27 : callable Try.prog 27 = true := by kernel_rfl
theorem callable_28 : callable Try.prog 28 = true := by kernel_rfl
theorem callable_29 : callable Try.prog 29 = true := by kernel_rfl
theorem callable_30 : callable Try.prog 30 = true := by kernel_rfl
theorem callable_31 : callable Try.prog 31 = true := by kernel_rfl
theorem callable_32 : callable Try.prog 32 = true := by kernel_rfl
theorem callable_33 : callable Try.prog 33 = true := by kernel_rfl
theorem callable_34 : callable Try.prog 34 = true := by kernel_rfl
theorem callable_35 : callable Try.prog 35 = true := by kernel_rfl
theorem callable_36 : callable Try.prog 36 = true := by kernel_rfl
theorem callable_37 : callable Try.prog 37 = true := by kernel_rfl
theorem callable_38 : callable Try.prog 38 = true := by kernel_rfl
theorem callable_39 : callable Try.prog 39 = true := by kernel_rfl
theorem callable_40 : callable Try.prog 40 = true := by kernel_rfl
theorem callable_41 : callable Try.prog 41 = true := by kernel_rfl
theorem callable_42 : callable Try.prog 42 = true := by kernel_rfl
theorem callable_43 : callable Try.prog 43 = true := by kernel_rfl
theorem callable_44 : callable Try.prog 44 = true := by kernel_rfl
theorem callable_45 : callable Try.prog 45 = true := by kernel_rfl
theorem callable_46 : callable Try.prog 46 = true := by kernel_rfl
theorem callable_47 : callable Try.prog 47 = true := by kernel_rfl
theorem callable_48 : callable Try.prog 48 = true := by kernel_rfl
theorem callable_49 : callable Try.prog 49 = true := by kernel_rfl
theorem callable_50 : callable Try.prog 50 = true := by kernel_rfl
theorem callable_51 : callable Try.prog 51 = true := by kernel_rfl
theorem callable_52 : callable Try.prog 52 = true := by kernel_rfl
theorem callable_53 : callable Try.prog 53 = true := by kernel_rfl
theorem callable_54 : callable Try.prog 54 = true := by kernel_rfl
theorem callable_55 : callable Try.prog 55 = true := by kernel_rfl
theorem callable_56 : callable Try.prog 56 = true := by kernel_rfl
theorem callable_57 : callable Try.prog 57 = true := by kernel_rfl
theorem callable_58 : callable Try.prog 58 = true := by kernel_rfl
theorem callable_59 : callable Try.prog 59 = true := by kernel_rfl
theorem callable_60 : callable Try.prog 60 = true := by kernel_rfl
theorem callable_61 : callable Try.prog 61 = true := by kernel_rfl
theorem callable_62 : callable Try.prog 62 = true := by kernel_rfl
theorem callable_63 : callable Try.prog 63 = true := by kernel_rfl
theorem callable_64 : callable Try.prog 64 = true := by kernel_rfl
theorem callable_65 : callable Try.prog 65 = true := by kernel_rfl
theorem callable_66 : callable Try.prog 66 = true := by kernel_rfl
theorem callable_67 : callable Try.prog 67 = true := by kernel_rfl
theorem callable_68 : callable Try.prog 68 = true := by kernel_rfl
theorem callable_69 : callable Try.prog 69 = true := by kernel_rfl
theorem callable_70 : callable Try.prog 70 = true := by kernel_rfl
theorem callable_71 : callable Try.prog 71 = true := by kernel_rfl
theorem callable_72 : callable Try.prog 72 = true := by kernel_rfl
theorem callable_73 : callable Try.prog 73 = true := by kernel_rfl
theorem callable_74 : callable Try.prog 74 = true := by kernel_rfl
theorem callable_75 : callable Try.prog 75 = true := by kernel_rfl
theorem callable_76 : callable Try.prog 76 = true := by kernel_rfl
theorem callable_77 : callable Try.prog 77 = true := by kernel_rfl
theorem callable_78 : callable Try.prog 78 = true := by kernel_rfl
theorem callable_79 : callable Try.prog 79 = true := by kernel_rfl
theorem callable_80 : callable Try.prog 80 = true := by kernel_rfl
theorem callable_81 : callable Try.prog 81 = true := by kernel_rfl
theorem callable_82 : callable Try.prog 82 = true := by kernel_rfl
theorem callable_83 : callable Try.prog 83 = true := by kernel_rfl
theorem callable_84 : callable Try.prog 84 = true := by kernel_rfl
theorem callable_85 : callable Try.prog 85 = true := by kernel_rfl
theorem callable_86 : callable Try.prog 86 = true := by kernel_rfl
theorem callable_87 : callable Try.prog 87 = true := by kernel_rfl
theorem callable_88 : callable Try.prog 88 = true := by kernel_rfl
theorem callable_89 : callable Try.prog 89 = true := by kernel_rfl
theorem callable_90 : callable Try.prog 90 = true := by kernel_rfl
theorem callable_91 : callable Try.prog 91 = true := by kernel_rfl
theorem callable_92 : callable Try.prog 92 = true := by kernel_rfl
theorem callable_93 : callable Try.prog 93 = true := by kernel_rfl
theorem callable_94 : callable Try.prog 94 = true := by kernel_rfl
theorem callable_95 : callable Try.prog 95 = true := by kernel_rfl
theorem callable_96 : callable Try.prog 96 = true := by kernel_rfl
theorem callable_97 : callable Try.prog 97 = true := by kernel_rfl
theorem callable_98 : callable Try.prog 98 = true := by kernel_rfl
theorem callable_99 : callable Try.prog 99 = true := by kernel_rfl
theorem callable_100 : callable Try.prog 100 = true := by kernel_rfl
theorem callable_101 : callable Try.prog 101 = true := by kernel_rfl
theorem callable_102 : callable Try.prog 102 = true := by kernel_rfl
theorem callable_103 : callable Try.prog 103 = true := by kernel_rfl
theorem callable_104 : callable Try.prog 104 = true := by kernel_rfl
theorem callable_105 : callable Try.prog 105 = true := by kernel_rfl
theorem callable_106 : callable Try.prog 106 = true := by kernel_rfl
theorem callable_107 : callable Try.prog 107 = true := by kernel_rfl
theorem callable_108 : callable Try.prog 108 = true := by kernel_rfl
theorem callable_109 : callable Try.prog 109 = true := by kernel_rfl
theorem callable_110 : callable Try.prog 110 = true := by kernel_rfl
theorem callable_111 : callable Try.prog 111 = true := by kernel_rfl
theorem callable_112 : callable Try.prog 112 = true := by kernel_rfl
theorem callable_113 : callable Try.prog 113 = true := by kernel_rfl
theorem callable_114 : callable Try.prog 114 = true := by kernel_rfl
theorem callable_115 : callable Try.prog 115 = true := by kernel_rfl
theorem callable_116 : callable Try.prog 116 = true := by kernel_rfl
theorem callable_117 : callable Try.prog 117 = true := by kernel_rfl
theorem callable_118 : callable Try.prog 118 = true := by kernel_rfl
theorem callable_119 : callable Try.prog 119 = true := by kernel_rfl
theorem callable_120 : callable Try.prog 120 = true := by kernel_rfl
theorem callable_121 : callable Try.prog 121 = true := by kernel_rfl
theorem callable_122 : callable Try.prog 122 = true := by kernel_rfl
theorem callable_123 : callable Try.prog 123 = true := by kernel_rfl
theorem callable_124 : callable Try.prog 124 = true := by kernel_rfl
theorem callable_125 : callable Try.prog 125 = true := by kernel_rfl
theorem callable_126 : callable Try.prog 126 = true := by kernel_rfl
theorem callable_127 : callable Try.prog 127 = true := by kernel_rfl
theorem callable_128 : callable Try.prog 128 = true := by kernel_rfl
theorem callable_129 : callable Try.prog 129 = true := by kernel_rfl
theorem callable_130 : callable Try.prog 130 = true := by kernel_rfl
theorem callable_131 : callable Try.prog 131 = true := by kernel_rfl
theorem callable_132 : callable Try.prog 132 = true := by kernel_rfl
theorem callable_133 : callable Try.prog 133 = true := by kernel_rfl
theorem callable_134 : callable Try.prog 134 = true := by kernel_rfl
theorem callable_135 : callable Try.prog 135 = true := by kernel_rfl
theorem callable_136 : callable Try.prog 136 = true := by kernel_rfl
theorem callable_137 : callable Try.prog 137 = true := by kernel_rfl
theorem callable_138 : callable Try.prog 138 = true := by kernel_rfl
theorem callable_139 : callable Try.prog 139 = true := by kernel_rfl
theorem callable_140 : callable Try.prog 140 = true := by kernel_rfl
theorem callable_141 : callable Try.prog 141 = true := by kernel_rfl
theorem callable_142 : callable Try.prog 142 = true := by kernel_rfl
theorem callable_143 : callable Try.prog 143 = true := by kernel_rfl
theorem callable_144 : callable Try.prog 144 = true := by kernel_rfl
theorem callable_145 : callable Try.prog 145 = true := by kernel_rfl
theorem callable_146 : callable Try.prog 146 = true := by kernel_rfl
theorem tMapI_146 : tMapI Try.prog 146 = some (KK.row [IntKind.i64, IntKind.i64], IntKind.i64) := by kernel_rfl
theorem tMapI_151 : tMapI Try.prog 151 = some (KK.row [IntKind.u64, IntKind.u64], IntKind.i64) := by kernel_rfl
theorem tMapI_152 : tMapI Try.prog 152 = some (KK.one IntKind.i64, IntKind.i64) := by kernel_rfl
attribute [simp] tMapI_146 tMapI_151 tMapI_152
attribute [simp] tI_0 tI_1 tI_2 tInt_2 tI_3 tInt_3 tI_4 tBool_4 tI_5 tInt_5 tI_6 tInt_6 tI_7 fieldsOk_7 tField_7_0 placeOf_7_0 tField_7_1 placeOf_7_1 tField_7_2 placeOf_7_2 tField_7_3 placeOf_7_3 tI_8 fieldsOk_8 tField_8_0 placeOf_8_0 tField_8_1 placeOf_8_1 tField_8_2 placeOf_8_2 tField_8_3 placeOf_8_3 tI_9 tStr_9 tI_10 tStr_10 tI_11 tStr_11 tI_12 tInt_12 tI_13 fieldsOk_13 tField_13_0 placeOf_13_0 tField_13_1 placeOf_13_1 tI_14 fieldsOk_14 tField_14_0 placeOf_14_0 tField_14_1 placeOf_14_1 tI_15 tI_16 tI_17 tI_18 fieldsOk_18 tField_18_0 placeOf_18_0 tI_19 fieldsOk_19 tField_19_0 placeOf_19_0 tI_20 tI_21 tInt_21 tI_22 tElem_22 tI_23 tElem_23 tI_24 fieldsOk_24 tField_24_0 placeOf_24_0 tField_24_1 placeOf_24_1 tI_25 fieldsOk_25 tField_25_0 placeOf_25_0 tField_25_1 placeOf_25_1 tI_26 tI_27 tI_28 fieldsOk_28 tField_28_0 placeOf_28_0 tField_28_1 placeOf_28_1 tI_29 tI_30 tI_31 tI_32 tI_33 tI_34 tI_35 tElem_35 tI_36 tElem_36 tI_37 fieldsOk_37 tField_37_0 placeOf_37_0 tField_37_1 placeOf_37_1 tField_37_2 placeOf_37_2 tField_37_3 placeOf_37_3 tI_38 fieldsOk_38 tField_38_0 placeOf_38_0 tField_38_1 placeOf_38_1 tField_38_2 placeOf_38_2 tField_38_3 placeOf_38_3 tI_39 tI_40 tI_41 tElem_41 tI_42 fieldsOk_42 tField_42_0 placeOf_42_0 tField_42_1 placeOf_42_1 tField_42_2 placeOf_42_2 tField_42_3 placeOf_42_3 tI_43 fieldsOk_43 tField_43_0 placeOf_43_0 tField_43_1 placeOf_43_1 tField_43_2 placeOf_43_2 tField_43_3 placeOf_43_3 tI_44 tI_45 tI_46 tI_47 tI_48 tI_49 tI_50 tI_51 tI_52 tI_53 tI_54 tI_55 tI_56 tI_57 tI_58 tI_59 tI_60 tElem_60 tI_61 tElem_61 tI_62 fieldsOk_62 tField_62_0 placeOf_62_0 tField_62_1 placeOf_62_1 tField_62_2 placeOf_62_2 tI_63 fieldsOk_63 tField_63_0 placeOf_63_0 tField_63_1 placeOf_63_1 tField_63_2 placeOf_63_2 tI_64 tI_65 tI_66 tI_67 fieldsOk_67 tField_67_0 placeOf_67_0 tField_67_1 placeOf_67_1 tField_67_2 placeOf_67_2 tI_68 tI_69 tI_70 tI_71 tI_72 tI_73 tI_74 tI_75 tI_76 tI_77 tI_78 tI_79 tI_80 tI_81 tI_82 tI_83 tI_84 tI_85 tI_86 tI_87 tI_88 tI_89 tInt_89 tI_90 tArr_90 tEqS_90 fieldsOk_90 placeOf_90_0 placeOf_90_1 placeOf_90_2 placeOf_90_3 placeOf_90_4 placeOf_90_5 placeOf_90_6 placeOf_90_7 placeOf_90_8 placeOf_90_9 placeOf_90_10 placeOf_90_11 tI_91 tArr_91 tEqS_91 fieldsOk_91 placeOf_91_0 placeOf_91_1 placeOf_91_2 placeOf_91_3 placeOf_91_4 placeOf_91_5 placeOf_91_6 placeOf_91_7 placeOf_91_8 placeOf_91_9 placeOf_91_10 placeOf_91_11 tI_92 tI_93 tI_94 tI_95 tI_96 tI_97 tI_98 tI_99 tI_100 tI_101 tI_102 tElem_102 tI_103 tI_104 tI_105 tI_106 tI_107 tI_108 tI_109 tI_110 tI_111 tI_112 tI_113 tI_114 tI_115 tI_116 tElem_116 tI_117 tI_118 tI_119 tArr_119 tEqS_119 fieldsOk_119 placeOf_119_0 placeOf_119_1 placeOf_119_2 placeOf_119_3 placeOf_119_4 placeOf_119_5 placeOf_119_6 placeOf_119_7 placeOf_119_8 placeOf_119_9 placeOf_119_10 placeOf_119_11 tI_120 tArr_120 tEqS_120 fieldsOk_120 placeOf_120_0 placeOf_120_1 placeOf_120_2 placeOf_120_3 placeOf_120_4 placeOf_120_5 placeOf_120_6 placeOf_120_7 placeOf_120_8 placeOf_120_9 placeOf_120_10 placeOf_120_11 tI_121 tI_122 tI_123 tI_124 tI_125 tI_126 tI_127 tI_128 tEqS_128 fieldsOk_128 tField_128_0 placeOf_128_0 tField_128_1 placeOf_128_1 tField_128_2 placeOf_128_2 tI_129 tEqS_129 fieldsOk_129 tField_129_0 placeOf_129_0 tField_129_1 placeOf_129_1 tField_129_2 placeOf_129_2 tI_130 tI_131 tEqS_131 fieldsOk_131 tField_131_0 placeOf_131_0 tField_131_1 placeOf_131_1 tField_131_2 placeOf_131_2 tI_132 tI_133 tI_134 tI_135 tI_136 tI_137 tI_138 tElem_138 tI_139 tI_140 tI_141 tI_142 tI_143 tI_144 tI_145 tI_146 tI_147 tI_148 tI_149 tI_150 tI_151 tI_152 tI_153 tI_154 tI_155 tI_156 tElem_156 tByteSl_156 tI_157 tI_158 fieldsOk_158 tField_158_0 placeOf_158_0 tField_158_1 placeOf_158_1 tField_158_2 placeOf_158_2 tField_158_3 placeOf_158_3 tI_159 fieldsOk_159 tField_159_0 placeOf_159_0 tField_159_1 placeOf_159_1 tField_159_2 placeOf_159_2 tField_159_3 placeOf_159_3 tI_160 tArr_160 fieldsOk_160 placeOf_160_0 placeOf_160_1 placeOf_160_2 placeOf_160_3 placeOf_160_4 placeOf_160_5 placeOf_160_6 placeOf_160_7 placeOf_160_8 placeOf_160_9 placeOf_160_10 placeOf_160_11 tI_161 fieldsOk_161 placeOf_161_0 tI_162 fieldsOk_162 placeOf_162_0 tI_163 tI_164 tInt_164 tI_165 tInt_165 tI_166 tInt_166 tI_167 tI_168 tI_169 tInt_169 tI_170 tInt_170 tI_171 fieldsOk_171 tField_171_0 placeOf_171_0 tField_171_1 placeOf_171_1 tField_171_2 placeOf_171_2 tField_171_3 placeOf_171_3 tField_171_4 placeOf_171_4 tField_171_5 placeOf_171_5 tField_171_6 placeOf_171_6 tField_171_7 placeOf_171_7 tField_171_8 placeOf_171_8 tField_171_9 placeOf_171_9 tField_171_10 placeOf_171_10 tI_172 fieldsOk_172 tField_172_0 placeOf_172_0 tField_172_1 placeOf_172_1 tField_172_2 placeOf_172_2 tField_172_3 placeOf_172_3 tField_172_4 placeOf_172_4 tField_172_5 placeOf_172_5 tField_172_6 placeOf_172_6 tField_172_7 placeOf_172_7 tField_172_8 placeOf_172_8 tField_172_9 placeOf_172_9 tField_172_10 placeOf_172_10 tI_173 tI_174 callable_2 callable_3 callable_4 callable_5 callable_6 callable_7 callable_8 callable_9 callable_10 callable_11 callable_12 callable_13 callable_14 callable_15 callable_16 callable_17 callable_18 callable_19 callable_20 callable_21 callable_22 callable_23 callable_24 callable_25 callable_26 callable_27 callable_28 callable_29 callable_30 callable_31 callable_32 callable_33 callable_34 callable_35 callable_36 callable_37 callable_38 callable_39 callable_40 callable_41 callable_42 callable_43 callable_44 callable_45 callable_46 callable_47 callable_48 callable_49 callable_50 callable_51 callable_52 callable_53 callable_54 callable_55 callable_56 callable_57 callable_58 callable_59 callable_60 callable_61 callable_62 callable_63 callable_64 callable_65 callable_66 callable_67 callable_68 callable_69 callable_70 callable_71 callable_72 callable_73 callable_74 callable_75 callable_76 callable_77 callable_78 callable_79 callable_80 callable_81 callable_82 callable_83 callable_84 callable_85 callable_86 callable_87 callable_88 callable_89 callable_90 callable_91 callable_92 callable_93 callable_94 callable_95 callable_96 callable_97 callable_98 callable_99 callable_100 callable_101 callable_102 callable_103 callable_104 callable_105 callable_106 callable_107 callable_108 callable_109 callable_110 callable_111 callable_112 callable_113 callable_114 callable_115 callable_116 callable_117 callable_118 callable_119 callable_120 callable_121 callable_122 callable_123 callable_124 callable_125 callable_126 callable_127 callable_128 callable_129 callable_130 callable_131 callable_132 callable_133 callable_134 callable_135 callable_136 callable_137 callable_138 callable_139 callable_140 callable_141 callable_142 callable_143 callable_144 callable_145 callable_146
theorem mixed : Try.prog.follows .mixedOrders = true := by kernel_rfl

end Go.Fw.Ty
