/- The types of the program, as far as they are asked. -/
import Derived.Test.YteenfgdemklhcaaProg
import Derived.Test.YteenfgdemklhcaaFwa
set_option linter.unusedSimpArgs false
set_option linter.unusedVariables false
namespace Go.Fw.Ty
open Go Go.Proofs

theorem tI_0 : tI Try.prog 0 = some (false, 1, [Value.tuple #[]]) := by kernel_rfl
theorem tI_1 : tI Try.prog 1 = some (false, 1, [Value.nilFunc]) := by kernel_rfl
theorem tI_2 : tI Try.prog 2 = some (false, 1, [Value.int IntKind.i64 0]) := by kernel_rfl
theorem tInt_2 : tInt Try.prog 2 = some IntKind.i64 := by kernel_rfl
theorem tI_3 : tI Try.prog 3 = some (false, 1, [Value.int IntKind.i64 0]) := by kernel_rfl
theorem tInt_3 : tInt Try.prog 3 = some IntKind.i64 := by kernel_rfl
theorem tI_4 : tI Try.prog 4 = some (false, 1, [Value.bool false]) := by kernel_rfl
theorem tBool_4 : tBool Try.prog 4 = true := by kernel_rfl
theorem tI_5 : tI Try.prog 5 = some (false, 1, [Value.int IntKind.u8 0]) := by kernel_rfl
theorem tInt_5 : tInt Try.prog 5 = some IntKind.u8 := by kernel_rfl
theorem tI_6 : tI Try.prog 6 = some (false, 1, [Value.int IntKind.u8 0]) := by kernel_rfl
theorem tInt_6 : tInt Try.prog 6 = some IntKind.u8 := by kernel_rfl
theorem tI_7 : tI Try.prog 7 = some (true, 4, [Value.int IntKind.i64 0, Value.int IntKind.i64 0, Value.bool false, Value.int IntKind.u8 0]) := by kernel_rfl
theorem fieldsOk_7 : fieldsOk Try.prog 7 = true := by kernel_rfl
theorem tField_7_0 : tField Try.prog 7 0 = some 0 := by kernel_rfl
theorem placeOf_7_0 : placeOf Try.prog 7 0 = some (0, 1) := by kernel_rfl
theorem tField_7_1 : tField Try.prog 7 1 = some 1 := by kernel_rfl
theorem placeOf_7_1 : placeOf Try.prog 7 1 = some (1, 1) := by kernel_rfl
theorem tField_7_2 : tField Try.prog 7 2 = some 2 := by kernel_rfl
theorem placeOf_7_2 : placeOf Try.prog 7 2 = some (2, 1) := by kernel_rfl
theorem tField_7_3 : tField Try.prog 7 3 = some 3 := by kernel_rfl
theorem placeOf_7_3 : placeOf Try.prog 7 3 = some (3, 1) := by kernel_rfl
theorem tI_8 : tI Try.prog 8 = some (true, 4, [Value.int IntKind.i64 0, Value.int IntKind.i64 0, Value.bool false, Value.int IntKind.u8 0]) := by kernel_rfl
theorem fieldsOk_8 : fieldsOk Try.prog 8 = true := by kernel_rfl
theorem tField_8_0 : tField Try.prog 8 0 = some 0 := by kernel_rfl
theorem placeOf_8_0 : placeOf Try.prog 8 0 = some (0, 1) := by kernel_rfl
theorem tField_8_1 : tField Try.prog 8 1 = some 1 := by kernel_rfl
theorem placeOf_8_1 : placeOf Try.prog 8 1 = some (1, 1) := by kernel_rfl
theorem tField_8_2 : tField Try.prog 8 2 = some 2 := by kernel_rfl
theorem placeOf_8_2 : placeOf Try.prog 8 2 = some (2, 1) := by kernel_rfl
theorem tField_8_3 : tField Try.prog 8 3 = some 3 := by kernel_rfl
theorem placeOf_8_3 : placeOf Try.prog 8 3 = some (3, 1) := by kernel_rfl
theorem tI_9 : tI Try.prog 9 = some (false, 1, [Value.string ⟨#[]⟩]) := by kernel_rfl
theorem tStr_9 : tStr Try.prog 9 = true := by kernel_rfl
theorem tI_10 : tI Try.prog 10 = some (false, 1, [Value.string ⟨#[]⟩]) := by kernel_rfl
theorem tStr_10 : tStr Try.prog 10 = true := by kernel_rfl
theorem tI_11 : tI Try.prog 11 = some (false, 1, [Value.string ⟨#[]⟩]) := by kernel_rfl
theorem tStr_11 : tStr Try.prog 11 = true := by kernel_rfl
theorem tI_12 : tI Try.prog 12 = some (false, 1, [Value.int IntKind.u64 0]) := by kernel_rfl
theorem tInt_12 : tInt Try.prog 12 = some IntKind.u64 := by kernel_rfl
theorem tI_13 : tI Try.prog 13 = some (true, 2, [Value.string ⟨#[]⟩, Value.int IntKind.u64 0]) := by kernel_rfl
theorem fieldsOk_13 : fieldsOk Try.prog 13 = true := by kernel_rfl
theorem tField_13_0 : tField Try.prog 13 0 = some 0 := by kernel_rfl
theorem placeOf_13_0 : placeOf Try.prog 13 0 = some (0, 1) := by kernel_rfl
theorem tField_13_1 : tField Try.prog 13 1 = some 1 := by kernel_rfl
theorem placeOf_13_1 : placeOf Try.prog 13 1 = some (1, 1) := by kernel_rfl
theorem tI_14 : tI Try.prog 14 = some (true, 2, [Value.string ⟨#[]⟩, Value.int IntKind.u64 0]) := by kernel_rfl
theorem fieldsOk_14 : fieldsOk Try.prog 14 = true := by kernel_rfl
theorem tField_14_0 : tField Try.prog 14 0 = some 0 := by kernel_rfl
theorem placeOf_14_0 : placeOf Try.prog 14 0 = some (0, 1) := by kernel_rfl
theorem tField_14_1 : tField Try.prog 14 1 = some 1 := by kernel_rfl
theorem placeOf_14_1 : placeOf Try.prog 14 1 = some (1, 1) := by kernel_rfl
theorem tI_15 : tI Try.prog 15 = some (false, 1, [Value.pointer Option.none]) := by kernel_rfl
theorem tI_16 : tI Try.prog 16 = some (false, 1, [Value.pointer Option.none]) := by kernel_rfl
theorem tI_17 : tI Try.prog 17 = some (false, 1, [Value.pointer Option.none]) := by kernel_rfl
theorem tI_18 : tI Try.prog 18 = some (true, 1, [Value.pointer Option.none]) := by kernel_rfl
theorem fieldsOk_18 : fieldsOk Try.prog 18 = true := by kernel_rfl
theorem tField_18_0 : tField Try.prog 18 0 = some 0 := by kernel_rfl
theorem placeOf_18_0 : placeOf Try.prog 18 0 = some (0, 1) := by kernel_rfl
theorem tI_19 : tI Try.prog 19 = some (true, 1, [Value.pointer Option.none]) := by kernel_rfl
theorem fieldsOk_19 : fieldsOk Try.prog 19 = true := by kernel_rfl
theorem tField_19_0 : tField Try.prog 19 0 = some 0 := by kernel_rfl
theorem placeOf_19_0 : placeOf Try.prog 19 0 = some (0, 1) := by kernel_rfl
theorem tI_20 : tI Try.prog 20 = some (false, 1, [Value.nilIface]) := by kernel_rfl
theorem tI_21 : tI Try.prog 21 = some (false, 1, [Value.int IntKind.i32 0]) := by kernel_rfl
theorem tInt_21 : tInt Try.prog 21 = some IntKind.i32 := by kernel_rfl
theorem tI_22 : tI Try.prog 22 = some (false, 1, [Value.slice Option.none 0 0]) := by kernel_rfl
theorem tElem_22 : tElem Try.prog 22 = some (1, 24, 64) := by kernel_rfl
theorem tI_23 : tI Try.prog 23 = some (false, 1, [Value.slice Option.none 0 0]) := by kernel_rfl
theorem tElem_23 : tElem Try.prog 23 = some (1, 1, 4) := by kernel_rfl
theorem tI_24 : tI Try.prog 24 = some (true, 2, [Value.slice Option.none 0 0, Value.slice Option.none 0 0]) := by kernel_rfl
theorem fieldsOk_24 : fieldsOk Try.prog 24 = true := by kernel_rfl
theorem tField_24_0 : tField Try.prog 24 0 = some 0 := by kernel_rfl
theorem placeOf_24_0 : placeOf Try.prog 24 0 = some (0, 1) := by kernel_rfl
theorem tField_24_1 : tField Try.prog 24 1 = some 1 := by kernel_rfl
theorem placeOf_24_1 : placeOf Try.prog 24 1 = some (1, 1) := by kernel_rfl
theorem tI_25 : tI Try.prog 25 = some (true, 2, [Value.slice Option.none 0 0, Value.slice Option.none 0 0]) := by kernel_rfl
theorem fieldsOk_25 : fieldsOk Try.prog 25 = true := by kernel_rfl
theorem tField_25_0 : tField Try.prog 25 0 = some 0 := by kernel_rfl
theorem placeOf_25_0 : placeOf Try.prog 25 0 = some (0, 1) := by kernel_rfl
theorem tField_25_1 : tField Try.prog 25 1 = some 1 := by kernel_rfl
theorem placeOf_25_1 : placeOf Try.prog 25 1 = some (1, 1) := by kernel_rfl
theorem tI_26 : tI Try.prog 26 = some (false, 1, [Value.nilFunc]) := by kernel_rfl
theorem tI_27 : tI Try.prog 27 = some (true, 2, [Value.slice Option.none 0 0, Value.slice Option.none 0 0]) := by kernel_rfl
theorem fieldsOk_27 : fieldsOk Try.prog 27 = true := by kernel_rfl
theorem tField_27_0 : tField Try.prog 27 0 = some 0 := by kernel_rfl
theorem placeOf_27_0 : placeOf Try.prog 27 0 = some (0, 1) := by kernel_rfl
theorem tField_27_1 : tField Try.prog 27 1 = some 1 := by kernel_rfl
theorem placeOf_27_1 : placeOf Try.prog 27 1 = some (1, 1) := by kernel_rfl
theorem tI_28 : tI Try.prog 28 = some (false, 1, [Value.nilFunc]) := by kernel_rfl
theorem tI_29 : tI Try.prog 29 = some (false, 1, [Value.nilFunc]) := by kernel_rfl
theorem tI_30 : tI Try.prog 30 = some (false, 1, [Value.nilFunc]) := by kernel_rfl
theorem tI_31 : tI Try.prog 31 = some (false, 1, [Value.nilFunc]) := by kernel_rfl
theorem tI_32 : tI Try.prog 32 = some (false, 1, [Value.nilFunc]) := by kernel_rfl
theorem tI_33 : tI Try.prog 33 = some (false, 1, [Value.slice Option.none 0 0]) := by kernel_rfl
theorem tElem_33 : tElem Try.prog 33 = some (1, 24, 34) := by kernel_rfl
theorem tI_34 : tI Try.prog 34 = some (false, 1, [Value.slice Option.none 0 0]) := by kernel_rfl
theorem tElem_34 : tElem Try.prog 34 = some (1, 16, 9) := by kernel_rfl
theorem tI_35 : tI Try.prog 35 = some (true, 3, [Value.slice Option.none 0 0, Value.slice Option.none 0 0, Value.slice Option.none 0 0]) := by kernel_rfl
theorem fieldsOk_35 : fieldsOk Try.prog 35 = true := by kernel_rfl
theorem tField_35_0 : tField Try.prog 35 0 = some 0 := by kernel_rfl
theorem placeOf_35_0 : placeOf Try.prog 35 0 = some (0, 1) := by kernel_rfl
theorem tField_35_1 : tField Try.prog 35 1 = some 1 := by kernel_rfl
theorem placeOf_35_1 : placeOf Try.prog 35 1 = some (1, 1) := by kernel_rfl
theorem tField_35_2 : tField Try.prog 35 2 = some 2 := by kernel_rfl
theorem placeOf_35_2 : placeOf Try.prog 35 2 = some (2, 1) := by kernel_rfl
theorem tI_36 : tI Try.prog 36 = some (true, 3, [Value.slice Option.none 0 0, Value.slice Option.none 0 0, Value.slice Option.none 0 0]) := by kernel_rfl
theorem fieldsOk_36 : fieldsOk Try.prog 36 = true := by kernel_rfl
theorem tField_36_0 : tField Try.prog 36 0 = some 0 := by kernel_rfl
theorem placeOf_36_0 : placeOf Try.prog 36 0 = some (0, 1) := by kernel_rfl
theorem tField_36_1 : tField Try.prog 36 1 = some 1 := by kernel_rfl
theorem placeOf_36_1 : placeOf Try.prog 36 1 = some (1, 1) := by kernel_rfl
theorem tField_36_2 : tField Try.prog 36 2 = some 2 := by kernel_rfl
theorem placeOf_36_2 : placeOf Try.prog 36 2 = some (2, 1) := by kernel_rfl
theorem tI_37 : tI Try.prog 37 = some (false, 1, [Value.nilFunc]) := by kernel_rfl
theorem tI_38 : tI Try.prog 38 = some (true, 3, [Value.slice Option.none 0 0, Value.slice Option.none 0 0, Value.slice Option.none 0 0]) := by kernel_rfl
theorem fieldsOk_38 : fieldsOk Try.prog 38 = true := by kernel_rfl
theorem tField_38_0 : tField Try.prog 38 0 = some 0 := by kernel_rfl
theorem placeOf_38_0 : placeOf Try.prog 38 0 = some (0, 1) := by kernel_rfl
theorem tField_38_1 : tField Try.prog 38 1 = some 1 := by kernel_rfl
theorem placeOf_38_1 : placeOf Try.prog 38 1 = some (1, 1) := by kernel_rfl
theorem tField_38_2 : tField Try.prog 38 2 = some 2 := by kernel_rfl
theorem placeOf_38_2 : placeOf Try.prog 38 2 = some (2, 1) := by kernel_rfl
theorem tI_39 : tI Try.prog 39 = some (false, 1, [Value.tuple { toList := [Value.agg { toList := [Value.slice Option.none 0 0, Value.slice Option.none 0 0, Value.slice Option.none 0 0] }, Value.bool false] }]) := by kernel_rfl
theorem tI_40 : tI Try.prog 40 = some (false, 1, [Value.nilFunc]) := by kernel_rfl
theorem tI_41 : tI Try.prog 41 = some (false, 1, [Value.nilFunc]) := by kernel_rfl
theorem tI_42 : tI Try.prog 42 = some (false, 1, [Value.nilFunc]) := by kernel_rfl
theorem tI_43 : tI Try.prog 43 = some (false, 1, [Value.nilFunc]) := by kernel_rfl
theorem tI_44 : tI Try.prog 44 = some (false, 1, [Value.nilFunc]) := by kernel_rfl
theorem tI_45 : tI Try.prog 45 = some (false, 1, [Value.tuple { toList := [Value.agg { toList := [Value.slice Option.none 0 0, Value.slice Option.none 0 0] }, Value.bool false] }]) := by kernel_rfl
theorem tI_46 : tI Try.prog 46 = some (false, 1, [Value.nilFunc]) := by kernel_rfl
theorem tI_47 : tI Try.prog 47 = some (false, 1, [Value.nilFunc]) := by kernel_rfl
theorem tI_48 : tI Try.prog 48 = some (false, 1, [Value.nilFunc]) := by kernel_rfl
theorem tI_49 : tI Try.prog 49 = some (false, 1, [Value.nilFunc]) := by kernel_rfl
theorem tI_50 : tI Try.prog 50 = some (false, 1, [Value.nilFunc]) := by kernel_rfl
theorem tI_51 : tI Try.prog 51 = some (false, 1, [Value.nilFunc]) := by kernel_rfl
theorem tI_52 : tI Try.prog 52 = some (false, 1, [Value.nilFunc]) := by kernel_rfl
theorem tI_53 : tI Try.prog 53 = some (false, 1, [Value.nilFunc]) := by kernel_rfl
theorem tI_54 : tI Try.prog 54 = some (false, 1, [Value.nilFunc]) := by kernel_rfl
theorem tI_55 : tI Try.prog 55 = some (false, 1, [Value.nilFunc]) := by kernel_rfl
theorem tI_56 : tI Try.prog 56 = some (false, 1, [Value.nilFunc]) := by kernel_rfl
theorem tI_57 : tI Try.prog 57 = some (false, 1, [Value.nilFunc]) := by kernel_rfl
theorem tI_58 : tI Try.prog 58 = some (false, 1, [Value.nilFunc]) := by kernel_rfl
theorem tI_59 : tI Try.prog 59 = some (false, 1, [Value.nilFunc]) := by kernel_rfl
theorem tI_60 : tI Try.prog 60 = some (false, 1, [Value.nilFunc]) := by kernel_rfl
theorem tI_61 : tI Try.prog 61 = some (false, 1, [Value.nilFunc]) := by kernel_rfl
theorem tI_62 : tI Try.prog 62 = some (false, 1, [Value.nilFunc]) := by kernel_rfl
theorem tI_63 : tI Try.prog 63 = some (false, 1, [Value.nilFunc]) := by kernel_rfl
theorem tI_64 : tI Try.prog 64 = some (false, 1, [Value.slice Option.none 0 0]) := by kernel_rfl
theorem tElem_64 : tElem Try.prog 64 = some (1, 8, 3) := by kernel_rfl
theorem tI_65 : tI Try.prog 65 = some (false, 1, [Value.tuple { toList := [Value.int IntKind.i64 0, Value.string ⟨#[]⟩] }]) := by kernel_rfl
theorem tI_66 : tI Try.prog 66 = some (false, 1, [Value.nilFunc]) := by kernel_rfl
theorem tI_67 : tI Try.prog 67 = some (false, 1, [Value.nilFunc]) := by kernel_rfl
theorem tI_68 : tI Try.prog 68 = some (false, 1, [Value.nilFunc]) := by kernel_rfl
theorem tI_69 : tI Try.prog 69 = some (false, 1, [Value.slice Option.none 0 0]) := by kernel_rfl
theorem tElem_69 : tElem Try.prog 69 = some (2, 16, 73) := by kernel_rfl
theorem tI_70 : tI Try.prog 70 = some (false, 1, [Value.tuple { toList := [Value.agg { toList := [Value.slice Option.none 0 0, Value.slice Option.none 0 0] }, Value.slice Option.none 0 0, Value.bool false] }]) := by kernel_rfl
theorem tI_71 : tI Try.prog 71 = some (false, 1, [Value.nilFunc]) := by kernel_rfl
theorem tI_72 : tI Try.prog 72 = some (true, 2, [Value.int IntKind.i64 0, Value.int IntKind.i64 0]) := by kernel_rfl
theorem tArr_72 : tArr Try.prog 72 = some (2, 1, false) := by kernel_rfl
theorem tEqS_72 : tEqS Try.prog 72 = some [IntKind.i64, IntKind.i64] := by kernel_rfl
theorem fieldsOk_72 : fieldsOk Try.prog 72 = true := by kernel_rfl
theorem placeOf_72_0 : placeOf Try.prog 72 0 = some (0, 1) := by kernel_rfl
theorem placeOf_72_1 : placeOf Try.prog 72 1 = some (1, 1) := by kernel_rfl
theorem placeOf_72_2 : placeOf Try.prog 72 2 = some (2, 1) := by kernel_rfl
theorem placeOf_72_3 : placeOf Try.prog 72 3 = some (3, 1) := by kernel_rfl
theorem placeOf_72_4 : placeOf Try.prog 72 4 = some (4, 1) := by kernel_rfl
theorem placeOf_72_5 : placeOf Try.prog 72 5 = some (5, 1) := by kernel_rfl
theorem placeOf_72_6 : placeOf Try.prog 72 6 = some (6, 1) := by kernel_rfl
theorem placeOf_72_7 : placeOf Try.prog 72 7 = some (7, 1) := by kernel_rfl
theorem placeOf_72_8 : placeOf Try.prog 72 8 = some (8, 1) := by kernel_rfl
theorem placeOf_72_9 : placeOf Try.prog 72 9 = some (9, 1) := by kernel_rfl
theorem placeOf_72_10 : placeOf Try.prog 72 10 = some (10, 1) := by kernel_rfl
theorem placeOf_72_11 : placeOf Try.prog 72 11 = some (11, 1) := by kernel_rfl
theorem tI_73 : tI Try.prog 73 = some (true, 2, [Value.int IntKind.i64 0, Value.int IntKind.i64 0]) := by kernel_rfl
theorem tArr_73 : tArr Try.prog 73 = some (2, 1, false) := by kernel_rfl
theorem tEqS_73 : tEqS Try.prog 73 = some [IntKind.i64, IntKind.i64] := by kernel_rfl
theorem fieldsOk_73 : fieldsOk Try.prog 73 = true := by kernel_rfl
theorem placeOf_73_0 : placeOf Try.prog 73 0 = some (0, 1) := by kernel_rfl
theorem placeOf_73_1 : placeOf Try.prog 73 1 = some (1, 1) := by kernel_rfl
theorem placeOf_73_2 : placeOf Try.prog 73 2 = some (2, 1) := by kernel_rfl
theorem placeOf_73_3 : placeOf Try.prog 73 3 = some (3, 1) := by kernel_rfl
theorem placeOf_73_4 : placeOf Try.prog 73 4 = some (4, 1) := by kernel_rfl
theorem placeOf_73_5 : placeOf Try.prog 73 5 = some (5, 1) := by kernel_rfl
theorem placeOf_73_6 : placeOf Try.prog 73 6 = some (6, 1) := by kernel_rfl
theorem placeOf_73_7 : placeOf Try.prog 73 7 = some (7, 1) := by kernel_rfl
theorem placeOf_73_8 : placeOf Try.prog 73 8 = some (8, 1) := by kernel_rfl
theorem placeOf_73_9 : placeOf Try.prog 73 9 = some (9, 1) := by kernel_rfl
theorem placeOf_73_10 : placeOf Try.prog 73 10 = some (10, 1) := by kernel_rfl
theorem placeOf_73_11 : placeOf Try.prog 73 11 = some (11, 1) := by kernel_rfl
theorem tI_74 : tI Try.prog 74 = some (false, 1, [Value.nilFunc]) := by kernel_rfl
theorem tI_75 : tI Try.prog 75 = some (false, 1, [Value.nilFunc]) := by kernel_rfl
theorem tI_76 : tI Try.prog 76 = some (false, 1, [Value.nilFunc]) := by kernel_rfl
theorem tI_77 : tI Try.prog 77 = some (false, 1, [Value.nilFunc]) := by kernel_rfl
theorem tI_78 : tI Try.prog 78 = some (false, 1, [Value.nilFunc]) := by kernel_rfl
theorem tI_79 : tI Try.prog 79 = some (false, 1, [Value.nilFunc]) := by kernel_rfl
theorem tI_80 : tI Try.prog 80 = some (false, 1, [Value.nilFunc]) := by kernel_rfl
theorem tI_81 : tI Try.prog 81 = some (false, 1, [Value.nilFunc]) := by kernel_rfl
theorem tI_82 : tI Try.prog 82 = some (false, 1, [Value.nilFunc]) := by kernel_rfl
theorem tI_83 : tI Try.prog 83 = some (false, 1, [Value.nilFunc]) := by kernel_rfl
theorem tI_84 : tI Try.prog 84 = some (false, 1, [Value.nilFunc]) := by kernel_rfl
theorem tI_85 : tI Try.prog 85 = some (false, 1, [Value.nilFunc]) := by kernel_rfl
theorem tI_86 : tI Try.prog 86 = some (false, 1, [Value.nilFunc]) := by kernel_rfl
theorem tI_87 : tI Try.prog 87 = some (false, 1, [Value.tuple { toList := [Value.agg { toList := [Value.slice Option.none 0 0, Value.slice Option.none 0 0] }, Value.slice Option.none 0 0, Value.bool false] }]) := by kernel_rfl
theorem tI_88 : tI Try.prog 88 = some (false, 1, [Value.nilFunc]) := by kernel_rfl
theorem tI_89 : tI Try.prog 89 = some (false, 1, [Value.nilFunc]) := by kernel_rfl
theorem tI_90 : tI Try.prog 90 = some (false, 1, [Value.nilFunc]) := by kernel_rfl
theorem tI_91 : tI Try.prog 91 = some (false, 1, [Value.nilFunc]) := by kernel_rfl
theorem tI_92 : tI Try.prog 92 = some (false, 1, [Value.nilFunc]) := by kernel_rfl
theorem tI_93 : tI Try.prog 93 = some (false, 1, [Value.map Option.none]) := by kernel_rfl
theorem tMapI_93 : tMapI Try.prog 93 = some (Go.Fw.KK.row [IntKind.i64, IntKind.i64], IntKind.i64) := by kernel_rfl
theorem tI_94 : tI Try.prog 94 = some (false, 1, [Value.tuple { toList := [Value.int IntKind.i64 0, Value.bool false] }]) := by kernel_rfl
theorem tI_95 : tI Try.prog 95 = some (false, 1, [Value.nilFunc]) := by kernel_rfl
theorem tI_96 : tI Try.prog 96 = some (false, 1, [Value.nilFunc]) := by kernel_rfl
theorem tI_97 : tI Try.prog 97 = some (false, 1, [Value.nilFunc]) := by kernel_rfl
theorem tI_98 : tI Try.prog 98 = some (false, 1, [Value.map Option.none]) := by kernel_rfl
theorem tMapI_98 : tMapI Try.prog 98 = some (Go.Fw.KK.one IntKind.i64, IntKind.i64) := by kernel_rfl
theorem tI_99 : tI Try.prog 99 = some (false, 1, [Value.nilFunc]) := by kernel_rfl
theorem tI_100 : tI Try.prog 100 = some (false, 1, [Value.nilFunc]) := by kernel_rfl
theorem tI_101 : tI Try.prog 101 = some (false, 1, [Value.nilFunc]) := by kernel_rfl
theorem tI_102 : tI Try.prog 102 = some (false, 1, [Value.slice Option.none 0 0]) := by kernel_rfl
theorem tElem_102 : tElem Try.prog 102 = some (1, 1, 5) := by kernel_rfl
theorem tByteSl_102 : tByteSl Try.prog 102 = true := by kernel_rfl
theorem tI_103 : tI Try.prog 103 = some (false, 1, [Value.nilFunc]) := by kernel_rfl
theorem tI_104 : tI Try.prog 104 = some (true, 4, [Value.pointer Option.none, Value.pointer Option.none, Value.pointer Option.none, Value.string ⟨#[]⟩]) := by kernel_rfl
theorem fieldsOk_104 : fieldsOk Try.prog 104 = true := by kernel_rfl
theorem tField_104_0 : tField Try.prog 104 0 = some 0 := by kernel_rfl
theorem placeOf_104_0 : placeOf Try.prog 104 0 = some (0, 1) := by kernel_rfl
theorem tField_104_1 : tField Try.prog 104 1 = some 1 := by kernel_rfl
theorem placeOf_104_1 : placeOf Try.prog 104 1 = some (1, 1) := by kernel_rfl
theorem tField_104_2 : tField Try.prog 104 2 = some 2 := by kernel_rfl
theorem placeOf_104_2 : placeOf Try.prog 104 2 = some (2, 1) := by kernel_rfl
theorem tField_104_3 : tField Try.prog 104 3 = some 3 := by kernel_rfl
theorem placeOf_104_3 : placeOf Try.prog 104 3 = some (3, 1) := by kernel_rfl
theorem tI_105 : tI Try.prog 105 = some (true, 4, [Value.pointer Option.none, Value.pointer Option.none, Value.pointer Option.none, Value.string ⟨#[]⟩]) := by kernel_rfl
theorem fieldsOk_105 : fieldsOk Try.prog 105 = true := by kernel_rfl
theorem tField_105_0 : tField Try.prog 105 0 = some 0 := by kernel_rfl
theorem placeOf_105_0 : placeOf Try.prog 105 0 = some (0, 1) := by kernel_rfl
theorem tField_105_1 : tField Try.prog 105 1 = some 1 := by kernel_rfl
theorem placeOf_105_1 : placeOf Try.prog 105 1 = some (1, 1) := by kernel_rfl
theorem tField_105_2 : tField Try.prog 105 2 = some 2 := by kernel_rfl
theorem placeOf_105_2 : placeOf Try.prog 105 2 = some (2, 1) := by kernel_rfl
theorem tField_105_3 : tField Try.prog 105 3 = some 3 := by kernel_rfl
theorem placeOf_105_3 : placeOf Try.prog 105 3 = some (3, 1) := by kernel_rfl
theorem tI_106 : tI Try.prog 106 = some (true, 0, []) := by kernel_rfl
theorem tArr_106 : tArr Try.prog 106 = some (0, 1, false) := by kernel_rfl
theorem fieldsOk_106 : fieldsOk Try.prog 106 = true := by kernel_rfl
theorem placeOf_106_0 : placeOf Try.prog 106 0 = some (0, 1) := by kernel_rfl
theorem placeOf_106_1 : placeOf Try.prog 106 1 = some (1, 1) := by kernel_rfl
theorem placeOf_106_2 : placeOf Try.prog 106 2 = some (2, 1) := by kernel_rfl
theorem placeOf_106_3 : placeOf Try.prog 106 3 = some (3, 1) := by kernel_rfl
theorem placeOf_106_4 : placeOf Try.prog 106 4 = some (4, 1) := by kernel_rfl
theorem placeOf_106_5 : placeOf Try.prog 106 5 = some (5, 1) := by kernel_rfl
theorem placeOf_106_6 : placeOf Try.prog 106 6 = some (6, 1) := by kernel_rfl
theorem placeOf_106_7 : placeOf Try.prog 106 7 = some (7, 1) := by kernel_rfl
theorem placeOf_106_8 : placeOf Try.prog 106 8 = some (8, 1) := by kernel_rfl
theorem placeOf_106_9 : placeOf Try.prog 106 9 = some (9, 1) := by kernel_rfl
theorem placeOf_106_10 : placeOf Try.prog 106 10 = some (10, 1) := by kernel_rfl
theorem placeOf_106_11 : placeOf Try.prog 106 11 = some (11, 1) := by kernel_rfl
theorem tI_107 : tI Try.prog 107 = some (true, 0, []) := by kernel_rfl
theorem fieldsOk_107 : fieldsOk Try.prog 107 = true := by kernel_rfl
theorem placeOf_107_0 : placeOf Try.prog 107 0 = some (0, 0) := by kernel_rfl
theorem tI_108 : tI Try.prog 108 = some (true, 0, []) := by kernel_rfl
theorem fieldsOk_108 : fieldsOk Try.prog 108 = true := by kernel_rfl
theorem placeOf_108_0 : placeOf Try.prog 108 0 = some (0, 0) := by kernel_rfl
theorem tI_109 : tI Try.prog 109 = some (false, 1, [Value.nilFunc]) := by kernel_rfl
theorem tI_110 : tI Try.prog 110 = some (false, 1, [Value.int IntKind.u32 0]) := by kernel_rfl
theorem tInt_110 : tInt Try.prog 110 = some IntKind.u32 := by kernel_rfl
theorem tI_111 : tI Try.prog 111 = some (false, 1, [Value.int IntKind.u8 0]) := by kernel_rfl
theorem tInt_111 : tInt Try.prog 111 = some IntKind.u8 := by kernel_rfl
theorem tI_112 : tI Try.prog 112 = some (false, 1, [Value.int IntKind.u8 0]) := by kernel_rfl
theorem tInt_112 : tInt Try.prog 112 = some IntKind.u8 := by kernel_rfl
theorem tI_113 : tI Try.prog 113 = some (false, 1, [Value.nilFunc]) := by kernel_rfl
theorem tI_114 : tI Try.prog 114 = some (false, 1, [Value.pointer Option.none]) := by kernel_rfl
theorem tI_115 : tI Try.prog 115 = some (false, 1, [Value.int IntKind.i32 0]) := by kernel_rfl
theorem tInt_115 : tInt Try.prog 115 = some IntKind.i32 := by kernel_rfl
theorem tI_116 : tI Try.prog 116 = some (false, 1, [Value.int IntKind.i32 0]) := by kernel_rfl
theorem tInt_116 : tInt Try.prog 116 = some IntKind.i32 := by kernel_rfl
theorem tI_117 : tI Try.prog 117 = some (true, 11, [Value.int IntKind.u64 0, Value.int IntKind.u64 0, Value.int IntKind.u32 0, Value.int IntKind.u8 0, Value.int IntKind.u8 0, Value.int IntKind.u8 0, Value.int IntKind.u8 0, Value.nilFunc, Value.pointer Option.none, Value.int IntKind.i32 0, Value.int IntKind.i32 0]) := by kernel_rfl
theorem fieldsOk_117 : fieldsOk Try.prog 117 = true := by kernel_rfl
theorem tField_117_0 : tField Try.prog 117 0 = some 0 := by kernel_rfl
theorem placeOf_117_0 : placeOf Try.prog 117 0 = some (0, 1) := by kernel_rfl
theorem tField_117_1 : tField Try.prog 117 1 = some 1 := by kernel_rfl
theorem placeOf_117_1 : placeOf Try.prog 117 1 = some (1, 1) := by kernel_rfl
theorem tField_117_2 : tField Try.prog 117 2 = some 2 := by kernel_rfl
theorem placeOf_117_2 : placeOf Try.prog 117 2 = some (2, 1) := by kernel_rfl
theorem tField_117_3 : tField Try.prog 117 3 = some 3 := by kernel_rfl
theorem placeOf_117_3 : placeOf Try.prog 117 3 = some (3, 1) := by kernel_rfl
theorem tField_117_4 : tField Try.prog 117 4 = some 4 := by kernel_rfl
theorem placeOf_117_4 : placeOf Try.prog 117 4 = some (4, 1) := by kernel_rfl
theorem tField_117_5 : tField Try.prog 117 5 = some 5 := by kernel_rfl
theorem placeOf_117_5 : placeOf Try.prog 117 5 = some (5, 1) := by kernel_rfl
theorem tField_117_6 : tField Try.prog 117 6 = some 6 := by kernel_rfl
theorem placeOf_117_6 : placeOf Try.prog 117 6 = some (6, 1) := by kernel_rfl
theorem tField_117_7 : tField Try.prog 117 7 = some 7 := by kernel_rfl
theorem placeOf_117_7 : placeOf Try.prog 117 7 = some (7, 1) := by kernel_rfl
theorem tField_117_8 : tField Try.prog 117 8 = some 8 := by kernel_rfl
theorem placeOf_117_8 : placeOf Try.prog 117 8 = some (8, 1) := by kernel_rfl
theorem tField_117_9 : tField Try.prog 117 9 = some 9 := by kernel_rfl
theorem placeOf_117_9 : placeOf Try.prog 117 9 = some (9, 1) := by kernel_rfl
theorem tField_117_10 : tField Try.prog 117 10 = some 10 := by kernel_rfl
theorem placeOf_117_10 : placeOf Try.prog 117 10 = some (10, 1) := by kernel_rfl
theorem tI_118 : tI Try.prog 118 = some (true, 11, [Value.int IntKind.u64 0, Value.int IntKind.u64 0, Value.int IntKind.u32 0, Value.int IntKind.u8 0, Value.int IntKind.u8 0, Value.int IntKind.u8 0, Value.int IntKind.u8 0, Value.nilFunc, Value.pointer Option.none, Value.int IntKind.i32 0, Value.int IntKind.i32 0]) := by kernel_rfl
theorem fieldsOk_118 : fieldsOk Try.prog 118 = true := by kernel_rfl
theorem tField_118_0 : tField Try.prog 118 0 = some 0 := by kernel_rfl
theorem placeOf_118_0 : placeOf Try.prog 118 0 = some (0, 1) := by kernel_rfl
theorem tField_118_1 : tField Try.prog 118 1 = some 1 := by kernel_rfl
theorem placeOf_118_1 : placeOf Try.prog 118 1 = some (1, 1) := by kernel_rfl
theorem tField_118_2 : tField Try.prog 118 2 = some 2 := by kernel_rfl
theorem placeOf_118_2 : placeOf Try.prog 118 2 = some (2, 1) := by kernel_rfl
theorem tField_118_3 : tField Try.prog 118 3 = some 3 := by kernel_rfl
theorem placeOf_118_3 : placeOf Try.prog 118 3 = some (3, 1) := by kernel_rfl
theorem tField_118_4 : tField Try.prog 118 4 = some 4 := by kernel_rfl
theorem placeOf_118_4 : placeOf Try.prog 118 4 = some (4, 1) := by kernel_rfl
theorem tField_118_5 : tField Try.prog 118 5 = some 5 := by kernel_rfl
theorem placeOf_118_5 : placeOf Try.prog 118 5 = some (5, 1) := by kernel_rfl
theorem tField_118_6 : tField Try.prog 118 6 = some 6 := by kernel_rfl
theorem placeOf_118_6 : placeOf Try.prog 118 6 = some (6, 1) := by kernel_rfl
theorem tField_118_7 : tField Try.prog 118 7 = some 7 := by kernel_rfl
theorem placeOf_118_7 : placeOf Try.prog 118 7 = some (7, 1) := by kernel_rfl
theorem tField_118_8 : tField Try.prog 118 8 = some 8 := by kernel_rfl
theorem placeOf_118_8 : placeOf Try.prog 118 8 = some (8, 1) := by kernel_rfl
theorem tField_118_9 : tField Try.prog 118 9 = some 9 := by kernel_rfl
theorem placeOf_118_9 : placeOf Try.prog 118 9 = some (9, 1) := by kernel_rfl
theorem tField_118_10 : tField Try.prog 118 10 = some 10 := by kernel_rfl
theorem placeOf_118_10 : placeOf Try.prog 118 10 = some (10, 1) := by kernel_rfl
theorem tI_119 : tI Try.prog 119 = some (false, 1, [Value.pointer Option.none]) := by kernel_rfl
theorem callable_2 : callable Try.prog 2 = true := by kernel_rfl
theorem callable_3 : callable Try.prog 3 = true := by kernel_rfl
theorem callable_4 : callable Try.prog 4 = true := by kernel_rfl
theorem callable_5 : callable Try.prog 5 = true := by kernel_rfl
theorem callable_6 : callable Try.prog 6 = true := by kernel_rfl
theorem callable_7 : callable Try.prog 7 = true := by kernel_rfl
theorem callable_8 : callable Try.prog 8 = true := by kernel_rfl
theorem callable_9 : callable Try.prog 9 = true := by kernel_rfl
theorem callable_10 : callable Try.prog 10 = true := by kernel_rfl
theorem callable_11 : callable Try.prog 11 = true := by kernel_rfl
theorem callable_12 : callable Try.prog 12 = true := by kernel_rfl
theorem callable_13 : callable Try.prog 13 = true := by kernel_rfl
theorem callable_14 : callable Try.prog 14 = true := by kernel_rfl
theorem callable_15 : callable Try.prog 15 = true := by kernel_rfl
theorem callable_16 : callable Try.prog 16 = true := by kernel_rfl
theorem callable_17 : callable Try.prog 17 = true := by kernel_rfl
theorem callable_18 : callable Try.prog 18 = true := by kernel_rfl
theorem callable_19 : callable Try.prog 19 = true := by kernel_rfl
theorem callable_20 : callable Try.prog 20 = true := by kernel_rfl
theorem callable_21 : callable Try.prog 21 = true := by kernel_rfl
theorem callable_22 : callable Try.prog 22 = true := by kernel_rfl
theorem callable_23 : callable Try.prog 23 = true := by kernel_rfl
theorem callable_24 : callable Try.prog 24 = true := by kernel_rfl
theorem callable_25 : callable Try.prog 25 = true := by kernel_rfl
theorem callable_26 : callable Try.prog 26 = true := by kernel_rfl
theorem callable_27 : callable Try.prog 27 = true := by kernel_rfl
theorem callable_28 : callable Try.prog 28 = true := by kernel_rfl
theorem callable_29 : callable Try.prog 29 = true := by kernel_rfl
theorem callable_30 : callable Try.prog 30 = true := by kernel_rfl
theorem callable_31 : callable Try.prog 31 = true := by kernel_rfl
theorem callable_32 : callable Try.prog 32 = true := by kernel_rfl
theorem callable_33 : callable Try.prog 33 = true := by kernel_rfl
theorem callable_34 : callable Try.prog 34 = true := by kernel_rfl
theorem callable_35 : callable Try.prog 35 = true := by kernel_rfl
theorem callable_36 : callable Try.prog 36 = true := by kernel_rfl
theorem callable_37 : callable Try.prog 37 = true := by kernel_rfl
theorem callable_38 : callable Try.prog 38 = true := by kernel_rfl
theorem callable_39 : callable Try.prog 39 = true := by kernel_rfl
theorem callable_40 : callable Try.prog 40 = true := by kernel_rfl
theorem callable_41 : callable Try.prog 41 = true := by kernel_rfl
theorem callable_42 : callable Try.prog 42 = true := by kernel_rfl
theorem callable_43 : callable Try.prog 43 = true := by kernel_rfl
theorem callable_44 : callable Try.prog 44 = true := by kernel_rfl
theorem callable_45 : callable Try.prog 45 = true := by kernel_rfl
theorem callable_46 : callable Try.prog 46 = true := by kernel_rfl
theorem callable_47 : callable Try.prog 47 = true := by kernel_rfl
theorem callable_48 : callable Try.prog 48 = true := by kernel_rfl
theorem callable_49 : callable Try.prog 49 = true := by kernel_rfl
theorem callable_50 : callable Try.prog 50 = true := by kernel_rfl
theorem callable_51 : callable Try.prog 51 = true := by kernel_rfl
theorem callable_52 : callable Try.prog 52 = true := by kernel_rfl
theorem callable_53 : callable Try.prog 53 = true := by kernel_rfl
theorem callable_54 : callable Try.prog 54 = true := by kernel_rfl
theorem callable_55 : callable Try.prog 55 = true := by kernel_rfl
theorem callable_56 : callable Try.prog 56 = true := by kernel_rfl
theorem callable_57 : callable Try.prog 57 = true := by kernel_rfl
theorem callable_58 : callable Try.prog 58 = true := by kernel_rfl
theorem callable_59 : callable Try.prog 59 = true := by kernel_rfl
theorem callable_60 : callable Try.prog 60 = true := by kernel_rfl
theorem callable_61 : callable Try.prog 61 = true := by kernel_rfl
theorem callable_62 : callable Try.prog 62 = true := by kernel_rfl
theorem callable_63 : callable Try.prog 63 = true := by kernel_rfl
theorem callable_64 : callable Try.prog 64 = true := by kernel_rfl
theorem callable_65 : callable Try.prog 65 = true := by kernel_rfl
theorem callable_66 : callable Try.prog 66 = true := by kernel_rfl
theorem callable_67 : callable Try.prog 67 = true := by kernel_rfl
theorem callable_68 : callable Try.prog 68 = true := by kernel_rfl
theorem callable_69 : callable Try.prog 69 = true := by kernel_rfl
theorem callable_70 : callable Try.prog 70 = true := by kernel_rfl
theorem callable_71 : callable Try.prog 71 = true := by kernel_rfl
theorem callable_72 : callable Try.prog 72 = true := by kernel_rfl
theorem callable_73 : callable Try.prog 73 = true := by kernel_rfl
theorem callable_74 : callable Try.prog 74 = true := by kernel_rfl
theorem callable_75 : callable Try.prog 75 = true := by kernel_rfl
theorem callable_76 : callable Try.prog 76 = true := by kernel_rfl
theorem callable_77 : callable Try.prog 77 = true := by kernel_rfl
theorem callable_78 : callable Try.prog 78 = true := by kernel_rfl
theorem callable_79 : callable Try.prog 79 = true := by kernel_rfl
theorem callable_80 : callable Try.prog 80 = true := by kernel_rfl
theorem callable_81 : callable Try.prog 81 = true := by kernel_rfl
theorem callable_82 : callable Try.prog 82 = true := by kernel_rfl
theorem callable_83 : callable Try.prog 83 = true := by kernel_rfl
theorem callable_84 : callable Try.prog 84 = true := by kernel_rfl
theorem callable_85 : callable Try.prog 85 = true := by kernel_rfl
theorem callable_86 : callable Try.prog 86 = true := by kernel_rfl
theorem callable_87 : callable Try.prog 87 = true := by kernel_rfl
theorem callable_88 : callable Try.prog 88 = true := by kernel_rfl
theorem callable_89 : callable Try.prog 89 = true := by kernel_rfl
theorem callable_90 : callable Try.prog 90 = true := by kernel_rfl
theorem callable_91 : callable Try.prog 91 = true := by kernel_rfl
theorem callable_92 : callable Try.prog 92 = true := by kernel_rfl
theorem callable_93 : callable Try.prog 93 = true := by kernel_rfl
theorem callable_94 : callable Try.prog 94 = true := by kernel_rfl
attribute [simp] tI_0 tI_1 tI_2 tInt_2 tI_3 tInt_3 tI_4 tBool_4 tI_5 tInt_5 tI_6 tInt_6 tI_7 fieldsOk_7 tField_7_0 placeOf_7_0 tField_7_1 placeOf_7_1 tField_7_2 placeOf_7_2 tField_7_3 placeOf_7_3 tI_8 fieldsOk_8 tField_8_0 placeOf_8_0 tField_8_1 placeOf_8_1 tField_8_2 placeOf_8_2 tField_8_3 placeOf_8_3 tI_9 tStr_9 tI_10 tStr_10 tI_11 tStr_11 tI_12 tInt_12 tI_13 fieldsOk_13 tField_13_0 placeOf_13_0 tField_13_1 placeOf_13_1 tI_14 fieldsOk_14 tField_14_0 placeOf_14_0 tField_14_1 placeOf_14_1 tI_15 tI_16 tI_17 tI_18 fieldsOk_18 tField_18_0 placeOf_18_0 tI_19 fieldsOk_19 tField_19_0 placeOf_19_0 tI_20 tI_21 tInt_21 tI_22 tElem_22 tI_23 tElem_23 tI_24 fieldsOk_24 tField_24_0 placeOf_24_0 tField_24_1 placeOf_24_1 tI_25 fieldsOk_25 tField_25_0 placeOf_25_0 tField_25_1 placeOf_25_1 tI_26 tI_27 fieldsOk_27 tField_27_0 placeOf_27_0 tField_27_1 placeOf_27_1 tI_28 tI_29 tI_30 tI_31 tI_32 tI_33 tElem_33 tI_34 tElem_34 tI_35 fieldsOk_35 tField_35_0 placeOf_35_0 tField_35_1 placeOf_35_1 tField_35_2 placeOf_35_2 tI_36 fieldsOk_36 tField_36_0 placeOf_36_0 tField_36_1 placeOf_36_1 tField_36_2 placeOf_36_2 tI_37 tI_38 fieldsOk_38 tField_38_0 placeOf_38_0 tField_38_1 placeOf_38_1 tField_38_2 placeOf_38_2 tI_39 tI_40 tI_41 tI_42 tI_43 tI_44 tI_45 tI_46 tI_47 tI_48 tI_49 tI_50 tI_51 tI_52 tI_53 tI_54 tI_55 tI_56 tI_57 tI_58 tI_59 tI_60 tI_61 tI_62 tI_63 tI_64 tElem_64 tI_65 tI_66 tI_67 tI_68 tI_69 tElem_69 tI_70 tI_71 tI_72 tArr_72 tEqS_72 fieldsOk_72 placeOf_72_0 placeOf_72_1 placeOf_72_2 placeOf_72_3 placeOf_72_4 placeOf_72_5 placeOf_72_6 placeOf_72_7 placeOf_72_8 placeOf_72_9 placeOf_72_10 placeOf_72_11 tI_73 tArr_73 tEqS_73 fieldsOk_73 placeOf_73_0 placeOf_73_1 placeOf_73_2 placeOf_73_3 placeOf_73_4 placeOf_73_5 placeOf_73_6 placeOf_73_7 placeOf_73_8 placeOf_73_9 placeOf_73_10 placeOf_73_11 tI_74 tI_75 tI_76 tI_77 tI_78 tI_79 tI_80 tI_81 tI_82 tI_83 tI_84 tI_85 tI_86 tI_87 tI_88 tI_89 tI_90 tI_91 tI_92 tI_93 tMapI_93 tI_94 tI_95 tI_96 tI_97 tI_98 tMapI_98 tI_99 tI_100 tI_101 tI_102 tElem_102 tByteSl_102 tI_103 tI_104 fieldsOk_104 tField_104_0 placeOf_104_0 tField_104_1 placeOf_104_1 tField_104_2 placeOf_104_2 tField_104_3 placeOf_104_3 tI_105 fieldsOk_105 tField_105_0 placeOf_105_0 tField_105_1 placeOf_105_1 tField_105_2 placeOf_105_2 tField_105_3 placeOf_105_3 tI_106 tArr_106 fieldsOk_106 placeOf_106_0 placeOf_106_1 placeOf_106_2 placeOf_106_3 placeOf_106_4 placeOf_106_5 placeOf_106_6 placeOf_106_7 placeOf_106_8 placeOf_106_9 placeOf_106_10 placeOf_106_11 tI_107 fieldsOk_107 placeOf_107_0 tI_108 fieldsOk_108 placeOf_108_0 tI_109 tI_110 tInt_110 tI_111 tInt_111 tI_112 tInt_112 tI_113 tI_114 tI_115 tInt_115 tI_116 tInt_116 tI_117 fieldsOk_117 tField_117_0 placeOf_117_0 tField_117_1 placeOf_117_1 tField_117_2 placeOf_117_2 tField_117_3 placeOf_117_3 tField_117_4 placeOf_117_4 tField_117_5 placeOf_117_5 tField_117_6 placeOf_117_6 tField_117_7 placeOf_117_7 tField_117_8 placeOf_117_8 tField_117_9 placeOf_117_9 tField_117_10 placeOf_117_10 tI_118 fieldsOk_118 tField_118_0 placeOf_118_0 tField_118_1 placeOf_118_1 tField_118_2 placeOf_118_2 tField_118_3 placeOf_118_3 tField_118_4 placeOf_118_4 tField_118_5 placeOf_118_5 tField_118_6 placeOf_118_6 tField_118_7 placeOf_118_7 tField_118_8 placeOf_118_8 tField_118_9 placeOf_118_9 tField_118_10 placeOf_118_10 tI_119 callable_2 callable_3 callable_4 callable_5 callable_6 callable_7 callable_8 callable_9 callable_10 callable_11 callable_12 callable_13 callable_14 callable_15 callable_16 callable_17 callable_18 callable_19 callable_20 callable_21 callable_22 callable_23 callable_24 callable_25 callable_26 callable_27 callable_28 callable_29 callable_30 callable_31 callable_32 callable_33 callable_34 callable_35 callable_36 callable_37 callable_38 callable_39 callable_40 callable_41 callable_42 callable_43 callable_44 callable_45 callable_46 callable_47 callable_48 callable_49 callable_50 callable_51 callable_52 callable_53 callable_54 callable_55 callable_56 callable_57 callable_58 callable_59 callable_60 callable_61 callable_62 callable_63 callable_64 callable_65 callable_66 callable_67 callable_68 callable_69 callable_70 callable_71 callable_72 callable_73 callable_74 callable_75 callable_76 callable_77 callable_78 callable_79 callable_80 callable_81 callable_82 callable_83 callable_84 callable_85 callable_86 callable_87 callable_88 callable_89 callable_90 callable_91 callable_92 callable_93 callable_94
theorem mixed : Try.prog.follows .mixedOrders = true := by kernel_rfl

end Go.Fw.Ty
