/- The types of the program, as far as they are asked. -/
import Derived.Test.YtjnnalkjabenaaaProg
import Derived.Test.YtjnnalkjabenaaaFwa
set_option linter.unusedSimpArgs false
set_option linter.unusedVariables false
namespace Go.Fw.Ty
open Go Go.Proofs

theorem tI_0 : tI Try.prog 0 = some (false, 1, [Value.tuple #[]]) := by kernel_rfl
theorem tI_1 : tI Try.prog 1 = some (false, 1, [Value.nilFunc]) := by kernel_rfl
theorem tI_2 : tI Try.prog 2 = some (false, 1, [Value.int IntKind.i64 0]) := by kernel_rfl
theorem tInt_2 : tInt Try.prog 2 = some IntKind.i64 := by kernel_rfl
theorem tI_3 : tI Try.prog 3 = some (false, 1, [Value.int IntKind.i64 0]) := by kernel_rfl
theorem tInt_3 : tInt Try.prog 3 = some IntKind.i64 := by kernel_rfl
theorem tI_4 : tI Try.prog 4 = some (false, 1, [Value.bool false]) := by kernel_rfl
theorem tBool_4 : tBool Try.prog 4 = true := by kernel_rfl
theorem tI_5 : tI Try.prog 5 = some (false, 1, [Value.int IntKind.u8 0]) := by kernel_rfl
theorem tInt_5 : tInt Try.prog 5 = some IntKind.u8 := by kernel_rfl
theorem tI_6 : tI Try.prog 6 = some (false, 1, [Value.int IntKind.u8 0]) := by kernel_rfl
theorem tInt_6 : tInt Try.prog 6 = some IntKind.u8 := by kernel_rfl
theorem tI_7 : tI Try.prog 7 = some (true, 4, [Value.int IntKind.i64 0, Value.int IntKind.i64 0, Value.bool false, Value.int IntKind.u8 0]) := by kernel_rfl
theorem fieldsOk_7 : fieldsOk Try.prog 7 = true := by kernel_rfl
theorem tField_7_0 : tField Try.prog 7 0 = some 0 := by kernel_rfl
theorem placeOf_7_0 : placeOf Try.prog 7 0 = some (0, 1) := by kernel_rfl
theorem tField_7_1 : tField Try.prog 7 1 = some 1 := by kernel_rfl
theorem placeOf_7_1 : placeOf Try.prog 7 1 = some (1, 1) := by kernel_rfl
theorem tField_7_2 : tField Try.prog 7 2 = some 2 := by kernel_rfl
theorem placeOf_7_2 : placeOf Try.prog 7 2 = some (2, 1) := by kernel_rfl
theorem tField_7_3 : tField Try.prog 7 3 = some 3 := by kernel_rfl
theorem placeOf_7_3 : placeOf Try.prog 7 3 = some (3, 1) := by kernel_rfl
theorem tI_8 : tI Try.prog 8 = some (true, 4, [Value.int IntKind.i64 0, Value.int IntKind.i64 0, Value.bool false, Value.int IntKind.u8 0]) := by kernel_rfl
theorem fieldsOk_8 : fieldsOk Try.prog 8 = true := by kernel_rfl
theorem tField_8_0 : tField Try.prog 8 0 = some 0 := by kernel_rfl
theorem placeOf_8_0 : placeOf Try.prog 8 0 = some (0, 1) := by kernel_rfl
theorem tField_8_1 : tField Try.prog 8 1 = some 1 := by kernel_rfl
theorem placeOf_8_1 : placeOf Try.prog 8 1 = some (1, 1) := by kernel_rfl
theorem tField_8_2 : tField Try.prog 8 2 = some 2 := by kernel_rfl
theorem placeOf_8_2 : placeOf Try.prog 8 2 = some (2, 1) := by kernel_rfl
theorem tField_8_3 : tField Try.prog 8 3 = some 3 := by kernel_rfl
theorem placeOf_8_3 : placeOf Try.prog 8 3 = some (3, 1) := by kernel_rfl
theorem tI_9 : tI Try.prog 9 = some (false, 1, [Value.string ⟨#[]⟩]) := by kernel_rfl
theorem tStr_9 : tStr Try.prog 9 = true := by kernel_rfl
theorem tI_10 : tI Try.prog 10 = some (false, 1, [Value.string ⟨#[]⟩]) := by kernel_rfl
theorem tStr_10 : tStr Try.prog 10 = true := by kernel_rfl
theorem tI_11 : tI Try.prog 11 = some (false, 1, [Value.string ⟨#[]⟩]) := by kernel_rfl
theorem tStr_11 : tStr Try.prog 11 = true := by kernel_rfl
theorem tI_12 : tI Try.prog 12 = some (false, 1, [Value.int IntKind.u64 0]) := by kernel_rfl
theorem tInt_12 : tInt Try.prog 12 = some IntKind.u64 := by kernel_rfl
theorem tI_13 : tI Try.prog 13 = some (true, 2, [Value.string ⟨#[]⟩, Value.int IntKind.u64 0]) := by kernel_rfl
theorem fieldsOk_13 : fieldsOk Try.prog 13 = true := by kernel_rfl
theorem tField_13_0 : tField Try.prog 13 0 = some 0 := by kernel_rfl
theorem placeOf_13_0 : placeOf Try.prog 13 0 = some (0, 1) := by kernel_rfl
theorem tField_13_1 : tField Try.prog 13 1 = some 1 := by kernel_rfl
theorem placeOf_13_1 : placeOf Try.prog 13 1 = some (1, 1) := by kernel_rfl
theorem tI_14 : tI Try.prog 14 = some (true, 2, [Value.string ⟨#[]⟩, Value.int IntKind.u64 0]) := by kernel_rfl
theorem fieldsOk_14 : fieldsOk Try.prog 14 = true := by kernel_rfl
theorem tField_14_0 : tField Try.prog 14 0 = some 0 := by kernel_rfl
theorem placeOf_14_0 : placeOf Try.prog 14 0 = some (0, 1) := by kernel_rfl
theorem tField_14_1 : tField Try.prog 14 1 = some 1 := by kernel_rfl
theorem placeOf_14_1 : placeOf Try.prog 14 1 = some (1, 1) := by kernel_rfl
theorem tI_15 : tI Try.prog 15 = some (false, 1, [Value.pointer Option.none]) := by kernel_rfl
theorem tI_16 : tI Try.prog 16 = some (false, 1, [Value.pointer Option.none]) := by kernel_rfl
theorem tI_17 : tI Try.prog 17 = some (false, 1, [Value.pointer Option.none]) := by kernel_rfl
theorem tI_18 : tI Try.prog 18 = some (true, 1, [Value.pointer Option.none]) := by kernel_rfl
theorem fieldsOk_18 : fieldsOk Try.prog 18 = true := by kernel_rfl
theorem tField_18_0 : tField Try.prog 18 0 = some 0 := by kernel_rfl
theorem placeOf_18_0 : placeOf Try.prog 18 0 = some (0, 1) := by kernel_rfl
theorem tI_19 : tI Try.prog 19 = some (true, 1, [Value.pointer Option.none]) := by kernel_rfl
theorem fieldsOk_19 : fieldsOk Try.prog 19 = true := by kernel_rfl
theorem tField_19_0 : tField Try.prog 19 0 = some 0 := by kernel_rfl
theorem placeOf_19_0 : placeOf Try.prog 19 0 = some (0, 1) := by kernel_rfl
theorem tI_20 : tI Try.prog 20 = some (false, 1, [Value.nilIface]) := by kernel_rfl
theorem tI_21 : tI Try.prog 21 = some (false, 1, [Value.int IntKind.i32 0]) := by kernel_rfl
theorem tInt_21 : tInt Try.prog 21 = some IntKind.i32 := by kernel_rfl
theorem tI_22 : tI Try.prog 22 = some (false, 1, [Value.slice Option.none 0 0]) := by kernel_rfl
theorem tElem_22 : tElem Try.prog 22 = some (1, 1, 5) := by kernel_rfl
theorem tByteSl_22 : tByteSl Try.prog 22 = true := by kernel_rfl
theorem tI_23 : tI Try.prog 23 = some (false, 1, [Value.slice Option.none 0 0]) := by kernel_rfl
theorem tElem_23 : tElem Try.prog 23 = some (1, 24, 77) := by kernel_rfl
theorem tI_24 : tI Try.prog 24 = some (false, 1, [Value.slice Option.none 0 0]) := by kernel_rfl
theorem tElem_24 : tElem Try.prog 24 = some (1, 1, 4) := by kernel_rfl
theorem tI_25 : tI Try.prog 25 = some (true, 2, [Value.slice Option.none 0 0, Value.slice Option.none 0 0]) := by kernel_rfl
theorem fieldsOk_25 : fieldsOk Try.prog 25 = true := by kernel_rfl
theorem tField_25_0 : tField Try.prog 25 0 = some 0 := by kernel_rfl
theorem placeOf_25_0 : placeOf Try.prog 25 0 = some (0, 1) := by kernel_rfl
theorem tField_25_1 : tField Try.prog 25 1 = some 1 := by kernel_rfl
theorem placeOf_25_1 : placeOf Try.prog 25 1 = some (1, 1) := by kernel_rfl
theorem tI_26 : tI Try.prog 26 = some (true, 2, [Value.slice Option.none 0 0, Value.slice Option.none 0 0]) := by kernel_rfl
theorem fieldsOk_26 : fieldsOk Try.prog 26 = true := by kernel_rfl
theorem tField_26_0 : tField Try.prog 26 0 = some 0 := by kernel_rfl
theorem placeOf_26_0 : placeOf Try.prog 26 0 = some (0, 1) := by kernel_rfl
theorem tField_26_1 : tField Try.prog 26 1 = some 1 := by kernel_rfl
theorem placeOf_26_1 : placeOf Try.prog 26 1 = some (1, 1) := by kernel_rfl
theorem tI_27 : tI Try.prog 27 = some (false, 1, [Value.tuple { toList := [Value.agg { toList := [Value.slice Option.none 0 0, Value.slice Option.none 0 0] }, Value.int IntKind.i64 0, Value.string ⟨#[]⟩] }]) := by kernel_rfl
theorem tI_28 : tI Try.prog 28 = some (false, 1, [Value.nilFunc]) := by kernel_rfl
theorem tI_29 : tI Try.prog 29 = some (false, 1, [Value.nilFunc]) := by kernel_rfl
theorem tI_30 : tI Try.prog 30 = some (false, 1, [Value.nilFunc]) := by kernel_rfl
theorem tI_31 : tI Try.prog 31 = some (false, 1, [Value.nilFunc]) := by kernel_rfl
theorem tI_32 : tI Try.prog 32 = some (false, 1, [Value.tuple { toList := [Value.agg { toList := [Value.slice Option.none 0 0, Value.slice Option.none 0 0] }, Value.string ⟨#[]⟩] }]) := by kernel_rfl
theorem tI_33 : tI Try.prog 33 = some (false, 1, [Value.nilFunc]) := by kernel_rfl
theorem tI_34 : tI Try.prog 34 = some (false, 1, [Value.nilFunc]) := by kernel_rfl
theorem tI_35 : tI Try.prog 35 = some (true, 2, [Value.int IntKind.i64 0, Value.int IntKind.i64 0]) := by kernel_rfl
theorem tEqS_35 : tEqS Try.prog 35 = some [IntKind.i64, IntKind.i64] := by kernel_rfl
theorem fieldsOk_35 : fieldsOk Try.prog 35 = true := by kernel_rfl
theorem tField_35_0 : tField Try.prog 35 0 = some 0 := by kernel_rfl
theorem placeOf_35_0 : placeOf Try.prog 35 0 = some (0, 1) := by kernel_rfl
theorem tField_35_1 : tField Try.prog 35 1 = some 1 := by kernel_rfl
theorem placeOf_35_1 : placeOf Try.prog 35 1 = some (1, 1) := by kernel_rfl
theorem tI_36 : tI Try.prog 36 = some (true, 2, [Value.int IntKind.i64 0, Value.int IntKind.i64 0]) := by kernel_rfl
theorem tEqS_36 : tEqS Try.prog 36 = some [IntKind.i64, IntKind.i64] := by kernel_rfl
theorem fieldsOk_36 : fieldsOk Try.prog 36 = true := by kernel_rfl
theorem tField_36_0 : tField Try.prog 36 0 = some 0 := by kernel_rfl
theorem placeOf_36_0 : placeOf Try.prog 36 0 = some (0, 1) := by kernel_rfl
theorem tField_36_1 : tField Try.prog 36 1 = some 1 := by kernel_rfl
theorem placeOf_36_1 : placeOf Try.prog 36 1 = some (1, 1) := by kernel_rfl
theorem tI_37 : tI Try.prog 37 = some (false, 1, [Value.tuple { toList := [Value.agg { toList := [Value.int IntKind.i64 0, Value.int IntKind.i64 0] }, Value.bool false] }]) := by kernel_rfl
theorem tI_38 : tI Try.prog 38 = some (false, 1, [Value.nilFunc]) := by kernel_rfl
theorem tI_39 : tI Try.prog 39 = some (false, 1, [Value.nilFunc]) := by kernel_rfl
theorem tI_40 : tI Try.prog 40 = some (false, 1, [Value.slice Option.none 0 0]) := by kernel_rfl
theorem tElem_40 : tElem Try.prog 40 = some (2, 48, 26) := by kernel_rfl
theorem tI_41 : tI Try.prog 41 = some (false, 1, [Value.nilFunc]) := by kernel_rfl
theorem tI_42 : tI Try.prog 42 = some (false, 1, [Value.nilFunc]) := by kernel_rfl
theorem tI_43 : tI Try.prog 43 = some (false, 1, [Value.tuple { toList := [Value.agg { toList := [Value.slice Option.none 0 0, Value.slice Option.none 0 0] }, Value.agg { toList := [Value.slice Option.none 0 0, Value.slice Option.none 0 0] }] }]) := by kernel_rfl
theorem tI_44 : tI Try.prog 44 = some (false, 1, [Value.nilFunc]) := by kernel_rfl
theorem tI_45 : tI Try.prog 45 = some (false, 1, [Value.tuple { toList := [Value.string ⟨#[]⟩, Value.bool false] }]) := by kernel_rfl
theorem tI_46 : tI Try.prog 46 = some (false, 1, [Value.nilFunc]) := by kernel_rfl
theorem tI_47 : tI Try.prog 47 = some (false, 1, [Value.nilFunc]) := by kernel_rfl
theorem tI_48 : tI Try.prog 48 = some (false, 1, [Value.nilFunc]) := by kernel_rfl
theorem tI_49 : tI Try.prog 49 = some (false, 1, [Value.nilFunc]) := by kernel_rfl
theorem tI_50 : tI Try.prog 50 = some (false, 1, [Value.nilFunc]) := by kernel_rfl
theorem tI_51 : tI Try.prog 51 = some (false, 1, [Value.nilFunc]) := by kernel_rfl
theorem tI_52 : tI Try.prog 52 = some (false, 1, [Value.nilFunc]) := by kernel_rfl
theorem tI_53 : tI Try.prog 53 = some (false, 1, [Value.nilFunc]) := by kernel_rfl
theorem tI_54 : tI Try.prog 54 = some (false, 1, [Value.nilFunc]) := by kernel_rfl
theorem tI_55 : tI Try.prog 55 = some (false, 1, [Value.nilFunc]) := by kernel_rfl
theorem tI_56 : tI Try.prog 56 = some (false, 1, [Value.nilFunc]) := by kernel_rfl
theorem tI_57 : tI Try.prog 57 = some (false, 1, [Value.nilFunc]) := by kernel_rfl
theorem tI_58 : tI Try.prog 58 = some (false, 1, [Value.nilFunc]) := by kernel_rfl
theorem tI_59 : tI Try.prog 59 = some (false, 1, [Value.tuple { toList := [Value.agg { toList := [Value.slice Option.none 0 0, Value.slice Option.none 0 0] }, Value.string ⟨#[]⟩, Value.int IntKind.i64 0] }]) := by kernel_rfl
theorem tI_60 : tI Try.prog 60 = some (false, 1, [Value.nilFunc]) := by kernel_rfl
theorem tI_61 : tI Try.prog 61 = some (false, 1, [Value.pointer Option.none]) := by kernel_rfl
theorem tI_62 : tI Try.prog 62 = some (false, 1, [Value.nilFunc]) := by kernel_rfl
theorem tI_63 : tI Try.prog 63 = some (false, 1, [Value.nilFunc]) := by kernel_rfl
theorem tI_64 : tI Try.prog 64 = some (false, 1, [Value.nilFunc]) := by kernel_rfl
theorem tI_65 : tI Try.prog 65 = some (false, 1, [Value.nilFunc]) := by kernel_rfl
theorem tI_66 : tI Try.prog 66 = some (false, 1, [Value.nilFunc]) := by kernel_rfl
theorem tI_67 : tI Try.prog 67 = some (false, 1, [Value.nilFunc]) := by kernel_rfl
theorem tI_68 : tI Try.prog 68 = some (false, 1, [Value.nilFunc]) := by kernel_rfl
theorem tI_69 : tI Try.prog 69 = some (false, 1, [Value.nilFunc]) := by kernel_rfl
theorem tI_70 : tI Try.prog 70 = some (false, 1, [Value.nilFunc]) := by kernel_rfl
theorem tI_71 : tI Try.prog 71 = some (false, 1, [Value.nilFunc]) := by kernel_rfl
theorem tI_72 : tI Try.prog 72 = some (false, 1, [Value.nilFunc]) := by kernel_rfl
theorem tI_73 : tI Try.prog 73 = some (false, 1, [Value.nilFunc]) := by kernel_rfl
theorem tI_74 : tI Try.prog 74 = some (false, 1, [Value.nilFunc]) := by kernel_rfl
theorem tI_75 : tI Try.prog 75 = some (false, 1, [Value.nilFunc]) := by kernel_rfl
theorem tI_76 : tI Try.prog 76 = some (false, 1, [Value.nilFunc]) := by kernel_rfl
theorem tI_77 : tI Try.prog 77 = some (false, 1, [Value.slice Option.none 0 0]) := by kernel_rfl
theorem tElem_77 : tElem Try.prog 77 = some (1, 8, 3) := by kernel_rfl
theorem tI_78 : tI Try.prog 78 = some (false, 1, [Value.nilFunc]) := by kernel_rfl
theorem tI_79 : tI Try.prog 79 = some (true, 31, [Value.slice Option.none 0 0, Value.slice Option.none 0 0, Value.slice Option.none 0 0, Value.slice Option.none 0 0, Value.slice Option.none 0 0, Value.slice Option.none 0 0, Value.slice Option.none 0 0, Value.slice Option.none 0 0, Value.slice Option.none 0 0, Value.slice Option.none 0 0, Value.slice Option.none 0 0, Value.slice Option.none 0 0, Value.slice Option.none 0 0, Value.slice Option.none 0 0, Value.slice Option.none 0 0, Value.slice Option.none 0 0, Value.slice Option.none 0 0, Value.slice Option.none 0 0, Value.slice Option.none 0 0, Value.slice Option.none 0 0, Value.slice Option.none 0 0, Value.slice Option.none 0 0, Value.slice Option.none 0 0, Value.slice Option.none 0 0, Value.slice Option.none 0 0, Value.slice Option.none 0 0, Value.slice Option.none 0 0, Value.slice Option.none 0 0, Value.slice Option.none 0 0, Value.slice Option.none 0 0, Value.slice Option.none 0 0]) := by kernel_rfl
theorem tArr_79 : tArr Try.prog 79 = some (31, 1, false) := by kernel_rfl
theorem fieldsOk_79 : fieldsOk Try.prog 79 = true := by kernel_rfl
theorem placeOf_79_0 : placeOf Try.prog 79 0 = some (0, 1) := by kernel_rfl
theorem placeOf_79_1 : placeOf Try.prog 79 1 = some (1, 1) := by kernel_rfl
theorem placeOf_79_2 : placeOf Try.prog 79 2 = some (2, 1) := by kernel_rfl
theorem placeOf_79_3 : placeOf Try.prog 79 3 = some (3, 1) := by kernel_rfl
theorem placeOf_79_4 : placeOf Try.prog 79 4 = some (4, 1) := by kernel_rfl
theorem placeOf_79_5 : placeOf Try.prog 79 5 = some (5, 1) := by kernel_rfl
theorem placeOf_79_6 : placeOf Try.prog 79 6 = some (6, 1) := by kernel_rfl
theorem placeOf_79_7 : placeOf Try.prog 79 7 = some (7, 1) := by kernel_rfl
theorem placeOf_79_8 : placeOf Try.prog 79 8 = some (8, 1) := by kernel_rfl
theorem placeOf_79_9 : placeOf Try.prog 79 9 = some (9, 1) := by kernel_rfl
theorem placeOf_79_10 : placeOf Try.prog 79 10 = some (10, 1) := by kernel_rfl
theorem placeOf_79_11 : placeOf Try.prog 79 11 = some (11, 1) := by kernel_rfl
theorem tI_80 : tI Try.prog 80 = some (false, 1, [Value.nilFunc]) := by kernel_rfl
theorem tI_81 : tI Try.prog 81 = some (false, 1, [Value.nilFunc]) := by kernel_rfl
theorem tI_82 : tI Try.prog 82 = some (false, 1, [Value.tuple { toList := [Value.agg { toList := [Value.slice Option.none 0 0, Value.slice Option.none 0 0] }, Value.slice Option.none 0 0, Value.bool false] }]) := by kernel_rfl
theorem tI_83 : tI Try.prog 83 = some (false, 1, [Value.nilFunc]) := by kernel_rfl
theorem tI_84 : tI Try.prog 84 = some (false, 1, [Value.nilFunc]) := by kernel_rfl
theorem tI_85 : tI Try.prog 85 = some (false, 1, [Value.nilFunc]) := by kernel_rfl
theorem tI_86 : tI Try.prog 86 = some (false, 1, [Value.nilFunc]) := by kernel_rfl
theorem tI_87 : tI Try.prog 87 = some (false, 1, [Value.nilFunc]) := by kernel_rfl
theorem tI_88 : tI Try.prog 88 = some (false, 1, [Value.nilFunc]) := by kernel_rfl
theorem tI_89 : tI Try.prog 89 = some (false, 1, [Value.nilFunc]) := by kernel_rfl
theorem tI_90 : tI Try.prog 90 = some (true, 2, [Value.slice Option.none 0 0, Value.int IntKind.i64 0]) := by kernel_rfl
theorem fieldsOk_90 : fieldsOk Try.prog 90 = true := by kernel_rfl
theorem tField_90_0 : tField Try.prog 90 0 = some 0 := by kernel_rfl
theorem placeOf_90_0 : placeOf Try.prog 90 0 = some (0, 1) := by kernel_rfl
theorem tField_90_1 : tField Try.prog 90 1 = some 1 := by kernel_rfl
theorem placeOf_90_1 : placeOf Try.prog 90 1 = some (1, 1) := by kernel_rfl
theorem tI_91 : tI Try.prog 91 = some (true, 2, [Value.slice Option.none 0 0, Value.int IntKind.i64 0]) := by kernel_rfl
theorem fieldsOk_91 : fieldsOk Try.prog 91 = true := by kernel_rfl
theorem tField_91_0 : tField Try.prog 91 0 = some 0 := by kernel_rfl
theorem placeOf_91_0 : placeOf Try.prog 91 0 = some (0, 1) := by kernel_rfl
theorem tField_91_1 : tField Try.prog 91 1 = some 1 := by kernel_rfl
theorem placeOf_91_1 : placeOf Try.prog 91 1 = some (1, 1) := by kernel_rfl
theorem tI_92 : tI Try.prog 92 = some (false, 1, [Value.tuple { toList := [Value.agg { toList := [Value.slice Option.none 0 0, Value.slice Option.none 0 0] }, Value.bool false] }]) := by kernel_rfl
theorem tI_93 : tI Try.prog 93 = some (false, 1, [Value.nilFunc]) := by kernel_rfl
theorem tI_94 : tI Try.prog 94 = some (false, 1, [Value.slice Option.none 0 0]) := by kernel_rfl
theorem tElem_94 : tElem Try.prog 94 = some (2, 16, 111) := by kernel_rfl
theorem tI_95 : tI Try.prog 95 = some (false, 1, [Value.nilFunc]) := by kernel_rfl
theorem tI_96 : tI Try.prog 96 = some (false, 1, [Value.slice Option.none 0 0]) := by kernel_rfl
theorem tElem_96 : tElem Try.prog 96 = some (1, 16, 9) := by kernel_rfl
theorem tI_97 : tI Try.prog 97 = some (false, 1, [Value.nilFunc]) := by kernel_rfl
theorem tI_98 : tI Try.prog 98 = some (false, 1, [Value.nilFunc]) := by kernel_rfl
theorem tI_99 : tI Try.prog 99 = some (false, 1, [Value.nilFunc]) := by kernel_rfl
theorem tI_100 : tI Try.prog 100 = some (false, 1, [Value.nilFunc]) := by kernel_rfl
theorem tI_101 : tI Try.prog 101 = some (false, 1, [Value.slice Option.none 0 0]) := by kernel_rfl
theorem tElem_101 : tElem Try.prog 101 = some (2, 16, 118) := by kernel_rfl
theorem tI_102 : tI Try.prog 102 = some (false, 1, [Value.tuple { toList := [Value.agg { toList := [Value.slice Option.none 0 0, Value.slice Option.none 0 0] }, Value.slice Option.none 0 0, Value.bool false] }]) := by kernel_rfl
theorem tI_103 : tI Try.prog 103 = some (false, 1, [Value.nilFunc]) := by kernel_rfl
theorem tI_104 : tI Try.prog 104 = some (false, 1, [Value.nilFunc]) := by kernel_rfl
theorem tI_105 : tI Try.prog 105 = some (false, 1, [Value.map Option.none]) := by kernel_rfl
theorem tMapI_105 : tMapI Try.prog 105 = some (Go.Fw.KK.one IntKind.i64, IntKind.i64) := by kernel_rfl
theorem tI_106 : tI Try.prog 106 = some (false, 1, [Value.tuple { toList := [Value.int IntKind.i64 0, Value.bool false] }]) := by kernel_rfl
theorem tI_107 : tI Try.prog 107 = some (false, 1, [Value.tuple { toList := [Value.slice Option.none 0 0, Value.bool false] }]) := by kernel_rfl
theorem tI_108 : tI Try.prog 108 = some (false, 1, [Value.nilFunc]) := by kernel_rfl
theorem tI_109 : tI Try.prog 109 = some (false, 1, [Value.nilFunc]) := by kernel_rfl
theorem tI_110 : tI Try.prog 110 = some (true, 2, [Value.int IntKind.i64 0, Value.int IntKind.i64 0]) := by kernel_rfl
theorem tEqS_110 : tEqS Try.prog 110 = some [IntKind.i64, IntKind.i64] := by kernel_rfl
theorem fieldsOk_110 : fieldsOk Try.prog 110 = true := by kernel_rfl
theorem tField_110_0 : tField Try.prog 110 0 = some 0 := by kernel_rfl
theorem placeOf_110_0 : placeOf Try.prog 110 0 = some (0, 1) := by kernel_rfl
theorem tField_110_1 : tField Try.prog 110 1 = some 1 := by kernel_rfl
theorem placeOf_110_1 : placeOf Try.prog 110 1 = some (1, 1) := by kernel_rfl
theorem tI_111 : tI Try.prog 111 = some (true, 2, [Value.int IntKind.i64 0, Value.int IntKind.i64 0]) := by kernel_rfl
theorem tEqS_111 : tEqS Try.prog 111 = some [IntKind.i64, IntKind.i64] := by kernel_rfl
theorem fieldsOk_111 : fieldsOk Try.prog 111 = true := by kernel_rfl
theorem tField_111_0 : tField Try.prog 111 0 = some 0 := by kernel_rfl
theorem placeOf_111_0 : placeOf Try.prog 111 0 = some (0, 1) := by kernel_rfl
theorem tField_111_1 : tField Try.prog 111 1 = some 1 := by kernel_rfl
theorem placeOf_111_1 : placeOf Try.prog 111 1 = some (1, 1) := by kernel_rfl
theorem tI_112 : tI Try.prog 112 = some (false, 1, [Value.nilFunc]) := by kernel_rfl
theorem tI_113 : tI Try.prog 113 = some (false, 1, [Value.nilFunc]) := by kernel_rfl
theorem tI_114 : tI Try.prog 114 = some (false, 1, [Value.nilFunc]) := by kernel_rfl
theorem tI_115 : tI Try.prog 115 = some (false, 1, [Value.nilFunc]) := by kernel_rfl
theorem tI_116 : tI Try.prog 116 = some (false, 1, [Value.nilFunc]) := by kernel_rfl
theorem tI_117 : tI Try.prog 117 = some (true, 2, [Value.int IntKind.i64 0, Value.int IntKind.i64 0]) := by kernel_rfl
theorem tArr_117 : tArr Try.prog 117 = some (2, 1, false) := by kernel_rfl
theorem tEqS_117 : tEqS Try.prog 117 = some [IntKind.i64, IntKind.i64] := by kernel_rfl
theorem fieldsOk_117 : fieldsOk Try.prog 117 = true := by kernel_rfl
theorem placeOf_117_0 : placeOf Try.prog 117 0 = some (0, 1) := by kernel_rfl
theorem placeOf_117_1 : placeOf Try.prog 117 1 = some (1, 1) := by kernel_rfl
theorem placeOf_117_2 : placeOf Try.prog 117 2 = some (2, 1) := by kernel_rfl
theorem placeOf_117_3 : placeOf Try.prog 117 3 = some (3, 1) := by kernel_rfl
theorem placeOf_117_4 : placeOf Try.prog 117 4 = some (4, 1) := by kernel_rfl
theorem placeOf_117_5 : placeOf Try.prog 117 5 = some (5, 1) := by kernel_rfl
theorem placeOf_117_6 : placeOf Try.prog 117 6 = some (6, 1) := by kernel_rfl
theorem placeOf_117_7 : placeOf Try.prog 117 7 = some (7, 1) := by kernel_rfl
theorem placeOf_117_8 : placeOf Try.prog 117 8 = some (8, 1) := by kernel_rfl
theorem placeOf_117_9 : placeOf Try.prog 117 9 = some (9, 1) := by kernel_rfl
theorem placeOf_117_10 : placeOf Try.prog 117 10 = some (10, 1) := by kernel_rfl
theorem placeOf_117_11 : placeOf Try.prog 117 11 = some (11, 1) := by kernel_rfl
theorem tI_118 : tI Try.prog 118 = some (true, 2, [Value.int IntKind.i64 0, Value.int IntKind.i64 0]) := by kernel_rfl
theorem tArr_118 : tArr Try.prog 118 = some (2, 1, false) := by kernel_rfl
theorem tEqS_118 : tEqS Try.prog 118 = some [IntKind.i64, IntKind.i64] := by kernel_rfl
theorem fieldsOk_118 : fieldsOk Try.prog 118 = true := by kernel_rfl
theorem placeOf_118_0 : placeOf Try.prog 118 0 = some (0, 1) := by kernel_rfl
theorem placeOf_118_1 : placeOf Try.prog 118 1 = some (1, 1) := by kernel_rfl
theorem placeOf_118_2 : placeOf Try.prog 118 2 = some (2, 1) := by kernel_rfl
theorem placeOf_118_3 : placeOf Try.prog 118 3 = some (3, 1) := by kernel_rfl
theorem placeOf_118_4 : placeOf Try.prog 118 4 = some (4, 1) := by kernel_rfl
theorem placeOf_118_5 : placeOf Try.prog 118 5 = some (5, 1) := by kernel_rfl
theorem placeOf_118_6 : placeOf Try.prog 118 6 = some (6, 1) := by kernel_rfl
theorem placeOf_118_7 : placeOf Try.prog 118 7 = some (7, 1) := by kernel_rfl
theorem placeOf_118_8 : placeOf Try.prog 118 8 = some (8, 1) := by kernel_rfl
theorem placeOf_118_9 : placeOf Try.prog 118 9 = some (9, 1) := by kernel_rfl
theorem placeOf_118_10 : placeOf Try.prog 118 10 = some (10, 1) := by kernel_rfl
theorem placeOf_118_11 : placeOf Try.prog 118 11 = some (11, 1) := by kernel_rfl
theorem tI_119 : tI Try.prog 119 = some (false, 1, [Value.nilFunc]) := by kernel_rfl
theorem tI_120 : tI Try.prog 120 = some (false, 1, [Value.nilFunc]) := by kernel_rfl
theorem tI_121 : tI Try.prog 121 = some (false, 1, [Value.nilFunc]) := by kernel_rfl
theorem tI_122 : tI Try.prog 122 = some (false, 1, [Value.nilFunc]) := by kernel_rfl
theorem tI_123 : tI Try.prog 123 = some (false, 1, [Value.tuple { toList := [Value.slice Option.none 0 0, Value.slice Option.none 0 0] }]) := by kernel_rfl
theorem tI_124 : tI Try.prog 124 = some (false, 1, [Value.nilFunc]) := by kernel_rfl
theorem tI_125 : tI Try.prog 125 = some (false, 1, [Value.nilFunc]) := by kernel_rfl
theorem tI_126 : tI Try.prog 126 = some (false, 1, [Value.nilFunc]) := by kernel_rfl
theorem tI_127 : tI Try.prog 127 = some (false, 1, [Value.nilFunc]) := by kernel_rfl
theorem tI_128 : tI Try.prog 128 = some (false, 1, [Value.map Option.none]) := by kernel_rfl
theorem tMapI_128 : tMapI Try.prog 128 = some (Go.Fw.KK.row [IntKind.i64, IntKind.i64], IntKind.i64) := by kernel_rfl
theorem tI_129 : tI Try.prog 129 = some (false, 1, [Value.nilFunc]) := by kernel_rfl
theorem tI_130 : tI Try.prog 130 = some (false, 1, [Value.nilFunc]) := by kernel_rfl
theorem tI_131 : tI Try.prog 131 = some (false, 1, [Value.slice Option.none 0 0]) := by kernel_rfl
theorem tElem_131 : tElem Try.prog 131 = some (3, 24, 136) := by kernel_rfl
theorem tI_132 : tI Try.prog 132 = some (true, 4, [Value.int IntKind.i64 0, Value.slice Option.none 0 0, Value.slice Option.none 0 0, Value.slice Option.none 0 0]) := by kernel_rfl
theorem fieldsOk_132 : fieldsOk Try.prog 132 = true := by kernel_rfl
theorem tField_132_0 : tField Try.prog 132 0 = some 0 := by kernel_rfl
theorem placeOf_132_0 : placeOf Try.prog 132 0 = some (0, 1) := by kernel_rfl
theorem tField_132_1 : tField Try.prog 132 1 = some 1 := by kernel_rfl
theorem placeOf_132_1 : placeOf Try.prog 132 1 = some (1, 1) := by kernel_rfl
theorem tField_132_2 : tField Try.prog 132 2 = some 2 := by kernel_rfl
theorem placeOf_132_2 : placeOf Try.prog 132 2 = some (2, 1) := by kernel_rfl
theorem tField_132_3 : tField Try.prog 132 3 = some 3 := by kernel_rfl
theorem placeOf_132_3 : placeOf Try.prog 132 3 = some (3, 1) := by kernel_rfl
theorem tI_133 : tI Try.prog 133 = some (true, 4, [Value.int IntKind.i64 0, Value.slice Option.none 0 0, Value.slice Option.none 0 0, Value.slice Option.none 0 0]) := by kernel_rfl
theorem fieldsOk_133 : fieldsOk Try.prog 133 = true := by kernel_rfl
theorem tField_133_0 : tField Try.prog 133 0 = some 0 := by kernel_rfl
theorem placeOf_133_0 : placeOf Try.prog 133 0 = some (0, 1) := by kernel_rfl
theorem tField_133_1 : tField Try.prog 133 1 = some 1 := by kernel_rfl
theorem placeOf_133_1 : placeOf Try.prog 133 1 = some (1, 1) := by kernel_rfl
theorem tField_133_2 : tField Try.prog 133 2 = some 2 := by kernel_rfl
theorem placeOf_133_2 : placeOf Try.prog 133 2 = some (2, 1) := by kernel_rfl
theorem tField_133_3 : tField Try.prog 133 3 = some 3 := by kernel_rfl
theorem placeOf_133_3 : placeOf Try.prog 133 3 = some (3, 1) := by kernel_rfl
theorem tI_134 : tI Try.prog 134 = some (false, 1, [Value.nilFunc]) := by kernel_rfl
theorem tI_135 : tI Try.prog 135 = some (true, 3, [Value.int IntKind.i64 0, Value.int IntKind.i64 0, Value.int IntKind.i64 0]) := by kernel_rfl
theorem tEqS_135 : tEqS Try.prog 135 = some [IntKind.i64, IntKind.i64, IntKind.i64] := by kernel_rfl
theorem fieldsOk_135 : fieldsOk Try.prog 135 = true := by kernel_rfl
theorem tField_135_0 : tField Try.prog 135 0 = some 0 := by kernel_rfl
theorem placeOf_135_0 : placeOf Try.prog 135 0 = some (0, 1) := by kernel_rfl
theorem tField_135_1 : tField Try.prog 135 1 = some 1 := by kernel_rfl
theorem placeOf_135_1 : placeOf Try.prog 135 1 = some (1, 1) := by kernel_rfl
theorem tField_135_2 : tField Try.prog 135 2 = some 2 := by kernel_rfl
theorem placeOf_135_2 : placeOf Try.prog 135 2 = some (2, 1) := by kernel_rfl
theorem tI_136 : tI Try.prog 136 = some (true, 3, [Value.int IntKind.i64 0, Value.int IntKind.i64 0, Value.int IntKind.i64 0]) := by kernel_rfl
theorem tEqS_136 : tEqS Try.prog 136 = some [IntKind.i64, IntKind.i64, IntKind.i64] := by kernel_rfl
theorem fieldsOk_136 : fieldsOk Try.prog 136 = true := by kernel_rfl
theorem tField_136_0 : tField Try.prog 136 0 = some 0 := by kernel_rfl
theorem placeOf_136_0 : placeOf Try.prog 136 0 = some (0, 1) := by kernel_rfl
theorem tField_136_1 : tField Try.prog 136 1 = some 1 := by kernel_rfl
theorem placeOf_136_1 : placeOf Try.prog 136 1 = some (1, 1) := by kernel_rfl
theorem tField_136_2 : tField Try.prog 136 2 = some 2 := by kernel_rfl
theorem placeOf_136_2 : placeOf Try.prog 136 2 = some (2, 1) := by kernel_rfl
theorem tI_137 : tI Try.prog 137 = some (false, 1, [Value.nilFunc]) := by kernel_rfl
theorem tI_138 : tI Try.prog 138 = some (false, 1, [Value.nilFunc]) := by kernel_rfl
theorem tI_139 : tI Try.prog 139 = some (false, 1, [Value.slice Option.none 0 0]) := by kernel_rfl
theorem tElem_139 : tElem Try.prog 139 = some (1, 24, 24) := by kernel_rfl
theorem tI_140 : tI Try.prog 140 = some (false, 1, [Value.tuple { toList := [Value.slice Option.none 0 0, Value.slice Option.none 0 0] }]) := by kernel_rfl
theorem tI_141 : tI Try.prog 141 = some (false, 1, [Value.nilFunc]) := by kernel_rfl
theorem tI_142 : tI Try.prog 142 = some (false, 1, [Value.nilFunc]) := by kernel_rfl
theorem tI_143 : tI Try.prog 143 = some (false, 1, [Value.nilFunc]) := by kernel_rfl
theorem tI_144 : tI Try.prog 144 = some (false, 1, [Value.nilFunc]) := by kernel_rfl
theorem tI_145 : tI Try.prog 145 = some (false, 1, [Value.nilFunc]) := by kernel_rfl
theorem tI_146 : tI Try.prog 146 = some (false, 1, [Value.nilFunc]) := by kernel_rfl
theorem tI_147 : tI Try.prog 147 = some (true, 4, [Value.pointer Option.none, Value.pointer Option.none, Value.pointer Option.none, Value.string ⟨#[]⟩]) := by kernel_rfl
theorem fieldsOk_147 : fieldsOk Try.prog 147 = true := by kernel_rfl
theorem tField_147_0 : tField Try.prog 147 0 = some 0 := by kernel_rfl
theorem placeOf_147_0 : placeOf Try.prog 147 0 = some (0, 1) := by kernel_rfl
theorem tField_147_1 : tField Try.prog 147 1 = some 1 := by kernel_rfl
theorem placeOf_147_1 : placeOf Try.prog 147 1 = some (1, 1) := by kernel_rfl
theorem tField_147_2 : tField Try.prog 147 2 = some 2 := by kernel_rfl
theorem placeOf_147_2 : placeOf Try.prog 147 2 = some (2, 1) := by kernel_rfl
theorem tField_147_3 : tField Try.prog 147 3 = some 3 := by kernel_rfl
theorem placeOf_147_3 : placeOf Try.prog 147 3 = some (3, 1) := by kernel_rfl
theorem tI_148 : tI Try.prog 148 = some (true, 4, [Value.pointer Option.none, Value.pointer Option.none, Value.pointer Option.none, Value.string ⟨#[]⟩]) := by kernel_rfl
theorem fieldsOk_148 : fieldsOk Try.prog 148 = true := by kernel_rfl
theorem tField_148_0 : tField Try.prog 148 0 = some 0 := by kernel_rfl
theorem placeOf_148_0 : placeOf Try.prog 148 0 = some (0, 1) := by kernel_rfl
theorem tField_148_1 : tField Try.prog 148 1 = some 1 := by kernel_rfl
theorem placeOf_148_1 : placeOf Try.prog 148 1 = some (1, 1) := by kernel_rfl
theorem tField_148_2 : tField Try.prog 148 2 = some 2 := by kernel_rfl
theorem placeOf_148_2 : placeOf Try.prog 148 2 = some (2, 1) := by kernel_rfl
theorem tField_148_3 : tField Try.prog 148 3 = some 3 := by kernel_rfl
theorem placeOf_148_3 : placeOf Try.prog 148 3 = some (3, 1) := by kernel_rfl
theorem tI_149 : tI Try.prog 149 = some (true, 0, []) := by kernel_rfl
theorem tArr_149 : tArr Try.prog 149 = some (0, 1, false) := by kernel_rfl
theorem fieldsOk_149 : fieldsOk Try.prog 149 = true := by kernel_rfl
theorem placeOf_149_0 : placeOf Try.prog 149 0 = some (0, 1) := by kernel_rfl
theorem placeOf_149_1 : placeOf Try.prog 149 1 = some (1, 1) := by kernel_rfl
theorem placeOf_149_2 : placeOf Try.prog 149 2 = some (2, 1) := by kernel_rfl
theorem placeOf_149_3 : placeOf Try.prog 149 3 = some (3, 1) := by kernel_rfl
theorem placeOf_149_4 : placeOf Try.prog 149 4 = some (4, 1) := by kernel_rfl
theorem placeOf_149_5 : placeOf Try.prog 149 5 = some (5, 1) := by kernel_rfl
theorem placeOf_149_6 : placeOf Try.prog 149 6 = some (6, 1) := by kernel_rfl
theorem placeOf_149_7 : placeOf Try.prog 149 7 = some (7, 1) := by kernel_rfl
theorem placeOf_149_8 : placeOf Try.prog 149 8 = some (8, 1) := by kernel_rfl
theorem placeOf_149_9 : placeOf Try.prog 149 9 = some (9, 1) := by kernel_rfl
theorem placeOf_149_10 : placeOf Try.prog 149 10 = some (10, 1) := by kernel_rfl
theorem placeOf_149_11 : placeOf Try.prog 149 11 = some (11, 1) := by kernel_rfl
theorem tI_150 : tI Try.prog 150 = some (true, 0, []) := by kernel_rfl
theorem fieldsOk_150 : fieldsOk Try.prog 150 = true := by kernel_rfl
theorem placeOf_150_0 : placeOf Try.prog 150 0 = some (0, 0) := by kernel_rfl
theorem tI_151 : tI Try.prog 151 = some (true, 0, []) := by kernel_rfl
theorem fieldsOk_151 : fieldsOk Try.prog 151 = true := by kernel_rfl
theorem placeOf_151_0 : placeOf Try.prog 151 0 = some (0, 0) := by kernel_rfl
theorem tI_152 : tI Try.prog 152 = some (false, 1, [Value.nilFunc]) := by kernel_rfl
theorem tI_153 : tI Try.prog 153 = some (false, 1, [Value.int IntKind.u32 0]) := by kernel_rfl
theorem tInt_153 : tInt Try.prog 153 = some IntKind.u32 := by kernel_rfl
theorem tI_154 : tI Try.prog 154 = some (false, 1, [Value.int IntKind.u8 0]) := by kernel_rfl
theorem tInt_154 : tInt Try.prog 154 = some IntKind.u8 := by kernel_rfl
theorem tI_155 : tI Try.prog 155 = some (false, 1, [Value.int IntKind.u8 0]) := by kernel_rfl
theorem tInt_155 : tInt Try.prog 155 = some IntKind.u8 := by kernel_rfl
theorem tI_156 : tI Try.prog 156 = some (false, 1, [Value.nilFunc]) := by kernel_rfl
theorem tI_157 : tI Try.prog 157 = some (false, 1, [Value.pointer Option.none]) := by kernel_rfl
theorem tI_158 : tI Try.prog 158 = some (false, 1, [Value.int IntKind.i32 0]) := by kernel_rfl
theorem tInt_158 : tInt Try.prog 158 = some IntKind.i32 := by kernel_rfl
theorem tI_159 : tI Try.prog 159 = some (false, 1, [Value.int IntKind.i32 0]) := by kernel_rfl
theorem tInt_159 : tInt Try.prog 159 = some IntKind.i32 := by kernel_rfl
theorem tI_160 : tI Try.prog 160 = some (true, 11, [Value.int IntKind.u64 0, Value.int IntKind.u64 0, Value.int IntKind.u32 0, Value.int IntKind.u8 0, Value.int IntKind.u8 0, Value.int IntKind.u8 0, Value.int IntKind.u8 0, Value.nilFunc, Value.pointer Option.none, Value.int IntKind.i32 0, Value.int IntKind.i32 0]) := by kernel_rfl
theorem fieldsOk_160 : fieldsOk Try.prog 160 = true := by kernel_rfl
theorem tField_160_0 : tField Try.prog 160 0 = some 0 := by kernel_rfl
theorem placeOf_160_0 : placeOf Try.prog 160 0 = some (0, 1) := by kernel_rfl
theorem tField_160_1 : tField Try.prog 160 1 = some 1 := by kernel_rfl
theorem placeOf_160_1 : placeOf Try.prog 160 1 = some (1, 1) := by kernel_rfl
theorem tField_160_2 : tField Try.prog 160 2 = some 2 := by kernel_rfl
theorem placeOf_160_2 : placeOf Try.prog 160 2 = some (2, 1) := by kernel_rfl
theorem tField_160_3 : tField Try.prog 160 3 = some 3 := by kernel_rfl
theorem placeOf_160_3 : placeOf Try.prog 160 3 = some (3, 1) := by kernel_rfl
theorem tField_160_4 : tField Try.prog 160 4 = some 4 := by kernel_rfl
theorem placeOf_160_4 : placeOf Try.prog 160 4 = some (4, 1) := by kernel_rfl
theorem tField_160_5 : tField Try.prog 160 5 = some 5 := by kernel_rfl
theorem placeOf_160_5 : placeOf Try.prog 160 5 = some (5, 1) := by kernel_rfl
theorem tField_160_6 : tField Try.prog 160 6 = some 6 := by kernel_rfl
theorem placeOf_160_6 : placeOf Try.prog 160 6 = some (6, 1) := by kernel_rfl
theorem tField_160_7 : tField Try.prog 160 7 = some 7 := by kernel_rfl
theorem placeOf_160_7 : placeOf Try.prog 160 7 = some (7, 1) := by kernel_rfl
theorem tField_160_8 : tField Try.prog 160 8 = some 8 := by kernel_rfl
theorem placeOf_160_8 : placeOf Try.prog 160 8 = some (8, 1) := by kernel_rfl
theorem tField_160_9 : tField Try.prog 160 9 = some 9 := by kernel_rfl
theorem placeOf_160_9 : placeOf Try.prog 160 9 = some (9, 1) := by kernel_rfl
theorem tField_160_10 : tField Try.prog 160 10 = some 10 := by kernel_rfl
theorem placeOf_160_10 : placeOf Try.prog 160 10 = some (10, 1) := by kernel_rfl
theorem tI_161 : tI Try.prog 161 = some (true, 11, [Value.int IntKind.u64 0, Value.int IntKind.u64 0, Value.int IntKind.u32 0, Value.int IntKind.u8 0, Value.int IntKind.u8 0, Value.int IntKind.u8 0, Value.int IntKind.u8 0, Value.nilFunc, Value.pointer Option.none, Value.int IntKind.i32 0, Value.int IntKind.i32 0]) := by kernel_rfl
theorem fieldsOk_161 : fieldsOk Try.prog 161 = true := by kernel_rfl
theorem tField_161_0 : tField Try.prog 161 0 = some 0 := by kernel_rfl
theorem placeOf_161_0 : placeOf Try.prog 161 0 = some (0, 1) := by kernel_rfl
theorem tField_161_1 : tField Try.prog 161 1 = some 1 := by kernel_rfl
theorem placeOf_161_1 : placeOf Try.prog 161 1 = some (1, 1) := by kernel_rfl
theorem tField_161_2 : tField Try.prog 161 2 = some 2 := by kernel_rfl
theorem placeOf_161_2 : placeOf Try.prog 161 2 = some (2, 1) := by kernel_rfl
theorem tField_161_3 : tField Try.prog 161 3 = some 3 := by kernel_rfl
theorem placeOf_161_3 : placeOf Try.prog 161 3 = some (3, 1) := by kernel_rfl
theorem tField_161_4 : tField Try.prog 161 4 = some 4 := by kernel_rfl
theorem placeOf_161_4 : placeOf Try.prog 161 4 = some (4, 1) := by kernel_rfl
theorem tField_161_5 : tField Try.prog 161 5 = some 5 := by kernel_rfl
theorem placeOf_161_5 : placeOf Try.prog 161 5 = some (5, 1) := by kernel_rfl
theorem tField_161_6 : tField Try.prog 161 6 = some 6 := by kernel_rfl
theorem placeOf_161_6 : placeOf Try.prog 161 6 = some (6, 1) := by kernel_rfl
theorem tField_161_7 : tField Try.prog 161 7 = some 7 := by kernel_rfl
theorem placeOf_161_7 : placeOf Try.prog 161 7 = some (7, 1) := by kernel_rfl
theorem tField_161_8 : tField Try.prog 161 8 = some 8 := by kernel_rfl
theorem placeOf_161_8 : placeOf Try.prog 161 8 = some (8, 1) := by kernel_rfl
theorem tField_161_9 : tField Try.prog 161 9 = some 9 := by kernel_rfl
theorem placeOf_161_9 : placeOf Try.prog 161 9 = some (9, 1) := by kernel_rfl
theorem tField_161_10 : tField Try.prog 161 10 = some 10 := by kernel_rfl
theorem placeOf_161_10 : placeOf Try.prog 161 10 = some (10, 1) := by kernel_rfl
theorem tI_162 : tI Try.prog 162 = some (false, 1, [Value.nilFunc]) := by kernel_rfl
theorem tI_163 : tI Try.prog 163 = some (false, 1, [Value.pointer Option.none]) := by kernel_rfl
theorem tI_164 : tI Try.prog 164 = some (false, 1, [Value.int IntKind.u64 0]) := by kernel_rfl
theorem tInt_164 : tInt Try.prog 164 = some IntKind.u64 := by kernel_rfl
theorem tI_165 : tI Try.prog 165 = some (true, 2, [Value.int IntKind.u64 0, Value.int IntKind.u64 0]) := by kernel_rfl
theorem tArr_165 : tArr Try.prog 165 = some (2, 1, false) := by kernel_rfl
theorem tEqS_165 : tEqS Try.prog 165 = some [IntKind.u64, IntKind.u64] := by kernel_rfl
theorem fieldsOk_165 : fieldsOk Try.prog 165 = true := by kernel_rfl
theorem placeOf_165_0 : placeOf Try.prog 165 0 = some (0, 1) := by kernel_rfl
theorem placeOf_165_1 : placeOf Try.prog 165 1 = some (1, 1) := by kernel_rfl
theorem placeOf_165_2 : placeOf Try.prog 165 2 = some (2, 1) := by kernel_rfl
theorem placeOf_165_3 : placeOf Try.prog 165 3 = some (3, 1) := by kernel_rfl
theorem placeOf_165_4 : placeOf Try.prog 165 4 = some (4, 1) := by kernel_rfl
theorem placeOf_165_5 : placeOf Try.prog 165 5 = some (5, 1) := by kernel_rfl
theorem placeOf_165_6 : placeOf Try.prog 165 6 = some (6, 1) := by kernel_rfl
theorem placeOf_165_7 : placeOf Try.prog 165 7 = some (7, 1) := by kernel_rfl
theorem placeOf_165_8 : placeOf Try.prog 165 8 = some (8, 1) := by kernel_rfl
theorem placeOf_165_9 : placeOf Try.prog 165 9 = some (9, 1) := by kernel_rfl
theorem placeOf_165_10 : placeOf Try.prog 165 10 = some (10, 1) := by kernel_rfl
theorem placeOf_165_11 : placeOf Try.prog 165 11 = some (11, 1) := by kernel_rfl
theorem tI_166 : tI Try.prog 166 = some (true, 2, [Value.int IntKind.u64 0, Value.int IntKind.u64 0]) := by kernel_rfl
theorem tArr_166 : tArr Try.prog 166 = some (2, 1, false) := by kernel_rfl
theorem tEqS_166 : tEqS Try.prog 166 = some [IntKind.u64, IntKind.u64] := by kernel_rfl
theorem fieldsOk_166 : fieldsOk Try.prog 166 = true := by kernel_rfl
theorem placeOf_166_0 : placeOf Try.prog 166 0 = some (0, 1) := by kernel_rfl
theorem placeOf_166_1 : placeOf Try.prog 166 1 = some (1, 1) := by kernel_rfl
theorem placeOf_166_2 : placeOf Try.prog 166 2 = some (2, 1) := by kernel_rfl
theorem placeOf_166_3 : placeOf Try.prog 166 3 = some (3, 1) := by kernel_rfl
theorem placeOf_166_4 : placeOf Try.prog 166 4 = some (4, 1) := by kernel_rfl
theorem placeOf_166_5 : placeOf Try.prog 166 5 = some (5, 1) := by kernel_rfl
theorem placeOf_166_6 : placeOf Try.prog 166 6 = some (6, 1) := by kernel_rfl
theorem placeOf_166_7 : placeOf Try.prog 166 7 = some (7, 1) := by kernel_rfl
theorem placeOf_166_8 : placeOf Try.prog 166 8 = some (8, 1) := by kernel_rfl
theorem placeOf_166_9 : placeOf Try.prog 166 9 = some (9, 1) := by kernel_rfl
theorem placeOf_166_10 : placeOf Try.prog 166 10 = some (10, 1) := by kernel_rfl
theorem placeOf_166_11 : placeOf Try.prog 166 11 = some (11, 1) := by kernel_rfl
theorem callable_2 : callable Try.prog 2 = true := by kernel_rfl
theorem callable_3 : callable Try.prog 3 = true := by kernel_rfl
theorem callable_4 : callable Try.prog 4 = true := by kernel_rfl
theorem callable_5 : callable Try.prog 5 = true := by kernel_rfl
theorem callable_6 : callable Try.prog 6 = true := by kernel_rfl
theorem callable_7 : callable Try.prog 7 = true := by kernel_rfl
theorem callable_8 : callable Try.prog 8 = true := by kernel_rfl
theorem callable_9 : callable Try.prog 9 = true := by kernel_rfl
theorem callable_10 : callable Try.prog 10 = true := by kernel_rfl
theorem callable_11 : callable Try.prog 11 = true := by kernel_rfl
theorem callable_12 : callable Try.prog 12 = true := by kernel_rfl
theorem callable_13 : callable Try.prog 13 = true := by kernel_rfl
theorem callable_14 : callable Try.prog 14 = true := by kernel_rfl
theorem callable_15 : callable Try.prog 15 = true := by kernel_rfl
theorem callable_16 : callable Try.prog 16 = true := by kernel_rfl
theorem callable_17 : callable Try.prog 17 = true := by kernel_rfl
theorem callable_18 : callable Try.prog 18 = true := by kernel_rfl
theorem callable_19 : callable Try.prog 19 = true := by kernel_rfl
theorem callable_20 : callable Try.prog 20 = true := by kernel_rfl
theorem callable_21 : callable Try.prog 21 = true := by kernel_rfl
theorem callable_22 : callable Try.prog 22 = true := by kernel_rfl
theorem callable_23 : callable Try.prog 23 = true := by kernel_rfl
theorem callable_24 : callable Try.prog 24 = true := by kernel_rfl
theorem callable_25 : callable Try.prog 25 = true := by kernel_rfl
theorem callable_26 : callable Try.prog 26 = true := by kernel_rfl
theorem callable_27 : callable Try.prog 27 = true := by kernel_rfl
theorem callable_28 : callable Try.prog 28 = true := by kernel_rfl
theorem callable_29 : callable Try.prog 29 = true := by kernel_rfl
theorem callable_30 : callable Try.prog 30 = true := by kernel_rfl
theorem callable_31 : callable Try.prog 31 = true := by kernel_rfl
theorem callable_32 : callable Try.prog 32 = true := by kernel_rfl
theorem callable_33 : callable Try.prog 33 = true := by kernel_rfl
theorem callable_34 : callable Try.prog 34 = true := by kernel_rfl
theorem callable_35 : callable Try.prog 35 = true := by kernel_rfl
theorem callable_36 : callable Try.prog 36 = true := by kernel_rfl
theorem callable_37 : callable Try.prog 37 = true := by kernel_rfl
theorem callable_38 : callable Try.prog 38 = true := by kernel_rfl
theorem callable_39 : callable Try.prog 39 = true := by kernel_rfl
theorem callable_40 : callable Try.prog 40 = true := by kernel_rfl
theorem callable_41 : callable Try.prog 41 = true := by kernel_rfl
theorem callable_42 : callable Try.prog 42 = true := by kernel_rfl
theorem callable_43 : callable Try.prog 43 = true := by kernel_rfl
theorem callable_44 : callable Try.prog 44 = true := by kernel_rfl
theorem callable_45 : callable Try.prog 45 = true := by kernel_rfl
theorem callable_46 : callable Try.prog 46 = true := by kernel_rfl
theorem callable_47 : callable Try.prog 47 = true := by kernel_rfl
theorem callable_48 : callable Try.prog 48 = true := by kernel_rfl
theorem callable_49 : callable Try.prog 49 = true := by kernel_rfl
theorem callable_50 : callable Try.prog 50 = true := by kernel_rfl
theorem callable_51 : callable Try.prog 51 = true := by kernel_rfl
theorem callable_52 : callable Try.prog 52 = true := by kernel_rfl
theorem callable_53 : callable Try.prog 53 = true := by kernel_rfl
theorem callable_54 : callable Try.prog 54 = true := by kernel_rfl
theorem callable_55 : callable Try.prog 55 = true := by kernel_rfl
theorem callable_56 : callable Try.prog 56 = true := by kernel_rfl
theorem callable_57 : callable Try.prog 57 = true := by kernel_rfl
theorem callable_58 : callable Try.prog 58 = true := by kernel_rfl
theorem callable_59 : callable Try.prog 59 = true := by kernel_rfl
theorem callable_60 : callable Try.prog 60 = true := by kernel_rfl
theorem callable_61 : callable Try.prog 61 = true := by kernel_rfl
theorem callable_62 : callable Try.prog 62 = true := by kernel_rfl
theorem callable_63 : callable Try.prog 63 = true := by kernel_rfl
theorem callable_64 : callable Try.prog 64 = true := by kernel_rfl
theorem callable_65 : callable Try.prog 65 = true := by kernel_rfl
theorem callable_66 : callable Try.prog 66 = true := by kernel_rfl
theorem callable_67 : callable Try.prog 67 = true := by kernel_rfl
theorem callable_68 : callable Try.prog 68 = true := by kernel_rfl
theorem callable_69 : callable Try.prog 69 = true := by kernel_rfl
theorem callable_70 : callable Try.prog 70 = true := by kernel_rfl
theorem callable_71 : callable Try.prog 71 = true := by kernel_rfl
theorem callable_72 : callable Try.prog 72 = true := by kernel_rfl
theorem callable_73 : callable Try.prog 73 = true := by kernel_rfl
theorem callable_74 : callable Try.prog 74 = true := by kernel_rfl
theorem callable_75 : callable Try.prog 75 = true := by kernel_rfl
theorem callable_76 : callable Try.prog 76 = true := by kernel_rfl
theorem callable_77 : callable Try.prog 77 = true := by kernel_rfl
theorem callable_78 : callable Try.prog 78 = true := by kernel_rfl
theorem callable_79 : callable Try.prog 79 = true := by kernel_rfl
theorem callable_80 : callable Try.prog 80 = true := by kernel_rfl
theorem callable_81 : callable Try.prog 81 = true := by kernel_rfl
theorem callable_82 : callable Try.prog 82 = true := by kernel_rfl
theorem callable_83 : callable Try.prog 83 = true := by kernel_rfl
theorem callable_84 : callable Try.prog 84 = true := by kernel_rfl
theorem callable_85 : callable Try.prog 85 = true := by kernel_rfl
theorem callable_86 : callable Try.prog 86 = true := by kernel_rfl
theorem callable_87 : callable Try.prog 87 = true := by kernel_rfl
theorem callable_88 : callable Try.prog 88 = true := by kernel_rfl
theorem callable_89 : callable Try.prog 89 = true := by kernel_rfl
theorem callable_90 : callable Try.prog 90 = true := by kernel_rfl
theorem callable_91 : callable Try.prog 91 = true := by kernel_rfl
theorem callable_92 : callable Try.prog 92 = true := by kernel_rfl
theorem callable_93 : callable Try.prog 93 = true := by kernel_rfl
theorem callable_94 : callable Try.prog 94 = true := by kernel_rfl
theorem callable_95 : callable Try.prog 95 = true := by kernel_rfl
theorem callable_96 : callable Try.prog 96 = true := by kernel_rfl
theorem callable_97 : callable Try.prog 97 = true := by kernel_rfl
theorem callable_98 : callable Try.prog 98 = true := by kernel_rfl
theorem callable_99 : callable Try.prog 99 = true := by kernel_rfl
theorem callable_100 : callable Try.prog 100 = true := by kernel_rfl
theorem callable_101 : callable Try.prog 101 = true := by kernel_rfl
theorem callable_102 : callable Try.prog 102 = true := by kernel_rfl
theorem callable_103 : callable Try.prog 103 = true := by kernel_rfl
theorem callable_104 : callable Try.prog 104 = true := by kernel_rfl
theorem callable_105 : callable Try.prog 105 = true := by kernel_rfl
theorem callable_106 : callable Try.prog 106 = true := by kernel_rfl
theorem callable_107 : callable Try.prog 107 = true := by kernel_rfl
theorem callable_108 : callable Try.prog 108 = true := by kernel_rfl
theorem callable_109 : callable Try.prog 109 = true := by kernel_rfl
theorem callable_110 : callable Try.prog 110 = true := by kernel_rfl
theorem callable_111 : callable Try.prog 111 = true := by kernel_rfl
theorem callable_112 : callable Try.prog 112 = true := by kernel_rfl
theorem callable_113 : callable Try.prog 113 = true := by kernel_rfl
theorem callable_114 : callable Try.prog 114 = true := by kernel_rfl
theorem callable_115 : callable Try.prog 115 = true := by kernel_rfl
theorem callable_116 : callable Try.prog 116 = true := by kernel_rfl
theorem callable_117 : callable Try.prog 117 = true := by kernel_rfl
theorem callable_118 : callable Try.prog 118 = true := by kernel_rfl
theorem callable_119 : callable Try.prog 119 = true := by kernel_rfl
theorem callable_120 : callable Try.prog 120 = true := by kernel_rfl
theorem callable_121 : callable Try.prog 121 = true := by kernel_rfl
theorem callable_122 : callable Try.prog 122 = true := by kernel_rfl
theorem callable_123 : callable Try.prog 123 = true := by kernel_rfl
theorem callable_124 : callable Try.prog 124 = true := by kernel_rfl
theorem callable_125 : callable Try.prog 125 = true := by kernel_rfl
theorem callable_126 : callable Try.prog 126 = true := by kernel_rfl
theorem callable_127 : callable Try.prog 127 = true := by kernel_rfl
theorem callable_128 : callable Try.prog 128 = true := by kernel_rfl
theorem callable_129 : callable Try.prog 129 = true := by kernel_rfl
theorem callable_130 : callable Try.prog 130 = true := by kernel_rfl
theorem callable_131 : callable Try.prog 131 = true := by kernel_rfl
theorem callable_132 : callable Try.prog 132 = true := by kernel_rfl
theorem callable_133 : callable Try.prog 133 = true := by kernel_rfl
theorem callable_134 : callable Try.prog 134 = true := by kernel_rfl
theorem callable_135 : callable Try.prog 135 = true := by kernel_rfl
attribute [simp] tI_0 tI_1 tI_2 tInt_2 tI_3 tInt_3 tI_4 tBool_4 tI_5 tInt_5 tI_6 tInt_6 tI_7 fieldsOk_7 tField_7_0 placeOf_7_0 tField_7_1 placeOf_7_1 tField_7_2 placeOf_7_2 tField_7_3 placeOf_7_3 tI_8 fieldsOk_8 tField_8_0 placeOf_8_0 tField_8_1 placeOf_8_1 tField_8_2 placeOf_8_2 tField_8_3 placeOf_8_3 tI_9 tStr_9 tI_10 tStr_10 tI_11 tStr_11 tI_12 tInt_12 tI_13 fieldsOk_13 tField_13_0 placeOf_13_0 tField_13_1 placeOf_13_1 tI_14 fieldsOk_14 tField_14_0 placeOf_14_0 tField_14_1 placeOf_14_1 tI_15 tI_16 tI_17 tI_18 fieldsOk_18 tField_18_0 placeOf_18_0 tI_19 fieldsOk_19 tField_19_0 placeOf_19_0 tI_20 tI_21 tInt_21 tI_22 tElem_22 tByteSl_22 tI_23 tElem_23 tI_24 tElem_24 tI_25 fieldsOk_25 tField_25_0 placeOf_25_0 tField_25_1 placeOf_25_1 tI_26 fieldsOk_26 tField_26_0 placeOf_26_0 tField_26_1 placeOf_26_1 tI_27 tI_28 tI_29 tI_30 tI_31 tI_32 tI_33 tI_34 tI_35 tEqS_35 fieldsOk_35 tField_35_0 placeOf_35_0 tField_35_1 placeOf_35_1 tI_36 tEqS_36 fieldsOk_36 tField_36_0 placeOf_36_0 tField_36_1 placeOf_36_1 tI_37 tI_38 tI_39 tI_40 tElem_40 tI_41 tI_42 tI_43 tI_44 tI_45 tI_46 tI_47 tI_48 tI_49 tI_50 tI_51 tI_52 tI_53 tI_54 tI_55 tI_56 tI_57 tI_58 tI_59 tI_60 tI_61 tI_62 tI_63 tI_64 tI_65 tI_66 tI_67 tI_68 tI_69 tI_70 tI_71 tI_72 tI_73 tI_74 tI_75 tI_76 tI_77 tElem_77 tI_78 tI_79 tArr_79 fieldsOk_79 placeOf_79_0 placeOf_79_1 placeOf_79_2 placeOf_79_3 placeOf_79_4 placeOf_79_5 placeOf_79_6 placeOf_79_7 placeOf_79_8 placeOf_79_9 placeOf_79_10 placeOf_79_11 tI_80 tI_81 tI_82 tI_83 tI_84 tI_85 tI_86 tI_87 tI_88 tI_89 tI_90 fieldsOk_90 tField_90_0 placeOf_90_0 tField_90_1 placeOf_90_1 tI_91 fieldsOk_91 tField_91_0 placeOf_91_0 tField_91_1 placeOf_91_1 tI_92 tI_93 tI_94 tElem_94 tI_95 tI_96 tElem_96 tI_97 tI_98 tI_99 tI_100 tI_101 tElem_101 tI_102 tI_103 tI_104 tI_105 tMapI_105 tI_106 tI_107 tI_108 tI_109 tI_110 tEqS_110 fieldsOk_110 tField_110_0 placeOf_110_0 tField_110_1 placeOf_110_1 tI_111 tEqS_111 fieldsOk_111 tField_111_0 placeOf_111_0 tField_111_1 placeOf_111_1 tI_112 tI_113 tI_114 tI_115 tI_116 tI_117 tArr_117 tEqS_117 fieldsOk_117 placeOf_117_0 placeOf_117_1 placeOf_117_2 placeOf_117_3 placeOf_117_4 placeOf_117_5 placeOf_117_6 placeOf_117_7 placeOf_117_8 placeOf_117_9 placeOf_117_10 placeOf_117_11 tI_118 tArr_118 tEqS_118 fieldsOk_118 placeOf_118_0 placeOf_118_1 placeOf_118_2 placeOf_118_3 placeOf_118_4 placeOf_118_5 placeOf_118_6 placeOf_118_7 placeOf_118_8 placeOf_118_9 placeOf_118_10 placeOf_118_11 tI_119 tI_120 tI_121 tI_122 tI_123 tI_124 tI_125 tI_126 tI_127 tI_128 tMapI_128 tI_129 tI_130 tI_131 tElem_131 tI_132 fieldsOk_132 tField_132_0 placeOf_132_0 tField_132_1 placeOf_132_1 tField_132_2 placeOf_132_2 tField_132_3 placeOf_132_3 tI_133 fieldsOk_133 tField_133_0 placeOf_133_0 tField_133_1 placeOf_133_1 tField_133_2 placeOf_133_2 tField_133_3 placeOf_133_3 tI_134 tI_135 tEqS_135 fieldsOk_135 tField_135_0 placeOf_135_0 tField_135_1 placeOf_135_1 tField_135_2 placeOf_135_2 tI_136 tEqS_136 fieldsOk_136 tField_136_0 placeOf_136_0 tField_136_1 placeOf_136_1 tField_136_2 placeOf_136_2 tI_137 tI_138 tI_139 tElem_139 tI_140 tI_141 tI_142 tI_143 tI_144 tI_145 tI_146 tI_147 fieldsOk_147 tField_147_0 placeOf_147_0 tField_147_1 placeOf_147_1 tField_147_2 placeOf_147_2 tField_147_3 placeOf_147_3 tI_148 fieldsOk_148 tField_148_0 placeOf_148_0 tField_148_1 placeOf_148_1 tField_148_2 placeOf_148_2 tField_148_3 placeOf_148_3 tI_149 tArr_149 fieldsOk_149 placeOf_149_0 placeOf_149_1 placeOf_149_2 placeOf_149_3 placeOf_149_4 placeOf_149_5 placeOf_149_6 placeOf_149_7 placeOf_149_8 placeOf_149_9 placeOf_149_10 placeOf_149_11 tI_150 fieldsOk_150 placeOf_150_0 tI_151 fieldsOk_151 placeOf_151_0 tI_152 tI_153 tInt_153 tI_154 tInt_154 tI_155 tInt_155 tI_156 tI_157 tI_158 tInt_158 tI_159 tInt_159 tI_160 fieldsOk_160 tField_160_0 placeOf_160_0 tField_160_1 placeOf_160_1 tField_160_2 placeOf_160_2 tField_160_3 placeOf_160_3 tField_160_4 placeOf_160_4 tField_160_5 placeOf_160_5 tField_160_6 placeOf_160_6 tField_160_7 placeOf_160_7 tField_160_8 placeOf_160_8 tField_160_9 placeOf_160_9 tField_160_10 placeOf_160_10 tI_161 fieldsOk_161 tField_161_0 placeOf_161_0 tField_161_1 placeOf_161_1 tField_161_2 placeOf_161_2 tField_161_3 placeOf_161_3 tField_161_4 placeOf_161_4 tField_161_5 placeOf_161_5 tField_161_6 placeOf_161_6 tField_161_7 placeOf_161_7 tField_161_8 placeOf_161_8 tField_161_9 placeOf_161_9 tField_161_10 placeOf_161_10 tI_162 tI_163 tI_164 tInt_164 tI_165 tArr_165 tEqS_165 fieldsOk_165 placeOf_165_0 placeOf_165_1 placeOf_165_2 placeOf_165_3 placeOf_165_4 placeOf_165_5 placeOf_165_6 placeOf_165_7 placeOf_165_8 placeOf_165_9 placeOf_165_10 placeOf_165_11 tI_166 tArr_166 tEqS_166 fieldsOk_166 placeOf_166_0 placeOf_166_1 placeOf_166_2 placeOf_166_3 placeOf_166_4 placeOf_166_5 placeOf_166_6 placeOf_166_7 placeOf_166_8 placeOf_166_9 placeOf_166_10 placeOf_166_11 callable_2 callable_3 callable_4 callable_5 callable_6 callable_7 callable_8 callable_9 callable_10 callable_11 callable_12 callable_13 callable_14 callable_15 callable_16 callable_17 callable_18 callable_19 callable_20 callable_21 callable_22 callable_23 callable_24 callable_25 callable_26 callable_27 callable_28 callable_29 callable_30 callable_31 callable_32 callable_33 callable_34 callable_35 callable_36 callable_37 callable_38 callable_39 callable_40 callable_41 callable_42 callable_43 callable_44 callable_45 callable_46 callable_47 callable_48 callable_49 callable_50 callable_51 callable_52 callable_53 callable_54 callable_55 callable_56 callable_57 callable_58 callable_59 callable_60 callable_61 callable_62 callable_63 callable_64 callable_65 callable_66 callable_67 callable_68 callable_69 callable_70 callable_71 callable_72 callable_73 callable_74 callable_75 callable_76 callable_77 callable_78 callable_79 callable_80 callable_81 callable_82 callable_83 callable_84 callable_85 callable_86 callable_87 callable_88 callable_89 callable_90 callable_91 callable_92 callable_93 callable_94 callable_95 callable_96 callable_97 callable_98 callable_99 callable_100 callable_101 callable_102 callable_103 callable_104 callable_105 callable_106 callable_107 callable_108 callable_109 callable_110 callable_111 callable_112 callable_113 callable_114 callable_115 callable_116 callable_117 callable_118 callable_119 callable_120 callable_121 callable_122 callable_123 callable_124 callable_125 callable_126 callable_127 callable_128 callable_129 callable_130 callable_131 callable_132 callable_133 callable_134 callable_135
theorem mixed : Try.prog.follows .mixedOrders = true := by kernel_rfl

end Go.Fw.Ty
