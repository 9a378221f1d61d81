/- The types of the program, as far as they are asked. -/
import Derived.Test.YtmodfeaneggloaaProg
import Derived.Test.YtmodfeaneggloaaFwa
set_option linter.unusedSimpArgs false
set_option linter.unusedVariables false
namespace Go.Fw.Ty
open Go Go.Proofs

theorem tI_0 : tI Try.prog 0 = some (false, 1, [Value.tuple #[]]) := by kernel_rfl
theorem tI_1 : tI Try.prog 1 = some (false, 1, [Value.nilFunc]) := by kernel_rfl
theorem tI_2 : tI Try.prog 2 = some (false, 1, [Value.int IntKind.i64 0]) := by kernel_rfl
theorem tInt_2 : tInt Try.prog 2 = some IntKind.i64 := by kernel_rfl
theorem tI_3 : tI Try.prog 3 = some (false, 1, [Value.int IntKind.i64 0]) := by kernel_rfl
theorem tInt_3 : tInt Try.prog 3 = some IntKind.i64 := by kernel_rfl
theorem tI_4 : tI Try.prog 4 = some (false, 1, [Value.bool false]) := by kernel_rfl
theorem tBool_4 : tBool Try.prog 4 = true := by kernel_rfl
theorem tI_5 : tI Try.prog 5 = some (false, 1, [Value.int IntKind.u8 0]) := by kernel_rfl
theorem tInt_5 : tInt Try.prog 5 = some IntKind.u8 := by kernel_rfl
theorem tI_6 : tI Try.prog 6 = some (false, 1, [Value.int IntKind.u8 0]) := by kernel_rfl
theorem tInt_6 : tInt Try.prog 6 = some IntKind.u8 := by kernel_rfl
theorem tI_7 : tI Try.prog 7 = some (true, 4, [Value.int IntKind.i64 0, Value.int IntKind.i64 0, Value.bool false, Value.int IntKind.u8 0]) := by kernel_rfl
theorem fieldsOk_7 : fieldsOk Try.prog 7 = true := by kernel_rfl
theorem tField_7_0 : tField Try.prog 7 0 = some 0 := by kernel_rfl
theorem placeOf_7_0 : placeOf Try.prog 7 0 = some (0, 1) := by kernel_rfl
theorem tField_7_1 : tField Try.prog 7 1 = some 1 := by kernel_rfl
theorem placeOf_7_1 : placeOf Try.prog 7 1 = some (1, 1) := by kernel_rfl
theorem tField_7_2 : tField Try.prog 7 2 = some 2 := by kernel_rfl
theorem placeOf_7_2 : placeOf Try.prog 7 2 = some (2, 1) := by kernel_rfl
theorem tField_7_3 : tField Try.prog 7 3 = some 3 := by kernel_rfl
theorem placeOf_7_3 : placeOf Try.prog 7 3 = some (3, 1) := by kernel_rfl
theorem tI_8 : tI Try.prog 8 = some (true, 4, [Value.int IntKind.i64 0, Value.int IntKind.i64 0, Value.bool false, Value.int IntKind.u8 0]) := by kernel_rfl
theorem fieldsOk_8 : fieldsOk Try.prog 8 = true := by kernel_rfl
theorem tField_8_0 : tField Try.prog 8 0 = some 0 := by kernel_rfl
theorem placeOf_8_0 : placeOf Try.prog 8 0 = some (0, 1) := by kernel_rfl
theorem tField_8_1 : tField Try.prog 8 1 = some 1 := by kernel_rfl
theorem placeOf_8_1 : placeOf Try.prog 8 1 = some (1, 1) := by kernel_rfl
theorem tField_8_2 : tField Try.prog 8 2 = some 2 := by kernel_rfl
theorem placeOf_8_2 : placeOf Try.prog 8 2 = some (2, 1) := by kernel_rfl
theorem tField_8_3 : tField Try.prog 8 3 = some 3 := by kernel_rfl
theorem placeOf_8_3 : placeOf Try.prog 8 3 = some (3, 1) := by kernel_rfl
theorem tI_9 : tI Try.prog 9 = some (false, 1, [Value.string ⟨#[]⟩]) := by kernel_rfl
theorem tStr_9 : tStr Try.prog 9 = true := by kernel_rfl
theorem tI_10 : tI Try.prog 10 = some (false, 1, [Value.string ⟨#[]⟩]) := by kernel_rfl
theorem tStr_10 : tStr Try.prog 10 = true := by kernel_rfl
theorem tI_11 : tI Try.prog 11 = some (false, 1, [Value.string ⟨#[]⟩]) := by kernel_rfl
theorem tStr_11 : tStr Try.prog 11 = true := by kernel_rfl
theorem tI_12 : tI Try.prog 12 = some (false, 1, [Value.int IntKind.u64 0]) := by kernel_rfl
theorem tInt_12 : tInt Try.prog 12 = some IntKind.u64 := by kernel_rfl
theorem tI_13 : tI Try.prog 13 = some (true, 2, [Value.string ⟨#[]⟩, Value.int IntKind.u64 0]) := by kernel_rfl
theorem fieldsOk_13 : fieldsOk Try.prog 13 = true := by kernel_rfl
theorem tField_13_0 : tField Try.prog 13 0 = some 0 := by kernel_rfl
theorem placeOf_13_0 : placeOf Try.prog 13 0 = some (0, 1) := by kernel_rfl
theorem tField_13_1 : tField Try.prog 13 1 = some 1 := by kernel_rfl
theorem placeOf_13_1 : placeOf Try.prog 13 1 = some (1, 1) := by kernel_rfl
theorem tI_14 : tI Try.prog 14 = some (true, 2, [Value.string ⟨#[]⟩, Value.int IntKind.u64 0]) := by kernel_rfl
theorem fieldsOk_14 : fieldsOk Try.prog 14 = true := by kernel_rfl
theorem tField_14_0 : tField Try.prog 14 0 = some 0 := by kernel_rfl
theorem placeOf_14_0 : placeOf Try.prog 14 0 = some (0, 1) := by kernel_rfl
theorem tField_14_1 : tField Try.prog 14 1 = some 1 := by kernel_rfl
theorem placeOf_14_1 : placeOf Try.prog 14 1 = some (1, 1) := by kernel_rfl
theorem tI_15 : tI Try.prog 15 = some (false, 1, [Value.pointer Option.none]) := by kernel_rfl
theorem tI_16 : tI Try.prog 16 = some (false, 1, [Value.pointer Option.none]) := by kernel_rfl
theorem tI_17 : tI Try.prog 17 = some (false, 1, [Value.pointer Option.none]) := by kernel_rfl
theorem tI_18 : tI Try.prog 18 = some (true, 1, [Value.pointer Option.none]) := by kernel_rfl
theorem fieldsOk_18 : fieldsOk Try.prog 18 = true := by kernel_rfl
theorem tField_18_0 : tField Try.prog 18 0 = some 0 := by kernel_rfl
theorem placeOf_18_0 : placeOf Try.prog 18 0 = some (0, 1) := by kernel_rfl
theorem tI_19 : tI Try.prog 19 = some (true, 1, [Value.pointer Option.none]) := by kernel_rfl
theorem fieldsOk_19 : fieldsOk Try.prog 19 = true := by kernel_rfl
theorem tField_19_0 : tField Try.prog 19 0 = some 0 := by kernel_rfl
theorem placeOf_19_0 : placeOf Try.prog 19 0 = some (0, 1) := by kernel_rfl
theorem tI_20 : tI Try.prog 20 = some (false, 1, [Value.nilIface]) := by kernel_rfl
theorem tI_21 : tI Try.prog 21 = some (false, 1, [Value.int IntKind.i32 0]) := by kernel_rfl
theorem tInt_21 : tInt Try.prog 21 = some IntKind.i32 := by kernel_rfl
theorem tI_22 : tI Try.prog 22 = some (false, 1, [Value.slice Option.none 0 0]) := by kernel_rfl
theorem tElem_22 : tElem Try.prog 22 = some (1, 1, 5) := by kernel_rfl
theorem tByteSl_22 : tByteSl Try.prog 22 = true := by kernel_rfl
theorem tI_23 : tI Try.prog 23 = some (false, 1, [Value.slice Option.none 0 0]) := by kernel_rfl
theorem tElem_23 : tElem Try.prog 23 = some (1, 24, 39) := by kernel_rfl
theorem tI_24 : tI Try.prog 24 = some (false, 1, [Value.slice Option.none 0 0]) := by kernel_rfl
theorem tElem_24 : tElem Try.prog 24 = some (1, 1, 4) := by kernel_rfl
theorem tI_25 : tI Try.prog 25 = some (true, 2, [Value.slice Option.none 0 0, Value.slice Option.none 0 0]) := by kernel_rfl
theorem fieldsOk_25 : fieldsOk Try.prog 25 = true := by kernel_rfl
theorem tField_25_0 : tField Try.prog 25 0 = some 0 := by kernel_rfl
theorem placeOf_25_0 : placeOf Try.prog 25 0 = some (0, 1) := by kernel_rfl
theorem tField_25_1 : tField Try.prog 25 1 = some 1 := by kernel_rfl
theorem placeOf_25_1 : placeOf Try.prog 25 1 = some (1, 1) := by kernel_rfl
theorem tI_26 : tI Try.prog 26 = some (true, 2, [Value.slice Option.none 0 0, Value.slice Option.none 0 0]) := by kernel_rfl
theorem fieldsOk_26 : fieldsOk Try.prog 26 = true := by kernel_rfl
theorem tField_26_0 : tField Try.prog 26 0 = some 0 := by kernel_rfl
theorem placeOf_26_0 : placeOf Try.prog 26 0 = some (0, 1) := by kernel_rfl
theorem tField_26_1 : tField Try.prog 26 1 = some 1 := by kernel_rfl
theorem placeOf_26_1 : placeOf Try.prog 26 1 = some (1, 1) := by kernel_rfl
theorem tI_27 : tI Try.prog 27 = some (false, 1, [Value.nilFunc]) := by kernel_rfl
theorem tI_28 : tI Try.prog 28 = some (false, 1, [Value.tuple { toList := [Value.string ⟨#[]⟩, Value.bool false] }]) := by kernel_rfl
theorem tI_29 : tI Try.prog 29 = some (false, 1, [Value.nilFunc]) := by kernel_rfl
theorem tI_30 : tI Try.prog 30 = some (false, 1, [Value.nilFunc]) := by kernel_rfl
theorem tI_31 : tI Try.prog 31 = some (false, 1, [Value.nilFunc]) := by kernel_rfl
theorem tI_32 : tI Try.prog 32 = some (false, 1, [Value.nilFunc]) := by kernel_rfl
theorem tI_33 : tI Try.prog 33 = some (false, 1, [Value.nilFunc]) := by kernel_rfl
theorem tI_34 : tI Try.prog 34 = some (false, 1, [Value.nilFunc]) := by kernel_rfl
theorem tI_35 : tI Try.prog 35 = some (false, 1, [Value.nilFunc]) := by kernel_rfl
theorem tI_36 : tI Try.prog 36 = some (false, 1, [Value.nilFunc]) := by kernel_rfl
theorem tI_37 : tI Try.prog 37 = some (false, 1, [Value.tuple { toList := [Value.agg { toList := [Value.slice Option.none 0 0, Value.slice Option.none 0 0] }, Value.string ⟨#[]⟩] }]) := by kernel_rfl
theorem tI_38 : tI Try.prog 38 = some (false, 1, [Value.nilFunc]) := by kernel_rfl
theorem tI_39 : tI Try.prog 39 = some (false, 1, [Value.slice Option.none 0 0]) := by kernel_rfl
theorem tElem_39 : tElem Try.prog 39 = some (1, 8, 3) := by kernel_rfl
theorem tI_40 : tI Try.prog 40 = some (false, 1, [Value.nilFunc]) := by kernel_rfl
theorem tI_41 : tI Try.prog 41 = some (false, 1, [Value.nilFunc]) := by kernel_rfl
theorem tI_42 : tI Try.prog 42 = some (false, 1, [Value.tuple { toList := [Value.agg { toList := [Value.slice Option.none 0 0, Value.slice Option.none 0 0] }, Value.int IntKind.i64 0] }]) := by kernel_rfl
theorem tI_43 : tI Try.prog 43 = some (false, 1, [Value.nilFunc]) := by kernel_rfl
theorem tI_44 : tI Try.prog 44 = some (false, 1, [Value.nilFunc]) := by kernel_rfl
theorem tI_45 : tI Try.prog 45 = some (false, 1, [Value.nilFunc]) := by kernel_rfl
theorem tI_46 : tI Try.prog 46 = some (false, 1, [Value.tuple { toList := [Value.agg { toList := [Value.slice Option.none 0 0, Value.slice Option.none 0 0] }, Value.agg { toList := [Value.slice Option.none 0 0, Value.slice Option.none 0 0] }] }]) := by kernel_rfl
theorem tI_47 : tI Try.prog 47 = some (false, 1, [Value.nilFunc]) := by kernel_rfl
theorem tI_48 : tI Try.prog 48 = some (false, 1, [Value.nilFunc]) := by kernel_rfl
theorem tI_49 : tI Try.prog 49 = some (false, 1, [Value.tuple { toList := [Value.agg { toList := [Value.slice Option.none 0 0, Value.slice Option.none 0 0] }, Value.bool false] }]) := by kernel_rfl
theorem tI_50 : tI Try.prog 50 = some (false, 1, [Value.nilFunc]) := by kernel_rfl
theorem tI_51 : tI Try.prog 51 = some (false, 1, [Value.nilFunc]) := by kernel_rfl
theorem tI_52 : tI Try.prog 52 = some (false, 1, [Value.nilFunc]) := by kernel_rfl
theorem tI_53 : tI Try.prog 53 = some (false, 1, [Value.nilFunc]) := by kernel_rfl
theorem tI_54 : tI Try.prog 54 = some (false, 1, [Value.nilFunc]) := by kernel_rfl
theorem tI_55 : tI Try.prog 55 = some (false, 1, [Value.nilFunc]) := by kernel_rfl
theorem tI_56 : tI Try.prog 56 = some (false, 1, [Value.nilFunc]) := by kernel_rfl
theorem tI_57 : tI Try.prog 57 = some (false, 1, [Value.pointer Option.none]) := by kernel_rfl
theorem tI_58 : tI Try.prog 58 = some (false, 1, [Value.nilFunc]) := by kernel_rfl
theorem tI_59 : tI Try.prog 59 = some (false, 1, [Value.nilFunc]) := by kernel_rfl
theorem tI_60 : tI Try.prog 60 = some (false, 1, [Value.nilFunc]) := by kernel_rfl
theorem tI_61 : tI Try.prog 61 = some (false, 1, [Value.nilFunc]) := by kernel_rfl
theorem tI_62 : tI Try.prog 62 = some (true, 31, [Value.slice Option.none 0 0, Value.slice Option.none 0 0, Value.slice Option.none 0 0, Value.slice Option.none 0 0, Value.slice Option.none 0 0, Value.slice Option.none 0 0, Value.slice Option.none 0 0, Value.slice Option.none 0 0, Value.slice Option.none 0 0, Value.slice Option.none 0 0, Value.slice Option.none 0 0, Value.slice Option.none 0 0, Value.slice Option.none 0 0, Value.slice Option.none 0 0, Value.slice Option.none 0 0, Value.slice Option.none 0 0, Value.slice Option.none 0 0, Value.slice Option.none 0 0, Value.slice Option.none 0 0, Value.slice Option.none 0 0, Value.slice Option.none 0 0, Value.slice Option.none 0 0, Value.slice Option.none 0 0, Value.slice Option.none 0 0, Value.slice Option.none 0 0, Value.slice Option.none 0 0, Value.slice Option.none 0 0, Value.slice Option.none 0 0, Value.slice Option.none 0 0, Value.slice Option.none 0 0, Value.slice Option.none 0 0]) := by kernel_rfl
theorem tArr_62 : tArr Try.prog 62 = some (31, 1, false) := by kernel_rfl
theorem fieldsOk_62 : fieldsOk Try.prog 62 = true := by kernel_rfl
theorem placeOf_62_0 : placeOf Try.prog 62 0 = some (0, 1) := by kernel_rfl
theorem placeOf_62_1 : placeOf Try.prog 62 1 = some (1, 1) := by kernel_rfl
theorem placeOf_62_2 : placeOf Try.prog 62 2 = some (2, 1) := by kernel_rfl
theorem placeOf_62_3 : placeOf Try.prog 62 3 = some (3, 1) := by kernel_rfl
theorem placeOf_62_4 : placeOf Try.prog 62 4 = some (4, 1) := by kernel_rfl
theorem placeOf_62_5 : placeOf Try.prog 62 5 = some (5, 1) := by kernel_rfl
theorem placeOf_62_6 : placeOf Try.prog 62 6 = some (6, 1) := by kernel_rfl
theorem placeOf_62_7 : placeOf Try.prog 62 7 = some (7, 1) := by kernel_rfl
theorem placeOf_62_8 : placeOf Try.prog 62 8 = some (8, 1) := by kernel_rfl
theorem placeOf_62_9 : placeOf Try.prog 62 9 = some (9, 1) := by kernel_rfl
theorem placeOf_62_10 : placeOf Try.prog 62 10 = some (10, 1) := by kernel_rfl
theorem placeOf_62_11 : placeOf Try.prog 62 11 = some (11, 1) := by kernel_rfl
theorem tI_63 : tI Try.prog 63 = some (false, 1, [Value.nilFunc]) := by kernel_rfl
theorem tI_64 : tI Try.prog 64 = some (false, 1, [Value.nilFunc]) := by kernel_rfl
theorem tI_65 : tI Try.prog 65 = some (false, 1, [Value.nilFunc]) := by kernel_rfl
theorem tI_66 : tI Try.prog 66 = some (false, 1, [Value.nilFunc]) := by kernel_rfl
theorem tI_67 : tI Try.prog 67 = some (false, 1, [Value.nilFunc]) := by kernel_rfl
theorem tI_68 : tI Try.prog 68 = some (false, 1, [Value.nilFunc]) := by kernel_rfl
theorem tI_69 : tI Try.prog 69 = some (false, 1, [Value.nilFunc]) := by kernel_rfl
theorem tI_70 : tI Try.prog 70 = some (false, 1, [Value.nilFunc]) := by kernel_rfl
theorem tI_71 : tI Try.prog 71 = some (false, 1, [Value.nilFunc]) := by kernel_rfl
theorem tI_72 : tI Try.prog 72 = some (false, 1, [Value.nilFunc]) := by kernel_rfl
theorem tI_73 : tI Try.prog 73 = some (false, 1, [Value.nilFunc]) := by kernel_rfl
theorem tI_74 : tI Try.prog 74 = some (false, 1, [Value.nilFunc]) := by kernel_rfl
theorem tI_75 : tI Try.prog 75 = some (false, 1, [Value.nilFunc]) := by kernel_rfl
theorem tI_76 : tI Try.prog 76 = some (false, 1, [Value.nilFunc]) := by kernel_rfl
theorem tI_77 : tI Try.prog 77 = some (false, 1, [Value.nilFunc]) := by kernel_rfl
theorem tI_78 : tI Try.prog 78 = some (false, 1, [Value.nilFunc]) := by kernel_rfl
theorem tI_79 : tI Try.prog 79 = some (false, 1, [Value.nilFunc]) := by kernel_rfl
theorem tI_80 : tI Try.prog 80 = some (false, 1, [Value.nilFunc]) := by kernel_rfl
theorem tI_81 : tI Try.prog 81 = some (false, 1, [Value.nilFunc]) := by kernel_rfl
theorem tI_82 : tI Try.prog 82 = some (false, 1, [Value.nilFunc]) := by kernel_rfl
theorem tI_83 : tI Try.prog 83 = some (false, 1, [Value.nilFunc]) := by kernel_rfl
theorem tI_84 : tI Try.prog 84 = some (false, 1, [Value.slice Option.none 0 0]) := by kernel_rfl
theorem tElem_84 : tElem Try.prog 84 = some (2, 16, 101) := by kernel_rfl
theorem tI_85 : tI Try.prog 85 = some (false, 1, [Value.nilFunc]) := by kernel_rfl
theorem tI_86 : tI Try.prog 86 = some (true, 2, [Value.slice Option.none 0 0, Value.int IntKind.i64 0]) := by kernel_rfl
theorem fieldsOk_86 : fieldsOk Try.prog 86 = true := by kernel_rfl
theorem tField_86_0 : tField Try.prog 86 0 = some 0 := by kernel_rfl
theorem placeOf_86_0 : placeOf Try.prog 86 0 = some (0, 1) := by kernel_rfl
theorem tField_86_1 : tField Try.prog 86 1 = some 1 := by kernel_rfl
theorem placeOf_86_1 : placeOf Try.prog 86 1 = some (1, 1) := by kernel_rfl
theorem tI_87 : tI Try.prog 87 = some (true, 2, [Value.slice Option.none 0 0, Value.int IntKind.i64 0]) := by kernel_rfl
theorem fieldsOk_87 : fieldsOk Try.prog 87 = true := by kernel_rfl
theorem tField_87_0 : tField Try.prog 87 0 = some 0 := by kernel_rfl
theorem placeOf_87_0 : placeOf Try.prog 87 0 = some (0, 1) := by kernel_rfl
theorem tField_87_1 : tField Try.prog 87 1 = some 1 := by kernel_rfl
theorem placeOf_87_1 : placeOf Try.prog 87 1 = some (1, 1) := by kernel_rfl
theorem tI_88 : tI Try.prog 88 = some (false, 1, [Value.slice Option.none 0 0]) := by kernel_rfl
theorem tElem_88 : tElem Try.prog 88 = some (1, 16, 9) := by kernel_rfl
theorem tI_89 : tI Try.prog 89 = some (false, 1, [Value.nilFunc]) := by kernel_rfl
theorem tI_90 : tI Try.prog 90 = some (false, 1, [Value.tuple { toList := [Value.slice Option.none 0 0, Value.bool false] }]) := by kernel_rfl
theorem tI_91 : tI Try.prog 91 = some (false, 1, [Value.nilFunc]) := by kernel_rfl
theorem tI_92 : tI Try.prog 92 = some (false, 1, [Value.nilFunc]) := by kernel_rfl
theorem tI_93 : tI Try.prog 93 = some (false, 1, [Value.tuple { toList := [Value.agg { toList := [Value.slice Option.none 0 0, Value.slice Option.none 0 0] }, Value.slice Option.none 0 0, Value.bool false] }]) := by kernel_rfl
theorem tI_94 : tI Try.prog 94 = some (false, 1, [Value.nilFunc]) := by kernel_rfl
theorem tI_95 : tI Try.prog 95 = some (false, 1, [Value.nilFunc]) := by kernel_rfl
theorem tI_96 : tI Try.prog 96 = some (false, 1, [Value.nilFunc]) := by kernel_rfl
theorem tI_97 : tI Try.prog 97 = some (false, 1, [Value.nilFunc]) := by kernel_rfl
theorem tI_98 : tI Try.prog 98 = some (false, 1, [Value.nilFunc]) := by kernel_rfl
theorem tI_99 : tI Try.prog 99 = some (false, 1, [Value.nilFunc]) := by kernel_rfl
theorem tI_100 : tI Try.prog 100 = some (true, 2, [Value.int IntKind.i64 0, Value.int IntKind.i64 0]) := by kernel_rfl
theorem tEqS_100 : tEqS Try.prog 100 = some [IntKind.i64, IntKind.i64] := by kernel_rfl
theorem fieldsOk_100 : fieldsOk Try.prog 100 = true := by kernel_rfl
theorem tField_100_0 : tField Try.prog 100 0 = some 0 := by kernel_rfl
theorem placeOf_100_0 : placeOf Try.prog 100 0 = some (0, 1) := by kernel_rfl
theorem tField_100_1 : tField Try.prog 100 1 = some 1 := by kernel_rfl
theorem placeOf_100_1 : placeOf Try.prog 100 1 = some (1, 1) := by kernel_rfl
theorem tI_101 : tI Try.prog 101 = some (true, 2, [Value.int IntKind.i64 0, Value.int IntKind.i64 0]) := by kernel_rfl
theorem tEqS_101 : tEqS Try.prog 101 = some [IntKind.i64, IntKind.i64] := by kernel_rfl
theorem fieldsOk_101 : fieldsOk Try.prog 101 = true := by kernel_rfl
theorem tField_101_0 : tField Try.prog 101 0 = some 0 := by kernel_rfl
theorem placeOf_101_0 : placeOf Try.prog 101 0 = some (0, 1) := by kernel_rfl
theorem tField_101_1 : tField Try.prog 101 1 = some 1 := by kernel_rfl
theorem placeOf_101_1 : placeOf Try.prog 101 1 = some (1, 1) := by kernel_rfl
theorem tI_102 : tI Try.prog 102 = some (false, 1, [Value.nilFunc]) := by kernel_rfl
theorem tI_103 : tI Try.prog 103 = some (false, 1, [Value.nilFunc]) := by kernel_rfl
theorem tI_104 : tI Try.prog 104 = some (false, 1, [Value.nilFunc]) := by kernel_rfl
theorem tI_105 : tI Try.prog 105 = some (false, 1, [Value.map Option.none]) := by kernel_rfl
theorem tMapI_105 : tMapI Try.prog 105 = some (Go.Fw.KK.one IntKind.i64, IntKind.i64) := by kernel_rfl
theorem tI_106 : tI Try.prog 106 = some (false, 1, [Value.tuple { toList := [Value.int IntKind.i64 0, Value.bool false] }]) := by kernel_rfl
theorem tI_107 : tI Try.prog 107 = some (false, 1, [Value.slice Option.none 0 0]) := by kernel_rfl
theorem tElem_107 : tElem Try.prog 107 = some (2, 16, 117) := by kernel_rfl
theorem tI_108 : tI Try.prog 108 = some (false, 1, [Value.tuple { toList := [Value.agg { toList := [Value.slice Option.none 0 0, Value.slice Option.none 0 0] }, Value.slice Option.none 0 0, Value.bool false] }]) := by kernel_rfl
theorem tI_109 : tI Try.prog 109 = some (false, 1, [Value.nilFunc]) := by kernel_rfl
theorem tI_110 : tI Try.prog 110 = some (false, 1, [Value.nilFunc]) := by kernel_rfl
theorem tI_111 : tI Try.prog 111 = some (false, 1, [Value.nilFunc]) := by kernel_rfl
theorem tI_112 : tI Try.prog 112 = some (false, 1, [Value.tuple { toList := [Value.slice Option.none 0 0, Value.slice Option.none 0 0] }]) := by kernel_rfl
theorem tI_113 : tI Try.prog 113 = some (false, 1, [Value.nilFunc]) := by kernel_rfl
theorem tI_114 : tI Try.prog 114 = some (false, 1, [Value.nilFunc]) := by kernel_rfl
theorem tI_115 : tI Try.prog 115 = some (false, 1, [Value.nilFunc]) := by kernel_rfl
theorem tI_116 : tI Try.prog 116 = some (true, 2, [Value.int IntKind.i64 0, Value.int IntKind.i64 0]) := by kernel_rfl
theorem tArr_116 : tArr Try.prog 116 = some (2, 1, false) := by kernel_rfl
theorem tEqS_116 : tEqS Try.prog 116 = some [IntKind.i64, IntKind.i64] := by kernel_rfl
theorem fieldsOk_116 : fieldsOk Try.prog 116 = true := by kernel_rfl
theorem placeOf_116_0 : placeOf Try.prog 116 0 = some (0, 1) := by kernel_rfl
theorem placeOf_116_1 : placeOf Try.prog 116 1 = some (1, 1) := by kernel_rfl
theorem placeOf_116_2 : placeOf Try.prog 116 2 = some (2, 1) := by kernel_rfl
theorem placeOf_116_3 : placeOf Try.prog 116 3 = some (3, 1) := by kernel_rfl
theorem placeOf_116_4 : placeOf Try.prog 116 4 = some (4, 1) := by kernel_rfl
theorem placeOf_116_5 : placeOf Try.prog 116 5 = some (5, 1) := by kernel_rfl
theorem placeOf_116_6 : placeOf Try.prog 116 6 = some (6, 1) := by kernel_rfl
theorem placeOf_116_7 : placeOf Try.prog 116 7 = some (7, 1) := by kernel_rfl
theorem placeOf_116_8 : placeOf Try.prog 116 8 = some (8, 1) := by kernel_rfl
theorem placeOf_116_9 : placeOf Try.prog 116 9 = some (9, 1) := by kernel_rfl
theorem placeOf_116_10 : placeOf Try.prog 116 10 = some (10, 1) := by kernel_rfl
theorem placeOf_116_11 : placeOf Try.prog 116 11 = some (11, 1) := by kernel_rfl
theorem tI_117 : tI Try.prog 117 = some (true, 2, [Value.int IntKind.i64 0, Value.int IntKind.i64 0]) := by kernel_rfl
theorem tArr_117 : tArr Try.prog 117 = some (2, 1, false) := by kernel_rfl
theorem tEqS_117 : tEqS Try.prog 117 = some [IntKind.i64, IntKind.i64] := by kernel_rfl
theorem fieldsOk_117 : fieldsOk Try.prog 117 = true := by kernel_rfl
theorem placeOf_117_0 : placeOf Try.prog 117 0 = some (0, 1) := by kernel_rfl
theorem placeOf_117_1 : placeOf Try.prog 117 1 = some (1, 1) := by kernel_rfl
theorem placeOf_117_2 : placeOf Try.prog 117 2 = some (2, 1) := by kernel_rfl
theorem placeOf_117_3 : placeOf Try.prog 117 3 = some (3, 1) := by kernel_rfl
theorem placeOf_117_4 : placeOf Try.prog 117 4 = some (4, 1) := by kernel_rfl
theorem placeOf_117_5 : placeOf Try.prog 117 5 = some (5, 1) := by kernel_rfl
theorem placeOf_117_6 : placeOf Try.prog 117 6 = some (6, 1) := by kernel_rfl
theorem placeOf_117_7 : placeOf Try.prog 117 7 = some (7, 1) := by kernel_rfl
theorem placeOf_117_8 : placeOf Try.prog 117 8 = some (8, 1) := by kernel_rfl
theorem placeOf_117_9 : placeOf Try.prog 117 9 = some (9, 1) := by kernel_rfl
theorem placeOf_117_10 : placeOf Try.prog 117 10 = some (10, 1) := by kernel_rfl
theorem placeOf_117_11 : placeOf Try.prog 117 11 = some (11, 1) := by kernel_rfl
theorem tI_118 : tI Try.prog 118 = some (false, 1, [Value.nilFunc]) := by kernel_rfl
theorem tI_119 : tI Try.prog 119 = some (false, 1, [Value.nilFunc]) := by kernel_rfl
theorem tI_120 : tI Try.prog 120 = some (false, 1, [Value.nilFunc]) := by kernel_rfl
theorem tI_121 : tI Try.prog 121 = some (false, 1, [Value.nilFunc]) := by kernel_rfl
theorem tI_122 : tI Try.prog 122 = some (false, 1, [Value.slice Option.none 0 0]) := by kernel_rfl
theorem tElem_122 : tElem Try.prog 122 = some (3, 24, 127) := by kernel_rfl
theorem tI_123 : tI Try.prog 123 = some (true, 4, [Value.int IntKind.i64 0, Value.slice Option.none 0 0, Value.slice Option.none 0 0, Value.slice Option.none 0 0]) := by kernel_rfl
theorem fieldsOk_123 : fieldsOk Try.prog 123 = true := by kernel_rfl
theorem tField_123_0 : tField Try.prog 123 0 = some 0 := by kernel_rfl
theorem placeOf_123_0 : placeOf Try.prog 123 0 = some (0, 1) := by kernel_rfl
theorem tField_123_1 : tField Try.prog 123 1 = some 1 := by kernel_rfl
theorem placeOf_123_1 : placeOf Try.prog 123 1 = some (1, 1) := by kernel_rfl
theorem tField_123_2 : tField Try.prog 123 2 = some 2 := by kernel_rfl
theorem placeOf_123_2 : placeOf Try.prog 123 2 = some (2, 1) := by kernel_rfl
theorem tField_123_3 : tField Try.prog 123 3 = some 3 := by kernel_rfl
theorem placeOf_123_3 : placeOf Try.prog 123 3 = some (3, 1) := by kernel_rfl
theorem tI_124 : tI Try.prog 124 = some (true, 4, [Value.int IntKind.i64 0, Value.slice Option.none 0 0, Value.slice Option.none 0 0, Value.slice Option.none 0 0]) := by kernel_rfl
theorem fieldsOk_124 : fieldsOk Try.prog 124 = true := by kernel_rfl
theorem tField_124_0 : tField Try.prog 124 0 = some 0 := by kernel_rfl
theorem placeOf_124_0 : placeOf Try.prog 124 0 = some (0, 1) := by kernel_rfl
theorem tField_124_1 : tField Try.prog 124 1 = some 1 := by kernel_rfl
theorem placeOf_124_1 : placeOf Try.prog 124 1 = some (1, 1) := by kernel_rfl
theorem tField_124_2 : tField Try.prog 124 2 = some 2 := by kernel_rfl
theorem placeOf_124_2 : placeOf Try.prog 124 2 = some (2, 1) := by kernel_rfl
theorem tField_124_3 : tField Try.prog 124 3 = some 3 := by kernel_rfl
theorem placeOf_124_3 : placeOf Try.prog 124 3 = some (3, 1) := by kernel_rfl
theorem tI_125 : tI Try.prog 125 = some (false, 1, [Value.nilFunc]) := by kernel_rfl
theorem tI_126 : tI Try.prog 126 = some (true, 3, [Value.int IntKind.i64 0, Value.int IntKind.i64 0, Value.int IntKind.i64 0]) := by kernel_rfl
theorem tEqS_126 : tEqS Try.prog 126 = some [IntKind.i64, IntKind.i64, IntKind.i64] := by kernel_rfl
theorem fieldsOk_126 : fieldsOk Try.prog 126 = true := by kernel_rfl
theorem tField_126_0 : tField Try.prog 126 0 = some 0 := by kernel_rfl
theorem placeOf_126_0 : placeOf Try.prog 126 0 = some (0, 1) := by kernel_rfl
theorem tField_126_1 : tField Try.prog 126 1 = some 1 := by kernel_rfl
theorem placeOf_126_1 : placeOf Try.prog 126 1 = some (1, 1) := by kernel_rfl
theorem tField_126_2 : tField Try.prog 126 2 = some 2 := by kernel_rfl
theorem placeOf_126_2 : placeOf Try.prog 126 2 = some (2, 1) := by kernel_rfl
theorem tI_127 : tI Try.prog 127 = some (true, 3, [Value.int IntKind.i64 0, Value.int IntKind.i64 0, Value.int IntKind.i64 0]) := by kernel_rfl
theorem tEqS_127 : tEqS Try.prog 127 = some [IntKind.i64, IntKind.i64, IntKind.i64] := by kernel_rfl
theorem fieldsOk_127 : fieldsOk Try.prog 127 = true := by kernel_rfl
theorem tField_127_0 : tField Try.prog 127 0 = some 0 := by kernel_rfl
theorem placeOf_127_0 : placeOf Try.prog 127 0 = some (0, 1) := by kernel_rfl
theorem tField_127_1 : tField Try.prog 127 1 = some 1 := by kernel_rfl
theorem placeOf_127_1 : placeOf Try.prog 127 1 = some (1, 1) := by kernel_rfl
theorem tField_127_2 : tField Try.prog 127 2 = some 2 := by kernel_rfl
theorem placeOf_127_2 : placeOf Try.prog 127 2 = some (2, 1) := by kernel_rfl
theorem tI_128 : tI Try.prog 128 = some (false, 1, [Value.nilFunc]) := by kernel_rfl
theorem tI_129 : tI Try.prog 129 = some (false, 1, [Value.map Option.none]) := by kernel_rfl
theorem tMapI_129 : tMapI Try.prog 129 = some (Go.Fw.KK.row [IntKind.i64, IntKind.i64], IntKind.i64) := by kernel_rfl
theorem tI_130 : tI Try.prog 130 = some (false, 1, [Value.nilFunc]) := by kernel_rfl
theorem tI_131 : tI Try.prog 131 = some (false, 1, [Value.slice Option.none 0 0]) := by kernel_rfl
theorem tElem_131 : tElem Try.prog 131 = some (1, 24, 24) := by kernel_rfl
theorem tI_132 : tI Try.prog 132 = some (false, 1, [Value.tuple { toList := [Value.slice Option.none 0 0, Value.slice Option.none 0 0] }]) := by kernel_rfl
theorem tI_133 : tI Try.prog 133 = some (false, 1, [Value.nilFunc]) := by kernel_rfl
theorem tI_134 : tI Try.prog 134 = some (false, 1, [Value.nilFunc]) := by kernel_rfl
theorem tI_135 : tI Try.prog 135 = some (false, 1, [Value.nilFunc]) := by kernel_rfl
theorem tI_136 : tI Try.prog 136 = some (false, 1, [Value.nilFunc]) := by kernel_rfl
theorem tI_137 : tI Try.prog 137 = some (false, 1, [Value.nilFunc]) := by kernel_rfl
theorem tI_138 : tI Try.prog 138 = some (false, 1, [Value.nilFunc]) := by kernel_rfl
theorem tI_139 : tI Try.prog 139 = some (true, 4, [Value.pointer Option.none, Value.pointer Option.none, Value.pointer Option.none, Value.string ⟨#[]⟩]) := by kernel_rfl
theorem fieldsOk_139 : fieldsOk Try.prog 139 = true := by kernel_rfl
theorem tField_139_0 : tField Try.prog 139 0 = some 0 := by kernel_rfl
theorem placeOf_139_0 : placeOf Try.prog 139 0 = some (0, 1) := by kernel_rfl
theorem tField_139_1 : tField Try.prog 139 1 = some 1 := by kernel_rfl
theorem placeOf_139_1 : placeOf Try.prog 139 1 = some (1, 1) := by kernel_rfl
theorem tField_139_2 : tField Try.prog 139 2 = some 2 := by kernel_rfl
theorem placeOf_139_2 : placeOf Try.prog 139 2 = some (2, 1) := by kernel_rfl
theorem tField_139_3 : tField Try.prog 139 3 = some 3 := by kernel_rfl
theorem placeOf_139_3 : placeOf Try.prog 139 3 = some (3, 1) := by kernel_rfl
theorem tI_140 : tI Try.prog 140 = some (true, 4, [Value.pointer Option.none, Value.pointer Option.none, Value.pointer Option.none, Value.string ⟨#[]⟩]) := by kernel_rfl
theorem fieldsOk_140 : fieldsOk Try.prog 140 = true := by kernel_rfl
theorem tField_140_0 : tField Try.prog 140 0 = some 0 := by kernel_rfl
theorem placeOf_140_0 : placeOf Try.prog 140 0 = some (0, 1) := by kernel_rfl
theorem tField_140_1 : tField Try.prog 140 1 = some 1 := by kernel_rfl
theorem placeOf_140_1 : placeOf Try.prog 140 1 = some (1, 1) := by kernel_rfl
theorem tField_140_2 : tField Try.prog 140 2 = some 2 := by kernel_rfl
theorem placeOf_140_2 : placeOf Try.prog 140 2 = some (2, 1) := by kernel_rfl
theorem tField_140_3 : tField Try.prog 140 3 = some 3 := by kernel_rfl
theorem placeOf_140_3 : placeOf Try.prog 140 3 = some (3, 1) := by kernel_rfl
theorem tI_141 : tI Try.prog 141 = some (true, 0, []) := by kernel_rfl
theorem tArr_141 : tArr Try.prog 141 = some (0, 1, false) := by kernel_rfl
theorem fieldsOk_141 : fieldsOk Try.prog 141 = true := by kernel_rfl
theorem placeOf_141_0 : placeOf Try.prog 141 0 = some (0, 1) := by kernel_rfl
theorem placeOf_141_1 : placeOf Try.prog 141 1 = some (1, 1) := by kernel_rfl
theorem placeOf_141_2 : placeOf Try.prog 141 2 = some (2, 1) := by kernel_rfl
theorem placeOf_141_3 : placeOf Try.prog 141 3 = some (3, 1) := by kernel_rfl
theorem placeOf_141_4 : placeOf Try.prog 141 4 = some (4, 1) := by kernel_rfl
theorem placeOf_141_5 : placeOf Try.prog 141 5 = some (5, 1) := by kernel_rfl
theorem placeOf_141_6 : placeOf Try.prog 141 6 = some (6, 1) := by kernel_rfl
theorem placeOf_141_7 : placeOf Try.prog 141 7 = some (7, 1) := by kernel_rfl
theorem placeOf_141_8 : placeOf Try.prog 141 8 = some (8, 1) := by kernel_rfl
theorem placeOf_141_9 : placeOf Try.prog 141 9 = some (9, 1) := by kernel_rfl
theorem placeOf_141_10 : placeOf Try.prog 141 10 = some (10, 1) := by kernel_rfl
theorem placeOf_141_11 : placeOf Try.prog 141 11 = some (11, 1) := by kernel_rfl
theorem tI_142 : tI Try.prog 142 = some (true, 0, []) := by kernel_rfl
theorem fieldsOk_142 : fieldsOk Try.prog 142 = true := by kernel_rfl
theorem placeOf_142_0 : placeOf Try.prog 142 0 = some (0, 0) := by kernel_rfl
theorem tI_143 : tI Try.prog 143 = some (true, 0, []) := by kernel_rfl
theorem fieldsOk_143 : fieldsOk Try.prog 143 = true := by kernel_rfl
theorem placeOf_143_0 : placeOf Try.prog 143 0 = some (0, 0) := by kernel_rfl
theorem tI_144 : tI Try.prog 144 = some (false, 1, [Value.nilFunc]) := by kernel_rfl
theorem tI_145 : tI Try.prog 145 = some (false, 1, [Value.int IntKind.u32 0]) := by kernel_rfl
theorem tInt_145 : tInt Try.prog 145 = some IntKind.u32 := by kernel_rfl
theorem tI_146 : tI Try.prog 146 = some (false, 1, [Value.int IntKind.u8 0]) := by kernel_rfl
theorem tInt_146 : tInt Try.prog 146 = some IntKind.u8 := by kernel_rfl
theorem tI_147 : tI Try.prog 147 = some (false, 1, [Value.int IntKind.u8 0]) := by kernel_rfl
theorem tInt_147 : tInt Try.prog 147 = some IntKind.u8 := by kernel_rfl
theorem tI_148 : tI Try.prog 148 = some (false, 1, [Value.nilFunc]) := by kernel_rfl
theorem tI_149 : tI Try.prog 149 = some (false, 1, [Value.pointer Option.none]) := by kernel_rfl
theorem tI_150 : tI Try.prog 150 = some (false, 1, [Value.int IntKind.i32 0]) := by kernel_rfl
theorem tInt_150 : tInt Try.prog 150 = some IntKind.i32 := by kernel_rfl
theorem tI_151 : tI Try.prog 151 = some (false, 1, [Value.int IntKind.i32 0]) := by kernel_rfl
theorem tInt_151 : tInt Try.prog 151 = some IntKind.i32 := by kernel_rfl
theorem tI_152 : tI Try.prog 152 = some (true, 11, [Value.int IntKind.u64 0, Value.int IntKind.u64 0, Value.int IntKind.u32 0, Value.int IntKind.u8 0, Value.int IntKind.u8 0, Value.int IntKind.u8 0, Value.int IntKind.u8 0, Value.nilFunc, Value.pointer Option.none, Value.int IntKind.i32 0, Value.int IntKind.i32 0]) := by kernel_rfl
theorem fieldsOk_152 : fieldsOk Try.prog 152 = true := by kernel_rfl
theorem tField_152_0 : tField Try.prog 152 0 = some 0 := by kernel_rfl
theorem placeOf_152_0 : placeOf Try.prog 152 0 = some (0, 1) := by kernel_rfl
theorem tField_152_1 : tField Try.prog 152 1 = some 1 := by kernel_rfl
theorem placeOf_152_1 : placeOf Try.prog 152 1 = some (1, 1) := by kernel_rfl
theorem tField_152_2 : tField Try.prog 152 2 = some 2 := by kernel_rfl
theorem placeOf_152_2 : placeOf Try.prog 152 2 = some (2, 1) := by kernel_rfl
theorem tField_152_3 : tField Try.prog 152 3 = some 3 := by kernel_rfl
theorem placeOf_152_3 : placeOf Try.prog 152 3 = some (3, 1) := by kernel_rfl
theorem tField_152_4 : tField Try.prog 152 4 = some 4 := by kernel_rfl
theorem placeOf_152_4 : placeOf Try.prog 152 4 = some (4, 1) := by kernel_rfl
theorem tField_152_5 : tField Try.prog 152 5 = some 5 := by kernel_rfl
theorem placeOf_152_5 : placeOf Try.prog 152 5 = some (5, 1) := by kernel_rfl
theorem tField_152_6 : tField Try.prog 152 6 = some 6 := by kernel_rfl
theorem placeOf_152_6 : placeOf Try.prog 152 6 = some (6, 1) := by kernel_rfl
theorem tField_152_7 : tField Try.prog 152 7 = some 7 := by kernel_rfl
theorem placeOf_152_7 : placeOf Try.prog 152 7 = some (7, 1) := by kernel_rfl
theorem tField_152_8 : tField Try.prog 152 8 = some 8 := by kernel_rfl
theorem placeOf_152_8 : placeOf Try.prog 152 8 = some (8, 1) := by kernel_rfl
theorem tField_152_9 : tField Try.prog 152 9 = some 9 := by kernel_rfl
theorem placeOf_152_9 : placeOf Try.prog 152 9 = some (9, 1) := by kernel_rfl
theorem tField_152_10 : tField Try.prog 152 10 = some 10 := by kernel_rfl
theorem placeOf_152_10 : placeOf Try.prog 152 10 = some (10, 1) := by kernel_rfl
theorem tI_153 : tI Try.prog 153 = some (true, 11, [Value.int IntKind.u64 0, Value.int IntKind.u64 0, Value.int IntKind.u32 0, Value.int IntKind.u8 0, Value.int IntKind.u8 0, Value.int IntKind.u8 0, Value.int IntKind.u8 0, Value.nilFunc, Value.pointer Option.none, Value.int IntKind.i32 0, Value.int IntKind.i32 0]) := by kernel_rfl
theorem fieldsOk_153 : fieldsOk Try.prog 153 = true := by kernel_rfl
theorem tField_153_0 : tField Try.prog 153 0 = some 0 := by kernel_rfl
theorem placeOf_153_0 : placeOf Try.prog 153 0 = some (0, 1) := by kernel_rfl
theorem tField_153_1 : tField Try.prog 153 1 = some 1 := by kernel_rfl
theorem placeOf_153_1 : placeOf Try.prog 153 1 = some (1, 1) := by kernel_rfl
theorem tField_153_2 : tField Try.prog 153 2 = some 2 := by kernel_rfl
theorem placeOf_153_2 : placeOf Try.prog 153 2 = some (2, 1) := by kernel_rfl
theorem tField_153_3 : tField Try.prog 153 3 = some 3 := by kernel_rfl
theorem placeOf_153_3 : placeOf Try.prog 153 3 = some (3, 1) := by kernel_rfl
theorem tField_153_4 : tField Try.prog 153 4 = some 4 := by kernel_rfl
theorem placeOf_153_4 : placeOf Try.prog 153 4 = some (4, 1) := by kernel_rfl
theorem tField_153_5 : tField Try.prog 153 5 = some 5 := by kernel_rfl
theorem placeOf_153_5 : placeOf Try.prog 153 5 = some (5, 1) := by kernel_rfl
theorem tField_153_6 : tField Try.prog 153 6 = some 6 := by kernel_rfl
theorem placeOf_153_6 : placeOf Try.prog 153 6 = some (6, 1) := by kernel_rfl
theorem tField_153_7 : tField Try.prog 153 7 = some 7 := by kernel_rfl
theorem placeOf_153_7 : placeOf Try.prog 153 7 = some (7, 1) := by kernel_rfl
theorem tField_153_8 : tField Try.prog 153 8 = some 8 := by kernel_rfl
theorem placeOf_153_8 : placeOf Try.prog 153 8 = some (8, 1) := by kernel_rfl
theorem tField_153_9 : tField Try.prog 153 9 = some 9 := by kernel_rfl
theorem placeOf_153_9 : placeOf Try.prog 153 9 = some (9, 1) := by kernel_rfl
theorem tField_153_10 : tField Try.prog 153 10 = some 10 := by kernel_rfl
theorem placeOf_153_10 : placeOf Try.prog 153 10 = some (10, 1) := by kernel_rfl
theorem tI_154 : tI Try.prog 154 = some (false, 1, [Value.nilFunc]) := by kernel_rfl
theorem tI_155 : tI Try.prog 155 = some (false, 1, [Value.pointer Option.none]) := by kernel_rfl
theorem tI_156 : tI Try.prog 156 = some (false, 1, [Value.int IntKind.u64 0]) := by kernel_rfl
theorem tInt_156 : tInt Try.prog 156 = some IntKind.u64 := by kernel_rfl
theorem tI_157 : tI Try.prog 157 = some (true, 2, [Value.int IntKind.u64 0, Value.int IntKind.u64 0]) := by kernel_rfl
theorem tArr_157 : tArr Try.prog 157 = some (2, 1, false) := by kernel_rfl
theorem tEqS_157 : tEqS Try.prog 157 = some [IntKind.u64, IntKind.u64] := by kernel_rfl
theorem fieldsOk_157 : fieldsOk Try.prog 157 = true := by kernel_rfl
theorem placeOf_157_0 : placeOf Try.prog 157 0 = some (0, 1) := by kernel_rfl
theorem placeOf_157_1 : placeOf Try.prog 157 1 = some (1, 1) := by kernel_rfl
theorem placeOf_157_2 : placeOf Try.prog 157 2 = some (2, 1) := by kernel_rfl
theorem placeOf_157_3 : placeOf Try.prog 157 3 = some (3, 1) := by kernel_rfl
theorem placeOf_157_4 : placeOf Try.prog 157 4 = some (4, 1) := by kernel_rfl
theorem placeOf_157_5 : placeOf Try.prog 157 5 = some (5, 1) := by kernel_rfl
theorem placeOf_157_6 : placeOf Try.prog 157 6 = some (6, 1) := by kernel_rfl
theorem placeOf_157_7 : placeOf Try.prog 157 7 = some (7, 1) := by kernel_rfl
theorem placeOf_157_8 : placeOf Try.prog 157 8 = some (8, 1) := by kernel_rfl
theorem placeOf_157_9 : placeOf Try.prog 157 9 = some (9, 1) := by kernel_rfl
theorem placeOf_157_10 : placeOf Try.prog 157 10 = some (10, 1) := by kernel_rfl
theorem placeOf_157_11 : placeOf Try.prog 157 11 = some (11, 1) := by kernel_rfl
theorem tI_158 : tI Try.prog 158 = some (true, 2, [Value.int IntKind.u64 0, Value.int IntKind.u64 0]) := by kernel_rfl
theorem tArr_158 : tArr Try.prog 158 = some (2, 1, false) := by kernel_rfl
theorem tEqS_158 : tEqS Try.prog 158 = some [IntKind.u64, IntKind.u64] := by kernel_rfl
theorem fieldsOk_158 : fieldsOk Try.prog 158 = true := by kernel_rfl
theorem placeOf_158_0 : placeOf Try.prog 158 0 = some (0, 1) := by kernel_rfl
theorem placeOf_158_1 : placeOf Try.prog 158 1 = some (1, 1) := by kernel_rfl
theorem placeOf_158_2 : placeOf Try.prog 158 2 = some (2, 1) := by kernel_rfl
theorem placeOf_158_3 : placeOf Try.prog 158 3 = some (3, 1) := by kernel_rfl
theorem placeOf_158_4 : placeOf Try.prog 158 4 = some (4, 1) := by kernel_rfl
theorem placeOf_158_5 : placeOf Try.prog 158 5 = some (5, 1) := by kernel_rfl
theorem placeOf_158_6 : placeOf Try.prog 158 6 = some (6, 1) := by kernel_rfl
theorem placeOf_158_7 : placeOf Try.prog 158 7 = some (7, 1) := by kernel_rfl
theorem placeOf_158_8 : placeOf Try.prog 158 8 = some (8, 1) := by kernel_rfl
theorem placeOf_158_9 : placeOf Try.prog 158 9 = some (9, 1) := by kernel_rfl
theorem placeOf_158_10 : placeOf Try.prog 158 10 = some (10, 1) := by kernel_rfl
theorem placeOf_158_11 : placeOf Try.prog 158 11 = some (11, 1) := by kernel_rfl
theorem callable_2 : callable Try.prog 2 = true := by kernel_rfl
theorem callable_3 : callable Try.prog 3 = true := by kernel_rfl
theorem callable_4 : callable Try.prog 4 = true := by kernel_rfl
theorem callable_5 : callable Try.prog 5 = true := by kernel_rfl
theorem callable_6 : callable Try.prog 6 = true := by kernel_rfl
theorem callable_7 : callable Try.prog 7 = true := by kernel_rfl
theorem callable_8 : callable Try.prog 8 = true := by kernel_rfl
theorem callable_9 : callable Try.prog 9 = true := by kernel_rfl
theorem callable_10 : callable Try.prog 10 = true := by kernel_rfl
theorem callable_11 : callable Try.prog 11 = true := by kernel_rfl
theorem callable_12 : callable Try.prog 12 = true := by kernel_rfl
theorem callable_13 : callable Try.prog 13 = true := by kernel_rfl
theorem callable_14 : callable Try.prog 14 = true := by kernel_rfl
theorem callable_15 : callable Try.prog 15 = true := by kernel_rfl
theorem callable_16 : callable Try.prog 16 = true := by kernel_rfl
theorem callable_17 : callable Try.prog 17 = true := by kernel_rfl
theorem callable_18 : callable Try.prog 18 = true := by kernel_rfl
theorem callable_19 : callable Try.prog 19 = true := by kernel_rfl
theorem callable_20 : callable Try.prog 20 = true := by kernel_rfl
theorem callable_21 : callable Try.prog 21 = true := by kernel_rfl
theorem callable_22 : callable Try.prog 22 = true := by kernel_rfl
theorem callable_23 : callable Try.prog 23 = true := by kernel_rfl
theorem callable_24 : callable Try.prog 24 = true := by kernel_rfl
theorem callable_25 : callable Try.prog 25 = true := by kernel_rfl
theorem callable_26 : callable Try.prog 26 = true := by kernel_rfl
theorem callable_27 : callable Try.prog 27 = true := by kernel_rfl
theorem callable_28 : callable Try.prog 28 = true := by kernel_rfl
theorem callable_29 : callable Try.prog 29 = true := by kernel_rfl
theorem callable_30 : callable Try.prog 30 = true := by kernel_rfl
theorem callable_31 : callable Try.prog 31 = true := by kernel_rfl
theorem callable_32 : callable Try.prog 32 = true := by kernel_rfl
theorem callable_33 : callable Try.prog 33 = true := by kernel_rfl
theorem callable_34 : callable Try.prog 34 = true := by kernel_rfl
theorem callable_35 : callable Try.prog 35 = true := by kernel_rfl
theorem callable_36 : callable Try.prog 36 = true := by kernel_rfl
theorem callable_37 : callable Try.prog 37 = true := by kernel_rfl
theorem callable_38 : callable Try.prog 38 = true := by kernel_rfl
theorem callable_39 : callable Try.prog 39 = true := by kernel_rfl
theorem callable_40 : callable Try.prog 40 = true := by kernel_rfl
theorem callable_41 : callable Try.prog 41 = true := by kernel_rfl
theorem callable_42 : callable Try.prog 42 = true := by kernel_rfl
theorem callable_43 : callable Try.prog 43 = true := by kernel_rfl
theorem callable_44 : callable Try.prog 44 = true := by kernel_rfl
theorem callable_45 : callable Try.prog 45 = true := by kernel_rfl
theorem callable_46 : callable Try.prog 46 = true := by kernel_rfl
theorem callable_47 : callable Try.prog 47 = true := by kernel_rfl
theorem callable_48 : callable Try.prog 48 = true := by kernel_rfl
theorem callable_49 : callable Try.prog 49 = true := by kernel_rfl
theorem callable_50 : callable Try.prog 50 = true := by kernel_rfl
theorem callable_51 : callable Try.prog 51 = true := by kernel_rfl
theorem callable_52 : callable Try.prog 52 = true := by kernel_rfl
theorem callable_53 : callable Try.prog 53 = true := by kernel_rfl
theorem callable_54 : callable Try.prog 54 = true := by kernel_rfl
theorem callable_55 : callable Try.prog 55 = true := by kernel_rfl
theorem callable_56 : callable Try.prog 56 = true := by kernel_rfl
theorem callable_57 : callable Try.prog 57 = true := by kernel_rfl
theorem callable_58 : callable Try.prog 58 = true := by kernel_rfl
theorem callable_59 : callable Try.prog 59 = true := by kernel_rfl
theorem callable_60 : callable Try.prog 60 = true := by kernel_rfl
theorem callable_61 : callable Try.prog 61 = true := by kernel_rfl
theorem callable_62 : callable Try.prog 62 = true := by kernel_rfl
theorem callable_63 : callable Try.prog 63 = true := by kernel_rfl
theorem callable_64 : callable Try.prog 64 = true := by kernel_rfl
theorem callable_65 : callable Try.prog 65 = true := by kernel_rfl
theorem callable_66 : callable Try.prog 66 = true := by kernel_rfl
theorem callable_67 : callable Try.prog 67 = true := by kernel_rfl
theorem callable_68 : callable Try.prog 68 = true := by kernel_rfl
theorem callable_69 : callable Try.prog 69 = true := by kernel_rfl
theorem callable_70 : callable Try.prog 70 = true := by kernel_rfl
theorem callable_71 : callable Try.prog 71 = true := by kernel_rfl
theorem callable_72 : callable Try.prog 72 = true := by kernel_rfl
theorem callable_73 : callable Try.prog 73 = true := by kernel_rfl
theorem callable_74 : callable Try.prog 74 = true := by kernel_rfl
theorem callable_75 : callable Try.prog 75 = true := by kernel_rfl
theorem callable_76 : callable Try.prog 76 = true := by kernel_rfl
theorem callable_77 : callable Try.prog 77 = true := by kernel_rfl
theorem callable_78 : callable Try.prog 78 = true := by kernel_rfl
theorem callable_79 : callable Try.prog 79 = true := by kernel_rfl
theorem callable_80 : callable Try.prog 80 = true := by kernel_rfl
theorem callable_81 : callable Try.prog 81 = true := by kernel_rfl
theorem callable_82 : callable Try.prog 82 = true := by kernel_rfl
theorem callable_83 : callable Try.prog 83 = true := by kernel_rfl
theorem callable_84 : callable Try.prog 84 = true := by kernel_rfl
theorem callable_85 : callable Try.prog 85 = true := by kernel_rfl
theorem callable_86 : callable Try.prog 86 = true := by kernel_rfl
theorem callable_87 : callable Try.prog 87 = true := by kernel_rfl
theorem callable_88 : callable Try.prog 88 = true := by kernel_rfl
theorem callable_89 : callable Try.prog 89 = true := by kernel_rfl
theorem callable_90 : callable Try.prog 90 = true := by kernel_rfl
theorem callable_91 : callable Try.prog 91 = true := by kernel_rfl
theorem callable_92 : callable Try.prog 92 = true := by kernel_rfl
theorem callable_93 : callable Try.prog 93 = true := by kernel_rfl
theorem callable_94 : callable Try.prog 94 = true := by kernel_rfl
theorem callable_95 : callable Try.prog 95 = true := by kernel_rfl
theorem callable_96 : callable Try.prog 96 = true := by kernel_rfl
theorem callable_97 : callable Try.prog 97 = true := by kernel_rfl
theorem callable_98 : callable Try.prog 98 = true := by kernel_rfl
theorem callable_99 : callable Try.prog 99 = true := by kernel_rfl
theorem callable_100 : callable Try.prog 100 = true := by kernel_rfl
theorem callable_101 : callable Try.prog 101 = true := by kernel_rfl
theorem callable_102 : callable Try.prog 102 = true := by kernel_rfl
theorem callable_103 : callable Try.prog 103 = true := by kernel_rfl
theorem callable_104 : callable Try.prog 104 = true := by kernel_rfl
theorem callable_105 : callable Try.prog 105 = true := by kernel_rfl
theorem callable_106 : callable Try.prog 106 = true := by kernel_rfl
theorem callable_107 : callable Try.prog 107 = true := by kernel_rfl
theorem callable_108 : callable Try.prog 108 = true := by kernel_rfl
theorem callable_109 : callable Try.prog 109 = true := by kernel_rfl
theorem callable_110 : callable Try.prog 110 = true := by kernel_rfl
theorem callable_111 : callable Try.prog 111 = true := by kernel_rfl
theorem callable_112 : callable Try.prog 112 = true := by kernel_rfl
theorem callable_113 : callable Try.prog 113 = true := by kernel_rfl
theorem callable_114 : callable Try.prog 114 = true := by kernel_rfl
theorem callable_115 : callable Try.prog 115 = true := by kernel_rfl
theorem callable_116 : callable Try.prog 116 = true := by kernel_rfl
theorem callable_117 : callable Try.prog 117 = true := by kernel_rfl
theorem callable_118 : callable Try.prog 118 = true := by kernel_rfl
theorem callable_119 : callable Try.prog 119 = true := by kernel_rfl
theorem callable_120 : callable Try.prog 120 = true := by kernel_rfl
theorem callable_121 : callable Try.prog 121 = true := by kernel_rfl
theorem callable_122 : callable Try.prog 122 = true := by kernel_rfl
theorem callable_123 : callable Try.prog 123 = true := by kernel_rfl
theorem callable_124 : callable Try.prog 124 = true := by kernel_rfl
theorem callable_125 : callable Try.prog 125 = true := by kernel_rfl
theorem callable_126 : callable Try.prog 126 = true := by kernel_rfl
theorem callable_127 : callable Try.prog 127 = true := by kernel_rfl
theorem callable_128 : callable Try.prog 128 = true := by kernel_rfl
theorem callable_129 : callable Try.prog 129 = true := by kernel_rfl
theorem callable_130 : callable Try.prog 130 = true := by kernel_rfl
theorem callable_131 : callable Try.prog 131 = true := by kernel_rfl
theorem callable_132 : callable Try.prog 132 = true := by kernel_rfl
theorem callable_133 : callable Try.prog 133 = true := by kernel_rfl
theorem callable_134 : callable Try.prog 134 = true := by kernel_rfl
theorem callable_135 : callable Try.prog 135 = true := by kernel_rfl
theorem callable_136 : callable Try.prog 136 = true := by kernel_rfl
theorem callable_137 : callable Try.prog 137 = true := by kernel_rfl
theorem callable_138 : callable Try.prog 138 = true := by kernel_rfl
theorem callable_139 : callable Try.prog 139 = true := by kernel_rfl
theorem callable_140 : callable Try.prog 140 = true := by kernel_rfl
theorem callable_141 : callable Try.prog 141 = true := by kernel_rfl
theorem callable_142 : callable Try.prog 142 = true := by kernel_rfl
theorem callable_143 : callable Try.prog 143 = true := by kernel_rfl
theorem callable_144 : callable Try.prog 144 = true := by kernel_rfl
attribute [simp] tI_0 tI_1 tI_2 tInt_2 tI_3 tInt_3 tI_4 tBool_4 tI_5 tInt_5 tI_6 tInt_6 tI_7 fieldsOk_7 tField_7_0 placeOf_7_0 tField_7_1 placeOf_7_1 tField_7_2 placeOf_7_2 tField_7_3 placeOf_7_3 tI_8 fieldsOk_8 tField_8_0 placeOf_8_0 tField_8_1 placeOf_8_1 tField_8_2 placeOf_8_2 tField_8_3 placeOf_8_3 tI_9 tStr_9 tI_10 tStr_10 tI_11 tStr_11 tI_12 tInt_12 tI_13 fieldsOk_13 tField_13_0 placeOf_13_0 tField_13_1 placeOf_13_1 tI_14 fieldsOk_14 tField_14_0 placeOf_14_0 tField_14_1 placeOf_14_1 tI_15 tI_16 tI_17 tI_18 fieldsOk_18 tField_18_0 placeOf_18_0 tI_19 fieldsOk_19 tField_19_0 placeOf_19_0 tI_20 tI_21 tInt_21 tI_22 tElem_22 tByteSl_22 tI_23 tElem_23 tI_24 tElem_24 tI_25 fieldsOk_25 tField_25_0 placeOf_25_0 tField_25_1 placeOf_25_1 tI_26 fieldsOk_26 tField_26_0 placeOf_26_0 tField_26_1 placeOf_26_1 tI_27 tI_28 tI_29 tI_30 tI_31 tI_32 tI_33 tI_34 tI_35 tI_36 tI_37 tI_38 tI_39 tElem_39 tI_40 tI_41 tI_42 tI_43 tI_44 tI_45 tI_46 tI_47 tI_48 tI_49 tI_50 tI_51 tI_52 tI_53 tI_54 tI_55 tI_56 tI_57 tI_58 tI_59 tI_60 tI_61 tI_62 tArr_62 fieldsOk_62 placeOf_62_0 placeOf_62_1 placeOf_62_2 placeOf_62_3 placeOf_62_4 placeOf_62_5 placeOf_62_6 placeOf_62_7 placeOf_62_8 placeOf_62_9 placeOf_62_10 placeOf_62_11 tI_63 tI_64 tI_65 tI_66 tI_67 tI_68 tI_69 tI_70 tI_71 tI_72 tI_73 tI_74 tI_75 tI_76 tI_77 tI_78 tI_79 tI_80 tI_81 tI_82 tI_83 tI_84 tElem_84 tI_85 tI_86 fieldsOk_86 tField_86_0 placeOf_86_0 tField_86_1 placeOf_86_1 tI_87 fieldsOk_87 tField_87_0 placeOf_87_0 tField_87_1 placeOf_87_1 tI_88 tElem_88 tI_89 tI_90 tI_91 tI_92 tI_93 tI_94 tI_95 tI_96 tI_97 tI_98 tI_99 tI_100 tEqS_100 fieldsOk_100 tField_100_0 placeOf_100_0 tField_100_1 placeOf_100_1 tI_101 tEqS_101 fieldsOk_101 tField_101_0 placeOf_101_0 tField_101_1 placeOf_101_1 tI_102 tI_103 tI_104 tI_105 tMapI_105 tI_106 tI_107 tElem_107 tI_108 tI_109 tI_110 tI_111 tI_112 tI_113 tI_114 tI_115 tI_116 tArr_116 tEqS_116 fieldsOk_116 placeOf_116_0 placeOf_116_1 placeOf_116_2 placeOf_116_3 placeOf_116_4 placeOf_116_5 placeOf_116_6 placeOf_116_7 placeOf_116_8 placeOf_116_9 placeOf_116_10 placeOf_116_11 tI_117 tArr_117 tEqS_117 fieldsOk_117 placeOf_117_0 placeOf_117_1 placeOf_117_2 placeOf_117_3 placeOf_117_4 placeOf_117_5 placeOf_117_6 placeOf_117_7 placeOf_117_8 placeOf_117_9 placeOf_117_10 placeOf_117_11 tI_118 tI_119 tI_120 tI_121 tI_122 tElem_122 tI_123 fieldsOk_123 tField_123_0 placeOf_123_0 tField_123_1 placeOf_123_1 tField_123_2 placeOf_123_2 tField_123_3 placeOf_123_3 tI_124 fieldsOk_124 tField_124_0 placeOf_124_0 tField_124_1 placeOf_124_1 tField_124_2 placeOf_124_2 tField_124_3 placeOf_124_3 tI_125 tI_126 tEqS_126 fieldsOk_126 tField_126_0 placeOf_126_0 tField_126_1 placeOf_126_1 tField_126_2 placeOf_126_2 tI_127 tEqS_127 fieldsOk_127 tField_127_0 placeOf_127_0 tField_127_1 placeOf_127_1 tField_127_2 placeOf_127_2 tI_128 tI_129 tMapI_129 tI_130 tI_131 tElem_131 tI_132 tI_133 tI_134 tI_135 tI_136 tI_137 tI_138 tI_139 fieldsOk_139 tField_139_0 placeOf_139_0 tField_139_1 placeOf_139_1 tField_139_2 placeOf_139_2 tField_139_3 placeOf_139_3 tI_140 fieldsOk_140 tField_140_0 placeOf_140_0 tField_140_1 placeOf_140_1 tField_140_2 placeOf_140_2 tField_140_3 placeOf_140_3 tI_141 tArr_141 fieldsOk_141 placeOf_141_0 placeOf_141_1 placeOf_141_2 placeOf_141_3 placeOf_141_4 placeOf_141_5 placeOf_141_6 placeOf_141_7 placeOf_141_8 placeOf_141_9 placeOf_141_10 placeOf_141_11 tI_142 fieldsOk_142 placeOf_142_0 tI_143 fieldsOk_143 placeOf_143_0 tI_144 tI_145 tInt_145 tI_146 tInt_146 tI_147 tInt_147 tI_148 tI_149 tI_150 tInt_150 tI_151 tInt_151 tI_152 fieldsOk_152 tField_152_0 placeOf_152_0 tField_152_1 placeOf_152_1 tField_152_2 placeOf_152_2 tField_152_3 placeOf_152_3 tField_152_4 placeOf_152_4 tField_152_5 placeOf_152_5 tField_152_6 placeOf_152_6 tField_152_7 placeOf_152_7 tField_152_8 placeOf_152_8 tField_152_9 placeOf_152_9 tField_152_10 placeOf_152_10 tI_153 fieldsOk_153 tField_153_0 placeOf_153_0 tField_153_1 placeOf_153_1 tField_153_2 placeOf_153_2 tField_153_3 placeOf_153_3 tField_153_4 placeOf_153_4 tField_153_5 placeOf_153_5 tField_153_6 placeOf_153_6 tField_153_7 placeOf_153_7 tField_153_8 placeOf_153_8 tField_153_9 placeOf_153_9 tField_153_10 placeOf_153_10 tI_154 tI_155 tI_156 tInt_156 tI_157 tArr_157 tEqS_157 fieldsOk_157 placeOf_157_0 placeOf_157_1 placeOf_157_2 placeOf_157_3 placeOf_157_4 placeOf_157_5 placeOf_157_6 placeOf_157_7 placeOf_157_8 placeOf_157_9 placeOf_157_10 placeOf_157_11 tI_158 tArr_158 tEqS_158 fieldsOk_158 placeOf_158_0 placeOf_158_1 placeOf_158_2 placeOf_158_3 placeOf_158_4 placeOf_158_5 placeOf_158_6 placeOf_158_7 placeOf_158_8 placeOf_158_9 placeOf_158_10 placeOf_158_11 callable_2 callable_3 callable_4 callable_5 callable_6 callable_7 callable_8 callable_9 callable_10 callable_11 callable_12 callable_13 callable_14 callable_15 callable_16 callable_17 callable_18 callable_19 callable_20 callable_21 callable_22 callable_23 callable_24 callable_25 callable_26 callable_27 callable_28 callable_29 callable_30 callable_31 callable_32 callable_33 callable_34 callable_35 callable_36 callable_37 callable_38 callable_39 callable_40 callable_41 callable_42 callable_43 callable_44 callable_45 callable_46 callable_47 callable_48 callable_49 callable_50 callable_51 callable_52 callable_53 callable_54 callable_55 callable_56 callable_57 callable_58 callable_59 callable_60 callable_61 callable_62 callable_63 callable_64 callable_65 callable_66 callable_67 callable_68 callable_69 callable_70 callable_71 callable_72 callable_73 callable_74 callable_75 callable_76 callable_77 callable_78 callable_79 callable_80 callable_81 callable_82 callable_83 callable_84 callable_85 callable_86 callable_87 callable_88 callable_89 callable_90 callable_91 callable_92 callable_93 callable_94 callable_95 callable_96 callable_97 callable_98 callable_99 callable_100 callable_101 callable_102 callable_103 callable_104 callable_105 callable_106 callable_107 callable_108 callable_109 callable_110 callable_111 callable_112 callable_113 callable_114 callable_115 callable_116 callable_117 callable_118 callable_119 callable_120 callable_121 callable_122 callable_123 callable_124 callable_125 callable_126 callable_127 callable_128 callable_129 callable_130 callable_131 callable_132 callable_133 callable_134 callable_135 callable_136 callable_137 callable_138 callable_139 callable_140 callable_141 callable_142 callable_143 callable_144
theorem mixed : Try.prog.follows .mixedOrders = true := by kernel_rfl

end Go.Fw.Ty
