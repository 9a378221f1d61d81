/- The types of the program, as far as they are asked. -/
import Derived.Test.YtpecepipllbghaaProg
import Derived.Test.YtpecepipllbghaaFwa
set_option linter.unusedSimpArgs false
set_option linter.unusedVariables false
namespace Go.Fw.Ty
open Go Go.Proofs

theorem tI_0 : tI Try.prog 0 = some (false, 1, [Value.tuple #[]]) := by kernel_rfl
theorem tI_1 : tI Try.prog 1 = some (false, 1, [Value.nilFunc]) := by kernel_rfl
theorem tI_2 : tI Try.prog 2 = some (false, 1, [Value.int IntKind.i64 0]) := by kernel_rfl
theorem tInt_2 : tInt Try.prog 2 = some IntKind.i64 := by kernel_rfl
theorem tI_3 : tI Try.prog 3 = some (false, 1, [Value.int IntKind.i64 0]) := by kernel_rfl
theorem tInt_3 : tInt Try.prog 3 = some IntKind.i64 := by kernel_rfl
theorem tI_4 : tI Try.prog 4 = some (false, 1, [Value.bool false]) := by kernel_rfl
theorem tBool_4 : tBool Try.prog 4 = true := by kernel_rfl
theorem tI_5 : tI Try.prog 5 = some (false, 1, [Value.int IntKind.u8 0]) := by kernel_rfl
theorem tInt_5 : tInt Try.prog 5 = some IntKind.u8 := by kernel_rfl
theorem tI_6 : tI Try.prog 6 = some (false, 1, [Value.int IntKind.u8 0]) := by kernel_rfl
theorem tInt_6 : tInt Try.prog 6 = some IntKind.u8 := by kernel_rfl
theorem tI_7 : tI Try.prog 7 = some (true, 4, [Value.int IntKind.i64 0, Value.int IntKind.i64 0, Value.bool false, Value.int IntKind.u8 0]) := by kernel_rfl
theorem fieldsOk_7 : fieldsOk Try.prog 7 = true := by kernel_rfl
theorem tField_7_0 : tField Try.prog 7 0 = some 0 := by kernel_rfl
theorem placeOf_7_0 : placeOf Try.prog 7 0 = some (0, 1) := by kernel_rfl
theorem tField_7_1 : tField Try.prog 7 1 = some 1 := by kernel_rfl
theorem placeOf_7_1 : placeOf Try.prog 7 1 = some (1, 1) := by kernel_rfl
theorem tField_7_2 : tField Try.prog 7 2 = some 2 := by kernel_rfl
theorem placeOf_7_2 : placeOf Try.prog 7 2 = some (2, 1) := by kernel_rfl
theorem tField_7_3 : tField Try.prog 7 3 = some 3 := by kernel_rfl
theorem placeOf_7_3 : placeOf Try.prog 7 3 = some (3, 1) := by kernel_rfl
theorem tI_8 : tI Try.prog 8 = some (true, 4, [Value.int IntKind.i64 0, Value.int IntKind.i64 0, Value.bool false, Value.int IntKind.u8 0]) := by kernel_rfl
theorem fieldsOk_8 : fieldsOk Try.prog 8 = true := by kernel_rfl
theorem tField_8_0 : tField Try.prog 8 0 = some 0 := by kernel_rfl
theorem placeOf_8_0 : placeOf Try.prog 8 0 = some (0, 1) := by kernel_rfl
theorem tField_8_1 : tField Try.prog 8 1 = some 1 := by kernel_rfl
theorem placeOf_8_1 : placeOf Try.prog 8 1 = some (1, 1) := by kernel_rfl
theorem tField_8_2 : tField Try.prog 8 2 = some 2 := by kernel_rfl
theorem placeOf_8_2 : placeOf Try.prog 8 2 = some (2, 1) := by kernel_rfl
theorem tField_8_3 : tField Try.prog 8 3 = some 3 := by kernel_rfl
theorem placeOf_8_3 : placeOf Try.prog 8 3 = some (3, 1) := by kernel_rfl
theorem tI_9 : tI Try.prog 9 = some (false, 1, [Value.string ⟨#[]⟩]) := by kernel_rfl
theorem tStr_9 : tStr Try.prog 9 = true := by kernel_rfl
theorem tI_10 : tI Try.prog 10 = some (false, 1, [Value.string ⟨#[]⟩]) := by kernel_rfl
theorem tStr_10 : tStr Try.prog 10 = true := by kernel_rfl
theorem tI_11 : tI Try.prog 11 = some (false, 1, [Value.string ⟨#[]⟩]) := by kernel_rfl
theorem tStr_11 : tStr Try.prog 11 = true := by kernel_rfl
theorem tI_12 : tI Try.prog 12 = some (false, 1, [Value.int IntKind.u64 0]) := by kernel_rfl
theorem tInt_12 : tInt Try.prog 12 = some IntKind.u64 := by kernel_rfl
theorem tI_13 : tI Try.prog 13 = some (true, 2, [Value.string ⟨#[]⟩, Value.int IntKind.u64 0]) := by kernel_rfl
theorem fieldsOk_13 : fieldsOk Try.prog 13 = true := by kernel_rfl
theorem tField_13_0 : tField Try.prog 13 0 = some 0 := by kernel_rfl
theorem placeOf_13_0 : placeOf Try.prog 13 0 = some (0, 1) := by kernel_rfl
theorem tField_13_1 : tField Try.prog 13 1 = some 1 := by kernel_rfl
theorem placeOf_13_1 : placeOf Try.prog 13 1 = some (1, 1) := by kernel_rfl
theorem tI_14 : tI Try.prog 14 = some (true, 2, [Value.string ⟨#[]⟩, Value.int IntKind.u64 0]) := by kernel_rfl
theorem fieldsOk_14 : fieldsOk Try.prog 14 = true := by kernel_rfl
theorem tField_14_0 : tField Try.prog 14 0 = some 0 := by kernel_rfl
theorem placeOf_14_0 : placeOf Try.prog 14 0 = some (0, 1) := by kernel_rfl
theorem tField_14_1 : tField Try.prog 14 1 = some 1 := by kernel_rfl
theorem placeOf_14_1 : placeOf Try.prog 14 1 = some (1, 1) := by kernel_rfl
theorem tI_15 : tI Try.prog 15 = some (false, 1, [Value.pointer Option.none]) := by kernel_rfl
theorem tI_16 : tI Try.prog 16 = some (false, 1, [Value.pointer Option.none]) := by kernel_rfl
theorem tI_17 : tI Try.prog 17 = some (false, 1, [Value.pointer Option.none]) := by kernel_rfl
theorem tI_18 : tI Try.prog 18 = some (true, 1, [Value.pointer Option.none]) := by kernel_rfl
theorem fieldsOk_18 : fieldsOk Try.prog 18 = true := by kernel_rfl
theorem tField_18_0 : tField Try.prog 18 0 = some 0 := by kernel_rfl
theorem placeOf_18_0 : placeOf Try.prog 18 0 = some (0, 1) := by kernel_rfl
theorem tI_19 : tI Try.prog 19 = some (true, 1, [Value.pointer Option.none]) := by kernel_rfl
theorem fieldsOk_19 : fieldsOk Try.prog 19 = true := by kernel_rfl
theorem tField_19_0 : tField Try.prog 19 0 = some 0 := by kernel_rfl
theorem placeOf_19_0 : placeOf Try.prog 19 0 = some (0, 1) := by kernel_rfl
theorem tI_20 : tI Try.prog 20 = some (false, 1, [Value.nilIface]) := by kernel_rfl
theorem tI_21 : tI Try.prog 21 = some (false, 1, [Value.int IntKind.i32 0]) := by kernel_rfl
theorem tInt_21 : tInt Try.prog 21 = some IntKind.i32 := by kernel_rfl
theorem tI_22 : tI Try.prog 22 = some (false, 1, [Value.slice Option.none 0 0]) := by kernel_rfl
theorem tElem_22 : tElem Try.prog 22 = some (1, 1, 5) := by kernel_rfl
theorem tByteSl_22 : tByteSl Try.prog 22 = true := by kernel_rfl
theorem tI_23 : tI Try.prog 23 = some (false, 1, [Value.slice Option.none 0 0]) := by kernel_rfl
theorem tElem_23 : tElem Try.prog 23 = some (2, 48, 35) := by kernel_rfl
theorem tI_24 : tI Try.prog 24 = some (false, 1, [Value.tuple { toList := [Value.slice Option.none 0 0, Value.string ⟨#[]⟩, Value.int IntKind.i64 0] }]) := by kernel_rfl
theorem tI_25 : tI Try.prog 25 = some (false, 1, [Value.nilFunc]) := by kernel_rfl
theorem tI_26 : tI Try.prog 26 = some (true, 3, [Value.int IntKind.i64 0, Value.int IntKind.i64 0, Value.int IntKind.i64 0]) := by kernel_rfl
theorem tEqS_26 : tEqS Try.prog 26 = some [IntKind.i64, IntKind.i64, IntKind.i64] := by kernel_rfl
theorem fieldsOk_26 : fieldsOk Try.prog 26 = true := by kernel_rfl
theorem tField_26_0 : tField Try.prog 26 0 = some 0 := by kernel_rfl
theorem placeOf_26_0 : placeOf Try.prog 26 0 = some (0, 1) := by kernel_rfl
theorem tField_26_1 : tField Try.prog 26 1 = some 1 := by kernel_rfl
theorem placeOf_26_1 : placeOf Try.prog 26 1 = some (1, 1) := by kernel_rfl
theorem tField_26_2 : tField Try.prog 26 2 = some 2 := by kernel_rfl
theorem placeOf_26_2 : placeOf Try.prog 26 2 = some (2, 1) := by kernel_rfl
theorem tI_27 : tI Try.prog 27 = some (true, 3, [Value.int IntKind.i64 0, Value.int IntKind.i64 0, Value.int IntKind.i64 0]) := by kernel_rfl
theorem tEqS_27 : tEqS Try.prog 27 = some [IntKind.i64, IntKind.i64, IntKind.i64] := by kernel_rfl
theorem fieldsOk_27 : fieldsOk Try.prog 27 = true := by kernel_rfl
theorem tField_27_0 : tField Try.prog 27 0 = some 0 := by kernel_rfl
theorem placeOf_27_0 : placeOf Try.prog 27 0 = some (0, 1) := by kernel_rfl
theorem tField_27_1 : tField Try.prog 27 1 = some 1 := by kernel_rfl
theorem placeOf_27_1 : placeOf Try.prog 27 1 = some (1, 1) := by kernel_rfl
theorem tField_27_2 : tField Try.prog 27 2 = some 2 := by kernel_rfl
theorem placeOf_27_2 : placeOf Try.prog 27 2 = some (2, 1) := by kernel_rfl
theorem tI_28 : tI Try.prog 28 = some (false, 1, [Value.tuple { toList := [Value.agg { toList := [Value.int IntKind.i64 0, Value.int IntKind.i64 0, Value.int IntKind.i64 0] }, Value.bool false] }]) := by kernel_rfl
theorem tI_29 : tI Try.prog 29 = some (false, 1, [Value.nilFunc]) := by kernel_rfl
theorem tI_30 : tI Try.prog 30 = some (false, 1, [Value.nilFunc]) := by kernel_rfl
theorem tI_31 : tI Try.prog 31 = some (false, 1, [Value.nilFunc]) := by kernel_rfl
theorem tI_32 : tI Try.prog 32 = some (false, 1, [Value.slice Option.none 0 0]) := by kernel_rfl
theorem tElem_32 : tElem Try.prog 32 = some (1, 24, 83) := by kernel_rfl
theorem tI_33 : tI Try.prog 33 = some (false, 1, [Value.slice Option.none 0 0]) := by kernel_rfl
theorem tElem_33 : tElem Try.prog 33 = some (1, 1, 4) := by kernel_rfl
theorem tI_34 : tI Try.prog 34 = some (true, 2, [Value.slice Option.none 0 0, Value.slice Option.none 0 0]) := by kernel_rfl
theorem fieldsOk_34 : fieldsOk Try.prog 34 = true := by kernel_rfl
theorem tField_34_0 : tField Try.prog 34 0 = some 0 := by kernel_rfl
theorem placeOf_34_0 : placeOf Try.prog 34 0 = some (0, 1) := by kernel_rfl
theorem tField_34_1 : tField Try.prog 34 1 = some 1 := by kernel_rfl
theorem placeOf_34_1 : placeOf Try.prog 34 1 = some (1, 1) := by kernel_rfl
theorem tI_35 : tI Try.prog 35 = some (true, 2, [Value.slice Option.none 0 0, Value.slice Option.none 0 0]) := by kernel_rfl
theorem fieldsOk_35 : fieldsOk Try.prog 35 = true := by kernel_rfl
theorem tField_35_0 : tField Try.prog 35 0 = some 0 := by kernel_rfl
theorem placeOf_35_0 : placeOf Try.prog 35 0 = some (0, 1) := by kernel_rfl
theorem tField_35_1 : tField Try.prog 35 1 = some 1 := by kernel_rfl
theorem placeOf_35_1 : placeOf Try.prog 35 1 = some (1, 1) := by kernel_rfl
theorem tI_36 : tI Try.prog 36 = some (false, 1, [Value.nilFunc]) := by kernel_rfl
theorem tI_37 : tI Try.prog 37 = some (false, 1, [Value.tuple { toList := [Value.slice Option.none 0 0, Value.string ⟨#[]⟩] }]) := by kernel_rfl
theorem tI_38 : tI Try.prog 38 = some (false, 1, [Value.nilFunc]) := by kernel_rfl
theorem tI_39 : tI Try.prog 39 = some (false, 1, [Value.slice Option.none 0 0]) := by kernel_rfl
theorem tElem_39 : tElem Try.prog 39 = some (3, 24, 27) := by kernel_rfl
theorem tI_40 : tI Try.prog 40 = some (false, 1, [Value.tuple { toList := [Value.slice Option.none 0 0, Value.int IntKind.i64 0] }]) := by kernel_rfl
theorem tI_41 : tI Try.prog 41 = some (false, 1, [Value.nilFunc]) := by kernel_rfl
theorem tI_42 : tI Try.prog 42 = some (false, 1, [Value.tuple { toList := [Value.agg { toList := [Value.slice Option.none 0 0, Value.slice Option.none 0 0] }, Value.string ⟨#[]⟩] }]) := by kernel_rfl
theorem tI_43 : tI Try.prog 43 = some (false, 1, [Value.nilFunc]) := by kernel_rfl
theorem tI_44 : tI Try.prog 44 = some (false, 1, [Value.nilFunc]) := by kernel_rfl
theorem tI_45 : tI Try.prog 45 = some (false, 1, [Value.nilFunc]) := by kernel_rfl
theorem tI_46 : tI Try.prog 46 = some (false, 1, [Value.nilFunc]) := by kernel_rfl
theorem tI_47 : tI Try.prog 47 = some (false, 1, [Value.nilFunc]) := by kernel_rfl
theorem tI_48 : tI Try.prog 48 = some (false, 1, [Value.nilFunc]) := by kernel_rfl
theorem tI_49 : tI Try.prog 49 = some (false, 1, [Value.nilFunc]) := by kernel_rfl
theorem tI_50 : tI Try.prog 50 = some (false, 1, [Value.nilFunc]) := by kernel_rfl
theorem tI_51 : tI Try.prog 51 = some (false, 1, [Value.tuple { toList := [Value.string ⟨#[]⟩, Value.bool false] }]) := by kernel_rfl
theorem tI_52 : tI Try.prog 52 = some (false, 1, [Value.nilFunc]) := by kernel_rfl
theorem tI_53 : tI Try.prog 53 = some (false, 1, [Value.nilFunc]) := by kernel_rfl
theorem tI_54 : tI Try.prog 54 = some (false, 1, [Value.nilFunc]) := by kernel_rfl
theorem tI_55 : tI Try.prog 55 = some (false, 1, [Value.slice Option.none 0 0]) := by kernel_rfl
theorem tElem_55 : tElem Try.prog 55 = some (1, 24, 56) := by kernel_rfl
theorem tI_56 : tI Try.prog 56 = some (false, 1, [Value.slice Option.none 0 0]) := by kernel_rfl
theorem tElem_56 : tElem Try.prog 56 = some (1, 16, 9) := by kernel_rfl
theorem tI_57 : tI Try.prog 57 = some (true, 3, [Value.slice Option.none 0 0, Value.slice Option.none 0 0, Value.slice Option.none 0 0]) := by kernel_rfl
theorem fieldsOk_57 : fieldsOk Try.prog 57 = true := by kernel_rfl
theorem tField_57_0 : tField Try.prog 57 0 = some 0 := by kernel_rfl
theorem placeOf_57_0 : placeOf Try.prog 57 0 = some (0, 1) := by kernel_rfl
theorem tField_57_1 : tField Try.prog 57 1 = some 1 := by kernel_rfl
theorem placeOf_57_1 : placeOf Try.prog 57 1 = some (1, 1) := by kernel_rfl
theorem tField_57_2 : tField Try.prog 57 2 = some 2 := by kernel_rfl
theorem placeOf_57_2 : placeOf Try.prog 57 2 = some (2, 1) := by kernel_rfl
theorem tI_58 : tI Try.prog 58 = some (true, 3, [Value.slice Option.none 0 0, Value.slice Option.none 0 0, Value.slice Option.none 0 0]) := by kernel_rfl
theorem fieldsOk_58 : fieldsOk Try.prog 58 = true := by kernel_rfl
theorem tField_58_0 : tField Try.prog 58 0 = some 0 := by kernel_rfl
theorem placeOf_58_0 : placeOf Try.prog 58 0 = some (0, 1) := by kernel_rfl
theorem tField_58_1 : tField Try.prog 58 1 = some 1 := by kernel_rfl
theorem placeOf_58_1 : placeOf Try.prog 58 1 = some (1, 1) := by kernel_rfl
theorem tField_58_2 : tField Try.prog 58 2 = some 2 := by kernel_rfl
theorem placeOf_58_2 : placeOf Try.prog 58 2 = some (2, 1) := by kernel_rfl
theorem tI_59 : tI Try.prog 59 = some (false, 1, [Value.tuple { toList := [Value.agg { toList := [Value.slice Option.none 0 0, Value.slice Option.none 0 0, Value.slice Option.none 0 0] }, Value.agg { toList := [Value.slice Option.none 0 0, Value.slice Option.none 0 0] }] }]) := by kernel_rfl
theorem tI_60 : tI Try.prog 60 = some (false, 1, [Value.nilFunc]) := by kernel_rfl
theorem tI_61 : tI Try.prog 61 = some (false, 1, [Value.tuple { toList := [Value.agg { toList := [Value.slice Option.none 0 0, Value.slice Option.none 0 0] }, Value.bool false] }]) := by kernel_rfl
theorem tI_62 : tI Try.prog 62 = some (false, 1, [Value.nilFunc]) := by kernel_rfl
theorem tI_63 : tI Try.prog 63 = some (false, 1, [Value.tuple { toList := [Value.agg { toList := [Value.slice Option.none 0 0, Value.slice Option.none 0 0, Value.slice Option.none 0 0] }, Value.agg { toList := [Value.slice Option.none 0 0, Value.slice Option.none 0 0, Value.slice Option.none 0 0] }] }]) := by kernel_rfl
theorem tI_64 : tI Try.prog 64 = some (false, 1, [Value.nilFunc]) := by kernel_rfl
theorem tI_65 : tI Try.prog 65 = some (false, 1, [Value.tuple { toList := [Value.agg { toList := [Value.slice Option.none 0 0, Value.slice Option.none 0 0, Value.slice Option.none 0 0] }, Value.bool false] }]) := by kernel_rfl
theorem tI_66 : tI Try.prog 66 = some (false, 1, [Value.nilFunc]) := by kernel_rfl
theorem tI_67 : tI Try.prog 67 = some (false, 1, [Value.nilFunc]) := by kernel_rfl
theorem tI_68 : tI Try.prog 68 = some (true, 3, [Value.slice Option.none 0 0, Value.slice Option.none 0 0, Value.slice Option.none 0 0]) := by kernel_rfl
theorem fieldsOk_68 : fieldsOk Try.prog 68 = true := by kernel_rfl
theorem tField_68_0 : tField Try.prog 68 0 = some 0 := by kernel_rfl
theorem placeOf_68_0 : placeOf Try.prog 68 0 = some (0, 1) := by kernel_rfl
theorem tField_68_1 : tField Try.prog 68 1 = some 1 := by kernel_rfl
theorem placeOf_68_1 : placeOf Try.prog 68 1 = some (1, 1) := by kernel_rfl
theorem tField_68_2 : tField Try.prog 68 2 = some 2 := by kernel_rfl
theorem placeOf_68_2 : placeOf Try.prog 68 2 = some (2, 1) := by kernel_rfl
theorem tI_69 : tI Try.prog 69 = some (true, 2, [Value.slice Option.none 0 0, Value.slice Option.none 0 0]) := by kernel_rfl
theorem fieldsOk_69 : fieldsOk Try.prog 69 = true := by kernel_rfl
theorem tField_69_0 : tField Try.prog 69 0 = some 0 := by kernel_rfl
theorem placeOf_69_0 : placeOf Try.prog 69 0 = some (0, 1) := by kernel_rfl
theorem tField_69_1 : tField Try.prog 69 1 = some 1 := by kernel_rfl
theorem placeOf_69_1 : placeOf Try.prog 69 1 = some (1, 1) := by kernel_rfl
theorem tI_70 : tI Try.prog 70 = some (false, 1, [Value.nilFunc]) := by kernel_rfl
theorem tI_71 : tI Try.prog 71 = some (false, 1, [Value.nilFunc]) := by kernel_rfl
theorem tI_72 : tI Try.prog 72 = some (false, 1, [Value.nilFunc]) := by kernel_rfl
theorem tI_73 : tI Try.prog 73 = some (false, 1, [Value.nilFunc]) := by kernel_rfl
theorem tI_74 : tI Try.prog 74 = some (false, 1, [Value.nilFunc]) := by kernel_rfl
theorem tI_75 : tI Try.prog 75 = some (false, 1, [Value.nilFunc]) := by kernel_rfl
theorem tI_76 : tI Try.prog 76 = some (false, 1, [Value.nilFunc]) := by kernel_rfl
theorem tI_77 : tI Try.prog 77 = some (false, 1, [Value.nilFunc]) := by kernel_rfl
theorem tI_78 : tI Try.prog 78 = some (false, 1, [Value.pointer Option.none]) := by kernel_rfl
theorem tI_79 : tI Try.prog 79 = some (false, 1, [Value.nilFunc]) := by kernel_rfl
theorem tI_80 : tI Try.prog 80 = some (false, 1, [Value.nilFunc]) := by kernel_rfl
theorem tI_81 : tI Try.prog 81 = some (false, 1, [Value.nilFunc]) := by kernel_rfl
theorem tI_82 : tI Try.prog 82 = some (false, 1, [Value.nilFunc]) := by kernel_rfl
theorem tI_83 : tI Try.prog 83 = some (false, 1, [Value.slice Option.none 0 0]) := by kernel_rfl
theorem tElem_83 : tElem Try.prog 83 = some (1, 8, 3) := by kernel_rfl
theorem tI_84 : tI Try.prog 84 = some (false, 1, [Value.nilFunc]) := by kernel_rfl
theorem tI_85 : tI Try.prog 85 = some (false, 1, [Value.nilFunc]) := by kernel_rfl
theorem tI_86 : tI Try.prog 86 = some (false, 1, [Value.nilFunc]) := by kernel_rfl
theorem tI_87 : tI Try.prog 87 = some (false, 1, [Value.nilFunc]) := by kernel_rfl
theorem tI_88 : tI Try.prog 88 = some (false, 1, [Value.nilFunc]) := by kernel_rfl
theorem tI_89 : tI Try.prog 89 = some (false, 1, [Value.nilFunc]) := by kernel_rfl
theorem tI_90 : tI Try.prog 90 = some (false, 1, [Value.nilFunc]) := by kernel_rfl
theorem tI_91 : tI Try.prog 91 = some (false, 1, [Value.nilFunc]) := by kernel_rfl
theorem tI_92 : tI Try.prog 92 = some (false, 1, [Value.nilFunc]) := by kernel_rfl
theorem tI_93 : tI Try.prog 93 = some (false, 1, [Value.nilFunc]) := by kernel_rfl
theorem tI_94 : tI Try.prog 94 = some (false, 1, [Value.nilFunc]) := by kernel_rfl
theorem tI_95 : tI Try.prog 95 = some (false, 1, [Value.nilFunc]) := by kernel_rfl
theorem tI_96 : tI Try.prog 96 = some (false, 1, [Value.nilFunc]) := by kernel_rfl
theorem tI_97 : tI Try.prog 97 = some (false, 1, [Value.nilFunc]) := by kernel_rfl
theorem tI_98 : tI Try.prog 98 = some (false, 1, [Value.nilFunc]) := by kernel_rfl
theorem tI_99 : tI Try.prog 99 = some (false, 1, [Value.nilFunc]) := by kernel_rfl
theorem tI_100 : tI Try.prog 100 = some (false, 1, [Value.nilFunc]) := by kernel_rfl
theorem tI_101 : tI Try.prog 101 = some (false, 1, [Value.slice Option.none 0 0]) := by kernel_rfl
theorem tElem_101 : tElem Try.prog 101 = some (2, 16, 105) := by kernel_rfl
theorem tI_102 : tI Try.prog 102 = some (false, 1, [Value.tuple { toList := [Value.agg { toList := [Value.slice Option.none 0 0, Value.slice Option.none 0 0] }, Value.slice Option.none 0 0, Value.bool false] }]) := by kernel_rfl
theorem tI_103 : tI Try.prog 103 = some (false, 1, [Value.nilFunc]) := by kernel_rfl
theorem tI_104 : tI Try.prog 104 = some (true, 2, [Value.int IntKind.i64 0, Value.int IntKind.i64 0]) := by kernel_rfl
theorem tArr_104 : tArr Try.prog 104 = some (2, 1, false) := by kernel_rfl
theorem tEqS_104 : tEqS Try.prog 104 = some [IntKind.i64, IntKind.i64] := by kernel_rfl
theorem fieldsOk_104 : fieldsOk Try.prog 104 = true := by kernel_rfl
theorem placeOf_104_0 : placeOf Try.prog 104 0 = some (0, 1) := by kernel_rfl
theorem placeOf_104_1 : placeOf Try.prog 104 1 = some (1, 1) := by kernel_rfl
theorem placeOf_104_2 : placeOf Try.prog 104 2 = some (2, 1) := by kernel_rfl
theorem placeOf_104_3 : placeOf Try.prog 104 3 = some (3, 1) := by kernel_rfl
theorem placeOf_104_4 : placeOf Try.prog 104 4 = some (4, 1) := by kernel_rfl
theorem placeOf_104_5 : placeOf Try.prog 104 5 = some (5, 1) := by kernel_rfl
theorem placeOf_104_6 : placeOf Try.prog 104 6 = some (6, 1) := by kernel_rfl
theorem placeOf_104_7 : placeOf Try.prog 104 7 = some (7, 1) := by kernel_rfl
theorem placeOf_104_8 : placeOf Try.prog 104 8 = some (8, 1) := by kernel_rfl
theorem placeOf_104_9 : placeOf Try.prog 104 9 = some (9, 1) := by kernel_rfl
theorem placeOf_104_10 : placeOf Try.prog 104 10 = some (10, 1) := by kernel_rfl
theorem placeOf_104_11 : placeOf Try.prog 104 11 = some (11, 1) := by kernel_rfl
theorem tI_105 : tI Try.prog 105 = some (true, 2, [Value.int IntKind.i64 0, Value.int IntKind.i64 0]) := by kernel_rfl
theorem tArr_105 : tArr Try.prog 105 = some (2, 1, false) := by kernel_rfl
theorem tEqS_105 : tEqS Try.prog 105 = some [IntKind.i64, IntKind.i64] := by kernel_rfl
theorem fieldsOk_105 : fieldsOk Try.prog 105 = true := by kernel_rfl
theorem placeOf_105_0 : placeOf Try.prog 105 0 = some (0, 1) := by kernel_rfl
theorem placeOf_105_1 : placeOf Try.prog 105 1 = some (1, 1) := by kernel_rfl
theorem placeOf_105_2 : placeOf Try.prog 105 2 = some (2, 1) := by kernel_rfl
theorem placeOf_105_3 : placeOf Try.prog 105 3 = some (3, 1) := by kernel_rfl
theorem placeOf_105_4 : placeOf Try.prog 105 4 = some (4, 1) := by kernel_rfl
theorem placeOf_105_5 : placeOf Try.prog 105 5 = some (5, 1) := by kernel_rfl
theorem placeOf_105_6 : placeOf Try.prog 105 6 = some (6, 1) := by kernel_rfl
theorem placeOf_105_7 : placeOf Try.prog 105 7 = some (7, 1) := by kernel_rfl
theorem placeOf_105_8 : placeOf Try.prog 105 8 = some (8, 1) := by kernel_rfl
theorem placeOf_105_9 : placeOf Try.prog 105 9 = some (9, 1) := by kernel_rfl
theorem placeOf_105_10 : placeOf Try.prog 105 10 = some (10, 1) := by kernel_rfl
theorem placeOf_105_11 : placeOf Try.prog 105 11 = some (11, 1) := by kernel_rfl
theorem tI_106 : tI Try.prog 106 = some (false, 1, [Value.nilFunc]) := by kernel_rfl
theorem tI_107 : tI Try.prog 107 = some (false, 1, [Value.nilFunc]) := by kernel_rfl
theorem tI_108 : tI Try.prog 108 = some (false, 1, [Value.tuple { toList := [Value.int IntKind.i64 0, Value.string ⟨#[]⟩] }]) := by kernel_rfl
theorem tI_109 : tI Try.prog 109 = some (false, 1, [Value.nilFunc]) := by kernel_rfl
theorem tI_110 : tI Try.prog 110 = some (false, 1, [Value.nilFunc]) := by kernel_rfl
theorem tI_111 : tI Try.prog 111 = some (false, 1, [Value.nilFunc]) := by kernel_rfl
theorem tI_112 : tI Try.prog 112 = some (false, 1, [Value.nilFunc]) := by kernel_rfl
theorem tI_113 : tI Try.prog 113 = some (false, 1, [Value.nilFunc]) := by kernel_rfl
theorem tI_114 : tI Try.prog 114 = some (false, 1, [Value.nilFunc]) := by kernel_rfl
theorem tI_115 : tI Try.prog 115 = some (false, 1, [Value.nilFunc]) := by kernel_rfl
theorem tI_116 : tI Try.prog 116 = some (false, 1, [Value.nilFunc]) := by kernel_rfl
theorem tI_117 : tI Try.prog 117 = some (false, 1, [Value.nilFunc]) := by kernel_rfl
theorem tI_118 : tI Try.prog 118 = some (false, 1, [Value.nilFunc]) := by kernel_rfl
theorem tI_119 : tI Try.prog 119 = some (false, 1, [Value.nilFunc]) := by kernel_rfl
theorem tI_120 : tI Try.prog 120 = some (false, 1, [Value.nilFunc]) := by kernel_rfl
theorem tI_121 : tI Try.prog 121 = some (false, 1, [Value.nilFunc]) := by kernel_rfl
theorem tI_122 : tI Try.prog 122 = some (true, 2, [Value.slice Option.none 0 0, Value.int IntKind.i64 0]) := by kernel_rfl
theorem fieldsOk_122 : fieldsOk Try.prog 122 = true := by kernel_rfl
theorem tField_122_0 : tField Try.prog 122 0 = some 0 := by kernel_rfl
theorem placeOf_122_0 : placeOf Try.prog 122 0 = some (0, 1) := by kernel_rfl
theorem tField_122_1 : tField Try.prog 122 1 = some 1 := by kernel_rfl
theorem placeOf_122_1 : placeOf Try.prog 122 1 = some (1, 1) := by kernel_rfl
theorem tI_123 : tI Try.prog 123 = some (true, 2, [Value.slice Option.none 0 0, Value.int IntKind.i64 0]) := by kernel_rfl
theorem fieldsOk_123 : fieldsOk Try.prog 123 = true := by kernel_rfl
theorem tField_123_0 : tField Try.prog 123 0 = some 0 := by kernel_rfl
theorem placeOf_123_0 : placeOf Try.prog 123 0 = some (0, 1) := by kernel_rfl
theorem tField_123_1 : tField Try.prog 123 1 = some 1 := by kernel_rfl
theorem placeOf_123_1 : placeOf Try.prog 123 1 = some (1, 1) := by kernel_rfl
theorem tI_124 : tI Try.prog 124 = some (false, 1, [Value.nilFunc]) := by kernel_rfl
theorem tI_125 : tI Try.prog 125 = some (false, 1, [Value.nilFunc]) := by kernel_rfl
theorem tI_126 : tI Try.prog 126 = some (false, 1, [Value.nilFunc]) := by kernel_rfl
theorem tI_127 : tI Try.prog 127 = some (false, 1, [Value.nilFunc]) := by kernel_rfl
theorem tI_128 : tI Try.prog 128 = some (false, 1, [Value.nilFunc]) := by kernel_rfl
theorem tI_129 : tI Try.prog 129 = some (false, 1, [Value.nilFunc]) := by kernel_rfl
theorem tI_130 : tI Try.prog 130 = some (false, 1, [Value.slice Option.none 0 0]) := by kernel_rfl
theorem tElem_130 : tElem Try.prog 130 = some (2, 16, 150) := by kernel_rfl
theorem tI_131 : tI Try.prog 131 = some (false, 1, [Value.nilFunc]) := by kernel_rfl
theorem tI_132 : tI Try.prog 132 = some (false, 1, [Value.nilFunc]) := by kernel_rfl
theorem tI_133 : tI Try.prog 133 = some (false, 1, [Value.tuple { toList := [Value.agg { toList := [Value.slice Option.none 0 0, Value.slice Option.none 0 0] }, Value.slice Option.none 0 0, Value.bool false] }]) := by kernel_rfl
theorem tI_134 : tI Try.prog 134 = some (false, 1, [Value.nilFunc]) := by kernel_rfl
theorem tI_135 : tI Try.prog 135 = some (false, 1, [Value.nilFunc]) := by kernel_rfl
theorem tI_136 : tI Try.prog 136 = some (false, 1, [Value.nilFunc]) := by kernel_rfl
theorem tI_137 : tI Try.prog 137 = some (false, 1, [Value.nilFunc]) := by kernel_rfl
theorem tI_138 : tI Try.prog 138 = some (false, 1, [Value.nilFunc]) := by kernel_rfl
theorem tI_139 : tI Try.prog 139 = some (false, 1, [Value.nilFunc]) := by kernel_rfl
theorem tI_140 : tI Try.prog 140 = some (false, 1, [Value.map Option.none]) := by kernel_rfl
theorem tMapI_140 : tMapI Try.prog 140 = some (Go.Fw.KK.row [IntKind.i64, IntKind.i64], IntKind.i64) := by kernel_rfl
theorem tI_141 : tI Try.prog 141 = some (false, 1, [Value.tuple { toList := [Value.int IntKind.i64 0, Value.bool false] }]) := by kernel_rfl
theorem tI_142 : tI Try.prog 142 = some (false, 1, [Value.nilFunc]) := by kernel_rfl
theorem tI_143 : tI Try.prog 143 = some (false, 1, [Value.nilFunc]) := by kernel_rfl
theorem tI_144 : tI Try.prog 144 = some (false, 1, [Value.tuple { toList := [Value.slice Option.none 0 0, Value.bool false] }]) := by kernel_rfl
theorem tI_145 : tI Try.prog 145 = some (false, 1, [Value.nilFunc]) := by kernel_rfl
theorem tI_146 : tI Try.prog 146 = some (false, 1, [Value.nilFunc]) := by kernel_rfl
theorem tI_147 : tI Try.prog 147 = some (false, 1, [Value.nilFunc]) := by kernel_rfl
theorem tI_148 : tI Try.prog 148 = some (false, 1, [Value.nilFunc]) := by kernel_rfl
theorem tI_149 : tI Try.prog 149 = some (true, 2, [Value.int IntKind.i64 0, Value.int IntKind.i64 0]) := by kernel_rfl
theorem tEqS_149 : tEqS Try.prog 149 = some [IntKind.i64, IntKind.i64] := by kernel_rfl
theorem fieldsOk_149 : fieldsOk Try.prog 149 = true := by kernel_rfl
theorem tField_149_0 : tField Try.prog 149 0 = some 0 := by kernel_rfl
theorem placeOf_149_0 : placeOf Try.prog 149 0 = some (0, 1) := by kernel_rfl
theorem tField_149_1 : tField Try.prog 149 1 = some 1 := by kernel_rfl
theorem placeOf_149_1 : placeOf Try.prog 149 1 = some (1, 1) := by kernel_rfl
theorem tI_150 : tI Try.prog 150 = some (true, 2, [Value.int IntKind.i64 0, Value.int IntKind.i64 0]) := by kernel_rfl
theorem tEqS_150 : tEqS Try.prog 150 = some [IntKind.i64, IntKind.i64] := by kernel_rfl
theorem fieldsOk_150 : fieldsOk Try.prog 150 = true := by kernel_rfl
theorem tField_150_0 : tField Try.prog 150 0 = some 0 := by kernel_rfl
theorem placeOf_150_0 : placeOf Try.prog 150 0 = some (0, 1) := by kernel_rfl
theorem tField_150_1 : tField Try.prog 150 1 = some 1 := by kernel_rfl
theorem placeOf_150_1 : placeOf Try.prog 150 1 = some (1, 1) := by kernel_rfl
theorem tI_151 : tI Try.prog 151 = some (false, 1, [Value.nilFunc]) := by kernel_rfl
theorem tI_152 : tI Try.prog 152 = some (false, 1, [Value.nilFunc]) := by kernel_rfl
theorem tI_153 : tI Try.prog 153 = some (false, 1, [Value.map Option.none]) := by kernel_rfl
theorem tMapI_153 : tMapI Try.prog 153 = some (Go.Fw.KK.one IntKind.i64, IntKind.i64) := by kernel_rfl
theorem tI_154 : tI Try.prog 154 = some (false, 1, [Value.nilFunc]) := by kernel_rfl
theorem tI_155 : tI Try.prog 155 = some (false, 1, [Value.nilFunc]) := by kernel_rfl
theorem tI_156 : tI Try.prog 156 = some (false, 1, [Value.nilFunc]) := by kernel_rfl
theorem tI_157 : tI Try.prog 157 = some (false, 1, [Value.tuple { toList := [Value.slice Option.none 0 0, Value.slice Option.none 0 0] }]) := by kernel_rfl
theorem tI_158 : tI Try.prog 158 = some (false, 1, [Value.nilFunc]) := by kernel_rfl
theorem tI_159 : tI Try.prog 159 = some (false, 1, [Value.nilFunc]) := by kernel_rfl
theorem tI_160 : tI Try.prog 160 = some (false, 1, [Value.nilFunc]) := by kernel_rfl
theorem tI_161 : tI Try.prog 161 = some (false, 1, [Value.nilFunc]) := by kernel_rfl
theorem tI_162 : tI Try.prog 162 = some (false, 1, [Value.nilFunc]) := by kernel_rfl
theorem tI_163 : tI Try.prog 163 = some (false, 1, [Value.nilFunc]) := by kernel_rfl
theorem tI_164 : tI Try.prog 164 = some (false, 1, [Value.slice Option.none 0 0]) := by kernel_rfl
theorem tElem_164 : tElem Try.prog 164 = some (3, 24, 169) := by kernel_rfl
theorem tI_165 : tI Try.prog 165 = some (true, 4, [Value.int IntKind.i64 0, Value.slice Option.none 0 0, Value.slice Option.none 0 0, Value.slice Option.none 0 0]) := by kernel_rfl
theorem fieldsOk_165 : fieldsOk Try.prog 165 = true := by kernel_rfl
theorem tField_165_0 : tField Try.prog 165 0 = some 0 := by kernel_rfl
theorem placeOf_165_0 : placeOf Try.prog 165 0 = some (0, 1) := by kernel_rfl
theorem tField_165_1 : tField Try.prog 165 1 = some 1 := by kernel_rfl
theorem placeOf_165_1 : placeOf Try.prog 165 1 = some (1, 1) := by kernel_rfl
theorem tField_165_2 : tField Try.prog 165 2 = some 2 := by kernel_rfl
theorem placeOf_165_2 : placeOf Try.prog 165 2 = some (2, 1) := by kernel_rfl
theorem tField_165_3 : tField Try.prog 165 3 = some 3 := by kernel_rfl
theorem placeOf_165_3 : placeOf Try.prog 165 3 = some (3, 1) := by kernel_rfl
theorem tI_166 : tI Try.prog 166 = some (true, 4, [Value.int IntKind.i64 0, Value.slice Option.none 0 0, Value.slice Option.none 0 0, Value.slice Option.none 0 0]) := by kernel_rfl
theorem fieldsOk_166 : fieldsOk Try.prog 166 = true := by kernel_rfl
theorem tField_166_0 : tField Try.prog 166 0 = some 0 := by kernel_rfl
theorem placeOf_166_0 : placeOf Try.prog 166 0 = some (0, 1) := by kernel_rfl
theorem tField_166_1 : tField Try.prog 166 1 = some 1 := by kernel_rfl
theorem placeOf_166_1 : placeOf Try.prog 166 1 = some (1, 1) := by kernel_rfl
theorem tField_166_2 : tField Try.prog 166 2 = some 2 := by kernel_rfl
theorem placeOf_166_2 : placeOf Try.prog 166 2 = some (2, 1) := by kernel_rfl
theorem tField_166_3 : tField Try.prog 166 3 = some 3 := by kernel_rfl
theorem placeOf_166_3 : placeOf Try.prog 166 3 = some (3, 1) := by kernel_rfl
theorem tI_167 : tI Try.prog 167 = some (false, 1, [Value.nilFunc]) := by kernel_rfl
theorem tI_168 : tI Try.prog 168 = some (true, 3, [Value.int IntKind.i64 0, Value.int IntKind.i64 0, Value.int IntKind.i64 0]) := by kernel_rfl
theorem tEqS_168 : tEqS Try.prog 168 = some [IntKind.i64, IntKind.i64, IntKind.i64] := by kernel_rfl
theorem fieldsOk_168 : fieldsOk Try.prog 168 = true := by kernel_rfl
theorem tField_168_0 : tField Try.prog 168 0 = some 0 := by kernel_rfl
theorem placeOf_168_0 : placeOf Try.prog 168 0 = some (0, 1) := by kernel_rfl
theorem tField_168_1 : tField Try.prog 168 1 = some 1 := by kernel_rfl
theorem placeOf_168_1 : placeOf Try.prog 168 1 = some (1, 1) := by kernel_rfl
theorem tField_168_2 : tField Try.prog 168 2 = some 2 := by kernel_rfl
theorem placeOf_168_2 : placeOf Try.prog 168 2 = some (2, 1) := by kernel_rfl
theorem tI_169 : tI Try.prog 169 = some (true, 3, [Value.int IntKind.i64 0, Value.int IntKind.i64 0, Value.int IntKind.i64 0]) := by kernel_rfl
theorem tEqS_169 : tEqS Try.prog 169 = some [IntKind.i64, IntKind.i64, IntKind.i64] := by kernel_rfl
theorem fieldsOk_169 : fieldsOk Try.prog 169 = true := by kernel_rfl
theorem tField_169_0 : tField Try.prog 169 0 = some 0 := by kernel_rfl
theorem placeOf_169_0 : placeOf Try.prog 169 0 = some (0, 1) := by kernel_rfl
theorem tField_169_1 : tField Try.prog 169 1 = some 1 := by kernel_rfl
theorem placeOf_169_1 : placeOf Try.prog 169 1 = some (1, 1) := by kernel_rfl
theorem tField_169_2 : tField Try.prog 169 2 = some 2 := by kernel_rfl
theorem placeOf_169_2 : placeOf Try.prog 169 2 = some (2, 1) := by kernel_rfl
theorem tI_170 : tI Try.prog 170 = some (false, 1, [Value.nilFunc]) := by kernel_rfl
theorem tI_171 : tI Try.prog 171 = some (false, 1, [Value.nilFunc]) := by kernel_rfl
theorem tI_172 : tI Try.prog 172 = some (false, 1, [Value.slice Option.none 0 0]) := by kernel_rfl
theorem tElem_172 : tElem Try.prog 172 = some (1, 24, 33) := by kernel_rfl
theorem tI_173 : tI Try.prog 173 = some (false, 1, [Value.tuple { toList := [Value.slice Option.none 0 0, Value.slice Option.none 0 0] }]) := by kernel_rfl
theorem tI_174 : tI Try.prog 174 = some (false, 1, [Value.nilFunc]) := by kernel_rfl
theorem tI_175 : tI Try.prog 175 = some (false, 1, [Value.nilFunc]) := by kernel_rfl
theorem tI_176 : tI Try.prog 176 = some (false, 1, [Value.nilFunc]) := by kernel_rfl
theorem tI_177 : tI Try.prog 177 = some (false, 1, [Value.nilFunc]) := by kernel_rfl
theorem tI_178 : tI Try.prog 178 = some (false, 1, [Value.nilFunc]) := by kernel_rfl
theorem tI_179 : tI Try.prog 179 = some (false, 1, [Value.nilFunc]) := by kernel_rfl
theorem tI_180 : tI Try.prog 180 = some (true, 4, [Value.pointer Option.none, Value.pointer Option.none, Value.pointer Option.none, Value.string ⟨#[]⟩]) := by kernel_rfl
theorem fieldsOk_180 : fieldsOk Try.prog 180 = true := by kernel_rfl
theorem tField_180_0 : tField Try.prog 180 0 = some 0 := by kernel_rfl
theorem placeOf_180_0 : placeOf Try.prog 180 0 = some (0, 1) := by kernel_rfl
theorem tField_180_1 : tField Try.prog 180 1 = some 1 := by kernel_rfl
theorem placeOf_180_1 : placeOf Try.prog 180 1 = some (1, 1) := by kernel_rfl
theorem tField_180_2 : tField Try.prog 180 2 = some 2 := by kernel_rfl
theorem placeOf_180_2 : placeOf Try.prog 180 2 = some (2, 1) := by kernel_rfl
theorem tField_180_3 : tField Try.prog 180 3 = some 3 := by kernel_rfl
theorem placeOf_180_3 : placeOf Try.prog 180 3 = some (3, 1) := by kernel_rfl
theorem tI_181 : tI Try.prog 181 = some (true, 4, [Value.pointer Option.none, Value.pointer Option.none, Value.pointer Option.none, Value.string ⟨#[]⟩]) := by kernel_rfl
theorem fieldsOk_181 : fieldsOk Try.prog 181 = true := by kernel_rfl
theorem tField_181_0 : tField Try.prog 181 0 = some 0 := by kernel_rfl
theorem placeOf_181_0 : placeOf Try.prog 181 0 = some (0, 1) := by kernel_rfl
theorem tField_181_1 : tField Try.prog 181 1 = some 1 := by kernel_rfl
theorem placeOf_181_1 : placeOf Try.prog 181 1 = some (1, 1) := by kernel_rfl
theorem tField_181_2 : tField Try.prog 181 2 = some 2 := by kernel_rfl
theorem placeOf_181_2 : placeOf Try.prog 181 2 = some (2, 1) := by kernel_rfl
theorem tField_181_3 : tField Try.prog 181 3 = some 3 := by kernel_rfl
theorem placeOf_181_3 : placeOf Try.prog 181 3 = some (3, 1) := by kernel_rfl
theorem tI_182 : tI Try.prog 182 = some (true, 0, []) := by kernel_rfl
theorem tArr_182 : tArr Try.prog 182 = some (0, 1, false) := by kernel_rfl
theorem fieldsOk_182 : fieldsOk Try.prog 182 = true := by kernel_rfl
theorem placeOf_182_0 : placeOf Try.prog 182 0 = some (0, 1) := by kernel_rfl
theorem placeOf_182_1 : placeOf Try.prog 182 1 = some (1, 1) := by kernel_rfl
theorem placeOf_182_2 : placeOf Try.prog 182 2 = some (2, 1) := by kernel_rfl
theorem placeOf_182_3 : placeOf Try.prog 182 3 = some (3, 1) := by kernel_rfl
theorem placeOf_182_4 : placeOf Try.prog 182 4 = some (4, 1) := by kernel_rfl
theorem placeOf_182_5 : placeOf Try.prog 182 5 = some (5, 1) := by kernel_rfl
theorem placeOf_182_6 : placeOf Try.prog 182 6 = some (6, 1) := by kernel_rfl
theorem placeOf_182_7 : placeOf Try.prog 182 7 = some (7, 1) := by kernel_rfl
theorem placeOf_182_8 : placeOf Try.prog 182 8 = some (8, 1) := by kernel_rfl
theorem placeOf_182_9 : placeOf Try.prog 182 9 = some (9, 1) := by kernel_rfl
theorem placeOf_182_10 : placeOf Try.prog 182 10 = some (10, 1) := by kernel_rfl
theorem placeOf_182_11 : placeOf Try.prog 182 11 = some (11, 1) := by kernel_rfl
theorem tI_183 : tI Try.prog 183 = some (true, 0, []) := by kernel_rfl
theorem fieldsOk_183 : fieldsOk Try.prog 183 = true := by kernel_rfl
theorem placeOf_183_0 : placeOf Try.prog 183 0 = some (0, 0) := by kernel_rfl
theorem tI_184 : tI Try.prog 184 = some (true, 0, []) := by kernel_rfl
theorem fieldsOk_184 : fieldsOk Try.prog 184 = true := by kernel_rfl
theorem placeOf_184_0 : placeOf Try.prog 184 0 = some (0, 0) := by kernel_rfl
theorem tI_185 : tI Try.prog 185 = some (false, 1, [Value.nilFunc]) := by kernel_rfl
theorem tI_186 : tI Try.prog 186 = some (false, 1, [Value.int IntKind.u32 0]) := by kernel_rfl
theorem tInt_186 : tInt Try.prog 186 = some IntKind.u32 := by kernel_rfl
theorem tI_187 : tI Try.prog 187 = some (false, 1, [Value.int IntKind.u8 0]) := by kernel_rfl
theorem tInt_187 : tInt Try.prog 187 = some IntKind.u8 := by kernel_rfl
theorem tI_188 : tI Try.prog 188 = some (false, 1, [Value.int IntKind.u8 0]) := by kernel_rfl
theorem tInt_188 : tInt Try.prog 188 = some IntKind.u8 := by kernel_rfl
theorem tI_189 : tI Try.prog 189 = some (false, 1, [Value.nilFunc]) := by kernel_rfl
theorem tI_190 : tI Try.prog 190 = some (false, 1, [Value.pointer Option.none]) := by kernel_rfl
theorem tI_191 : tI Try.prog 191 = some (false, 1, [Value.int IntKind.i32 0]) := by kernel_rfl
theorem tInt_191 : tInt Try.prog 191 = some IntKind.i32 := by kernel_rfl
theorem tI_192 : tI Try.prog 192 = some (false, 1, [Value.int IntKind.i32 0]) := by kernel_rfl
theorem tInt_192 : tInt Try.prog 192 = some IntKind.i32 := by kernel_rfl
theorem tI_193 : tI Try.prog 193 = some (true, 11, [Value.int IntKind.u64 0, Value.int IntKind.u64 0, Value.int IntKind.u32 0, Value.int IntKind.u8 0, Value.int IntKind.u8 0, Value.int IntKind.u8 0, Value.int IntKind.u8 0, Value.nilFunc, Value.pointer Option.none, Value.int IntKind.i32 0, Value.int IntKind.i32 0]) := by kernel_rfl
theorem fieldsOk_193 : fieldsOk Try.prog 193 = true := by kernel_rfl
theorem tField_193_0 : tField Try.prog 193 0 = some 0 := by kernel_rfl
theorem placeOf_193_0 : placeOf Try.prog 193 0 = some (0, 1) := by kernel_rfl
theorem tField_193_1 : tField Try.prog 193 1 = some 1 := by kernel_rfl
theorem placeOf_193_1 : placeOf Try.prog 193 1 = some (1, 1) := by kernel_rfl
theorem tField_193_2 : tField Try.prog 193 2 = some 2 := by kernel_rfl
theorem placeOf_193_2 : placeOf Try.prog 193 2 = some (2, 1) := by kernel_rfl
theorem tField_193_3 : tField Try.prog 193 3 = some 3 := by kernel_rfl
theorem placeOf_193_3 : placeOf Try.prog 193 3 = some (3, 1) := by kernel_rfl
theorem tField_193_4 : tField Try.prog 193 4 = some 4 := by kernel_rfl
theorem placeOf_193_4 : placeOf Try.prog 193 4 = some (4, 1) := by kernel_rfl
theorem tField_193_5 : tField Try.prog 193 5 = some 5 := by kernel_rfl
theorem placeOf_193_5 : placeOf Try.prog 193 5 = some (5, 1) := by kernel_rfl
theorem tField_193_6 : tField Try.prog 193 6 = some 6 := by kernel_rfl
theorem placeOf_193_6 : placeOf Try.prog 193 6 = some (6, 1) := by kernel_rfl
theorem tField_193_7 : tField Try.prog 193 7 = some 7 := by kernel_rfl
theorem placeOf_193_7 : placeOf Try.prog 193 7 = some (7, 1) := by kernel_rfl
theorem tField_193_8 : tField Try.prog 193 8 = some 8 := by kernel_rfl
theorem placeOf_193_8 : placeOf Try.prog 193 8 = some (8, 1) := by kernel_rfl
theorem tField_193_9 : tField Try.prog 193 9 = some 9 := by kernel_rfl
theorem placeOf_193_9 : placeOf Try.prog 193 9 = some (9, 1) := by kernel_rfl
theorem tField_193_10 : tField Try.prog 193 10 = some 10 := by kernel_rfl
theorem placeOf_193_10 : placeOf Try.prog 193 10 = some (10, 1) := by kernel_rfl
theorem tI_194 : tI Try.prog 194 = some (true, 11, [Value.int IntKind.u64 0, Value.int IntKind.u64 0, Value.int IntKind.u32 0, Value.int IntKind.u8 0, Value.int IntKind.u8 0, Value.int IntKind.u8 0, Value.int IntKind.u8 0, Value.nilFunc, Value.pointer Option.none, Value.int IntKind.i32 0, Value.int IntKind.i32 0]) := by kernel_rfl
theorem fieldsOk_194 : fieldsOk Try.prog 194 = true := by kernel_rfl
theorem tField_194_0 : tField Try.prog 194 0 = some 0 := by kernel_rfl
theorem placeOf_194_0 : placeOf Try.prog 194 0 = some (0, 1) := by kernel_rfl
theorem tField_194_1 : tField Try.prog 194 1 = some 1 := by kernel_rfl
theorem placeOf_194_1 : placeOf Try.prog 194 1 = some (1, 1) := by kernel_rfl
theorem tField_194_2 : tField Try.prog 194 2 = some 2 := by kernel_rfl
theorem placeOf_194_2 : placeOf Try.prog 194 2 = some (2, 1) := by kernel_rfl
theorem tField_194_3 : tField Try.prog 194 3 = some 3 := by kernel_rfl
theorem placeOf_194_3 : placeOf Try.prog 194 3 = some (3, 1) := by kernel_rfl
theorem tField_194_4 : tField Try.prog 194 4 = some 4 := by kernel_rfl
theorem placeOf_194_4 : placeOf Try.prog 194 4 = some (4, 1) := by kernel_rfl
theorem tField_194_5 : tField Try.prog 194 5 = some 5 := by kernel_rfl
theorem placeOf_194_5 : placeOf Try.prog 194 5 = some (5, 1) := by kernel_rfl
theorem tField_194_6 : tField Try.prog 194 6 = some 6 := by kernel_rfl
theorem placeOf_194_6 : placeOf Try.prog 194 6 = some (6, 1) := by kernel_rfl
theorem tField_194_7 : tField Try.prog 194 7 = some 7 := by kernel_rfl
theorem placeOf_194_7 : placeOf Try.prog 194 7 = some (7, 1) := by kernel_rfl
theorem tField_194_8 : tField Try.prog 194 8 = some 8 := by kernel_rfl
theorem placeOf_194_8 : placeOf Try.prog 194 8 = some (8, 1) := by kernel_rfl
theorem tField_194_9 : tField Try.prog 194 9 = some 9 := by kernel_rfl
theorem placeOf_194_9 : placeOf Try.prog 194 9 = some (9, 1) := by kernel_rfl
theorem tField_194_10 : tField Try.prog 194 10 = some 10 := by kernel_rfl
theorem placeOf_194_10 : placeOf Try.prog 194 10 = some (10, 1) := by kernel_rfl
theorem tI_195 : tI Try.prog 195 = some (false, 1, [Value.nilFunc]) := by kernel_rfl
theorem tI_196 : tI Try.prog 196 = some (false, 1, [Value.pointer Option.none]) := by kernel_rfl
theorem tI_197 : tI Try.prog 197 = some (false, 1, [Value.int IntKind.u64 0]) := by kernel_rfl
theorem tInt_197 : tInt Try.prog 197 = some IntKind.u64 := by kernel_rfl
theorem tI_198 : tI Try.prog 198 = some (true, 2, [Value.int IntKind.u64 0, Value.int IntKind.u64 0]) := by kernel_rfl
theorem tArr_198 : tArr Try.prog 198 = some (2, 1, false) := by kernel_rfl
theorem tEqS_198 : tEqS Try.prog 198 = some [IntKind.u64, IntKind.u64] := by kernel_rfl
theorem fieldsOk_198 : fieldsOk Try.prog 198 = true := by kernel_rfl
theorem placeOf_198_0 : placeOf Try.prog 198 0 = some (0, 1) := by kernel_rfl
theorem placeOf_198_1 : placeOf Try.prog 198 1 = some (1, 1) := by kernel_rfl
theorem placeOf_198_2 : placeOf Try.prog 198 2 = some (2, 1) := by kernel_rfl
theorem placeOf_198_3 : placeOf Try.prog 198 3 = some (3, 1) := by kernel_rfl
theorem placeOf_198_4 : placeOf Try.prog 198 4 = some (4, 1) := by kernel_rfl
theorem placeOf_198_5 : placeOf Try.prog 198 5 = some (5, 1) := by kernel_rfl
theorem placeOf_198_6 : placeOf Try.prog 198 6 = some (6, 1) := by kernel_rfl
theorem placeOf_198_7 : placeOf Try.prog 198 7 = some (7, 1) := by kernel_rfl
theorem placeOf_198_8 : placeOf Try.prog 198 8 = some (8, 1) := by kernel_rfl
theorem placeOf_198_9 : placeOf Try.prog 198 9 = some (9, 1) := by kernel_rfl
theorem placeOf_198_10 : placeOf Try.prog 198 10 = some (10, 1) := by kernel_rfl
theorem placeOf_198_11 : placeOf Try.prog 198 11 = some (11, 1) := by kernel_rfl
theorem tI_199 : tI Try.prog 199 = some (true, 2, [Value.int IntKind.u64 0, Value.int IntKind.u64 0]) := by kernel_rfl
theorem tArr_199 : tArr Try.prog 199 = some (2, 1, false) := by kernel_rfl
theorem tEqS_199 : tEqS Try.prog 199 = some [IntKind.u64, IntKind.u64] := by kernel_rfl
theorem fieldsOk_199 : fieldsOk Try.prog 199 = true := by kernel_rfl
theorem placeOf_199_0 : placeOf Try.prog 199 0 = some (0, 1) := by kernel_rfl
theorem placeOf_199_1 : placeOf Try.prog 199 1 = some (1, 1) := by kernel_rfl
theorem placeOf_199_2 : placeOf Try.prog 199 2 = some (2, 1) := by kernel_rfl
theorem placeOf_199_3 : placeOf Try.prog 199 3 = some (3, 1) := by kernel_rfl
theorem placeOf_199_4 : placeOf Try.prog 199 4 = some (4, 1) := by kernel_rfl
theorem placeOf_199_5 : placeOf Try.prog 199 5 = some (5, 1) := by kernel_rfl
theorem placeOf_199_6 : placeOf Try.prog 199 6 = some (6, 1) := by kernel_rfl
theorem placeOf_199_7 : placeOf Try.prog 199 7 = some (7, 1) := by kernel_rfl
theorem placeOf_199_8 : placeOf Try.prog 199 8 = some (8, 1) := by kernel_rfl
theorem placeOf_199_9 : placeOf Try.prog 199 9 = some (9, 1) := by kernel_rfl
theorem placeOf_199_10 : placeOf Try.prog 199 10 = some (10, 1) := by kernel_rfl
theorem placeOf_199_11 : placeOf Try.prog 199 11 = some (11, 1) := by kernel_rfl
theorem callable_2 : callable Try.prog 2 = true := by kernel_rfl
theorem callable_3 : callable Try.prog 3 = true := by kernel_rfl
theorem callable_4 : callable Try.prog 4 = true := by kernel_rfl
theorem callable_5 : callable Try.prog 5 = true := by kernel_rfl
theorem callable_6 : callable Try.prog 6 = true := by kernel_rfl
theorem callable_7 : callable Try.prog 7 = true := by kernel_rfl
theorem callable_8 : callable Try.prog 8 = true := by kernel_rfl
theorem callable_9 : callable Try.prog 9 = true := by kernel_rfl
theorem callable_10 : callable Try.prog 10 = true := by kernel_rfl
theorem callable_11 : callable Try.prog 11 = true := by kernel_rfl
theorem callable_12 : callable Try.prog 12 = true := by kernel_rfl
theorem callable_13 : callable Try.prog 13 = true := by kernel_rfl
theorem callable_14 : callable Try.prog 14 = true := by kernel_rfl
theorem callable_15 : callable Try.prog 15 = true := by kernel_rfl
theorem callable_16 : callable Try.prog 16 = true := by kernel_rfl
theorem callable_17 : callable Try.prog 17 = true := by kernel_rfl
theorem callable_18 : callable Try.prog 18 = true := by kernel_rfl
theorem callable_19 : callable Try.prog 19 = true := by kernel_rfl
theorem callable_20 : callable Try.prog 20 = true := by kernel_rfl
theorem callable_21 : callable Try.prog 21 = true := by kernel_rfl
theorem callable_22 : callable Try.prog 22 = true := by kernel_rfl
theorem callable_23 : callable Try.prog 23 = true := by kernel_rfl
theorem callable_24 : callable Try.prog 24 = true := by kernel_rfl
theorem callable_25 : callable Try.prog 25 = true := by kernel_rfl
theorem callable_26 : callable Try.prog 26 = true := by kernel_rfl
theorem callable_27 : callable Try.prog 27 = true := by kernel_rfl
theorem callable_28 : callable Try.prog 28 = true := by kernel_rfl
theorem callable_29 : callable Try.prog 29 = true := by kernel_rfl
theorem callable_30 : callable Try.prog 30 = true := by kernel_rfl
theorem callable_31 : callable Try.prog 31 = true := by kernel_rfl
theorem callable_32 : callable Try.prog 32 = true := by kernel_rfl
theorem callable_33 : callable Try.prog 33 = true := by kernel_rfl
theorem callable_34 : callable Try.prog 34 = true := by kernel_rfl
theorem callable_35 : callable Try.prog 35 = true := by kernel_rfl
theorem callable_36 : callable Try.prog 36 = true := by kernel_rfl
theorem callable_37 : callable Try.prog 37 = true := by kernel_rfl
theorem callable_38 : callable Try.prog 38 = true := by kernel_rfl
theorem callable_39 : callable Try.prog 39 = true := by kernel_rfl
theorem callable_40 : callable Try.prog 40 = true := by kernel_rfl
theorem callable_41 : callable Try.prog 41 = true := by kernel_rfl
theorem callable_42 : callable Try.prog 42 = true := by kernel_rfl
theorem callable_43 : callable Try.prog 43 = true := by kernel_rfl
theorem callable_44 : callable Try.prog 44 = true := by kernel_rfl
theorem callable_45 : callable Try.prog 45 = true := by kernel_rfl
theorem callable_46 : callable Try.prog 46 = true := by kernel_rfl
theorem callable_47 : callable Try.prog 47 = true := by kernel_rfl
theorem callable_48 : callable Try.prog 48 = true := by kernel_rfl
theorem callable_49 : callable Try.prog 49 = true := by kernel_rfl
theorem callable_50 : callable Try.prog 50 = true := by kernel_rfl
theorem callable_51 : callable Try.prog 51 = true := by kernel_rfl
theorem callable_52 : callable Try.prog 52 = true := by kernel_rfl
theorem callable_53 : callable Try.prog 53 = true := by kernel_rfl
theorem callable_54 : callable Try.prog 54 = true := by kernel_rfl
theorem callable_55 : callable Try.prog 55 = true := by kernel_rfl
theorem callable_56 : callable Try.prog 56 = true := by kernel_rfl
theorem callable_57 : callable Try.prog 57 = true := by kernel_rfl
theorem callable_58 : callable Try.prog 58 = true := by kernel_rfl
theorem callable_59 : callable Try.prog 59 = true := by kernel_rfl
theorem callable_60 : callable Try.prog 60 = true := by kernel_rfl
theorem callable_61 : callable Try.prog 61 = true := by kernel_rfl
theorem callable_62 : callable Try.prog 62 = true := by kernel_rfl
theorem callable_63 : callable Try.prog 63 = true := by kernel_rfl
theorem callable_64 : callable Try.prog 64 = true := by kernel_rfl
theorem callable_65 : callable Try.prog 65 = true := by kernel_rfl
theorem callable_66 : callable Try.prog 66 = true := by kernel_rfl
theorem callable_67 : callable Try.prog 67 = true := by kernel_rfl
theorem callable_68 : callable Try.prog 68 = true := by kernel_rfl
theorem callable_69 : callable Try.prog 69 = true := by kernel_rfl
theorem callable_70 : callable Try.prog 70 = true := by kernel_rfl
theorem callable_71 : callable Try.prog 71 = true := by kernel_rfl
theorem callable_72 : callable Try.prog 72 = true := by kernel_rfl
theorem callable_73 : callable Try.prog 73 = true := by kernel_rfl
theorem callable_74 : callable Try.prog 74 = true := by kernel_rfl
theorem callable_75 : callable Try.prog 75 = true := by kernel_rfl
theorem callable_76 : callable Try.prog 76 = true := by kernel_rfl
theorem callable_77 : callable Try.prog 77 = true := by kernel_rfl
theorem callable_78 : callable Try.prog 78 = true := by kernel_rfl
theorem callable_79 : callable Try.prog 79 = true := by kernel_rfl
theorem callable_80 : callable Try.prog 80 = true := by kernel_rfl
theorem callable_81 : callable Try.prog 81 = true := by kernel_rfl
theorem callable_82 : callable Try.prog 82 = true := by kernel_rfl
theorem callable_83 : callable Try.prog 83 = true := by kernel_rfl
theorem callable_84 : callable Try.prog 84 = true := by kernel_rfl
theorem callable_85 : callable Try.prog 85 = true := by kernel_rfl
theorem callable_86 : callable Try.prog 86 = true := by kernel_rfl
theorem callable_87 : callable Try.prog 87 = true := by kernel_rfl
theorem callable_88 : callable Try.prog 88 = true := by kernel_rfl
theorem callable_89 : callable Try.prog 89 = true := by kernel_rfl
theorem callable_90 : callable Try.prog 90 = true := by kernel_rfl
theorem callable_91 : callable Try.prog 91 = true := by kernel_rfl
theorem callable_92 : callable Try.prog 92 = true := by kernel_rfl
theorem callable_93 : callable Try.prog 93 = true := by kernel_rfl
theorem callable_94 : callable Try.prog 94 = true := by kernel_rfl
theorem callable_95 : callable Try.prog 95 = true := by kernel_rfl
theorem callable_96 : callable Try.prog 96 = true := by kernel_rfl
theorem callable_97 : callable Try.prog 97 = true := by kernel_rfl
theorem callable_98 : callable Try.prog 98 = true := by kernel_rfl
theorem callable_99 : callable Try.prog 99 = true := by kernel_rfl
theorem callable_100 : callable Try.prog 100 = true := by kernel_rfl
theorem callable_101 : callable Try.prog 101 = true := by kernel_rfl
theorem callable_102 : callable Try.prog 102 = true := by kernel_rfl
theorem callable_103 : callable Try.prog 103 = true := by kernel_rfl
theorem callable_104 : callable Try.prog 104 = true := by kernel_rfl
theorem callable_105 : callable Try.prog 105 = true := by kernel_rfl
theorem callable_106 : callable Try.prog 106 = true := by kernel_rfl
theorem callable_107 : callable Try.prog 107 = true := by kernel_rfl
theorem callable_108 : callable Try.prog 108 = true := by kernel_rfl
theorem callable_109 : callable Try.prog 109 = true := by kernel_rfl
theorem callable_110 : callable Try.prog 110 = true := by kernel_rfl
theorem callable_111 : callable Try.prog 111 = true := by kernel_rfl
theorem callable_112 : callable Try.prog 112 = true := by kernel_rfl
theorem callable_113 : callable Try.prog 113 = true := by kernel_rfl
theorem callable_114 : callable Try.prog 114 = true := by kernel_rfl
theorem callable_115 : callable Try.prog 115 = true := by kernel_rfl
theorem callable_116 : callable Try.prog 116 = true := by kernel_rfl
theorem callable_117 : callable Try.prog 117 = true := by kernel_rfl
theorem callable_118 : callable Try.prog 118 = true := by kernel_rfl
theorem callable_119 : callable Try.prog 119 = true := by kernel_rfl
theorem callable_120 : callable Try.prog 120 = true := by kernel_rfl
theorem callable_121 : callable Try.prog 121 = true := by kernel_rfl
theorem callable_122 : callable Try.prog 122 = true := by kernel_rfl
theorem callable_123 : callable Try.prog 123 = true := by kernel_rfl
theorem callable_124 : callable Try.prog 124 = true := by kernel_rfl
theorem callable_125 : callable Try.prog 125 = true := by kernel_rfl
theorem callable_126 : callable Try.prog 126 = true := by kernel_rfl
theorem callable_127 : callable Try.prog 127 = true := by kernel_rfl
theorem callable_128 : callable Try.prog 128 = true := by kernel_rfl
theorem callable_129 : callable Try.prog 129 = true := by kernel_rfl
theorem callable_130 : callable Try.prog 130 = true := by kernel_rfl
theorem callable_131 : callable Try.prog 131 = true := by kernel_rfl
theorem callable_132 : callable Try.prog 132 = true := by kernel_rfl
theorem callable_133 : callable Try.prog 133 = true := by kernel_rfl
theorem callable_134 : callable Try.prog 134 = true := by kernel_rfl
theorem callable_135 : callable Try.prog 135 = true := by kernel_rfl
theorem callable_136 : callable Try.prog 136 = true := by kernel_rfl
theorem callable_137 : callable Try.prog 137 = true := by kernel_rfl
theorem callable_138 : callable Try.prog 138 = true := by kernel_rfl
theorem callable_139 : callable Try.prog 139 = true := by kernel_rfl
theorem callable_140 : callable Try.prog 140 = true := by kernel_rfl
theorem callable_141 : callable Try.prog 141 = true := by kernel_rfl
theorem callable_142 : callable Try.prog 142 = true := by kernel_rfl
theorem callable_143 : callable Try.prog 143 = true := by kernel_rfl
theorem callable_144 : callable Try.prog 144 = true := by kernel_rfl
theorem callable_145 : callable Try.prog 145 = true := by kernel_rfl
theorem callable_146 : callable Try.prog 146 = true := by kernel_rfl
theorem callable_147 : callable Try.prog 147 = true := by kernel_rfl
theorem callable_148 : callable Try.prog 148 = true := by kernel_rfl
theorem callable_149 : callable Try.prog 149 = true := by kernel_rfl
theorem callable_150 : callable Try.prog 150 = true := by kernel_rfl
theorem callable_151 : callable Try.prog 151 = true := by kernel_rfl
theorem callable_152 : callable Try.prog 152 = true := by kernel_rfl
theorem callable_153 : callable Try.prog 153 = true := by kernel_rfl
theorem callable_154 : callable Try.prog 154 = true := by kernel_rfl
theorem callable_155 : callable Try.prog 155 = true := by kernel_rfl
theorem callable_156 : callable Try.prog 156 = true := by kernel_rfl
theorem callable_157 : callable Try.prog 157 = true := by kernel_rfl
theorem callable_158 : callable Try.prog 158 = true := by kernel_rfl
theorem callable_159 : callable Try.prog 159 = true := by kernel_rfl
theorem callable_160 : callable Try.prog 160 = true := by kernel_rfl
theorem callable_161 : callable Try.prog 161 = true := by kernel_rfl
theorem callable_162 : callable Try.prog 162 = true := by kernel_rfl
theorem callable_163 : callable Try.prog 163 = true := by kernel_rfl
theorem callable_164 : callable Try.prog 164 = true := by kernel_rfl
theorem callable_165 : callable Try.prog 165 = true := by kernel_rfl
theorem callable_166 : callable Try.prog 166 = true := by kernel_rfl
theorem callable_167 : callable Try.prog 167 = true := by kernel_rfl
theorem callable_168 : callable Try.prog 168 = true := by kernel_rfl
theorem callable_169 : callable Try.prog 169 = true := by kernel_rfl
theorem callable_170 : callable Try.prog 170 = true := by kernel_rfl
theorem callable_171 : callable Try.prog 171 = true := by kernel_rfl
theorem callable_172 : callable Try.prog 172 = true := by kernel_rfl
theorem callable_173 : callable Try.prog 173 = true := by kernel_rfl
theorem callable_174 : callable Try.prog 174 = true := by kernel_rfl
theorem callable_175 : callable Try.prog 175 = true := by kernel_rfl
attribute [simp] tI_0 tI_1 tI_2 tInt_2 tI_3 tInt_3 tI_4 tBool_4 tI_5 tInt_5 tI_6 tInt_6 tI_7 fieldsOk_7 tField_7_0 placeOf_7_0 tField_7_1 placeOf_7_1 tField_7_2 placeOf_7_2 tField_7_3 placeOf_7_3 tI_8 fieldsOk_8 tField_8_0 placeOf_8_0 tField_8_1 placeOf_8_1 tField_8_2 placeOf_8_2 tField_8_3 placeOf_8_3 tI_9 tStr_9 tI_10 tStr_10 tI_11 tStr_11 tI_12 tInt_12 tI_13 fieldsOk_13 tField_13_0 placeOf_13_0 tField_13_1 placeOf_13_1 tI_14 fieldsOk_14 tField_14_0 placeOf_14_0 tField_14_1 placeOf_14_1 tI_15 tI_16 tI_17 tI_18 fieldsOk_18 tField_18_0 placeOf_18_0 tI_19 fieldsOk_19 tField_19_0 placeOf_19_0 tI_20 tI_21 tInt_21 tI_22 tElem_22 tByteSl_22 tI_23 tElem_23 tI_24 tI_25 tI_26 tEqS_26 fieldsOk_26 tField_26_0 placeOf_26_0 tField_26_1 placeOf_26_1 tField_26_2 placeOf_26_2 tI_27 tEqS_27 fieldsOk_27 tField_27_0 placeOf_27_0 tField_27_1 placeOf_27_1 tField_27_2 placeOf_27_2 tI_28 tI_29 tI_30 tI_31 tI_32 tElem_32 tI_33 tElem_33 tI_34 fieldsOk_34 tField_34_0 placeOf_34_0 tField_34_1 placeOf_34_1 tI_35 fieldsOk_35 tField_35_0 placeOf_35_0 tField_35_1 placeOf_35_1 tI_36 tI_37 tI_38 tI_39 tElem_39 tI_40 tI_41 tI_42 tI_43 tI_44 tI_45 tI_46 tI_47 tI_48 tI_49 tI_50 tI_51 tI_52 tI_53 tI_54 tI_55 tElem_55 tI_56 tElem_56 tI_57 fieldsOk_57 tField_57_0 placeOf_57_0 tField_57_1 placeOf_57_1 tField_57_2 placeOf_57_2 tI_58 fieldsOk_58 tField_58_0 placeOf_58_0 tField_58_1 placeOf_58_1 tField_58_2 placeOf_58_2 tI_59 tI_60 tI_61 tI_62 tI_63 tI_64 tI_65 tI_66 tI_67 tI_68 fieldsOk_68 tField_68_0 placeOf_68_0 tField_68_1 placeOf_68_1 tField_68_2 placeOf_68_2 tI_69 fieldsOk_69 tField_69_0 placeOf_69_0 tField_69_1 placeOf_69_1 tI_70 tI_71 tI_72 tI_73 tI_74 tI_75 tI_76 tI_77 tI_78 tI_79 tI_80 tI_81 tI_82 tI_83 tElem_83 tI_84 tI_85 tI_86 tI_87 tI_88 tI_89 tI_90 tI_91 tI_92 tI_93 tI_94 tI_95 tI_96 tI_97 tI_98 tI_99 tI_100 tI_101 tElem_101 tI_102 tI_103 tI_104 tArr_104 tEqS_104 fieldsOk_104 placeOf_104_0 placeOf_104_1 placeOf_104_2 placeOf_104_3 placeOf_104_4 placeOf_104_5 placeOf_104_6 placeOf_104_7 placeOf_104_8 placeOf_104_9 placeOf_104_10 placeOf_104_11 tI_105 tArr_105 tEqS_105 fieldsOk_105 placeOf_105_0 placeOf_105_1 placeOf_105_2 placeOf_105_3 placeOf_105_4 placeOf_105_5 placeOf_105_6 placeOf_105_7 placeOf_105_8 placeOf_105_9 placeOf_105_10 placeOf_105_11 tI_106 tI_107 tI_108 tI_109 tI_110 tI_111 tI_112 tI_113 tI_114 tI_115 tI_116 tI_117 tI_118 tI_119 tI_120 tI_121 tI_122 fieldsOk_122 tField_122_0 placeOf_122_0 tField_122_1 placeOf_122_1 tI_123 fieldsOk_123 tField_123_0 placeOf_123_0 tField_123_1 placeOf_123_1 tI_124 tI_125 tI_126 tI_127 tI_128 tI_129 tI_130 tElem_130 tI_131 tI_132 tI_133 tI_134 tI_135 tI_136 tI_137 tI_138 tI_139 tI_140 tMapI_140 tI_141 tI_142 tI_143 tI_144 tI_145 tI_146 tI_147 tI_148 tI_149 tEqS_149 fieldsOk_149 tField_149_0 placeOf_149_0 tField_149_1 placeOf_149_1 tI_150 tEqS_150 fieldsOk_150 tField_150_0 placeOf_150_0 tField_150_1 placeOf_150_1 tI_151 tI_152 tI_153 tMapI_153 tI_154 tI_155 tI_156 tI_157 tI_158 tI_159 tI_160 tI_161 tI_162 tI_163 tI_164 tElem_164 tI_165 fieldsOk_165 tField_165_0 placeOf_165_0 tField_165_1 placeOf_165_1 tField_165_2 placeOf_165_2 tField_165_3 placeOf_165_3 tI_166 fieldsOk_166 tField_166_0 placeOf_166_0 tField_166_1 placeOf_166_1 tField_166_2 placeOf_166_2 tField_166_3 placeOf_166_3 tI_167 tI_168 tEqS_168 fieldsOk_168 tField_168_0 placeOf_168_0 tField_168_1 placeOf_168_1 tField_168_2 placeOf_168_2 tI_169 tEqS_169 fieldsOk_169 tField_169_0 placeOf_169_0 tField_169_1 placeOf_169_1 tField_169_2 placeOf_169_2 tI_170 tI_171 tI_172 tElem_172 tI_173 tI_174 tI_175 tI_176 tI_177 tI_178 tI_179 tI_180 fieldsOk_180 tField_180_0 placeOf_180_0 tField_180_1 placeOf_180_1 tField_180_2 placeOf_180_2 tField_180_3 placeOf_180_3 tI_181 fieldsOk_181 tField_181_0 placeOf_181_0 tField_181_1 placeOf_181_1 tField_181_2 placeOf_181_2 tField_181_3 placeOf_181_3 tI_182 tArr_182 fieldsOk_182 placeOf_182_0 placeOf_182_1 placeOf_182_2 placeOf_182_3 placeOf_182_4 placeOf_182_5 placeOf_182_6 placeOf_182_7 placeOf_182_8 placeOf_182_9 placeOf_182_10 placeOf_182_11 tI_183 fieldsOk_183 placeOf_183_0 tI_184 fieldsOk_184 placeOf_184_0 tI_185 tI_186 tInt_186 tI_187 tInt_187 tI_188 tInt_188 tI_189 tI_190 tI_191 tInt_191 tI_192 tInt_192 tI_193 fieldsOk_193 tField_193_0 placeOf_193_0 tField_193_1 placeOf_193_1 tField_193_2 placeOf_193_2 tField_193_3 placeOf_193_3 tField_193_4 placeOf_193_4 tField_193_5 placeOf_193_5 tField_193_6 placeOf_193_6 tField_193_7 placeOf_193_7 tField_193_8 placeOf_193_8 tField_193_9 placeOf_193_9 tField_193_10 placeOf_193_10 tI_194 fieldsOk_194 tField_194_0 placeOf_194_0 tField_194_1 placeOf_194_1 tField_194_2 placeOf_194_2 tField_194_3 placeOf_194_3 tField_194_4 placeOf_194_4 tField_194_5 placeOf_194_5 tField_194_6 placeOf_194_6 tField_194_7 placeOf_194_7 tField_194_8 placeOf_194_8 tField_194_9 placeOf_194_9 tField_194_10 placeOf_194_10 tI_195 tI_196 tI_197 tInt_197 tI_198 tArr_198 tEqS_198 fieldsOk_198 placeOf_198_0 placeOf_198_1 placeOf_198_2 placeOf_198_3 placeOf_198_4 placeOf_198_5 placeOf_198_6 placeOf_198_7 placeOf_198_8 placeOf_198_9 placeOf_198_10 placeOf_198_11 tI_199 tArr_199 tEqS_199 fieldsOk_199 placeOf_199_0 placeOf_199_1 placeOf_199_2 placeOf_199_3 placeOf_199_4 placeOf_199_5 placeOf_199_6 placeOf_199_7 placeOf_199_8 placeOf_199_9 placeOf_199_10 placeOf_199_11 callable_2 callable_3 callable_4 callable_5 callable_6 callable_7 callable_8 callable_9 callable_10 callable_11 callable_12 callable_13 callable_14 callable_15 callable_16 callable_17 callable_18 callable_19 callable_20 callable_21 callable_22 callable_23 callable_24 callable_25 callable_26 callable_27 callable_28 callable_29 callable_30 callable_31 callable_32 callable_33 callable_34 callable_35 callable_36 callable_37 callable_38 callable_39 callable_40 callable_41 callable_42 callable_43 callable_44 callable_45 callable_46 callable_47 callable_48 callable_49 callable_50 callable_51 callable_52 callable_53 callable_54 callable_55 callable_56 callable_57 callable_58 callable_59 callable_60 callable_61 callable_62 callable_63 callable_64 callable_65 callable_66 callable_67 callable_68 callable_69 callable_70 callable_71 callable_72 callable_73 callable_74 callable_75 callable_76 callable_77 callable_78 callable_79 callable_80 callable_81 callable_82 callable_83 callable_84 callable_85 callable_86 callable_87 callable_88 callable_89 callable_90 callable_91 callable_92 callable_93 callable_94 callable_95 callable_96 callable_97 callable_98 callable_99 callable_100 callable_101 callable_102 callable_103 callable_104 callable_105 callable_106 callable_107 callable_108 callable_109 callable_110 callable_111 callable_112 callable_113 callable_114 callable_115 callable_116 callable_117 callable_118 callable_119 callable_120 callable_121 callable_122 callable_123 callable_124 callable_125 callable_126 callable_127 callable_128 callable_129 callable_130 callable_131 callable_132 callable_133 callable_134 callable_135 callable_136 callable_137 callable_138 callable_139 callable_140 callable_141 callable_142 callable_143 callable_144 callable_145 callable_146 callable_147 callable_148 callable_149 callable_150 callable_151 callable_152 callable_153 callable_154 callable_155 callable_156 callable_157 callable_158 callable_159 callable_160 callable_161 callable_162 callable_163 callable_164 callable_165 callable_166 callable_167 callable_168 callable_169 callable_170 callable_171 callable_172 callable_173 callable_174 callable_175
theorem mixed : Try.prog.follows .mixedOrders = true := by kernel_rfl

end Go.Fw.Ty
