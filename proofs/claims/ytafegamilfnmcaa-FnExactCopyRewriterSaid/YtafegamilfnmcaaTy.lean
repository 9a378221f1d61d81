/- The types of the program, as far as they are asked. -/
import Derived.Test.YtafegamilfnmcaaProg
import Derived.Test.YtafegamilfnmcaaFwa
set_option linter.unusedSimpArgs false
set_option linter.unusedVariables false
namespace Go.Fw.Ty
open Go Go.Proofs

theorem tI_0 : tI Try.prog 0 = some (false, 1, [Value.tuple #[]]) := by kernel_rfl
theorem tI_1 : tI Try.prog 1 = some (false, 1, [Value.nilFunc]) := by kernel_rfl
theorem tI_2 : tI Try.prog 2 = some (false, 1, [Value.int IntKind.i64 0]) := by kernel_rfl
theorem tInt_2 : tInt Try.prog 2 = some IntKind.i64 := by kernel_rfl
theorem tI_3 : tI Try.prog 3 = some (false, 1, [Value.int IntKind.i64 0]) := by kernel_rfl
theorem tInt_3 : tInt Try.prog 3 = some IntKind.i64 := by kernel_rfl
theorem tI_4 : tI Try.prog 4 = some (false, 1, [Value.bool false]) := by kernel_rfl
theorem tBool_4 : tBool Try.prog 4 = true := by kernel_rfl
theorem tI_5 : tI Try.prog 5 = some (false, 1, [Value.int IntKind.u8 0]) := by kernel_rfl
theorem tInt_5 : tInt Try.prog 5 = some IntKind.u8 := by kernel_rfl
theorem tI_6 : tI Try.prog 6 = some (false, 1, [Value.int IntKind.u8 0]) := by kernel_rfl
theorem tInt_6 : tInt Try.prog 6 = some IntKind.u8 := by kernel_rfl
theorem tI_7 : tI Try.prog 7 = some (true, 4, [Value.int IntKind.i64 0, Value.int IntKind.i64 0, Value.bool false, Value.int IntKind.u8 0]) := by kernel_rfl
theorem fieldsOk_7 : fieldsOk Try.prog 7 = true := by kernel_rfl
theorem tField_7_0 : tField Try.prog 7 0 = some 0 := by kernel_rfl
theorem placeOf_7_0 : placeOf Try.prog 7 0 = some (0, 1) := by kernel_rfl
theorem tField_7_1 : tField Try.prog 7 1 = some 1 := by kernel_rfl
theorem placeOf_7_1 : placeOf Try.prog 7 1 = some (1, 1) := by kernel_rfl
theorem tField_7_2 : tField Try.prog 7 2 = some 2 := by kernel_rfl
theorem placeOf_7_2 : placeOf Try.prog 7 2 = some (2, 1) := by kernel_rfl
theorem tField_7_3 : tField Try.prog 7 3 = some 3 := by kernel_rfl
theorem placeOf_7_3 : placeOf Try.prog 7 3 = some (3, 1) := by kernel_rfl
theorem tI_8 : tI Try.prog 8 = some (true, 4, [Value.int IntKind.i64 0, Value.int IntKind.i64 0, Value.bool false, Value.int IntKind.u8 0]) := by kernel_rfl
theorem fieldsOk_8 : fieldsOk Try.prog 8 = true := by kernel_rfl
theorem tField_8_0 : tField Try.prog 8 0 = some 0 := by kernel_rfl
theorem placeOf_8_0 : placeOf Try.prog 8 0 = some (0, 1) := by kernel_rfl
theorem tField_8_1 : tField Try.prog 8 1 = some 1 := by kernel_rfl
theorem placeOf_8_1 : placeOf Try.prog 8 1 = some (1, 1) := by kernel_rfl
theorem tField_8_2 : tField Try.prog 8 2 = some 2 := by kernel_rfl
theorem placeOf_8_2 : placeOf Try.prog 8 2 = some (2, 1) := by kernel_rfl
theorem tField_8_3 : tField Try.prog 8 3 = some 3 := by kernel_rfl
theorem placeOf_8_3 : placeOf Try.prog 8 3 = some (3, 1) := by kernel_rfl
theorem tI_9 : tI Try.prog 9 = some (false, 1, [Value.string ⟨#[]⟩]) := by kernel_rfl
theorem tStr_9 : tStr Try.prog 9 = true := by kernel_rfl
theorem tI_10 : tI Try.prog 10 = some (false, 1, [Value.string ⟨#[]⟩]) := by kernel_rfl
theorem tStr_10 : tStr Try.prog 10 = true := by kernel_rfl
theorem tI_11 : tI Try.prog 11 = some (false, 1, [Value.string ⟨#[]⟩]) := by kernel_rfl
theorem tStr_11 : tStr Try.prog 11 = true := by kernel_rfl
theorem tI_12 : tI Try.prog 12 = some (false, 1, [Value.int IntKind.u64 0]) := by kernel_rfl
theorem tInt_12 : tInt Try.prog 12 = some IntKind.u64 := by kernel_rfl
theorem tI_13 : tI Try.prog 13 = some (true, 2, [Value.string ⟨#[]⟩, Value.int IntKind.u64 0]) := by kernel_rfl
theorem fieldsOk_13 : fieldsOk Try.prog 13 = true := by kernel_rfl
theorem tField_13_0 : tField Try.prog 13 0 = some 0 := by kernel_rfl
theorem placeOf_13_0 : placeOf Try.prog 13 0 = some (0, 1) := by kernel_rfl
theorem tField_13_1 : tField Try.prog 13 1 = some 1 := by kernel_rfl
theorem placeOf_13_1 : placeOf Try.prog 13 1 = some (1, 1) := by kernel_rfl
theorem tI_14 : tI Try.prog 14 = some (true, 2, [Value.string ⟨#[]⟩, Value.int IntKind.u64 0]) := by kernel_rfl
theorem fieldsOk_14 : fieldsOk Try.prog 14 = true := by kernel_rfl
theorem tField_14_0 : tField Try.prog 14 0 = some 0 := by kernel_rfl
theorem placeOf_14_0 : placeOf Try.prog 14 0 = some (0, 1) := by kernel_rfl
theorem tField_14_1 : tField Try.prog 14 1 = some 1 := by kernel_rfl
theorem placeOf_14_1 : placeOf Try.prog 14 1 = some (1, 1) := by kernel_rfl
theorem tI_15 : tI Try.prog 15 = some (false, 1, [Value.pointer Option.none]) := by kernel_rfl
theorem tI_16 : tI Try.prog 16 = some (false, 1, [Value.pointer Option.none]) := by kernel_rfl
theorem tI_17 : tI Try.prog 17 = some (false, 1, [Value.pointer Option.none]) := by kernel_rfl
theorem tI_18 : tI Try.prog 18 = some (true, 1, [Value.pointer Option.none]) := by kernel_rfl
theorem fieldsOk_18 : fieldsOk Try.prog 18 = true := by kernel_rfl
theorem tField_18_0 : tField Try.prog 18 0 = some 0 := by kernel_rfl
theorem placeOf_18_0 : placeOf Try.prog 18 0 = some (0, 1) := by kernel_rfl
theorem tI_19 : tI Try.prog 19 = some (true, 1, [Value.pointer Option.none]) := by kernel_rfl
theorem fieldsOk_19 : fieldsOk Try.prog 19 = true := by kernel_rfl
theorem tField_19_0 : tField Try.prog 19 0 = some 0 := by kernel_rfl
theorem placeOf_19_0 : placeOf Try.prog 19 0 = some (0, 1) := by kernel_rfl
theorem tI_20 : tI Try.prog 20 = some (false, 1, [Value.nilIface]) := by kernel_rfl
theorem tI_21 : tI Try.prog 21 = some (false, 1, [Value.int IntKind.i32 0]) := by kernel_rfl
theorem tInt_21 : tInt Try.prog 21 = some IntKind.i32 := by kernel_rfl
theorem tI_22 : tI Try.prog 22 = some (false, 1, [Value.slice Option.none 0 0]) := by kernel_rfl
theorem tElem_22 : tElem Try.prog 22 = some (1, 24, 37) := by kernel_rfl
theorem tI_23 : tI Try.prog 23 = some (false, 1, [Value.slice Option.none 0 0]) := by kernel_rfl
theorem tElem_23 : tElem Try.prog 23 = some (1, 24, 24) := by kernel_rfl
theorem tI_24 : tI Try.prog 24 = some (false, 1, [Value.slice Option.none 0 0]) := by kernel_rfl
theorem tElem_24 : tElem Try.prog 24 = some (1, 16, 9) := by kernel_rfl
theorem tI_25 : tI Try.prog 25 = some (true, 3, [Value.slice Option.none 0 0, Value.slice Option.none 0 0, Value.slice Option.none 0 0]) := by kernel_rfl
theorem fieldsOk_25 : fieldsOk Try.prog 25 = true := by kernel_rfl
theorem tField_25_0 : tField Try.prog 25 0 = some 0 := by kernel_rfl
theorem placeOf_25_0 : placeOf Try.prog 25 0 = some (0, 1) := by kernel_rfl
theorem tField_25_1 : tField Try.prog 25 1 = some 1 := by kernel_rfl
theorem placeOf_25_1 : placeOf Try.prog 25 1 = some (1, 1) := by kernel_rfl
theorem tField_25_2 : tField Try.prog 25 2 = some 2 := by kernel_rfl
theorem placeOf_25_2 : placeOf Try.prog 25 2 = some (2, 1) := by kernel_rfl
theorem tI_26 : tI Try.prog 26 = some (true, 3, [Value.slice Option.none 0 0, Value.slice Option.none 0 0, Value.slice Option.none 0 0]) := by kernel_rfl
theorem fieldsOk_26 : fieldsOk Try.prog 26 = true := by kernel_rfl
theorem tField_26_0 : tField Try.prog 26 0 = some 0 := by kernel_rfl
theorem placeOf_26_0 : placeOf Try.prog 26 0 = some (0, 1) := by kernel_rfl
theorem tField_26_1 : tField Try.prog 26 1 = some 1 := by kernel_rfl
theorem placeOf_26_1 : placeOf Try.prog 26 1 = some (1, 1) := by kernel_rfl
theorem tField_26_2 : tField Try.prog 26 2 = some 2 := by kernel_rfl
theorem placeOf_26_2 : placeOf Try.prog 26 2 = some (2, 1) := by kernel_rfl
theorem tI_27 : tI Try.prog 27 = some (false, 1, [Value.nilFunc]) := by kernel_rfl
theorem tI_28 : tI Try.prog 28 = some (false, 1, [Value.nilFunc]) := by kernel_rfl
theorem tI_29 : tI Try.prog 29 = some (false, 1, [Value.nilFunc]) := by kernel_rfl
theorem tI_30 : tI Try.prog 30 = some (false, 1, [Value.nilFunc]) := by kernel_rfl
theorem tI_31 : tI Try.prog 31 = some (true, 3, [Value.slice Option.none 0 0, Value.slice Option.none 0 0, Value.slice Option.none 0 0]) := by kernel_rfl
theorem fieldsOk_31 : fieldsOk Try.prog 31 = true := by kernel_rfl
theorem tField_31_0 : tField Try.prog 31 0 = some 0 := by kernel_rfl
theorem placeOf_31_0 : placeOf Try.prog 31 0 = some (0, 1) := by kernel_rfl
theorem tField_31_1 : tField Try.prog 31 1 = some 1 := by kernel_rfl
theorem placeOf_31_1 : placeOf Try.prog 31 1 = some (1, 1) := by kernel_rfl
theorem tField_31_2 : tField Try.prog 31 2 = some 2 := by kernel_rfl
theorem placeOf_31_2 : placeOf Try.prog 31 2 = some (2, 1) := by kernel_rfl
theorem tI_32 : tI Try.prog 32 = some (false, 1, [Value.nilFunc]) := by kernel_rfl
theorem tI_33 : tI Try.prog 33 = some (false, 1, [Value.tuple { toList := [Value.agg { toList := [Value.slice Option.none 0 0, Value.slice Option.none 0 0, Value.slice Option.none 0 0] }, Value.bool false] }]) := by kernel_rfl
theorem tI_34 : tI Try.prog 34 = some (false, 1, [Value.nilFunc]) := by kernel_rfl
theorem tI_35 : tI Try.prog 35 = some (false, 1, [Value.nilFunc]) := by kernel_rfl
theorem tI_36 : tI Try.prog 36 = some (false, 1, [Value.nilFunc]) := by kernel_rfl
theorem tI_37 : tI Try.prog 37 = some (false, 1, [Value.slice Option.none 0 0]) := by kernel_rfl
theorem tElem_37 : tElem Try.prog 37 = some (1, 8, 3) := by kernel_rfl
theorem tI_38 : tI Try.prog 38 = some (false, 1, [Value.nilFunc]) := by kernel_rfl
theorem tI_39 : tI Try.prog 39 = some (false, 1, [Value.nilFunc]) := by kernel_rfl
theorem tI_40 : tI Try.prog 40 = some (false, 1, [Value.nilFunc]) := by kernel_rfl
theorem tI_41 : tI Try.prog 41 = some (false, 1, [Value.nilFunc]) := by kernel_rfl
theorem tI_42 : tI Try.prog 42 = some (false, 1, [Value.nilFunc]) := by kernel_rfl
theorem tI_43 : tI Try.prog 43 = some (false, 1, [Value.nilFunc]) := by kernel_rfl
theorem tI_44 : tI Try.prog 44 = some (false, 1, [Value.nilFunc]) := by kernel_rfl
theorem tI_45 : tI Try.prog 45 = some (false, 1, [Value.nilFunc]) := by kernel_rfl
theorem tI_46 : tI Try.prog 46 = some (false, 1, [Value.tuple { toList := [Value.int IntKind.i64 0, Value.string ⟨#[]⟩] }]) := by kernel_rfl
theorem tI_47 : tI Try.prog 47 = some (false, 1, [Value.nilFunc]) := by kernel_rfl
theorem tI_48 : tI Try.prog 48 = some (false, 1, [Value.nilFunc]) := by kernel_rfl
theorem tI_49 : tI Try.prog 49 = some (false, 1, [Value.nilFunc]) := by kernel_rfl
theorem tI_50 : tI Try.prog 50 = some (false, 1, [Value.nilFunc]) := by kernel_rfl
theorem tI_51 : tI Try.prog 51 = some (false, 1, [Value.slice Option.none 0 0]) := by kernel_rfl
theorem tElem_51 : tElem Try.prog 51 = some (1, 1, 4) := by kernel_rfl
theorem tI_52 : tI Try.prog 52 = some (true, 2, [Value.slice Option.none 0 0, Value.slice Option.none 0 0]) := by kernel_rfl
theorem fieldsOk_52 : fieldsOk Try.prog 52 = true := by kernel_rfl
theorem tField_52_0 : tField Try.prog 52 0 = some 0 := by kernel_rfl
theorem placeOf_52_0 : placeOf Try.prog 52 0 = some (0, 1) := by kernel_rfl
theorem tField_52_1 : tField Try.prog 52 1 = some 1 := by kernel_rfl
theorem placeOf_52_1 : placeOf Try.prog 52 1 = some (1, 1) := by kernel_rfl
theorem tI_53 : tI Try.prog 53 = some (true, 2, [Value.slice Option.none 0 0, Value.slice Option.none 0 0]) := by kernel_rfl
theorem fieldsOk_53 : fieldsOk Try.prog 53 = true := by kernel_rfl
theorem tField_53_0 : tField Try.prog 53 0 = some 0 := by kernel_rfl
theorem placeOf_53_0 : placeOf Try.prog 53 0 = some (0, 1) := by kernel_rfl
theorem tField_53_1 : tField Try.prog 53 1 = some 1 := by kernel_rfl
theorem placeOf_53_1 : placeOf Try.prog 53 1 = some (1, 1) := by kernel_rfl
theorem tI_54 : tI Try.prog 54 = some (false, 1, [Value.slice Option.none 0 0]) := by kernel_rfl
theorem tElem_54 : tElem Try.prog 54 = some (2, 16, 58) := by kernel_rfl
theorem tI_55 : tI Try.prog 55 = some (false, 1, [Value.tuple { toList := [Value.agg { toList := [Value.slice Option.none 0 0, Value.slice Option.none 0 0] }, Value.slice Option.none 0 0, Value.bool false] }]) := by kernel_rfl
theorem tI_56 : tI Try.prog 56 = some (false, 1, [Value.nilFunc]) := by kernel_rfl
theorem tI_57 : tI Try.prog 57 = some (true, 2, [Value.int IntKind.i64 0, Value.int IntKind.i64 0]) := by kernel_rfl
theorem tArr_57 : tArr Try.prog 57 = some (2, 1, false) := by kernel_rfl
theorem tEqS_57 : tEqS Try.prog 57 = some [IntKind.i64, IntKind.i64] := by kernel_rfl
theorem fieldsOk_57 : fieldsOk Try.prog 57 = true := by kernel_rfl
theorem placeOf_57_0 : placeOf Try.prog 57 0 = some (0, 1) := by kernel_rfl
theorem placeOf_57_1 : placeOf Try.prog 57 1 = some (1, 1) := by kernel_rfl
theorem placeOf_57_2 : placeOf Try.prog 57 2 = some (2, 1) := by kernel_rfl
theorem placeOf_57_3 : placeOf Try.prog 57 3 = some (3, 1) := by kernel_rfl
theorem placeOf_57_4 : placeOf Try.prog 57 4 = some (4, 1) := by kernel_rfl
theorem placeOf_57_5 : placeOf Try.prog 57 5 = some (5, 1) := by kernel_rfl
theorem placeOf_57_6 : placeOf Try.prog 57 6 = some (6, 1) := by kernel_rfl
theorem placeOf_57_7 : placeOf Try.prog 57 7 = some (7, 1) := by kernel_rfl
theorem placeOf_57_8 : placeOf Try.prog 57 8 = some (8, 1) := by kernel_rfl
theorem placeOf_57_9 : placeOf Try.prog 57 9 = some (9, 1) := by kernel_rfl
theorem placeOf_57_10 : placeOf Try.prog 57 10 = some (10, 1) := by kernel_rfl
theorem placeOf_57_11 : placeOf Try.prog 57 11 = some (11, 1) := by kernel_rfl
theorem tI_58 : tI Try.prog 58 = some (true, 2, [Value.int IntKind.i64 0, Value.int IntKind.i64 0]) := by kernel_rfl
theorem tArr_58 : tArr Try.prog 58 = some (2, 1, false) := by kernel_rfl
theorem tEqS_58 : tEqS Try.prog 58 = some [IntKind.i64, IntKind.i64] := by kernel_rfl
theorem fieldsOk_58 : fieldsOk Try.prog 58 = true := by kernel_rfl
theorem placeOf_58_0 : placeOf Try.prog 58 0 = some (0, 1) := by kernel_rfl
theorem placeOf_58_1 : placeOf Try.prog 58 1 = some (1, 1) := by kernel_rfl
theorem placeOf_58_2 : placeOf Try.prog 58 2 = some (2, 1) := by kernel_rfl
theorem placeOf_58_3 : placeOf Try.prog 58 3 = some (3, 1) := by kernel_rfl
theorem placeOf_58_4 : placeOf Try.prog 58 4 = some (4, 1) := by kernel_rfl
theorem placeOf_58_5 : placeOf Try.prog 58 5 = some (5, 1) := by kernel_rfl
theorem placeOf_58_6 : placeOf Try.prog 58 6 = some (6, 1) := by kernel_rfl
theorem placeOf_58_7 : placeOf Try.prog 58 7 = some (7, 1) := by kernel_rfl
theorem placeOf_58_8 : placeOf Try.prog 58 8 = some (8, 1) := by kernel_rfl
theorem placeOf_58_9 : placeOf Try.prog 58 9 = some (9, 1) := by kernel_rfl
theorem placeOf_58_10 : placeOf Try.prog 58 10 = some (10, 1) := by kernel_rfl
theorem placeOf_58_11 : placeOf Try.prog 58 11 = some (11, 1) := by kernel_rfl
theorem tI_59 : tI Try.prog 59 = some (false, 1, [Value.nilFunc]) := by kernel_rfl
theorem tI_60 : tI Try.prog 60 = some (false, 1, [Value.nilFunc]) := by kernel_rfl
theorem tI_61 : tI Try.prog 61 = some (false, 1, [Value.nilFunc]) := by kernel_rfl
theorem tI_62 : tI Try.prog 62 = some (false, 1, [Value.nilFunc]) := by kernel_rfl
theorem tI_63 : tI Try.prog 63 = some (false, 1, [Value.nilFunc]) := by kernel_rfl
theorem tI_64 : tI Try.prog 64 = some (false, 1, [Value.nilFunc]) := by kernel_rfl
theorem tI_65 : tI Try.prog 65 = some (false, 1, [Value.nilFunc]) := by kernel_rfl
theorem tI_66 : tI Try.prog 66 = some (false, 1, [Value.nilFunc]) := by kernel_rfl
theorem tI_67 : tI Try.prog 67 = some (false, 1, [Value.nilFunc]) := by kernel_rfl
theorem tI_68 : tI Try.prog 68 = some (false, 1, [Value.nilFunc]) := by kernel_rfl
theorem tI_69 : tI Try.prog 69 = some (false, 1, [Value.nilFunc]) := by kernel_rfl
theorem tI_70 : tI Try.prog 70 = some (false, 1, [Value.nilFunc]) := by kernel_rfl
theorem tI_71 : tI Try.prog 71 = some (false, 1, [Value.nilFunc]) := by kernel_rfl
theorem tI_72 : tI Try.prog 72 = some (false, 1, [Value.map Option.none]) := by kernel_rfl
theorem tMapI_72 : tMapI Try.prog 72 = some (Go.Fw.KK.row [IntKind.i64, IntKind.i64], IntKind.i64) := by kernel_rfl
theorem tI_73 : tI Try.prog 73 = some (false, 1, [Value.tuple { toList := [Value.int IntKind.i64 0, Value.bool false] }]) := by kernel_rfl
theorem tI_74 : tI Try.prog 74 = some (false, 1, [Value.nilFunc]) := by kernel_rfl
theorem tI_75 : tI Try.prog 75 = some (false, 1, [Value.slice Option.none 0 0]) := by kernel_rfl
theorem tElem_75 : tElem Try.prog 75 = some (1, 1, 5) := by kernel_rfl
theorem tByteSl_75 : tByteSl Try.prog 75 = true := by kernel_rfl
theorem tI_76 : tI Try.prog 76 = some (false, 1, [Value.nilFunc]) := by kernel_rfl
theorem tI_77 : tI Try.prog 77 = some (false, 1, [Value.nilFunc]) := by kernel_rfl
theorem tI_78 : tI Try.prog 78 = some (false, 1, [Value.nilFunc]) := by kernel_rfl
theorem tI_79 : tI Try.prog 79 = some (true, 4, [Value.pointer Option.none, Value.pointer Option.none, Value.pointer Option.none, Value.string ⟨#[]⟩]) := by kernel_rfl
theorem fieldsOk_79 : fieldsOk Try.prog 79 = true := by kernel_rfl
theorem tField_79_0 : tField Try.prog 79 0 = some 0 := by kernel_rfl
theorem placeOf_79_0 : placeOf Try.prog 79 0 = some (0, 1) := by kernel_rfl
theorem tField_79_1 : tField Try.prog 79 1 = some 1 := by kernel_rfl
theorem placeOf_79_1 : placeOf Try.prog 79 1 = some (1, 1) := by kernel_rfl
theorem tField_79_2 : tField Try.prog 79 2 = some 2 := by kernel_rfl
theorem placeOf_79_2 : placeOf Try.prog 79 2 = some (2, 1) := by kernel_rfl
theorem tField_79_3 : tField Try.prog 79 3 = some 3 := by kernel_rfl
theorem placeOf_79_3 : placeOf Try.prog 79 3 = some (3, 1) := by kernel_rfl
theorem tI_80 : tI Try.prog 80 = some (true, 4, [Value.pointer Option.none, Value.pointer Option.none, Value.pointer Option.none, Value.string ⟨#[]⟩]) := by kernel_rfl
theorem fieldsOk_80 : fieldsOk Try.prog 80 = true := by kernel_rfl
theorem tField_80_0 : tField Try.prog 80 0 = some 0 := by kernel_rfl
theorem placeOf_80_0 : placeOf Try.prog 80 0 = some (0, 1) := by kernel_rfl
theorem tField_80_1 : tField Try.prog 80 1 = some 1 := by kernel_rfl
theorem placeOf_80_1 : placeOf Try.prog 80 1 = some (1, 1) := by kernel_rfl
theorem tField_80_2 : tField Try.prog 80 2 = some 2 := by kernel_rfl
theorem placeOf_80_2 : placeOf Try.prog 80 2 = some (2, 1) := by kernel_rfl
theorem tField_80_3 : tField Try.prog 80 3 = some 3 := by kernel_rfl
theorem placeOf_80_3 : placeOf Try.prog 80 3 = some (3, 1) := by kernel_rfl
theorem tI_81 : tI Try.prog 81 = some (true, 0, []) := by kernel_rfl
theorem tArr_81 : tArr Try.prog 81 = some (0, 1, false) := by kernel_rfl
theorem fieldsOk_81 : fieldsOk Try.prog 81 = true := by kernel_rfl
theorem placeOf_81_0 : placeOf Try.prog 81 0 = some (0, 1) := by kernel_rfl
theorem placeOf_81_1 : placeOf Try.prog 81 1 = some (1, 1) := by kernel_rfl
theorem placeOf_81_2 : placeOf Try.prog 81 2 = some (2, 1) := by kernel_rfl
theorem placeOf_81_3 : placeOf Try.prog 81 3 = some (3, 1) := by kernel_rfl
theorem placeOf_81_4 : placeOf Try.prog 81 4 = some (4, 1) := by kernel_rfl
theorem placeOf_81_5 : placeOf Try.prog 81 5 = some (5, 1) := by kernel_rfl
theorem placeOf_81_6 : placeOf Try.prog 81 6 = some (6, 1) := by kernel_rfl
theorem placeOf_81_7 : placeOf Try.prog 81 7 = some (7, 1) := by kernel_rfl
theorem placeOf_81_8 : placeOf Try.prog 81 8 = some (8, 1) := by kernel_rfl
theorem placeOf_81_9 : placeOf Try.prog 81 9 = some (9, 1) := by kernel_rfl
theorem placeOf_81_10 : placeOf Try.prog 81 10 = some (10, 1) := by kernel_rfl
theorem placeOf_81_11 : placeOf Try.prog 81 11 = some (11, 1) := by kernel_rfl
theorem tI_82 : tI Try.prog 82 = some (true, 0, []) := by kernel_rfl
theorem fieldsOk_82 : fieldsOk Try.prog 82 = true := by kernel_rfl
theorem placeOf_82_0 : placeOf Try.prog 82 0 = some (0, 0) := by kernel_rfl
theorem tI_83 : tI Try.prog 83 = some (true, 0, []) := by kernel_rfl
theorem fieldsOk_83 : fieldsOk Try.prog 83 = true := by kernel_rfl
theorem placeOf_83_0 : placeOf Try.prog 83 0 = some (0, 0) := by kernel_rfl
theorem tI_84 : tI Try.prog 84 = some (false, 1, [Value.nilFunc]) := by kernel_rfl
theorem tI_85 : tI Try.prog 85 = some (false, 1, [Value.int IntKind.u32 0]) := by kernel_rfl
theorem tInt_85 : tInt Try.prog 85 = some IntKind.u32 := by kernel_rfl
theorem tI_86 : tI Try.prog 86 = some (false, 1, [Value.int IntKind.u8 0]) := by kernel_rfl
theorem tInt_86 : tInt Try.prog 86 = some IntKind.u8 := by kernel_rfl
theorem tI_87 : tI Try.prog 87 = some (false, 1, [Value.int IntKind.u8 0]) := by kernel_rfl
theorem tInt_87 : tInt Try.prog 87 = some IntKind.u8 := by kernel_rfl
theorem tI_88 : tI Try.prog 88 = some (false, 1, [Value.nilFunc]) := by kernel_rfl
theorem tI_89 : tI Try.prog 89 = some (false, 1, [Value.pointer Option.none]) := by kernel_rfl
theorem tI_90 : tI Try.prog 90 = some (false, 1, [Value.int IntKind.i32 0]) := by kernel_rfl
theorem tInt_90 : tInt Try.prog 90 = some IntKind.i32 := by kernel_rfl
theorem tI_91 : tI Try.prog 91 = some (false, 1, [Value.int IntKind.i32 0]) := by kernel_rfl
theorem tInt_91 : tInt Try.prog 91 = some IntKind.i32 := by kernel_rfl
theorem tI_92 : tI Try.prog 92 = some (true, 11, [Value.int IntKind.u64 0, Value.int IntKind.u64 0, Value.int IntKind.u32 0, Value.int IntKind.u8 0, Value.int IntKind.u8 0, Value.int IntKind.u8 0, Value.int IntKind.u8 0, Value.nilFunc, Value.pointer Option.none, Value.int IntKind.i32 0, Value.int IntKind.i32 0]) := by kernel_rfl
theorem fieldsOk_92 : fieldsOk Try.prog 92 = true := by kernel_rfl
theorem tField_92_0 : tField Try.prog 92 0 = some 0 := by kernel_rfl
theorem placeOf_92_0 : placeOf Try.prog 92 0 = some (0, 1) := by kernel_rfl
theorem tField_92_1 : tField Try.prog 92 1 = some 1 := by kernel_rfl
theorem placeOf_92_1 : placeOf Try.prog 92 1 = some (1, 1) := by kernel_rfl
theorem tField_92_2 : tField Try.prog 92 2 = some 2 := by kernel_rfl
theorem placeOf_92_2 : placeOf Try.prog 92 2 = some (2, 1) := by kernel_rfl
theorem tField_92_3 : tField Try.prog 92 3 = some 3 := by kernel_rfl
theorem placeOf_92_3 : placeOf Try.prog 92 3 = some (3, 1) := by kernel_rfl
theorem tField_92_4 : tField Try.prog 92 4 = some 4 := by kernel_rfl
theorem placeOf_92_4 : placeOf Try.prog 92 4 = some (4, 1) := by kernel_rfl
theorem tField_92_5 : tField Try.prog 92 5 = some 5 := by kernel_rfl
theorem placeOf_92_5 : placeOf Try.prog 92 5 = some (5, 1) := by kernel_rfl
theorem tField_92_6 : tField Try.prog 92 6 = some 6 := by kernel_rfl
theorem placeOf_92_6 : placeOf Try.prog 92 6 = some (6, 1) := by kernel_rfl
theorem tField_92_7 : tField Try.prog 92 7 = some 7 := by kernel_rfl
theorem placeOf_92_7 : placeOf Try.prog 92 7 = some (7, 1) := by kernel_rfl
theorem tField_92_8 : tField Try.prog 92 8 = some 8 := by kernel_rfl
theorem placeOf_92_8 : placeOf Try.prog 92 8 = some (8, 1) := by kernel_rfl
theorem tField_92_9 : tField Try.prog 92 9 = some 9 := by kernel_rfl
theorem placeOf_92_9 : placeOf Try.prog 92 9 = some (9, 1) := by kernel_rfl
theorem tField_92_10 : tField Try.prog 92 10 = some 10 := by kernel_rfl
theorem placeOf_92_10 : placeOf Try.prog 92 10 = some (10, 1) := by kernel_rfl
theorem tI_93 : tI Try.prog 93 = some (true, 11, [Value.int IntKind.u64 0, Value.int IntKind.u64 0, Value.int IntKind.u32 0, Value.int IntKind.u8 0, Value.int IntKind.u8 0, Value.int IntKind.u8 0, Value.int IntKind.u8 0, Value.nilFunc, Value.pointer Option.none, Value.int IntKind.i32 0, Value.int IntKind.i32 0]) := by kernel_rfl
theorem fieldsOk_93 : fieldsOk Try.prog 93 = true := by kernel_rfl
theorem tField_93_0 : tField Try.prog 93 0 = some 0 := by kernel_rfl
theorem placeOf_93_0 : placeOf Try.prog 93 0 = some (0, 1) := by kernel_rfl
theorem tField_93_1 : tField Try.prog 93 1 = some 1 := by kernel_rfl
theorem placeOf_93_1 : placeOf Try.prog 93 1 = some (1, 1) := by kernel_rfl
theorem tField_93_2 : tField Try.prog 93 2 = some 2 := by kernel_rfl
theorem placeOf_93_2 : placeOf Try.prog 93 2 = some (2, 1) := by kernel_rfl
theorem tField_93_3 : tField Try.prog 93 3 = some 3 := by kernel_rfl
theorem placeOf_93_3 : placeOf Try.prog 93 3 = some (3, 1) := by kernel_rfl
theorem tField_93_4 : tField Try.prog 93 4 = some 4 := by kernel_rfl
theorem placeOf_93_4 : placeOf Try.prog 93 4 = some (4, 1) := by kernel_rfl
theorem tField_93_5 : tField Try.prog 93 5 = some 5 := by kernel_rfl
theorem placeOf_93_5 : placeOf Try.prog 93 5 = some (5, 1) := by kernel_rfl
theorem tField_93_6 : tField Try.prog 93 6 = some 6 := by kernel_rfl
theorem placeOf_93_6 : placeOf Try.prog 93 6 = some (6, 1) := by kernel_rfl
theorem tField_93_7 : tField Try.prog 93 7 = some 7 := by kernel_rfl
theorem placeOf_93_7 : placeOf Try.prog 93 7 = some (7, 1) := by kernel_rfl
theorem tField_93_8 : tField Try.prog 93 8 = some 8 := by kernel_rfl
theorem placeOf_93_8 : placeOf Try.prog 93 8 = some (8, 1) := by kernel_rfl
theorem tField_93_9 : tField Try.prog 93 9 = some 9 := by kernel_rfl
theorem placeOf_93_9 : placeOf Try.prog 93 9 = some (9, 1) := by kernel_rfl
theorem tField_93_10 : tField Try.prog 93 10 = some 10 := by kernel_rfl
theorem placeOf_93_10 : placeOf Try.prog 93 10 = some (10, 1) := by kernel_rfl
theorem tI_94 : tI Try.prog 94 = some (false, 1, [Value.pointer Option.none]) := by kernel_rfl
theorem callable_2 : callable Try.prog 2 = true := by kernel_rfl
theorem callable_3 : callable Try.prog 3 = true := by kernel_rfl
theorem callable_4 : callable Try.prog 4 = true := by kernel_rfl
theorem callable_5 : callable Try.prog 5 = true := by kernel_rfl
theorem callable_6 : callable Try.prog 6 = true := by kernel_rfl
theorem callable_7 : callable Try.prog 7 = true := by kernel_rfl
theorem callable_8 : callable Try.prog 8 = true := by kernel_rfl
theorem callable_9 : callable Try.prog 9 = true := by kernel_rfl
theorem callable_10 : callable Try.prog 10 = true := by kernel_rfl
theorem callable_11 : callable Try.prog 11 = true := by kernel_rfl
theorem callable_12 : callable Try.prog 12 = true := by kernel_rfl
theorem callable_13 : callable Try.prog 13 = true := by kernel_rfl
theorem callable_14 : callable Try.prog 14 = true := by kernel_rfl
theorem callable_15 : callable Try.prog 15 = true := by kernel_rfl
theorem callable_16 : callable Try.prog 16 = true := by kernel_rfl
theorem callable_17 : callable Try.prog 17 = true := by kernel_rfl
theorem callable_18 : callable Try.prog 18 = true := by kernel_rfl
theorem callable_19 : callable Try.prog 19 = true := by kernel_rfl
theorem callable_20 : callable Try.prog 20 = true := by kernel_rfl
theorem callable_21 : callable Try.prog 21 = true := by kernel_rfl
theorem callable_22 : callable Try.prog 22 = true := by kernel_rfl
theorem callable_23 : callable Try.prog 23 = true := by kernel_rfl
theorem callable_24 : callable Try.prog 24 = true := by kernel_rfl
theorem callable_25 : callable Try.prog 25 = true := by kernel_rfl
theorem callable_26 : callable Try.prog 26 = true := by kernel_rfl
theorem callable_27 : callable Try.prog 27 = true := by kernel_rfl
theorem callable_28 : callable Try.prog 28 = true := by kernel_rfl
theorem callable_29 : callable Try.prog 29 = true := by kernel_rfl
theorem callable_30 : callable Try.prog 30 = true := by kernel_rfl
theorem callable_31 : callable Try.prog 31 = true := by kernel_rfl
theorem callable_32 : callable Try.prog 32 = true := by kernel_rfl
theorem callable_33 : callable Try.prog 33 = true := by kernel_rfl
theorem callable_34 : callable Try.prog 34 = true := by kernel_rfl
theorem callable_35 : callable Try.prog 35 = true := by kernel_rfl
theorem callable_36 : callable Try.prog 36 = true := by kernel_rfl
theorem callable_37 : callable Try.prog 37 = true := by kernel_rfl
theorem callable_38 : callable Try.prog 38 = true := by kernel_rfl
theorem callable_39 : callable Try.prog 39 = true := by kernel_rfl
theorem callable_40 : callable Try.prog 40 = true := by kernel_rfl
theorem callable_41 : callable Try.prog 41 = true := by kernel_rfl
theorem callable_42 : callable Try.prog 42 = true := by kernel_rfl
theorem callable_43 : callable Try.prog 43 = true := by kernel_rfl
theorem callable_44 : callable Try.prog 44 = true := by kernel_rfl
theorem callable_45 : callable Try.prog 45 = true := by kernel_rfl
theorem callable_46 : callable Try.prog 46 = true := by kernel_rfl
theorem callable_47 : callable Try.prog 47 = true := by kernel_rfl
theorem callable_48 : callable Try.prog 48 = true := by kernel_rfl
theorem callable_49 : callable Try.prog 49 = true := by kernel_rfl
theorem callable_50 : callable Try.prog 50 = true := by kernel_rfl
theorem callable_51 : callable Try.prog 51 = true := by kernel_rfl
theorem callable_52 : callable Try.prog 52 = true := by kernel_rfl
theorem callable_53 : callable Try.prog 53 = true := by kernel_rfl
theorem callable_54 : callable Try.prog 54 = true := by kernel_rfl
attribute [simp] tI_0 tI_1 tI_2 tInt_2 tI_3 tInt_3 tI_4 tBool_4 tI_5 tInt_5 tI_6 tInt_6 tI_7 fieldsOk_7 tField_7_0 placeOf_7_0 tField_7_1 placeOf_7_1 tField_7_2 placeOf_7_2 tField_7_3 placeOf_7_3 tI_8 fieldsOk_8 tField_8_0 placeOf_8_0 tField_8_1 placeOf_8_1 tField_8_2 placeOf_8_2 tField_8_3 placeOf_8_3 tI_9 tStr_9 tI_10 tStr_10 tI_11 tStr_11 tI_12 tInt_12 tI_13 fieldsOk_13 tField_13_0 placeOf_13_0 tField_13_1 placeOf_13_1 tI_14 fieldsOk_14 tField_14_0 placeOf_14_0 tField_14_1 placeOf_14_1 tI_15 tI_16 tI_17 tI_18 fieldsOk_18 tField_18_0 placeOf_18_0 tI_19 fieldsOk_19 tField_19_0 placeOf_19_0 tI_20 tI_21 tInt_21 tI_22 tElem_22 tI_23 tElem_23 tI_24 tElem_24 tI_25 fieldsOk_25 tField_25_0 placeOf_25_0 tField_25_1 placeOf_25_1 tField_25_2 placeOf_25_2 tI_26 fieldsOk_26 tField_26_0 placeOf_26_0 tField_26_1 placeOf_26_1 tField_26_2 placeOf_26_2 tI_27 tI_28 tI_29 tI_30 tI_31 fieldsOk_31 tField_31_0 placeOf_31_0 tField_31_1 placeOf_31_1 tField_31_2 placeOf_31_2 tI_32 tI_33 tI_34 tI_35 tI_36 tI_37 tElem_37 tI_38 tI_39 tI_40 tI_41 tI_42 tI_43 tI_44 tI_45 tI_46 tI_47 tI_48 tI_49 tI_50 tI_51 tElem_51 tI_52 fieldsOk_52 tField_52_0 placeOf_52_0 tField_52_1 placeOf_52_1 tI_53 fieldsOk_53 tField_53_0 placeOf_53_0 tField_53_1 placeOf_53_1 tI_54 tElem_54 tI_55 tI_56 tI_57 tArr_57 tEqS_57 fieldsOk_57 placeOf_57_0 placeOf_57_1 placeOf_57_2 placeOf_57_3 placeOf_57_4 placeOf_57_5 placeOf_57_6 placeOf_57_7 placeOf_57_8 placeOf_57_9 placeOf_57_10 placeOf_57_11 tI_58 tArr_58 tEqS_58 fieldsOk_58 placeOf_58_0 placeOf_58_1 placeOf_58_2 placeOf_58_3 placeOf_58_4 placeOf_58_5 placeOf_58_6 placeOf_58_7 placeOf_58_8 placeOf_58_9 placeOf_58_10 placeOf_58_11 tI_59 tI_60 tI_61 tI_62 tI_63 tI_64 tI_65 tI_66 tI_67 tI_68 tI_69 tI_70 tI_71 tI_72 tMapI_72 tI_73 tI_74 tI_75 tElem_75 tByteSl_75 tI_76 tI_77 tI_78 tI_79 fieldsOk_79 tField_79_0 placeOf_79_0 tField_79_1 placeOf_79_1 tField_79_2 placeOf_79_2 tField_79_3 placeOf_79_3 tI_80 fieldsOk_80 tField_80_0 placeOf_80_0 tField_80_1 placeOf_80_1 tField_80_2 placeOf_80_2 tField_80_3 placeOf_80_3 tI_81 tArr_81 fieldsOk_81 placeOf_81_0 placeOf_81_1 placeOf_81_2 placeOf_81_3 placeOf_81_4 placeOf_81_5 placeOf_81_6 placeOf_81_7 placeOf_81_8 placeOf_81_9 placeOf_81_10 placeOf_81_11 tI_82 fieldsOk_82 placeOf_82_0 tI_83 fieldsOk_83 placeOf_83_0 tI_84 tI_85 tInt_85 tI_86 tInt_86 tI_87 tInt_87 tI_88 tI_89 tI_90 tInt_90 tI_91 tInt_91 tI_92 fieldsOk_92 tField_92_0 placeOf_92_0 tField_92_1 placeOf_92_1 tField_92_2 placeOf_92_2 tField_92_3 placeOf_92_3 tField_92_4 placeOf_92_4 tField_92_5 placeOf_92_5 tField_92_6 placeOf_92_6 tField_92_7 placeOf_92_7 tField_92_8 placeOf_92_8 tField_92_9 placeOf_92_9 tField_92_10 placeOf_92_10 tI_93 fieldsOk_93 tField_93_0 placeOf_93_0 tField_93_1 placeOf_93_1 tField_93_2 placeOf_93_2 tField_93_3 placeOf_93_3 tField_93_4 placeOf_93_4 tField_93_5 placeOf_93_5 tField_93_6 placeOf_93_6 tField_93_7 placeOf_93_7 tField_93_8 placeOf_93_8 tField_93_9 placeOf_93_9 tField_93_10 placeOf_93_10 tI_94 callable_2 callable_3 callable_4 callable_5 callable_6 callable_7 callable_8 callable_9 callable_10 callable_11 callable_12 callable_13 callable_14 callable_15 callable_16 callable_17 callable_18 callable_19 callable_20 callable_21 callable_22 callable_23 callable_24 callable_25 callable_26 callable_27 callable_28 callable_29 callable_30 callable_31 callable_32 callable_33 callable_34 callable_35 callable_36 callable_37 callable_38 callable_39 callable_40 callable_41 callable_42 callable_43 callable_44 callable_45 callable_46 callable_47 callable_48 callable_49 callable_50 callable_51 callable_52 callable_53 callable_54
theorem mixed : Try.prog.follows .mixedOrders = true := by kernel_rfl

end Go.Fw.Ty
