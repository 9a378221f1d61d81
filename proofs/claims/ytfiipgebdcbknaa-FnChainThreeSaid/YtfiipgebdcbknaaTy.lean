/- The types of the program, as far as they are asked. -/
import Derived.Test.YtfiipgebdcbknaaProg
import Derived.Test.YtfiipgebdcbknaaFwM
set_option linter.unusedSimpArgs false
set_option linter.unusedVariables false
namespace Go.Fw.Ty
open Go Go.Proofs

theorem tI_0 : tI Try.prog 0 = some (false, 1, [Value.tuple #[]]) := by kernel_rfl
theorem tI_1 : tI Try.prog 1 = some (false, 1, [Value.nilFunc]) := by kernel_rfl
theorem tI_2 : tI Try.prog 2 = some (false, 1, [Value.int IntKind.i64 0]) := by kernel_rfl
theorem tInt_2 : tInt Try.prog 2 = some IntKind.i64 := by kernel_rfl
theorem tI_3 : tI Try.prog 3 = some (false, 1, [Value.int IntKind.i64 0]) := by kernel_rfl
theorem tInt_3 : tInt Try.prog 3 = some IntKind.i64 := by kernel_rfl
theorem tI_4 : tI Try.prog 4 = some (false, 1, [Value.bool false]) := by kernel_rfl
theorem tBool_4 : tBool Try.prog 4 = true := by kernel_rfl
theorem tI_5 : tI Try.prog 5 = some (false, 1, [Value.int IntKind.u8 0]) := by kernel_rfl
theorem tInt_5 : tInt Try.prog 5 = some IntKind.u8 := by kernel_rfl
theorem tI_6 : tI Try.prog 6 = some (false, 1, [Value.int IntKind.u8 0]) := by kernel_rfl
theorem tInt_6 : tInt Try.prog 6 = some IntKind.u8 := by kernel_rfl
theorem tI_7 : tI Try.prog 7 = some (true, 4, [Value.int IntKind.i64 0, Value.int IntKind.i64 0, Value.bool false, Value.int IntKind.u8 0]) := by kernel_rfl
theorem fieldsOk_7 : fieldsOk Try.prog 7 = true := by kernel_rfl
theorem tField_7_0 : tField Try.prog 7 0 = some 0 := by kernel_rfl
theorem placeOf_7_0 : placeOf Try.prog 7 0 = some (0, 1) := by kernel_rfl
theorem tField_7_1 : tField Try.prog 7 1 = some 1 := by kernel_rfl
theorem placeOf_7_1 : placeOf Try.prog 7 1 = some (1, 1) := by kernel_rfl
theorem tField_7_2 : tField Try.prog 7 2 = some 2 := by kernel_rfl
theorem placeOf_7_2 : placeOf Try.prog 7 2 = some (2, 1) := by kernel_rfl
theorem tField_7_3 : tField Try.prog 7 3 = some 3 := by kernel_rfl
theorem placeOf_7_3 : placeOf Try.prog 7 3 = some (3, 1) := by kernel_rfl
theorem tI_8 : tI Try.prog 8 = some (true, 4, [Value.int IntKind.i64 0, Value.int IntKind.i64 0, Value.bool false, Value.int IntKind.u8 0]) := by kernel_rfl
theorem fieldsOk_8 : fieldsOk Try.prog 8 = true := by kernel_rfl
theorem tField_8_0 : tField Try.prog 8 0 = some 0 := by kernel_rfl
theorem placeOf_8_0 : placeOf Try.prog 8 0 = some (0, 1) := by kernel_rfl
theorem tField_8_1 : tField Try.prog 8 1 = some 1 := by kernel_rfl
theorem placeOf_8_1 : placeOf Try.prog 8 1 = some (1, 1) := by kernel_rfl
theorem tField_8_2 : tField Try.prog 8 2 = some 2 := by kernel_rfl
theorem placeOf_8_2 : placeOf Try.prog 8 2 = some (2, 1) := by kernel_rfl
theorem tField_8_3 : tField Try.prog 8 3 = some 3 := by kernel_rfl
theorem placeOf_8_3 : placeOf Try.prog 8 3 = some (3, 1) := by kernel_rfl
theorem tI_9 : tI Try.prog 9 = some (false, 1, [Value.string ⟨#[]⟩]) := by kernel_rfl
theorem tStr_9 : tStr Try.prog 9 = true := by kernel_rfl
theorem tI_10 : tI Try.prog 10 = some (false, 1, [Value.string ⟨#[]⟩]) := by kernel_rfl
theorem tStr_10 : tStr Try.prog 10 = true := by kernel_rfl
theorem tI_11 : tI Try.prog 11 = some (false, 1, [Value.string ⟨#[]⟩]) := by kernel_rfl
theorem tStr_11 : tStr Try.prog 11 = true := by kernel_rfl
theorem tI_12 : tI Try.prog 12 = some (false, 1, [Value.int IntKind.u64 0]) := by kernel_rfl
theorem tInt_12 : tInt Try.prog 12 = some IntKind.u64 := by kernel_rfl
theorem tI_13 : tI Try.prog 13 = some (true, 2, [Value.string ⟨#[]⟩, Value.int IntKind.u64 0]) := by kernel_rfl
theorem fieldsOk_13 : fieldsOk Try.prog 13 = true := by kernel_rfl
theorem tField_13_0 : tField Try.prog 13 0 = some 0 := by kernel_rfl
theorem placeOf_13_0 : placeOf Try.prog 13 0 = some (0, 1) := by kernel_rfl
theorem tField_13_1 : tField Try.prog 13 1 = some 1 := by kernel_rfl
theorem placeOf_13_1 : placeOf Try.prog 13 1 = some (1, 1) := by kernel_rfl
theorem tI_14 : tI Try.prog 14 = some (true, 2, [Value.string ⟨#[]⟩, Value.int IntKind.u64 0]) := by kernel_rfl
theorem fieldsOk_14 : fieldsOk Try.prog 14 = true := by kernel_rfl
theorem tField_14_0 : tField Try.prog 14 0 = some 0 := by kernel_rfl
theorem placeOf_14_0 : placeOf Try.prog 14 0 = some (0, 1) := by kernel_rfl
theorem tField_14_1 : tField Try.prog 14 1 = some 1 := by kernel_rfl
theorem placeOf_14_1 : placeOf Try.prog 14 1 = some (1, 1) := by kernel_rfl
theorem tI_15 : tI Try.prog 15 = some (false, 1, [Value.pointer Option.none]) := by kernel_rfl
theorem tI_16 : tI Try.prog 16 = some (false, 1, [Value.pointer Option.none]) := by kernel_rfl
theorem tI_17 : tI Try.prog 17 = some (false, 1, [Value.pointer Option.none]) := by kernel_rfl
theorem tI_18 : tI Try.prog 18 = some (true, 1, [Value.pointer Option.none]) := by kernel_rfl
theorem fieldsOk_18 : fieldsOk Try.prog 18 = true := by kernel_rfl
theorem tField_18_0 : tField Try.prog 18 0 = some 0 := by kernel_rfl
theorem placeOf_18_0 : placeOf Try.prog 18 0 = some (0, 1) := by kernel_rfl
theorem tI_19 : tI Try.prog 19 = some (true, 1, [Value.pointer Option.none]) := by kernel_rfl
theorem fieldsOk_19 : fieldsOk Try.prog 19 = true := by kernel_rfl
theorem tField_19_0 : tField Try.prog 19 0 = some 0 := by kernel_rfl
theorem placeOf_19_0 : placeOf Try.prog 19 0 = some (0, 1) := by kernel_rfl
theorem tI_20 : tI Try.prog 20 = some (false, 1, [Value.nilIface]) := by kernel_rfl
theorem tI_21 : tI Try.prog 21 = some (false, 1, [Value.int IntKind.i32 0]) := by kernel_rfl
theorem tInt_21 : tInt Try.prog 21 = some IntKind.i32 := by kernel_rfl
theorem tI_22 : tI Try.prog 22 = some (false, 1, [Value.slice Option.none 0 0]) := by kernel_rfl
theorem tElem_22 : tElem Try.prog 22 = some (1, 1, 5) := by kernel_rfl
theorem tByteSl_22 : tByteSl Try.prog 22 = true := by kernel_rfl
theorem tI_23 : tI Try.prog 23 = some (false, 1, [Value.slice Option.none 0 0]) := by kernel_rfl
theorem tElem_23 : tElem Try.prog 23 = some (1, 24, 51) := by kernel_rfl
theorem tI_24 : tI Try.prog 24 = some (false, 1, [Value.slice Option.none 0 0]) := by kernel_rfl
theorem tElem_24 : tElem Try.prog 24 = some (1, 24, 25) := by kernel_rfl
theorem tI_25 : tI Try.prog 25 = some (false, 1, [Value.slice Option.none 0 0]) := by kernel_rfl
theorem tElem_25 : tElem Try.prog 25 = some (1, 16, 9) := by kernel_rfl
theorem tI_26 : tI Try.prog 26 = some (true, 3, [Value.slice Option.none 0 0, Value.slice Option.none 0 0, Value.slice Option.none 0 0]) := by kernel_rfl
theorem fieldsOk_26 : fieldsOk Try.prog 26 = true := by kernel_rfl
theorem tField_26_0 : tField Try.prog 26 0 = some 0 := by kernel_rfl
theorem placeOf_26_0 : placeOf Try.prog 26 0 = some (0, 1) := by kernel_rfl
theorem tField_26_1 : tField Try.prog 26 1 = some 1 := by kernel_rfl
theorem placeOf_26_1 : placeOf Try.prog 26 1 = some (1, 1) := by kernel_rfl
theorem tField_26_2 : tField Try.prog 26 2 = some 2 := by kernel_rfl
theorem placeOf_26_2 : placeOf Try.prog 26 2 = some (2, 1) := by kernel_rfl
theorem tI_27 : tI Try.prog 27 = some (true, 3, [Value.slice Option.none 0 0, Value.slice Option.none 0 0, Value.slice Option.none 0 0]) := by kernel_rfl
theorem fieldsOk_27 : fieldsOk Try.prog 27 = true := by kernel_rfl
theorem tField_27_0 : tField Try.prog 27 0 = some 0 := by kernel_rfl
theorem placeOf_27_0 : placeOf Try.prog 27 0 = some (0, 1) := by kernel_rfl
theorem tField_27_1 : tField Try.prog 27 1 = some 1 := by kernel_rfl
theorem placeOf_27_1 : placeOf Try.prog 27 1 = some (1, 1) := by kernel_rfl
theorem tField_27_2 : tField Try.prog 27 2 = some 2 := by kernel_rfl
theorem placeOf_27_2 : placeOf Try.prog 27 2 = some (2, 1) := by kernel_rfl
theorem tI_28 : tI Try.prog 28 = some (false, 1, [Value.nilFunc]) := by kernel_rfl
theorem tI_29 : tI Try.prog 29 = some (false, 1, [Value.nilFunc]) := by kernel_rfl
theorem tI_30 : tI Try.prog 30 = some (false, 1, [Value.nilFunc]) := by kernel_rfl
theorem tI_31 : tI Try.prog 31 = some (false, 1, [Value.nilFunc]) := by kernel_rfl
theorem tI_32 : tI Try.prog 32 = some (false, 1, [Value.nilFunc]) := by kernel_rfl
theorem tI_33 : tI Try.prog 33 = some (false, 1, [Value.nilFunc]) := by kernel_rfl
theorem tI_34 : tI Try.prog 34 = some (false, 1, [Value.nilFunc]) := by kernel_rfl
theorem tI_35 : tI Try.prog 35 = some (false, 1, [Value.nilFunc]) := by kernel_rfl
theorem tI_36 : tI Try.prog 36 = some (false, 1, [Value.nilFunc]) := by kernel_rfl
theorem tI_37 : tI Try.prog 37 = some (false, 1, [Value.nilFunc]) := by kernel_rfl
theorem tI_38 : tI Try.prog 38 = some (false, 1, [Value.tuple { toList := [Value.agg { toList := [Value.slice Option.none 0 0, Value.slice Option.none 0 0, Value.slice Option.none 0 0] }, Value.string ⟨#[]⟩] }]) := by kernel_rfl
theorem tI_39 : tI Try.prog 39 = some (false, 1, [Value.nilFunc]) := by kernel_rfl
theorem tI_40 : tI Try.prog 40 = some (true, 3, [Value.slice Option.none 0 0, Value.slice Option.none 0 0, Value.slice Option.none 0 0]) := by kernel_rfl
theorem fieldsOk_40 : fieldsOk Try.prog 40 = true := by kernel_rfl
theorem tField_40_0 : tField Try.prog 40 0 = some 0 := by kernel_rfl
theorem placeOf_40_0 : placeOf Try.prog 40 0 = some (0, 1) := by kernel_rfl
theorem tField_40_1 : tField Try.prog 40 1 = some 1 := by kernel_rfl
theorem placeOf_40_1 : placeOf Try.prog 40 1 = some (1, 1) := by kernel_rfl
theorem tField_40_2 : tField Try.prog 40 2 = some 2 := by kernel_rfl
theorem placeOf_40_2 : placeOf Try.prog 40 2 = some (2, 1) := by kernel_rfl
theorem tI_41 : tI Try.prog 41 = some (false, 1, [Value.nilFunc]) := by kernel_rfl
theorem tI_42 : tI Try.prog 42 = some (false, 1, [Value.nilFunc]) := by kernel_rfl
theorem tI_43 : tI Try.prog 43 = some (false, 1, [Value.nilFunc]) := by kernel_rfl
theorem tI_44 : tI Try.prog 44 = some (false, 1, [Value.nilFunc]) := by kernel_rfl
theorem tI_45 : tI Try.prog 45 = some (false, 1, [Value.tuple { toList := [Value.agg { toList := [Value.slice Option.none 0 0, Value.slice Option.none 0 0, Value.slice Option.none 0 0] }, Value.bool false] }]) := by kernel_rfl
theorem tI_46 : tI Try.prog 46 = some (false, 1, [Value.nilFunc]) := by kernel_rfl
theorem tI_47 : tI Try.prog 47 = some (false, 1, [Value.tuple { toList := [Value.agg { toList := [Value.slice Option.none 0 0, Value.slice Option.none 0 0, Value.slice Option.none 0 0] }, Value.agg { toList := [Value.slice Option.none 0 0, Value.slice Option.none 0 0, Value.slice Option.none 0 0] }] }]) := by kernel_rfl
theorem tI_48 : tI Try.prog 48 = some (false, 1, [Value.nilFunc]) := by kernel_rfl
theorem tI_49 : tI Try.prog 49 = some (false, 1, [Value.nilFunc]) := by kernel_rfl
theorem tI_50 : tI Try.prog 50 = some (false, 1, [Value.nilFunc]) := by kernel_rfl
theorem tI_51 : tI Try.prog 51 = some (false, 1, [Value.slice Option.none 0 0]) := by kernel_rfl
theorem tElem_51 : tElem Try.prog 51 = some (1, 8, 3) := by kernel_rfl
theorem tI_52 : tI Try.prog 52 = some (false, 1, [Value.nilFunc]) := by kernel_rfl
theorem tI_53 : tI Try.prog 53 = some (false, 1, [Value.nilFunc]) := by kernel_rfl
theorem tI_54 : tI Try.prog 54 = some (false, 1, [Value.pointer Option.none]) := by kernel_rfl
theorem tI_55 : tI Try.prog 55 = some (false, 1, [Value.nilFunc]) := by kernel_rfl
theorem tI_56 : tI Try.prog 56 = some (false, 1, [Value.nilFunc]) := by kernel_rfl
theorem tI_57 : tI Try.prog 57 = some (false, 1, [Value.nilFunc]) := by kernel_rfl
theorem tI_58 : tI Try.prog 58 = some (false, 1, [Value.nilFunc]) := by kernel_rfl
theorem tI_59 : tI Try.prog 59 = some (false, 1, [Value.nilFunc]) := by kernel_rfl
theorem tI_60 : tI Try.prog 60 = some (false, 1, [Value.tuple { toList := [Value.int IntKind.i64 0, Value.string ⟨#[]⟩] }]) := by kernel_rfl
theorem tI_61 : tI Try.prog 61 = some (false, 1, [Value.nilFunc]) := by kernel_rfl
theorem tI_62 : tI Try.prog 62 = some (false, 1, [Value.nilFunc]) := by kernel_rfl
theorem tI_63 : tI Try.prog 63 = some (false, 1, [Value.nilFunc]) := by kernel_rfl
theorem tI_64 : tI Try.prog 64 = some (false, 1, [Value.nilFunc]) := by kernel_rfl
theorem tI_65 : tI Try.prog 65 = some (false, 1, [Value.nilFunc]) := by kernel_rfl
theorem tI_66 : tI Try.prog 66 = some (false, 1, [Value.nilFunc]) := by kernel_rfl
theorem tI_67 : tI Try.prog 67 = some (false, 1, [Value.nilFunc]) := by kernel_rfl
theorem tI_68 : tI Try.prog 68 = some (false, 1, [Value.nilFunc]) := by kernel_rfl
theorem tI_69 : tI Try.prog 69 = some (false, 1, [Value.nilFunc]) := by kernel_rfl
theorem tI_70 : tI Try.prog 70 = some (false, 1, [Value.nilFunc]) := by kernel_rfl
theorem tI_71 : tI Try.prog 71 = some (false, 1, [Value.nilFunc]) := by kernel_rfl
theorem tI_72 : tI Try.prog 72 = some (false, 1, [Value.nilFunc]) := by kernel_rfl
theorem tI_73 : tI Try.prog 73 = some (false, 1, [Value.nilFunc]) := by kernel_rfl
theorem tI_74 : tI Try.prog 74 = some (false, 1, [Value.nilFunc]) := by kernel_rfl
theorem tI_75 : tI Try.prog 75 = some (false, 1, [Value.slice Option.none 0 0]) := by kernel_rfl
theorem tElem_75 : tElem Try.prog 75 = some (1, 1, 4) := by kernel_rfl
theorem tI_76 : tI Try.prog 76 = some (true, 2, [Value.slice Option.none 0 0, Value.slice Option.none 0 0]) := by kernel_rfl
theorem fieldsOk_76 : fieldsOk Try.prog 76 = true := by kernel_rfl
theorem tField_76_0 : tField Try.prog 76 0 = some 0 := by kernel_rfl
theorem placeOf_76_0 : placeOf Try.prog 76 0 = some (0, 1) := by kernel_rfl
theorem tField_76_1 : tField Try.prog 76 1 = some 1 := by kernel_rfl
theorem placeOf_76_1 : placeOf Try.prog 76 1 = some (1, 1) := by kernel_rfl
theorem tI_77 : tI Try.prog 77 = some (true, 2, [Value.slice Option.none 0 0, Value.slice Option.none 0 0]) := by kernel_rfl
theorem fieldsOk_77 : fieldsOk Try.prog 77 = true := by kernel_rfl
theorem tField_77_0 : tField Try.prog 77 0 = some 0 := by kernel_rfl
theorem placeOf_77_0 : placeOf Try.prog 77 0 = some (0, 1) := by kernel_rfl
theorem tField_77_1 : tField Try.prog 77 1 = some 1 := by kernel_rfl
theorem placeOf_77_1 : placeOf Try.prog 77 1 = some (1, 1) := by kernel_rfl
theorem tI_78 : tI Try.prog 78 = some (false, 1, [Value.slice Option.none 0 0]) := by kernel_rfl
theorem tElem_78 : tElem Try.prog 78 = some (2, 16, 82) := by kernel_rfl
theorem tI_79 : tI Try.prog 79 = some (false, 1, [Value.tuple { toList := [Value.agg { toList := [Value.slice Option.none 0 0, Value.slice Option.none 0 0] }, Value.slice Option.none 0 0, Value.bool false] }]) := by kernel_rfl
theorem tI_80 : tI Try.prog 80 = some (false, 1, [Value.nilFunc]) := by kernel_rfl
theorem tI_81 : tI Try.prog 81 = some (true, 2, [Value.int IntKind.i64 0, Value.int IntKind.i64 0]) := by kernel_rfl
theorem tArr_81 : tArr Try.prog 81 = some (2, 1, false) := by kernel_rfl
theorem tEqS_81 : tEqS Try.prog 81 = some [IntKind.i64, IntKind.i64] := by kernel_rfl
theorem fieldsOk_81 : fieldsOk Try.prog 81 = true := by kernel_rfl
theorem placeOf_81_0 : placeOf Try.prog 81 0 = some (0, 1) := by kernel_rfl
theorem placeOf_81_1 : placeOf Try.prog 81 1 = some (1, 1) := by kernel_rfl
theorem placeOf_81_2 : placeOf Try.prog 81 2 = some (2, 1) := by kernel_rfl
theorem placeOf_81_3 : placeOf Try.prog 81 3 = some (3, 1) := by kernel_rfl
theorem placeOf_81_4 : placeOf Try.prog 81 4 = some (4, 1) := by kernel_rfl
theorem placeOf_81_5 : placeOf Try.prog 81 5 = some (5, 1) := by kernel_rfl
theorem placeOf_81_6 : placeOf Try.prog 81 6 = some (6, 1) := by kernel_rfl
theorem placeOf_81_7 : placeOf Try.prog 81 7 = some (7, 1) := by kernel_rfl
theorem placeOf_81_8 : placeOf Try.prog 81 8 = some (8, 1) := by kernel_rfl
theorem placeOf_81_9 : placeOf Try.prog 81 9 = some (9, 1) := by kernel_rfl
theorem placeOf_81_10 : placeOf Try.prog 81 10 = some (10, 1) := by kernel_rfl
theorem placeOf_81_11 : placeOf Try.prog 81 11 = some (11, 1) := by kernel_rfl
theorem tI_82 : tI Try.prog 82 = some (true, 2, [Value.int IntKind.i64 0, Value.int IntKind.i64 0]) := by kernel_rfl
theorem tArr_82 : tArr Try.prog 82 = some (2, 1, false) := by kernel_rfl
theorem tEqS_82 : tEqS Try.prog 82 = some [IntKind.i64, IntKind.i64] := by kernel_rfl
theorem fieldsOk_82 : fieldsOk Try.prog 82 = true := by kernel_rfl
theorem placeOf_82_0 : placeOf Try.prog 82 0 = some (0, 1) := by kernel_rfl
theorem placeOf_82_1 : placeOf Try.prog 82 1 = some (1, 1) := by kernel_rfl
theorem placeOf_82_2 : placeOf Try.prog 82 2 = some (2, 1) := by kernel_rfl
theorem placeOf_82_3 : placeOf Try.prog 82 3 = some (3, 1) := by kernel_rfl
theorem placeOf_82_4 : placeOf Try.prog 82 4 = some (4, 1) := by kernel_rfl
theorem placeOf_82_5 : placeOf Try.prog 82 5 = some (5, 1) := by kernel_rfl
theorem placeOf_82_6 : placeOf Try.prog 82 6 = some (6, 1) := by kernel_rfl
theorem placeOf_82_7 : placeOf Try.prog 82 7 = some (7, 1) := by kernel_rfl
theorem placeOf_82_8 : placeOf Try.prog 82 8 = some (8, 1) := by kernel_rfl
theorem placeOf_82_9 : placeOf Try.prog 82 9 = some (9, 1) := by kernel_rfl
theorem placeOf_82_10 : placeOf Try.prog 82 10 = some (10, 1) := by kernel_rfl
theorem placeOf_82_11 : placeOf Try.prog 82 11 = some (11, 1) := by kernel_rfl
theorem tI_83 : tI Try.prog 83 = some (false, 1, [Value.nilFunc]) := by kernel_rfl
theorem tI_84 : tI Try.prog 84 = some (false, 1, [Value.nilFunc]) := by kernel_rfl
theorem tI_85 : tI Try.prog 85 = some (false, 1, [Value.nilFunc]) := by kernel_rfl
theorem tI_86 : tI Try.prog 86 = some (false, 1, [Value.nilFunc]) := by kernel_rfl
theorem tI_87 : tI Try.prog 87 = some (true, 2, [Value.slice Option.none 0 0, Value.int IntKind.i64 0]) := by kernel_rfl
theorem fieldsOk_87 : fieldsOk Try.prog 87 = true := by kernel_rfl
theorem tField_87_0 : tField Try.prog 87 0 = some 0 := by kernel_rfl
theorem placeOf_87_0 : placeOf Try.prog 87 0 = some (0, 1) := by kernel_rfl
theorem tField_87_1 : tField Try.prog 87 1 = some 1 := by kernel_rfl
theorem placeOf_87_1 : placeOf Try.prog 87 1 = some (1, 1) := by kernel_rfl
theorem tI_88 : tI Try.prog 88 = some (true, 2, [Value.slice Option.none 0 0, Value.int IntKind.i64 0]) := by kernel_rfl
theorem fieldsOk_88 : fieldsOk Try.prog 88 = true := by kernel_rfl
theorem tField_88_0 : tField Try.prog 88 0 = some 0 := by kernel_rfl
theorem placeOf_88_0 : placeOf Try.prog 88 0 = some (0, 1) := by kernel_rfl
theorem tField_88_1 : tField Try.prog 88 1 = some 1 := by kernel_rfl
theorem placeOf_88_1 : placeOf Try.prog 88 1 = some (1, 1) := by kernel_rfl
theorem tI_89 : tI Try.prog 89 = some (false, 1, [Value.nilFunc]) := by kernel_rfl
theorem tI_90 : tI Try.prog 90 = some (false, 1, [Value.nilFunc]) := by kernel_rfl
theorem tI_91 : tI Try.prog 91 = some (false, 1, [Value.nilFunc]) := by kernel_rfl
theorem tI_92 : tI Try.prog 92 = some (false, 1, [Value.nilFunc]) := by kernel_rfl
theorem tI_93 : tI Try.prog 93 = some (false, 1, [Value.nilFunc]) := by kernel_rfl
theorem tI_94 : tI Try.prog 94 = some (false, 1, [Value.nilFunc]) := by kernel_rfl
theorem tI_95 : tI Try.prog 95 = some (false, 1, [Value.nilFunc]) := by kernel_rfl
theorem tI_96 : tI Try.prog 96 = some (false, 1, [Value.map Option.none]) := by kernel_rfl
theorem tMapI_96 : tMapI Try.prog 96 = some (Go.Fw.KK.row [IntKind.i64, IntKind.i64], IntKind.i64) := by kernel_rfl
theorem tI_97 : tI Try.prog 97 = some (false, 1, [Value.tuple { toList := [Value.int IntKind.i64 0, Value.bool false] }]) := by kernel_rfl
theorem tI_98 : tI Try.prog 98 = some (false, 1, [Value.nilFunc]) := by kernel_rfl
theorem tI_99 : tI Try.prog 99 = some (true, 4, [Value.pointer Option.none, Value.pointer Option.none, Value.pointer Option.none, Value.string ⟨#[]⟩]) := by kernel_rfl
theorem fieldsOk_99 : fieldsOk Try.prog 99 = true := by kernel_rfl
theorem tField_99_0 : tField Try.prog 99 0 = some 0 := by kernel_rfl
theorem placeOf_99_0 : placeOf Try.prog 99 0 = some (0, 1) := by kernel_rfl
theorem tField_99_1 : tField Try.prog 99 1 = some 1 := by kernel_rfl
theorem placeOf_99_1 : placeOf Try.prog 99 1 = some (1, 1) := by kernel_rfl
theorem tField_99_2 : tField Try.prog 99 2 = some 2 := by kernel_rfl
theorem placeOf_99_2 : placeOf Try.prog 99 2 = some (2, 1) := by kernel_rfl
theorem tField_99_3 : tField Try.prog 99 3 = some 3 := by kernel_rfl
theorem placeOf_99_3 : placeOf Try.prog 99 3 = some (3, 1) := by kernel_rfl
theorem tI_100 : tI Try.prog 100 = some (true, 4, [Value.pointer Option.none, Value.pointer Option.none, Value.pointer Option.none, Value.string ⟨#[]⟩]) := by kernel_rfl
theorem fieldsOk_100 : fieldsOk Try.prog 100 = true := by kernel_rfl
theorem tField_100_0 : tField Try.prog 100 0 = some 0 := by kernel_rfl
theorem placeOf_100_0 : placeOf Try.prog 100 0 = some (0, 1) := by kernel_rfl
theorem tField_100_1 : tField Try.prog 100 1 = some 1 := by kernel_rfl
theorem placeOf_100_1 : placeOf Try.prog 100 1 = some (1, 1) := by kernel_rfl
theorem tField_100_2 : tField Try.prog 100 2 = some 2 := by kernel_rfl
theorem placeOf_100_2 : placeOf Try.prog 100 2 = some (2, 1) := by kernel_rfl
theorem tField_100_3 : tField Try.prog 100 3 = some 3 := by kernel_rfl
theorem placeOf_100_3 : placeOf Try.prog 100 3 = some (3, 1) := by kernel_rfl
theorem tI_101 : tI Try.prog 101 = some (true, 0, []) := by kernel_rfl
theorem tArr_101 : tArr Try.prog 101 = some (0, 1, false) := by kernel_rfl
theorem fieldsOk_101 : fieldsOk Try.prog 101 = true := by kernel_rfl
theorem placeOf_101_0 : placeOf Try.prog 101 0 = some (0, 1) := by kernel_rfl
theorem placeOf_101_1 : placeOf Try.prog 101 1 = some (1, 1) := by kernel_rfl
theorem placeOf_101_2 : placeOf Try.prog 101 2 = some (2, 1) := by kernel_rfl
theorem placeOf_101_3 : placeOf Try.prog 101 3 = some (3, 1) := by kernel_rfl
theorem placeOf_101_4 : placeOf Try.prog 101 4 = some (4, 1) := by kernel_rfl
theorem placeOf_101_5 : placeOf Try.prog 101 5 = some (5, 1) := by kernel_rfl
theorem placeOf_101_6 : placeOf Try.prog 101 6 = some (6, 1) := by kernel_rfl
theorem placeOf_101_7 : placeOf Try.prog 101 7 = some (7, 1) := by kernel_rfl
theorem placeOf_101_8 : placeOf Try.prog 101 8 = some (8, 1) := by kernel_rfl
theorem placeOf_101_9 : placeOf Try.prog 101 9 = some (9, 1) := by kernel_rfl
theorem placeOf_101_10 : placeOf Try.prog 101 10 = some (10, 1) := by kernel_rfl
theorem placeOf_101_11 : placeOf Try.prog 101 11 = some (11, 1) := by kernel_rfl
theorem tI_102 : tI Try.prog 102 = some (true, 0, []) := by kernel_rfl
theorem fieldsOk_102 : fieldsOk Try.prog 102 = true := by kernel_rfl
theorem placeOf_102_0 : placeOf Try.prog 102 0 = some (0, 0) := by kernel_rfl
theorem tI_103 : tI Try.prog 103 = some (true, 0, []) := by kernel_rfl
theorem fieldsOk_103 : fieldsOk Try.prog 103 = true := by kernel_rfl
theorem placeOf_103_0 : placeOf Try.prog 103 0 = some (0, 0) := by kernel_rfl
theorem tI_104 : tI Try.prog 104 = some (false, 1, [Value.nilFunc]) := by kernel_rfl
theorem tI_105 : tI Try.prog 105 = some (false, 1, [Value.int IntKind.u32 0]) := by kernel_rfl
theorem tInt_105 : tInt Try.prog 105 = some IntKind.u32 := by kernel_rfl
theorem tI_106 : tI Try.prog 106 = some (false, 1, [Value.int IntKind.u8 0]) := by kernel_rfl
theorem tInt_106 : tInt Try.prog 106 = some IntKind.u8 := by kernel_rfl
theorem tI_107 : tI Try.prog 107 = some (false, 1, [Value.int IntKind.u8 0]) := by kernel_rfl
theorem tInt_107 : tInt Try.prog 107 = some IntKind.u8 := by kernel_rfl
theorem tI_108 : tI Try.prog 108 = some (false, 1, [Value.nilFunc]) := by kernel_rfl
theorem tI_109 : tI Try.prog 109 = some (false, 1, [Value.pointer Option.none]) := by kernel_rfl
theorem tI_110 : tI Try.prog 110 = some (false, 1, [Value.int IntKind.i32 0]) := by kernel_rfl
theorem tInt_110 : tInt Try.prog 110 = some IntKind.i32 := by kernel_rfl
theorem tI_111 : tI Try.prog 111 = some (false, 1, [Value.int IntKind.i32 0]) := by kernel_rfl
theorem tInt_111 : tInt Try.prog 111 = some IntKind.i32 := by kernel_rfl
theorem tI_112 : tI Try.prog 112 = some (true, 11, [Value.int IntKind.u64 0, Value.int IntKind.u64 0, Value.int IntKind.u32 0, Value.int IntKind.u8 0, Value.int IntKind.u8 0, Value.int IntKind.u8 0, Value.int IntKind.u8 0, Value.nilFunc, Value.pointer Option.none, Value.int IntKind.i32 0, Value.int IntKind.i32 0]) := by kernel_rfl
theorem fieldsOk_112 : fieldsOk Try.prog 112 = true := by kernel_rfl
theorem tField_112_0 : tField Try.prog 112 0 = some 0 := by kernel_rfl
theorem placeOf_112_0 : placeOf Try.prog 112 0 = some (0, 1) := by kernel_rfl
theorem tField_112_1 : tField Try.prog 112 1 = some 1 := by kernel_rfl
theorem placeOf_112_1 : placeOf Try.prog 112 1 = some (1, 1) := by kernel_rfl
theorem tField_112_2 : tField Try.prog 112 2 = some 2 := by kernel_rfl
theorem placeOf_112_2 : placeOf Try.prog 112 2 = some (2, 1) := by kernel_rfl
theorem tField_112_3 : tField Try.prog 112 3 = some 3 := by kernel_rfl
theorem placeOf_112_3 : placeOf Try.prog 112 3 = some (3, 1) := by kernel_rfl
theorem tField_112_4 : tField Try.prog 112 4 = some 4 := by kernel_rfl
theorem placeOf_112_4 : placeOf Try.prog 112 4 = some (4, 1) := by kernel_rfl
theorem tField_112_5 : tField Try.prog 112 5 = some 5 := by kernel_rfl
theorem placeOf_112_5 : placeOf Try.prog 112 5 = some (5, 1) := by kernel_rfl
theorem tField_112_6 : tField Try.prog 112 6 = some 6 := by kernel_rfl
theorem placeOf_112_6 : placeOf Try.prog 112 6 = some (6, 1) := by kernel_rfl
theorem tField_112_7 : tField Try.prog 112 7 = some 7 := by kernel_rfl
theorem placeOf_112_7 : placeOf Try.prog 112 7 = some (7, 1) := by kernel_rfl
theorem tField_112_8 : tField Try.prog 112 8 = some 8 := by kernel_rfl
theorem placeOf_112_8 : placeOf Try.prog 112 8 = some (8, 1) := by kernel_rfl
theorem tField_112_9 : tField Try.prog 112 9 = some 9 := by kernel_rfl
theorem placeOf_112_9 : placeOf Try.prog 112 9 = some (9, 1) := by kernel_rfl
theorem tField_112_10 : tField Try.prog 112 10 = some 10 := by kernel_rfl
theorem placeOf_112_10 : placeOf Try.prog 112 10 = some (10, 1) := by kernel_rfl
theorem tI_113 : tI Try.prog 113 = some (true, 11, [Value.int IntKind.u64 0, Value.int IntKind.u64 0, Value.int IntKind.u32 0, Value.int IntKind.u8 0, Value.int IntKind.u8 0, Value.int IntKind.u8 0, Value.int IntKind.u8 0, Value.nilFunc, Value.pointer Option.none, Value.int IntKind.i32 0, Value.int IntKind.i32 0]) := by kernel_rfl
theorem fieldsOk_113 : fieldsOk Try.prog 113 = true := by kernel_rfl
theorem tField_113_0 : tField Try.prog 113 0 = some 0 := by kernel_rfl
theorem placeOf_113_0 : placeOf Try.prog 113 0 = some (0, 1) := by kernel_rfl
theorem tField_113_1 : tField Try.prog 113 1 = some 1 := by kernel_rfl
theorem placeOf_113_1 : placeOf Try.prog 113 1 = some (1, 1) := by kernel_rfl
theorem tField_113_2 : tField Try.prog 113 2 = some 2 := by kernel_rfl
theorem placeOf_113_2 : placeOf Try.prog 113 2 = some (2, 1) := by kernel_rfl
theorem tField_113_3 : tField Try.prog 113 3 = some 3 := by kernel_rfl
theorem placeOf_113_3 : placeOf Try.prog 113 3 = some (3, 1) := by kernel_rfl
theorem tField_113_4 : tField Try.prog 113 4 = some 4 := by kernel_rfl
theorem placeOf_113_4 : placeOf Try.prog 113 4 = some (4, 1) := by kernel_rfl
theorem tField_113_5 : tField Try.prog 113 5 = some 5 := by kernel_rfl
theorem placeOf_113_5 : placeOf Try.prog 113 5 = some (5, 1) := by kernel_rfl
theorem tField_113_6 : tField Try.prog 113 6 = some 6 := by kernel_rfl
theorem placeOf_113_6 : placeOf Try.prog 113 6 = some (6, 1) := by kernel_rfl
theorem tField_113_7 : tField Try.prog 113 7 = some 7 := by kernel_rfl
theorem placeOf_113_7 : placeOf Try.prog 113 7 = some (7, 1) := by kernel_rfl
theorem tField_113_8 : tField Try.prog 113 8 = some 8 := by kernel_rfl
theorem placeOf_113_8 : placeOf Try.prog 113 8 = some (8, 1) := by kernel_rfl
theorem tField_113_9 : tField Try.prog 113 9 = some 9 := by kernel_rfl
theorem placeOf_113_9 : placeOf Try.prog 113 9 = some (9, 1) := by kernel_rfl
theorem tField_113_10 : tField Try.prog 113 10 = some 10 := by kernel_rfl
theorem placeOf_113_10 : placeOf Try.prog 113 10 = some (10, 1) := by kernel_rfl
theorem tI_114 : tI Try.prog 114 = some (false, 1, [Value.pointer Option.none]) := by kernel_rfl
theorem callable_2 : callable Try.prog 2 = true := by kernel_rfl
theorem callable_3 : callable Try.prog 3 = true := by kernel_rfl
theorem callable_4 : callable Try.prog 4 = true := by kernel_rfl
theorem callable_5 : callable Try.prog 5 = true := by kernel_rfl
theorem callable_6 : callable Try.prog 6 = true := by kernel_rfl
theorem callable_7 : callable Try.prog 7 = true := by kernel_rfl
theorem callable_8 : callable Try.prog 8 = true := by kernel_rfl
theorem callable_9 : callable Try.prog 9 = true := by kernel_rfl
theorem callable_10 : callable Try.prog 10 = true := by kernel_rfl
theorem callable_11 : callable Try.prog 11 = true := by kernel_rfl
theorem callable_12 : callable Try.prog 12 = true := by kernel_rfl
theorem callable_13 : callable Try.prog 13 = true := by kernel_rfl
theorem callable_14 : callable Try.prog 14 = true := by kernel_rfl
theorem callable_15 : callable Try.prog 15 = true := by kernel_rfl
theorem callable_16 : callable Try.prog 16 = true := by kernel_rfl
theorem callable_17 : callable Try.prog 17 = true := by kernel_rfl
theorem callable_18 : callable Try.prog 18 = true := by kernel_rfl
theorem callable_19 : callable Try.prog 19 = true := by kernel_rfl
theorem callable_20 : callable Try.prog 20 = true := by kernel_rfl
theorem callable_21 : callable Try.prog 21 = true := by kernel_rfl
theorem callable_22 : callable Try.prog 22 = true := by kernel_rfl
theorem callable_23 : callable Try.prog 23 = true := by kernel_rfl
theorem callable_24 : callable Try.prog 24 = true := by kernel_rfl
theorem callable_25 : callable Try.prog 25 = true := by kernel_rfl
theorem callable_26 : callable Try.prog 26 = true := by kernel_rfl
theorem callable_27 : callable Try.prog 27 = true := by kernel_rfl
theorem callable_28 : callable Try.prog 28 = true := by kernel_rfl
theorem callable_29 : callable Try.prog 29 = true := by kernel_rfl
theorem callable_30 : callable Try.prog 30 = true := by kernel_rfl
theorem callable_31 : callable Try.prog 31 = true := by kernel_rfl
theorem callable_32 : callable Try.prog 32 = true := by kernel_rfl
theorem callable_33 : callable Try.prog 33 = true := by kernel_rfl
theorem callable_34 : callable Try.prog 34 = true := by kernel_rfl
theorem callable_35 : callable Try.prog 35 = true := by kernel_rfl
theorem callable_36 : callable Try.prog 36 = true := by kernel_rfl
theorem callable_37 : callable Try.prog 37 = true := by kernel_rfl
theorem callable_38 : callable Try.prog 38 = true := by kernel_rfl
theorem callable_39 : callable Try.prog 39 = true := by kernel_rfl
theorem callable_40 : callable Try.prog 40 = true := by kernel_rfl
theorem callable_41 : callable Try.prog 41 = true := by kernel_rfl
theorem callable_42 : callable Try.prog 42 = true := by kernel_rfl
theorem callable_43 : callable Try.prog 43 = true := by kernel_rfl
theorem callable_44 : callable Try.prog 44 = true := by kernel_rfl
theorem callable_45 : callable Try.prog 45 = true := by kernel_rfl
theorem callable_46 : callable Try.prog 46 = true := by kernel_rfl
theorem callable_47 : callable Try.prog 47 = true := by kernel_rfl
theorem callable_48 : callable Try.prog 48 = true := by kernel_rfl
theorem callable_49 : callable Try.prog 49 = true := by kernel_rfl
theorem callable_50 : callable Try.prog 50 = true := by kernel_rfl
theorem callable_51 : callable Try.prog 51 = true := by kernel_rfl
theorem callable_52 : callable Try.prog 52 = true := by kernel_rfl
theorem callable_53 : callable Try.prog 53 = true := by kernel_rfl
theorem callable_54 : callable Try.prog 54 = true := by kernel_rfl
theorem callable_55 : callable Try.prog 55 = true := by kernel_rfl
theorem callable_56 : callable Try.prog 56 = true := by kernel_rfl
theorem callable_57 : callable Try.prog 57 = true := by kernel_rfl
theorem callable_58 : callable Try.prog 58 = true := by kernel_rfl
theorem callable_59 : callable Try.prog 59 = true := by kernel_rfl
theorem callable_60 : callable Try.prog 60 = true := by kernel_rfl
theorem callable_61 : callable Try.prog 61 = true := by kernel_rfl
theorem callable_62 : callable Try.prog 62 = true := by kernel_rfl
theorem callable_63 : callable Try.prog 63 = true := by kernel_rfl
theorem callable_64 : callable Try.prog 64 = true := by kernel_rfl
theorem callable_65 : callable Try.prog 65 = true := by kernel_rfl
theorem callable_66 : callable Try.prog 66 = true := by kernel_rfl
theorem callable_67 : callable Try.prog 67 = true := by kernel_rfl
theorem callable_68 : callable Try.prog 68 = true := by kernel_rfl
theorem callable_69 : callable Try.prog 69 = true := by kernel_rfl
theorem callable_70 : callable Try.prog 70 = true := by kernel_rfl
theorem callable_71 : callable Try.prog 71 = true := by kernel_rfl
theorem callable_72 : callable Try.prog 72 = true := by kernel_rfl
theorem callable_73 : callable Try.prog 73 = true := by kernel_rfl
theorem callable_74 : callable Try.prog 74 = true := by kernel_rfl
theorem callable_75 : callable Try.prog 75 = true := by kernel_rfl
theorem callable_76 : callable Try.prog 76 = true := by kernel_rfl
theorem callable_77 : callable Try.prog 77 = true := by kernel_rfl
theorem callable_78 : callable Try.prog 78 = true := by kernel_rfl
theorem callable_79 : callable Try.prog 79 = true := by kernel_rfl
theorem callable_80 : callable Try.prog 80 = true := by kernel_rfl
theorem callable_81 : callable Try.prog 81 = true := by kernel_rfl
theorem callable_82 : callable Try.prog 82 = true := by kernel_rfl
theorem callable_83 : callable Try.prog 83 = true := by kernel_rfl
theorem callable_84 : callable Try.prog 84 = true := by kernel_rfl
attribute [simp] tI_0 tI_1 tI_2 tInt_2 tI_3 tInt_3 tI_4 tBool_4 tI_5 tInt_5 tI_6 tInt_6 tI_7 fieldsOk_7 tField_7_0 placeOf_7_0 tField_7_1 placeOf_7_1 tField_7_2 placeOf_7_2 tField_7_3 placeOf_7_3 tI_8 fieldsOk_8 tField_8_0 placeOf_8_0 tField_8_1 placeOf_8_1 tField_8_2 placeOf_8_2 tField_8_3 placeOf_8_3 tI_9 tStr_9 tI_10 tStr_10 tI_11 tStr_11 tI_12 tInt_12 tI_13 fieldsOk_13 tField_13_0 placeOf_13_0 tField_13_1 placeOf_13_1 tI_14 fieldsOk_14 tField_14_0 placeOf_14_0 tField_14_1 placeOf_14_1 tI_15 tI_16 tI_17 tI_18 fieldsOk_18 tField_18_0 placeOf_18_0 tI_19 fieldsOk_19 tField_19_0 placeOf_19_0 tI_20 tI_21 tInt_21 tI_22 tElem_22 tByteSl_22 tI_23 tElem_23 tI_24 tElem_24 tI_25 tElem_25 tI_26 fieldsOk_26 tField_26_0 placeOf_26_0 tField_26_1 placeOf_26_1 tField_26_2 placeOf_26_2 tI_27 fieldsOk_27 tField_27_0 placeOf_27_0 tField_27_1 placeOf_27_1 tField_27_2 placeOf_27_2 tI_28 tI_29 tI_30 tI_31 tI_32 tI_33 tI_34 tI_35 tI_36 tI_37 tI_38 tI_39 tI_40 fieldsOk_40 tField_40_0 placeOf_40_0 tField_40_1 placeOf_40_1 tField_40_2 placeOf_40_2 tI_41 tI_42 tI_43 tI_44 tI_45 tI_46 tI_47 tI_48 tI_49 tI_50 tI_51 tElem_51 tI_52 tI_53 tI_54 tI_55 tI_56 tI_57 tI_58 tI_59 tI_60 tI_61 tI_62 tI_63 tI_64 tI_65 tI_66 tI_67 tI_68 tI_69 tI_70 tI_71 tI_72 tI_73 tI_74 tI_75 tElem_75 tI_76 fieldsOk_76 tField_76_0 placeOf_76_0 tField_76_1 placeOf_76_1 tI_77 fieldsOk_77 tField_77_0 placeOf_77_0 tField_77_1 placeOf_77_1 tI_78 tElem_78 tI_79 tI_80 tI_81 tArr_81 tEqS_81 fieldsOk_81 placeOf_81_0 placeOf_81_1 placeOf_81_2 placeOf_81_3 placeOf_81_4 placeOf_81_5 placeOf_81_6 placeOf_81_7 placeOf_81_8 placeOf_81_9 placeOf_81_10 placeOf_81_11 tI_82 tArr_82 tEqS_82 fieldsOk_82 placeOf_82_0 placeOf_82_1 placeOf_82_2 placeOf_82_3 placeOf_82_4 placeOf_82_5 placeOf_82_6 placeOf_82_7 placeOf_82_8 placeOf_82_9 placeOf_82_10 placeOf_82_11 tI_83 tI_84 tI_85 tI_86 tI_87 fieldsOk_87 tField_87_0 placeOf_87_0 tField_87_1 placeOf_87_1 tI_88 fieldsOk_88 tField_88_0 placeOf_88_0 tField_88_1 placeOf_88_1 tI_89 tI_90 tI_91 tI_92 tI_93 tI_94 tI_95 tI_96 tMapI_96 tI_97 tI_98 tI_99 fieldsOk_99 tField_99_0 placeOf_99_0 tField_99_1 placeOf_99_1 tField_99_2 placeOf_99_2 tField_99_3 placeOf_99_3 tI_100 fieldsOk_100 tField_100_0 placeOf_100_0 tField_100_1 placeOf_100_1 tField_100_2 placeOf_100_2 tField_100_3 placeOf_100_3 tI_101 tArr_101 fieldsOk_101 placeOf_101_0 placeOf_101_1 placeOf_101_2 placeOf_101_3 placeOf_101_4 placeOf_101_5 placeOf_101_6 placeOf_101_7 placeOf_101_8 placeOf_101_9 placeOf_101_10 placeOf_101_11 tI_102 fieldsOk_102 placeOf_102_0 tI_103 fieldsOk_103 placeOf_103_0 tI_104 tI_105 tInt_105 tI_106 tInt_106 tI_107 tInt_107 tI_108 tI_109 tI_110 tInt_110 tI_111 tInt_111 tI_112 fieldsOk_112 tField_112_0 placeOf_112_0 tField_112_1 placeOf_112_1 tField_112_2 placeOf_112_2 tField_112_3 placeOf_112_3 tField_112_4 placeOf_112_4 tField_112_5 placeOf_112_5 tField_112_6 placeOf_112_6 tField_112_7 placeOf_112_7 tField_112_8 placeOf_112_8 tField_112_9 placeOf_112_9 tField_112_10 placeOf_112_10 tI_113 fieldsOk_113 tField_113_0 placeOf_113_0 tField_113_1 placeOf_113_1 tField_113_2 placeOf_113_2 tField_113_3 placeOf_113_3 tField_113_4 placeOf_113_4 tField_113_5 placeOf_113_5 tField_113_6 placeOf_113_6 tField_113_7 placeOf_113_7 tField_113_8 placeOf_113_8 tField_113_9 placeOf_113_9 tField_113_10 placeOf_113_10 tI_114 callable_2 callable_3 callable_4 callable_5 callable_6 callable_7 callable_8 callable_9 callable_10 callable_11 callable_12 callable_13 callable_14 callable_15 callable_16 callable_17 callable_18 callable_19 callable_20 callable_21 callable_22 callable_23 callable_24 callable_25 callable_26 callable_27 callable_28 callable_29 callable_30 callable_31 callable_32 callable_33 callable_34 callable_35 callable_36 callable_37 callable_38 callable_39 callable_40 callable_41 callable_42 callable_43 callable_44 callable_45 callable_46 callable_47 callable_48 callable_49 callable_50 callable_51 callable_52 callable_53 callable_54 callable_55 callable_56 callable_57 callable_58 callable_59 callable_60 callable_61 callable_62 callable_63 callable_64 callable_65 callable_66 callable_67 callable_68 callable_69 callable_70 callable_71 callable_72 callable_73 callable_74 callable_75 callable_76 callable_77 callable_78 callable_79 callable_80 callable_81 callable_82 callable_83 callable_84
theorem mixed : Try.prog.follows .mixedOrders = true := by kernel_rfl

end Go.Fw.Ty
