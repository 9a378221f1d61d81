/- The types of the program, as far as they are asked. -/
import Derived.Test.YtpecepipllbghaaDoorProg
import Derived.Test.YtpecepipllbghaaDoorFwa
set_option linter.unusedSimpArgs false
set_option linter.unusedVariables false
namespace Go.Fw.Ty
open Go Go.Proofs

theorem tI_0 : tI Tryd.prog 0 = some (false, 1, [Value.tuple #[]]) := by kernel_rfl
theorem tI_1 : tI Tryd.prog 1 = some (false, 1, [Value.nilFunc]) := by kernel_rfl
theorem tI_2 : tI Tryd.prog 2 = some (false, 1, [Value.int IntKind.i64 0]) := by kernel_rfl
theorem tInt_2 : tInt Tryd.prog 2 = some IntKind.i64 := by kernel_rfl
theorem tI_3 : tI Tryd.prog 3 = some (false, 1, [Value.int IntKind.i64 0]) := by kernel_rfl
theorem tInt_3 : tInt Tryd.prog 3 = some IntKind.i64 := by kernel_rfl
theorem tI_4 : tI Tryd.prog 4 = some (false, 1, [Value.bool false]) := by kernel_rfl
theorem tBool_4 : tBool Tryd.prog 4 = true := by kernel_rfl
theorem tI_5 : tI Tryd.prog 5 = some (false, 1, [Value.int IntKind.u8 0]) := by kernel_rfl
theorem tInt_5 : tInt Tryd.prog 5 = some IntKind.u8 := by kernel_rfl
theorem tI_6 : tI Tryd.prog 6 = some (false, 1, [Value.int IntKind.u8 0]) := by kernel_rfl
theorem tInt_6 : tInt Tryd.prog 6 = some IntKind.u8 := by kernel_rfl
theorem tI_7 : tI Tryd.prog 7 = some (true, 4, [Value.int IntKind.i64 0, Value.int IntKind.i64 0, Value.bool false, Value.int IntKind.u8 0]) := by kernel_rfl
theorem fieldsOk_7 : fieldsOk Tryd.prog 7 = true := by kernel_rfl
theorem tField_7_0 : tField Tryd.prog 7 0 = some 0 := by kernel_rfl
theorem placeOf_7_0 : placeOf Tryd.prog 7 0 = some (0, 1) := by kernel_rfl
theorem tField_7_1 : tField Tryd.prog 7 1 = some 1 := by kernel_rfl
theorem placeOf_7_1 : placeOf Tryd.prog 7 1 = some (1, 1) := by kernel_rfl
theorem tField_7_2 : tField Tryd.prog 7 2 = some 2 := by kernel_rfl
theorem placeOf_7_2 : placeOf Tryd.prog 7 2 = some (2, 1) := by kernel_rfl
theorem tField_7_3 : tField Tryd.prog 7 3 = some 3 := by kernel_rfl
theorem placeOf_7_3 : placeOf Tryd.prog 7 3 = some (3, 1) := by kernel_rfl
theorem tI_8 : tI Tryd.prog 8 = some (true, 4, [Value.int IntKind.i64 0, Value.int IntKind.i64 0, Value.bool false, Value.int IntKind.u8 0]) := by kernel_rfl
theorem fieldsOk_8 : fieldsOk Tryd.prog 8 = true := by kernel_rfl
theorem tField_8_0 : tField Tryd.prog 8 0 = some 0 := by kernel_rfl
theorem placeOf_8_0 : placeOf Tryd.prog 8 0 = some (0, 1) := by kernel_rfl
theorem tField_8_1 : tField Tryd.prog 8 1 = some 1 := by kernel_rfl
theorem placeOf_8_1 : placeOf Tryd.prog 8 1 = some (1, 1) := by kernel_rfl
theorem tField_8_2 : tField Tryd.prog 8 2 = some 2 := by kernel_rfl
theorem placeOf_8_2 : placeOf Tryd.prog 8 2 = some (2, 1) := by kernel_rfl
theorem tField_8_3 : tField Tryd.prog 8 3 = some 3 := by kernel_rfl
theorem placeOf_8_3 : placeOf Tryd.prog 8 3 = some (3, 1) := by kernel_rfl
theorem tI_9 : tI Tryd.prog 9 = some (false, 1, [Value.string ⟨#[]⟩]) := by kernel_rfl
theorem tStr_9 : tStr Tryd.prog 9 = true := by kernel_rfl
theorem tI_10 : tI Tryd.prog 10 = some (false, 1, [Value.string ⟨#[]⟩]) := by kernel_rfl
theorem tStr_10 : tStr Tryd.prog 10 = true := by kernel_rfl
theorem tI_11 : tI Tryd.prog 11 = some (false, 1, [Value.string ⟨#[]⟩]) := by kernel_rfl
theorem tStr_11 : tStr Tryd.prog 11 = true := by kernel_rfl
theorem tI_12 : tI Tryd.prog 12 = some (false, 1, [Value.int IntKind.u64 0]) := by kernel_rfl
theorem tInt_12 : tInt Tryd.prog 12 = some IntKind.u64 := by kernel_rfl
theorem tI_13 : tI Tryd.prog 13 = some (true, 2, [Value.string ⟨#[]⟩, Value.int IntKind.u64 0]) := by kernel_rfl
theorem fieldsOk_13 : fieldsOk Tryd.prog 13 = true := by kernel_rfl
theorem tField_13_0 : tField Tryd.prog 13 0 = some 0 := by kernel_rfl
theorem placeOf_13_0 : placeOf Tryd.prog 13 0 = some (0, 1) := by kernel_rfl
theorem tField_13_1 : tField Tryd.prog 13 1 = some 1 := by kernel_rfl
theorem placeOf_13_1 : placeOf Tryd.prog 13 1 = some (1, 1) := by kernel_rfl
theorem tI_14 : tI Tryd.prog 14 = some (true, 2, [Value.string ⟨#[]⟩, Value.int IntKind.u64 0]) := by kernel_rfl
theorem fieldsOk_14 : fieldsOk Tryd.prog 14 = true := by kernel_rfl
theorem tField_14_0 : tField Tryd.prog 14 0 = some 0 := by kernel_rfl
theorem placeOf_14_0 : placeOf Tryd.prog 14 0 = some (0, 1) := by kernel_rfl
theorem tField_14_1 : tField Tryd.prog 14 1 = some 1 := by kernel_rfl
theorem placeOf_14_1 : placeOf Tryd.prog 14 1 = some (1, 1) := by kernel_rfl
theorem tI_15 : tI Tryd.prog 15 = some (false, 1, [Value.pointer Option.none]) := by kernel_rfl
theorem tI_16 : tI Tryd.prog 16 = some (false, 1, [Value.pointer Option.none]) := by kernel_rfl
theorem tI_17 : tI Tryd.prog 17 = some (false, 1, [Value.pointer Option.none]) := by kernel_rfl
theorem tI_18 : tI Tryd.prog 18 = some (true, 1, [Value.pointer Option.none]) := by kernel_rfl
theorem fieldsOk_18 : fieldsOk Tryd.prog 18 = true := by kernel_rfl
theorem tField_18_0 : tField Tryd.prog 18 0 = some 0 := by kernel_rfl
theorem placeOf_18_0 : placeOf Tryd.prog 18 0 = some (0, 1) := by kernel_rfl
theorem tI_19 : tI Tryd.prog 19 = some (true, 1, [Value.pointer Option.none]) := by kernel_rfl
theorem fieldsOk_19 : fieldsOk Tryd.prog 19 = true := by kernel_rfl
theorem tField_19_0 : tField Tryd.prog 19 0 = some 0 := by kernel_rfl
theorem placeOf_19_0 : placeOf Tryd.prog 19 0 = some (0, 1) := by kernel_rfl
theorem tI_20 : tI Tryd.prog 20 = some (false, 1, [Value.nilIface]) := by kernel_rfl
theorem tI_21 : tI Tryd.prog 21 = some (false, 1, [Value.int IntKind.i32 0]) := by kernel_rfl
theorem tInt_21 : tInt Tryd.prog 21 = some IntKind.i32 := by kernel_rfl
theorem tI_22 : tI Tryd.prog 22 = some (false, 1, [Value.slice Option.none 0 0]) := by kernel_rfl
theorem tElem_22 : tElem Tryd.prog 22 = some (1, 1, 5) := by kernel_rfl
theorem tByteSl_22 : tByteSl Tryd.prog 22 = true := by kernel_rfl
theorem tI_23 : tI Tryd.prog 23 = some (false, 1, [Value.slice Option.none 0 0]) := by kernel_rfl
theorem tElem_23 : tElem Tryd.prog 23 = some (2, 48, 50) := by kernel_rfl
theorem tI_24 : tI Tryd.prog 24 = some (false, 1, [Value.tuple { toList := [Value.slice Option.none 0 0, Value.string ⟨#[]⟩] }]) := by kernel_rfl
theorem tI_25 : tI Tryd.prog 25 = some (false, 1, [Value.nilFunc]) := by kernel_rfl
theorem tI_26 : tI Tryd.prog 26 = some (false, 1, [Value.nilFunc]) := by kernel_rfl
theorem tI_27 : tI Tryd.prog 27 = some (false, 1, [Value.slice Option.none 0 0]) := by kernel_rfl
theorem tElem_27 : tElem Tryd.prog 27 = some (3, 24, 38) := by kernel_rfl
theorem tI_28 : tI Tryd.prog 28 = some (false, 1, [Value.tuple { toList := [Value.slice Option.none 0 0, Value.int IntKind.i64 0] }]) := by kernel_rfl
theorem tI_29 : tI Tryd.prog 29 = some (false, 1, [Value.nilFunc]) := by kernel_rfl
theorem tI_30 : tI Tryd.prog 30 = some (false, 1, [Value.nilFunc]) := by kernel_rfl
theorem tI_31 : tI Tryd.prog 31 = some (false, 1, [Value.nilFunc]) := by kernel_rfl
theorem tI_32 : tI Tryd.prog 32 = some (false, 1, [Value.slice Option.none 0 0]) := by kernel_rfl
theorem tElem_32 : tElem Tryd.prog 32 = some (2, 48, 49) := by kernel_rfl
theorem tI_33 : tI Tryd.prog 33 = some (false, 1, [Value.nilFunc]) := by kernel_rfl
theorem tI_34 : tI Tryd.prog 34 = some (false, 1, [Value.nilFunc]) := by kernel_rfl
theorem tI_35 : tI Tryd.prog 35 = some (false, 1, [Value.nilFunc]) := by kernel_rfl
theorem tI_36 : tI Tryd.prog 36 = some (false, 1, [Value.nilFunc]) := by kernel_rfl
theorem tI_37 : tI Tryd.prog 37 = some (true, 3, [Value.int IntKind.i64 0, Value.int IntKind.i64 0, Value.int IntKind.i64 0]) := by kernel_rfl
theorem tEqS_37 : tEqS Tryd.prog 37 = some [IntKind.i64, IntKind.i64, IntKind.i64] := by kernel_rfl
theorem fieldsOk_37 : fieldsOk Tryd.prog 37 = true := by kernel_rfl
theorem tField_37_0 : tField Tryd.prog 37 0 = some 0 := by kernel_rfl
theorem placeOf_37_0 : placeOf Tryd.prog 37 0 = some (0, 1) := by kernel_rfl
theorem tField_37_1 : tField Tryd.prog 37 1 = some 1 := by kernel_rfl
theorem placeOf_37_1 : placeOf Tryd.prog 37 1 = some (1, 1) := by kernel_rfl
theorem tField_37_2 : tField Tryd.prog 37 2 = some 2 := by kernel_rfl
theorem placeOf_37_2 : placeOf Tryd.prog 37 2 = some (2, 1) := by kernel_rfl
theorem tI_38 : tI Tryd.prog 38 = some (true, 3, [Value.int IntKind.i64 0, Value.int IntKind.i64 0, Value.int IntKind.i64 0]) := by kernel_rfl
theorem tEqS_38 : tEqS Tryd.prog 38 = some [IntKind.i64, IntKind.i64, IntKind.i64] := by kernel_rfl
theorem fieldsOk_38 : fieldsOk Tryd.prog 38 = true := by kernel_rfl
theorem tField_38_0 : tField Tryd.prog 38 0 = some 0 := by kernel_rfl
theorem placeOf_38_0 : placeOf Tryd.prog 38 0 = some (0, 1) := by kernel_rfl
theorem tField_38_1 : tField Tryd.prog 38 1 = some 1 := by kernel_rfl
theorem placeOf_38_1 : placeOf Tryd.prog 38 1 = some (1, 1) := by kernel_rfl
theorem tField_38_2 : tField Tryd.prog 38 2 = some 2 := by kernel_rfl
theorem placeOf_38_2 : placeOf Tryd.prog 38 2 = some (2, 1) := by kernel_rfl
theorem tI_39 : tI Tryd.prog 39 = some (false, 1, [Value.nilFunc]) := by kernel_rfl
theorem tI_40 : tI Tryd.prog 40 = some (false, 1, [Value.nilFunc]) := by kernel_rfl
theorem tI_41 : tI Tryd.prog 41 = some (false, 1, [Value.nilFunc]) := by kernel_rfl
theorem tI_42 : tI Tryd.prog 42 = some (false, 1, [Value.tuple { toList := [Value.agg { toList := [Value.int IntKind.i64 0, Value.int IntKind.i64 0, Value.int IntKind.i64 0] }, Value.bool false] }]) := by kernel_rfl
theorem tI_43 : tI Tryd.prog 43 = some (false, 1, [Value.nilFunc]) := by kernel_rfl
theorem tI_44 : tI Tryd.prog 44 = some (false, 1, [Value.nilFunc]) := by kernel_rfl
theorem tI_45 : tI Tryd.prog 45 = some (false, 1, [Value.nilFunc]) := by kernel_rfl
theorem tI_46 : tI Tryd.prog 46 = some (false, 1, [Value.slice Option.none 0 0]) := by kernel_rfl
theorem tElem_46 : tElem Tryd.prog 46 = some (1, 24, 77) := by kernel_rfl
theorem tI_47 : tI Tryd.prog 47 = some (false, 1, [Value.slice Option.none 0 0]) := by kernel_rfl
theorem tElem_47 : tElem Tryd.prog 47 = some (1, 1, 4) := by kernel_rfl
theorem tI_48 : tI Tryd.prog 48 = some (true, 2, [Value.slice Option.none 0 0, Value.slice Option.none 0 0]) := by kernel_rfl
theorem fieldsOk_48 : fieldsOk Tryd.prog 48 = true := by kernel_rfl
theorem tField_48_0 : tField Tryd.prog 48 0 = some 0 := by kernel_rfl
theorem placeOf_48_0 : placeOf Tryd.prog 48 0 = some (0, 1) := by kernel_rfl
theorem tField_48_1 : tField Tryd.prog 48 1 = some 1 := by kernel_rfl
theorem placeOf_48_1 : placeOf Tryd.prog 48 1 = some (1, 1) := by kernel_rfl
theorem tI_49 : tI Tryd.prog 49 = some (true, 2, [Value.slice Option.none 0 0, Value.slice Option.none 0 0]) := by kernel_rfl
theorem fieldsOk_49 : fieldsOk Tryd.prog 49 = true := by kernel_rfl
theorem tField_49_0 : tField Tryd.prog 49 0 = some 0 := by kernel_rfl
theorem placeOf_49_0 : placeOf Tryd.prog 49 0 = some (0, 1) := by kernel_rfl
theorem tField_49_1 : tField Tryd.prog 49 1 = some 1 := by kernel_rfl
theorem placeOf_49_1 : placeOf Tryd.prog 49 1 = some (1, 1) := by kernel_rfl
theorem tI_50 : tI Tryd.prog 50 = some (true, 2, [Value.slice Option.none 0 0, Value.slice Option.none 0 0]) := by kernel_rfl
theorem fieldsOk_50 : fieldsOk Tryd.prog 50 = true := by kernel_rfl
theorem tField_50_0 : tField Tryd.prog 50 0 = some 0 := by kernel_rfl
theorem placeOf_50_0 : placeOf Tryd.prog 50 0 = some (0, 1) := by kernel_rfl
theorem tField_50_1 : tField Tryd.prog 50 1 = some 1 := by kernel_rfl
theorem placeOf_50_1 : placeOf Tryd.prog 50 1 = some (1, 1) := by kernel_rfl
theorem tI_51 : tI Tryd.prog 51 = some (false, 1, [Value.nilFunc]) := by kernel_rfl
theorem tI_52 : tI Tryd.prog 52 = some (false, 1, [Value.nilFunc]) := by kernel_rfl
theorem tI_53 : tI Tryd.prog 53 = some (false, 1, [Value.pointer Option.none]) := by kernel_rfl
theorem tI_54 : tI Tryd.prog 54 = some (false, 1, [Value.nilFunc]) := by kernel_rfl
theorem tI_55 : tI Tryd.prog 55 = some (false, 1, [Value.nilFunc]) := by kernel_rfl
theorem tI_56 : tI Tryd.prog 56 = some (false, 1, [Value.nilFunc]) := by kernel_rfl
theorem tI_57 : tI Tryd.prog 57 = some (false, 1, [Value.nilFunc]) := by kernel_rfl
theorem tI_58 : tI Tryd.prog 58 = some (false, 1, [Value.nilFunc]) := by kernel_rfl
theorem tI_59 : tI Tryd.prog 59 = some (false, 1, [Value.nilFunc]) := by kernel_rfl
theorem tI_60 : tI Tryd.prog 60 = some (false, 1, [Value.nilFunc]) := by kernel_rfl
theorem tI_61 : tI Tryd.prog 61 = some (false, 1, [Value.nilFunc]) := by kernel_rfl
theorem tI_62 : tI Tryd.prog 62 = some (false, 1, [Value.nilFunc]) := by kernel_rfl
theorem tI_63 : tI Tryd.prog 63 = some (false, 1, [Value.nilFunc]) := by kernel_rfl
theorem tI_64 : tI Tryd.prog 64 = some (false, 1, [Value.nilFunc]) := by kernel_rfl
theorem tI_65 : tI Tryd.prog 65 = some (false, 1, [Value.nilFunc]) := by kernel_rfl
theorem tI_66 : tI Tryd.prog 66 = some (false, 1, [Value.nilFunc]) := by kernel_rfl
theorem tI_67 : tI Tryd.prog 67 = some (false, 1, [Value.nilFunc]) := by kernel_rfl
theorem tI_68 : tI Tryd.prog 68 = some (false, 1, [Value.nilFunc]) := by kernel_rfl
theorem tI_69 : tI Tryd.prog 69 = some (true, 2, [Value.slice Option.none 0 0, Value.int IntKind.i64 0]) := by kernel_rfl
theorem fieldsOk_69 : fieldsOk Tryd.prog 69 = true := by kernel_rfl
theorem tField_69_0 : tField Tryd.prog 69 0 = some 0 := by kernel_rfl
theorem placeOf_69_0 : placeOf Tryd.prog 69 0 = some (0, 1) := by kernel_rfl
theorem tField_69_1 : tField Tryd.prog 69 1 = some 1 := by kernel_rfl
theorem placeOf_69_1 : placeOf Tryd.prog 69 1 = some (1, 1) := by kernel_rfl
theorem tI_70 : tI Tryd.prog 70 = some (true, 2, [Value.slice Option.none 0 0, Value.int IntKind.i64 0]) := by kernel_rfl
theorem fieldsOk_70 : fieldsOk Tryd.prog 70 = true := by kernel_rfl
theorem tField_70_0 : tField Tryd.prog 70 0 = some 0 := by kernel_rfl
theorem placeOf_70_0 : placeOf Tryd.prog 70 0 = some (0, 1) := by kernel_rfl
theorem tField_70_1 : tField Tryd.prog 70 1 = some 1 := by kernel_rfl
theorem placeOf_70_1 : placeOf Tryd.prog 70 1 = some (1, 1) := by kernel_rfl
theorem tI_71 : tI Tryd.prog 71 = some (false, 1, [Value.nilFunc]) := by kernel_rfl
theorem tI_72 : tI Tryd.prog 72 = some (false, 1, [Value.nilFunc]) := by kernel_rfl
theorem tI_73 : tI Tryd.prog 73 = some (false, 1, [Value.slice Option.none 0 0]) := by kernel_rfl
theorem tElem_73 : tElem Tryd.prog 73 = some (1, 16, 9) := by kernel_rfl
theorem tI_74 : tI Tryd.prog 74 = some (false, 1, [Value.nilFunc]) := by kernel_rfl
theorem tI_75 : tI Tryd.prog 75 = some (false, 1, [Value.nilFunc]) := by kernel_rfl
theorem tI_76 : tI Tryd.prog 76 = some (false, 1, [Value.nilFunc]) := by kernel_rfl
theorem tI_77 : tI Tryd.prog 77 = some (false, 1, [Value.slice Option.none 0 0]) := by kernel_rfl
theorem tElem_77 : tElem Tryd.prog 77 = some (1, 8, 3) := by kernel_rfl
theorem tI_78 : tI Tryd.prog 78 = some (false, 1, [Value.nilFunc]) := by kernel_rfl
theorem tI_79 : tI Tryd.prog 79 = some (false, 1, [Value.nilFunc]) := by kernel_rfl
theorem tI_80 : tI Tryd.prog 80 = some (false, 1, [Value.nilFunc]) := by kernel_rfl
theorem tI_81 : tI Tryd.prog 81 = some (false, 1, [Value.nilFunc]) := by kernel_rfl
theorem tI_82 : tI Tryd.prog 82 = some (false, 1, [Value.slice Option.none 0 0]) := by kernel_rfl
theorem tElem_82 : tElem Tryd.prog 82 = some (2, 16, 95) := by kernel_rfl
theorem tI_83 : tI Tryd.prog 83 = some (false, 1, [Value.tuple { toList := [Value.slice Option.none 0 0, Value.bool false] }]) := by kernel_rfl
theorem tI_84 : tI Tryd.prog 84 = some (false, 1, [Value.nilFunc]) := by kernel_rfl
theorem tI_85 : tI Tryd.prog 85 = some (false, 1, [Value.tuple { toList := [Value.agg { toList := [Value.slice Option.none 0 0, Value.slice Option.none 0 0] }, Value.bool false] }]) := by kernel_rfl
theorem tI_86 : tI Tryd.prog 86 = some (false, 1, [Value.nilFunc]) := by kernel_rfl
theorem tI_87 : tI Tryd.prog 87 = some (true, 24, [Value.int IntKind.u8 0, Value.int IntKind.u8 0, Value.int IntKind.u8 0, Value.int IntKind.u8 0, Value.int IntKind.u8 0, Value.int IntKind.u8 0, Value.int IntKind.u8 0, Value.int IntKind.u8 0, Value.int IntKind.u8 0, Value.int IntKind.u8 0, Value.int IntKind.u8 0, Value.int IntKind.u8 0, Value.int IntKind.u8 0, Value.int IntKind.u8 0, Value.int IntKind.u8 0, Value.int IntKind.u8 0, Value.int IntKind.u8 0, Value.int IntKind.u8 0, Value.int IntKind.u8 0, Value.int IntKind.u8 0, Value.int IntKind.u8 0, Value.int IntKind.u8 0, Value.int IntKind.u8 0, Value.int IntKind.u8 0]) := by kernel_rfl
theorem tArr_87 : tArr Tryd.prog 87 = some (24, 1, false) := by kernel_rfl
theorem tEqS_87 : tEqS Tryd.prog 87 = some [IntKind.u8, IntKind.u8, IntKind.u8, IntKind.u8, IntKind.u8, IntKind.u8, IntKind.u8, IntKind.u8, IntKind.u8, IntKind.u8, IntKind.u8, IntKind.u8, IntKind.u8, IntKind.u8, IntKind.u8, IntKind.u8, IntKind.u8, IntKind.u8, IntKind.u8, IntKind.u8, IntKind.u8, IntKind.u8, IntKind.u8, IntKind.u8] := by kernel_rfl
theorem fieldsOk_87 : fieldsOk Tryd.prog 87 = true := by kernel_rfl
theorem placeOf_87_0 : placeOf Tryd.prog 87 0 = some (0, 1) := by kernel_rfl
theorem placeOf_87_1 : placeOf Tryd.prog 87 1 = some (1, 1) := by kernel_rfl
theorem placeOf_87_2 : placeOf Tryd.prog 87 2 = some (2, 1) := by kernel_rfl
theorem placeOf_87_3 : placeOf Tryd.prog 87 3 = some (3, 1) := by kernel_rfl
theorem placeOf_87_4 : placeOf Tryd.prog 87 4 = some (4, 1) := by kernel_rfl
theorem placeOf_87_5 : placeOf Tryd.prog 87 5 = some (5, 1) := by kernel_rfl
theorem placeOf_87_6 : placeOf Tryd.prog 87 6 = some (6, 1) := by kernel_rfl
theorem placeOf_87_7 : placeOf Tryd.prog 87 7 = some (7, 1) := by kernel_rfl
theorem placeOf_87_8 : placeOf Tryd.prog 87 8 = some (8, 1) := by kernel_rfl
theorem placeOf_87_9 : placeOf Tryd.prog 87 9 = some (9, 1) := by kernel_rfl
theorem placeOf_87_10 : placeOf Tryd.prog 87 10 = some (10, 1) := by kernel_rfl
theorem placeOf_87_11 : placeOf Tryd.prog 87 11 = some (11, 1) := by kernel_rfl
theorem tI_88 : tI Tryd.prog 88 = some (false, 1, [Value.int IntKind.u64 0]) := by kernel_rfl
theorem tInt_88 : tInt Tryd.prog 88 = some IntKind.u64 := by kernel_rfl
theorem tI_89 : tI Tryd.prog 89 = some (false, 1, [Value.nilFunc]) := by kernel_rfl
theorem tI_90 : tI Tryd.prog 90 = some (false, 1, [Value.nilFunc]) := by kernel_rfl
theorem tI_91 : tI Tryd.prog 91 = some (false, 1, [Value.tuple { toList := [Value.slice Option.none 0 0, Value.string ⟨#[]⟩] }]) := by kernel_rfl
theorem tI_92 : tI Tryd.prog 92 = some (false, 1, [Value.nilFunc]) := by kernel_rfl
theorem tI_93 : tI Tryd.prog 93 = some (false, 1, [Value.nilFunc]) := by kernel_rfl
theorem tI_94 : tI Tryd.prog 94 = some (true, 2, [Value.int IntKind.i64 0, Value.int IntKind.i64 0]) := by kernel_rfl
theorem tEqS_94 : tEqS Tryd.prog 94 = some [IntKind.i64, IntKind.i64] := by kernel_rfl
theorem fieldsOk_94 : fieldsOk Tryd.prog 94 = true := by kernel_rfl
theorem tField_94_0 : tField Tryd.prog 94 0 = some 0 := by kernel_rfl
theorem placeOf_94_0 : placeOf Tryd.prog 94 0 = some (0, 1) := by kernel_rfl
theorem tField_94_1 : tField Tryd.prog 94 1 = some 1 := by kernel_rfl
theorem placeOf_94_1 : placeOf Tryd.prog 94 1 = some (1, 1) := by kernel_rfl
theorem tI_95 : tI Tryd.prog 95 = some (true, 2, [Value.int IntKind.i64 0, Value.int IntKind.i64 0]) := by kernel_rfl
theorem tEqS_95 : tEqS Tryd.prog 95 = some [IntKind.i64, IntKind.i64] := by kernel_rfl
theorem fieldsOk_95 : fieldsOk Tryd.prog 95 = true := by kernel_rfl
theorem tField_95_0 : tField Tryd.prog 95 0 = some 0 := by kernel_rfl
theorem placeOf_95_0 : placeOf Tryd.prog 95 0 = some (0, 1) := by kernel_rfl
theorem tField_95_1 : tField Tryd.prog 95 1 = some 1 := by kernel_rfl
theorem placeOf_95_1 : placeOf Tryd.prog 95 1 = some (1, 1) := by kernel_rfl
theorem tI_96 : tI Tryd.prog 96 = some (false, 1, [Value.nilFunc]) := by kernel_rfl
theorem tI_97 : tI Tryd.prog 97 = some (false, 1, [Value.nilFunc]) := by kernel_rfl
theorem tI_98 : tI Tryd.prog 98 = some (false, 1, [Value.nilFunc]) := by kernel_rfl
theorem tI_99 : tI Tryd.prog 99 = some (false, 1, [Value.nilFunc]) := by kernel_rfl
theorem tI_100 : tI Tryd.prog 100 = some (true, 20, [Value.int IntKind.u64 0, Value.int IntKind.u64 0, Value.int IntKind.u64 0, Value.int IntKind.u64 0, Value.int IntKind.u64 0, Value.int IntKind.u64 0, Value.int IntKind.u64 0, Value.int IntKind.u64 0, Value.int IntKind.u64 0, Value.int IntKind.u64 0, Value.int IntKind.u64 0, Value.int IntKind.u64 0, Value.int IntKind.u64 0, Value.int IntKind.u64 0, Value.int IntKind.u64 0, Value.int IntKind.u64 0, Value.int IntKind.u64 0, Value.int IntKind.u64 0, Value.int IntKind.u64 0, Value.int IntKind.u64 0]) := by kernel_rfl
theorem tArr_100 : tArr Tryd.prog 100 = some (20, 1, false) := by kernel_rfl
theorem tEqS_100 : tEqS Tryd.prog 100 = some [IntKind.u64, IntKind.u64, IntKind.u64, IntKind.u64, IntKind.u64, IntKind.u64, IntKind.u64, IntKind.u64, IntKind.u64, IntKind.u64, IntKind.u64, IntKind.u64, IntKind.u64, IntKind.u64, IntKind.u64, IntKind.u64, IntKind.u64, IntKind.u64, IntKind.u64, IntKind.u64] := by kernel_rfl
theorem fieldsOk_100 : fieldsOk Tryd.prog 100 = true := by kernel_rfl
theorem placeOf_100_0 : placeOf Tryd.prog 100 0 = some (0, 1) := by kernel_rfl
theorem placeOf_100_1 : placeOf Tryd.prog 100 1 = some (1, 1) := by kernel_rfl
theorem placeOf_100_2 : placeOf Tryd.prog 100 2 = some (2, 1) := by kernel_rfl
theorem placeOf_100_3 : placeOf Tryd.prog 100 3 = some (3, 1) := by kernel_rfl
theorem placeOf_100_4 : placeOf Tryd.prog 100 4 = some (4, 1) := by kernel_rfl
theorem placeOf_100_5 : placeOf Tryd.prog 100 5 = some (5, 1) := by kernel_rfl
theorem placeOf_100_6 : placeOf Tryd.prog 100 6 = some (6, 1) := by kernel_rfl
theorem placeOf_100_7 : placeOf Tryd.prog 100 7 = some (7, 1) := by kernel_rfl
theorem placeOf_100_8 : placeOf Tryd.prog 100 8 = some (8, 1) := by kernel_rfl
theorem placeOf_100_9 : placeOf Tryd.prog 100 9 = some (9, 1) := by kernel_rfl
theorem placeOf_100_10 : placeOf Tryd.prog 100 10 = some (10, 1) := by kernel_rfl
theorem placeOf_100_11 : placeOf Tryd.prog 100 11 = some (11, 1) := by kernel_rfl
theorem tI_101 : tI Tryd.prog 101 = some (false, 1, [Value.int IntKind.u32 0]) := by kernel_rfl
theorem tInt_101 : tInt Tryd.prog 101 = some IntKind.u32 := by kernel_rfl
theorem tArr_102 : tArr Tryd.prog 102 = some (65, 1, false) := by kernel_rfl
theorem fieldsOk_102 : fieldsOk Tryd.prog 102 = true := by kernel_rfl
theorem placeOf_102_0 : placeOf Tryd.prog 102 0 = some (0, 1) := by kernel_rfl
theorem placeOf_102_1 : placeOf Tryd.prog 102 1 = some (1, 1) := by kernel_rfl
theorem placeOf_102_2 : placeOf Tryd.prog 102 2 = some (2, 1) := by kernel_rfl
theorem placeOf_102_3 : placeOf Tryd.prog 102 3 = some (3, 1) := by kernel_rfl
theorem placeOf_102_4 : placeOf Tryd.prog 102 4 = some (4, 1) := by kernel_rfl
theorem placeOf_102_5 : placeOf Tryd.prog 102 5 = some (5, 1) := by kernel_rfl
theorem placeOf_102_6 : placeOf Tryd.prog 102 6 = some (6, 1) := by kernel_rfl
theorem placeOf_102_7 : placeOf Tryd.prog 102 7 = some (7, 1) := by kernel_rfl
theorem placeOf_102_8 : placeOf Tryd.prog 102 8 = some (8, 1) := by kernel_rfl
theorem placeOf_102_9 : placeOf Tryd.prog 102 9 = some (9, 1) := by kernel_rfl
theorem placeOf_102_10 : placeOf Tryd.prog 102 10 = some (10, 1) := by kernel_rfl
theorem placeOf_102_11 : placeOf Tryd.prog 102 11 = some (11, 1) := by kernel_rfl
theorem tI_103 : tI Tryd.prog 103 = some (false, 1, [Value.int IntKind.u64 0]) := by kernel_rfl
theorem tInt_103 : tInt Tryd.prog 103 = some IntKind.u64 := by kernel_rfl
theorem tI_104 : tI Tryd.prog 104 = some (false, 1, [Value.nilFunc]) := by kernel_rfl
theorem tI_105 : tI Tryd.prog 105 = some (false, 1, [Value.nilFunc]) := by kernel_rfl
theorem tI_106 : tI Tryd.prog 106 = some (false, 1, [Value.tuple { toList := [Value.slice Option.none 0 0, Value.slice Option.none 0 0] }]) := by kernel_rfl
theorem tI_107 : tI Tryd.prog 107 = some (false, 1, [Value.nilFunc]) := by kernel_rfl
theorem tI_108 : tI Tryd.prog 108 = some (false, 1, [Value.nilFunc]) := by kernel_rfl
theorem tI_109 : tI Tryd.prog 109 = some (false, 1, [Value.nilFunc]) := by kernel_rfl
theorem tI_110 : tI Tryd.prog 110 = some (false, 1, [Value.nilFunc]) := by kernel_rfl
theorem tI_111 : tI Tryd.prog 111 = some (false, 1, [Value.nilFunc]) := by kernel_rfl
theorem tI_112 : tI Tryd.prog 112 = some (false, 1, [Value.nilFunc]) := by kernel_rfl
theorem tI_113 : tI Tryd.prog 113 = some (false, 1, [Value.nilFunc]) := by kernel_rfl
theorem tI_114 : tI Tryd.prog 114 = some (false, 1, [Value.nilFunc]) := by kernel_rfl
theorem tI_115 : tI Tryd.prog 115 = some (false, 1, [Value.slice Option.none 0 0]) := by kernel_rfl
theorem tElem_115 : tElem Tryd.prog 115 = some (3, 24, 120) := by kernel_rfl
theorem tI_116 : tI Tryd.prog 116 = some (true, 4, [Value.int IntKind.i64 0, Value.slice Option.none 0 0, Value.slice Option.none 0 0, Value.slice Option.none 0 0]) := by kernel_rfl
theorem fieldsOk_116 : fieldsOk Tryd.prog 116 = true := by kernel_rfl
theorem tField_116_0 : tField Tryd.prog 116 0 = some 0 := by kernel_rfl
theorem placeOf_116_0 : placeOf Tryd.prog 116 0 = some (0, 1) := by kernel_rfl
theorem tField_116_1 : tField Tryd.prog 116 1 = some 1 := by kernel_rfl
theorem placeOf_116_1 : placeOf Tryd.prog 116 1 = some (1, 1) := by kernel_rfl
theorem tField_116_2 : tField Tryd.prog 116 2 = some 2 := by kernel_rfl
theorem placeOf_116_2 : placeOf Tryd.prog 116 2 = some (2, 1) := by kernel_rfl
theorem tField_116_3 : tField Tryd.prog 116 3 = some 3 := by kernel_rfl
theorem placeOf_116_3 : placeOf Tryd.prog 116 3 = some (3, 1) := by kernel_rfl
theorem tI_117 : tI Tryd.prog 117 = some (true, 4, [Value.int IntKind.i64 0, Value.slice Option.none 0 0, Value.slice Option.none 0 0, Value.slice Option.none 0 0]) := by kernel_rfl
theorem fieldsOk_117 : fieldsOk Tryd.prog 117 = true := by kernel_rfl
theorem tField_117_0 : tField Tryd.prog 117 0 = some 0 := by kernel_rfl
theorem placeOf_117_0 : placeOf Tryd.prog 117 0 = some (0, 1) := by kernel_rfl
theorem tField_117_1 : tField Tryd.prog 117 1 = some 1 := by kernel_rfl
theorem placeOf_117_1 : placeOf Tryd.prog 117 1 = some (1, 1) := by kernel_rfl
theorem tField_117_2 : tField Tryd.prog 117 2 = some 2 := by kernel_rfl
theorem placeOf_117_2 : placeOf Tryd.prog 117 2 = some (2, 1) := by kernel_rfl
theorem tField_117_3 : tField Tryd.prog 117 3 = some 3 := by kernel_rfl
theorem placeOf_117_3 : placeOf Tryd.prog 117 3 = some (3, 1) := by kernel_rfl
theorem tI_118 : tI Tryd.prog 118 = some (false, 1, [Value.nilFunc]) := by kernel_rfl
theorem tI_119 : tI Tryd.prog 119 = some (true, 3, [Value.int IntKind.i64 0, Value.int IntKind.i64 0, Value.int IntKind.i64 0]) := by kernel_rfl
theorem tEqS_119 : tEqS Tryd.prog 119 = some [IntKind.i64, IntKind.i64, IntKind.i64] := by kernel_rfl
theorem fieldsOk_119 : fieldsOk Tryd.prog 119 = true := by kernel_rfl
theorem tField_119_0 : tField Tryd.prog 119 0 = some 0 := by kernel_rfl
theorem placeOf_119_0 : placeOf Tryd.prog 119 0 = some (0, 1) := by kernel_rfl
theorem tField_119_1 : tField Tryd.prog 119 1 = some 1 := by kernel_rfl
theorem placeOf_119_1 : placeOf Tryd.prog 119 1 = some (1, 1) := by kernel_rfl
theorem tField_119_2 : tField Tryd.prog 119 2 = some 2 := by kernel_rfl
theorem placeOf_119_2 : placeOf Tryd.prog 119 2 = some (2, 1) := by kernel_rfl
theorem tI_120 : tI Tryd.prog 120 = some (true, 3, [Value.int IntKind.i64 0, Value.int IntKind.i64 0, Value.int IntKind.i64 0]) := by kernel_rfl
theorem tEqS_120 : tEqS Tryd.prog 120 = some [IntKind.i64, IntKind.i64, IntKind.i64] := by kernel_rfl
theorem fieldsOk_120 : fieldsOk Tryd.prog 120 = true := by kernel_rfl
theorem tField_120_0 : tField Tryd.prog 120 0 = some 0 := by kernel_rfl
theorem placeOf_120_0 : placeOf Tryd.prog 120 0 = some (0, 1) := by kernel_rfl
theorem tField_120_1 : tField Tryd.prog 120 1 = some 1 := by kernel_rfl
theorem placeOf_120_1 : placeOf Tryd.prog 120 1 = some (1, 1) := by kernel_rfl
theorem tField_120_2 : tField Tryd.prog 120 2 = some 2 := by kernel_rfl
theorem placeOf_120_2 : placeOf Tryd.prog 120 2 = some (2, 1) := by kernel_rfl
theorem tI_121 : tI Tryd.prog 121 = some (false, 1, [Value.nilFunc]) := by kernel_rfl
theorem tI_122 : tI Tryd.prog 122 = some (false, 1, [Value.nilFunc]) := by kernel_rfl
theorem tI_123 : tI Tryd.prog 123 = some (true, 32, [Value.int IntKind.u8 0, Value.int IntKind.u8 0, Value.int IntKind.u8 0, Value.int IntKind.u8 0, Value.int IntKind.u8 0, Value.int IntKind.u8 0, Value.int IntKind.u8 0, Value.int IntKind.u8 0, Value.int IntKind.u8 0, Value.int IntKind.u8 0, Value.int IntKind.u8 0, Value.int IntKind.u8 0, Value.int IntKind.u8 0, Value.int IntKind.u8 0, Value.int IntKind.u8 0, Value.int IntKind.u8 0, Value.int IntKind.u8 0, Value.int IntKind.u8 0, Value.int IntKind.u8 0, Value.int IntKind.u8 0, Value.int IntKind.u8 0, Value.int IntKind.u8 0, Value.int IntKind.u8 0, Value.int IntKind.u8 0, Value.int IntKind.u8 0, Value.int IntKind.u8 0, Value.int IntKind.u8 0, Value.int IntKind.u8 0, Value.int IntKind.u8 0, Value.int IntKind.u8 0, Value.int IntKind.u8 0, Value.int IntKind.u8 0]) := by kernel_rfl
theorem tArr_123 : tArr Tryd.prog 123 = some (32, 1, false) := by kernel_rfl
theorem tEqS_123 : tEqS Tryd.prog 123 = some [IntKind.u8, IntKind.u8, IntKind.u8, IntKind.u8, IntKind.u8, IntKind.u8, IntKind.u8, IntKind.u8, IntKind.u8, IntKind.u8, IntKind.u8, IntKind.u8, IntKind.u8, IntKind.u8, IntKind.u8, IntKind.u8, IntKind.u8, IntKind.u8, IntKind.u8, IntKind.u8, IntKind.u8, IntKind.u8, IntKind.u8, IntKind.u8, IntKind.u8, IntKind.u8, IntKind.u8, IntKind.u8, IntKind.u8, IntKind.u8, IntKind.u8, IntKind.u8] := by kernel_rfl
theorem fieldsOk_123 : fieldsOk Tryd.prog 123 = true := by kernel_rfl
theorem placeOf_123_0 : placeOf Tryd.prog 123 0 = some (0, 1) := by kernel_rfl
theorem placeOf_123_1 : placeOf Tryd.prog 123 1 = some (1, 1) := by kernel_rfl
theorem placeOf_123_2 : placeOf Tryd.prog 123 2 = some (2, 1) := by kernel_rfl
theorem placeOf_123_3 : placeOf Tryd.prog 123 3 = some (3, 1) := by kernel_rfl
theorem placeOf_123_4 : placeOf Tryd.prog 123 4 = some (4, 1) := by kernel_rfl
theorem placeOf_123_5 : placeOf Tryd.prog 123 5 = some (5, 1) := by kernel_rfl
theorem placeOf_123_6 : placeOf Tryd.prog 123 6 = some (6, 1) := by kernel_rfl
theorem placeOf_123_7 : placeOf Tryd.prog 123 7 = some (7, 1) := by kernel_rfl
theorem placeOf_123_8 : placeOf Tryd.prog 123 8 = some (8, 1) := by kernel_rfl
theorem placeOf_123_9 : placeOf Tryd.prog 123 9 = some (9, 1) := by kernel_rfl
theorem placeOf_123_10 : placeOf Tryd.prog 123 10 = some (10, 1) := by kernel_rfl
theorem placeOf_123_11 : placeOf Tryd.prog 123 11 = some (11, 1) := by kernel_rfl
theorem tArr_124 : tArr Tryd.prog 124 = some (64, 1, false) := by kernel_rfl
theorem fieldsOk_124 : fieldsOk Tryd.prog 124 = true := by kernel_rfl
theorem placeOf_124_0 : placeOf Tryd.prog 124 0 = some (0, 1) := by kernel_rfl
theorem placeOf_124_1 : placeOf Tryd.prog 124 1 = some (1, 1) := by kernel_rfl
theorem placeOf_124_2 : placeOf Tryd.prog 124 2 = some (2, 1) := by kernel_rfl
theorem placeOf_124_3 : placeOf Tryd.prog 124 3 = some (3, 1) := by kernel_rfl
theorem placeOf_124_4 : placeOf Tryd.prog 124 4 = some (4, 1) := by kernel_rfl
theorem placeOf_124_5 : placeOf Tryd.prog 124 5 = some (5, 1) := by kernel_rfl
theorem placeOf_124_6 : placeOf Tryd.prog 124 6 = some (6, 1) := by kernel_rfl
theorem placeOf_124_7 : placeOf Tryd.prog 124 7 = some (7, 1) := by kernel_rfl
theorem placeOf_124_8 : placeOf Tryd.prog 124 8 = some (8, 1) := by kernel_rfl
theorem placeOf_124_9 : placeOf Tryd.prog 124 9 = some (9, 1) := by kernel_rfl
theorem placeOf_124_10 : placeOf Tryd.prog 124 10 = some (10, 1) := by kernel_rfl
theorem placeOf_124_11 : placeOf Tryd.prog 124 11 = some (11, 1) := by kernel_rfl
theorem tI_125 : tI Tryd.prog 125 = some (false, 1, [Value.nilFunc]) := by kernel_rfl
theorem tI_126 : tI Tryd.prog 126 = some (false, 1, [Value.slice Option.none 0 0]) := by kernel_rfl
theorem tElem_126 : tElem Tryd.prog 126 = some (1, 24, 47) := by kernel_rfl
theorem tI_127 : tI Tryd.prog 127 = some (false, 1, [Value.tuple { toList := [Value.slice Option.none 0 0, Value.slice Option.none 0 0] }]) := by kernel_rfl
theorem tI_128 : tI Tryd.prog 128 = some (false, 1, [Value.nilFunc]) := by kernel_rfl
theorem tI_129 : tI Tryd.prog 129 = some (false, 1, [Value.nilFunc]) := by kernel_rfl
theorem tI_130 : tI Tryd.prog 130 = some (false, 1, [Value.nilFunc]) := by kernel_rfl
theorem tI_131 : tI Tryd.prog 131 = some (false, 1, [Value.nilFunc]) := by kernel_rfl
theorem tI_132 : tI Tryd.prog 132 = some (false, 1, [Value.nilFunc]) := by kernel_rfl
theorem tI_133 : tI Tryd.prog 133 = some (false, 1, [Value.nilFunc]) := by kernel_rfl
theorem tI_134 : tI Tryd.prog 134 = some (true, 4, [Value.pointer Option.none, Value.pointer Option.none, Value.pointer Option.none, Value.string ⟨#[]⟩]) := by kernel_rfl
theorem fieldsOk_134 : fieldsOk Tryd.prog 134 = true := by kernel_rfl
theorem tField_134_0 : tField Tryd.prog 134 0 = some 0 := by kernel_rfl
theorem placeOf_134_0 : placeOf Tryd.prog 134 0 = some (0, 1) := by kernel_rfl
theorem tField_134_1 : tField Tryd.prog 134 1 = some 1 := by kernel_rfl
theorem placeOf_134_1 : placeOf Tryd.prog 134 1 = some (1, 1) := by kernel_rfl
theorem tField_134_2 : tField Tryd.prog 134 2 = some 2 := by kernel_rfl
theorem placeOf_134_2 : placeOf Tryd.prog 134 2 = some (2, 1) := by kernel_rfl
theorem tField_134_3 : tField Tryd.prog 134 3 = some 3 := by kernel_rfl
theorem placeOf_134_3 : placeOf Tryd.prog 134 3 = some (3, 1) := by kernel_rfl
theorem tI_135 : tI Tryd.prog 135 = some (true, 4, [Value.pointer Option.none, Value.pointer Option.none, Value.pointer Option.none, Value.string ⟨#[]⟩]) := by kernel_rfl
theorem fieldsOk_135 : fieldsOk Tryd.prog 135 = true := by kernel_rfl
theorem tField_135_0 : tField Tryd.prog 135 0 = some 0 := by kernel_rfl
theorem placeOf_135_0 : placeOf Tryd.prog 135 0 = some (0, 1) := by kernel_rfl
theorem tField_135_1 : tField Tryd.prog 135 1 = some 1 := by kernel_rfl
theorem placeOf_135_1 : placeOf Tryd.prog 135 1 = some (1, 1) := by kernel_rfl
theorem tField_135_2 : tField Tryd.prog 135 2 = some 2 := by kernel_rfl
theorem placeOf_135_2 : placeOf Tryd.prog 135 2 = some (2, 1) := by kernel_rfl
theorem tField_135_3 : tField Tryd.prog 135 3 = some 3 := by kernel_rfl
theorem placeOf_135_3 : placeOf Tryd.prog 135 3 = some (3, 1) := by kernel_rfl
theorem tI_136 : tI Tryd.prog 136 = some (true, 0, []) := by kernel_rfl
theorem tArr_136 : tArr Tryd.prog 136 = some (0, 1, false) := by kernel_rfl
theorem fieldsOk_136 : fieldsOk Tryd.prog 136 = true := by kernel_rfl
theorem placeOf_136_0 : placeOf Tryd.prog 136 0 = some (0, 1) := by kernel_rfl
theorem placeOf_136_1 : placeOf Tryd.prog 136 1 = some (1, 1) := by kernel_rfl
theorem placeOf_136_2 : placeOf Tryd.prog 136 2 = some (2, 1) := by kernel_rfl
theorem placeOf_136_3 : placeOf Tryd.prog 136 3 = some (3, 1) := by kernel_rfl
theorem placeOf_136_4 : placeOf Tryd.prog 136 4 = some (4, 1) := by kernel_rfl
theorem placeOf_136_5 : placeOf Tryd.prog 136 5 = some (5, 1) := by kernel_rfl
theorem placeOf_136_6 : placeOf Tryd.prog 136 6 = some (6, 1) := by kernel_rfl
theorem placeOf_136_7 : placeOf Tryd.prog 136 7 = some (7, 1) := by kernel_rfl
theorem placeOf_136_8 : placeOf Tryd.prog 136 8 = some (8, 1) := by kernel_rfl
theorem placeOf_136_9 : placeOf Tryd.prog 136 9 = some (9, 1) := by kernel_rfl
theorem placeOf_136_10 : placeOf Tryd.prog 136 10 = some (10, 1) := by kernel_rfl
theorem placeOf_136_11 : placeOf Tryd.prog 136 11 = some (11, 1) := by kernel_rfl
theorem tI_137 : tI Tryd.prog 137 = some (true, 0, []) := by kernel_rfl
theorem fieldsOk_137 : fieldsOk Tryd.prog 137 = true := by kernel_rfl
theorem placeOf_137_0 : placeOf Tryd.prog 137 0 = some (0, 0) := by kernel_rfl
theorem tI_138 : tI Tryd.prog 138 = some (true, 0, []) := by kernel_rfl
theorem fieldsOk_138 : fieldsOk Tryd.prog 138 = true := by kernel_rfl
theorem placeOf_138_0 : placeOf Tryd.prog 138 0 = some (0, 0) := by kernel_rfl
theorem tI_139 : tI Tryd.prog 139 = some (false, 1, [Value.nilFunc]) := by kernel_rfl
theorem tI_140 : tI Tryd.prog 140 = some (false, 1, [Value.int IntKind.u8 0]) := by kernel_rfl
theorem tInt_140 : tInt Tryd.prog 140 = some IntKind.u8 := by kernel_rfl
theorem tI_141 : tI Tryd.prog 141 = some (false, 1, [Value.int IntKind.u8 0]) := by kernel_rfl
theorem tInt_141 : tInt Tryd.prog 141 = some IntKind.u8 := by kernel_rfl
theorem tI_142 : tI Tryd.prog 142 = some (false, 1, [Value.nilFunc]) := by kernel_rfl
theorem tI_143 : tI Tryd.prog 143 = some (false, 1, [Value.pointer Option.none]) := by kernel_rfl
theorem tI_144 : tI Tryd.prog 144 = some (false, 1, [Value.int IntKind.i32 0]) := by kernel_rfl
theorem tInt_144 : tInt Tryd.prog 144 = some IntKind.i32 := by kernel_rfl
theorem tI_145 : tI Tryd.prog 145 = some (false, 1, [Value.int IntKind.i32 0]) := by kernel_rfl
theorem tInt_145 : tInt Tryd.prog 145 = some IntKind.i32 := by kernel_rfl
theorem tI_146 : tI Tryd.prog 146 = some (true, 11, [Value.int IntKind.u64 0, Value.int IntKind.u64 0, Value.int IntKind.u32 0, Value.int IntKind.u8 0, Value.int IntKind.u8 0, Value.int IntKind.u8 0, Value.int IntKind.u8 0, Value.nilFunc, Value.pointer Option.none, Value.int IntKind.i32 0, Value.int IntKind.i32 0]) := by kernel_rfl
theorem fieldsOk_146 : fieldsOk Tryd.prog 146 = true := by kernel_rfl
theorem tField_146_0 : tField Tryd.prog 146 0 = some 0 := by kernel_rfl
theorem placeOf_146_0 : placeOf Tryd.prog 146 0 = some (0, 1) := by kernel_rfl
theorem tField_146_1 : tField Tryd.prog 146 1 = some 1 := by kernel_rfl
theorem placeOf_146_1 : placeOf Tryd.prog 146 1 = some (1, 1) := by kernel_rfl
theorem tField_146_2 : tField Tryd.prog 146 2 = some 2 := by kernel_rfl
theorem placeOf_146_2 : placeOf Tryd.prog 146 2 = some (2, 1) := by kernel_rfl
theorem tField_146_3 : tField Tryd.prog 146 3 = some 3 := by kernel_rfl
theorem placeOf_146_3 : placeOf Tryd.prog 146 3 = some (3, 1) := by kernel_rfl
theorem tField_146_4 : tField Tryd.prog 146 4 = some 4 := by kernel_rfl
theorem placeOf_146_4 : placeOf Tryd.prog 146 4 = some (4, 1) := by kernel_rfl
theorem tField_146_5 : tField Tryd.prog 146 5 = some 5 := by kernel_rfl
theorem placeOf_146_5 : placeOf Tryd.prog 146 5 = some (5, 1) := by kernel_rfl
theorem tField_146_6 : tField Tryd.prog 146 6 = some 6 := by kernel_rfl
theorem placeOf_146_6 : placeOf Tryd.prog 146 6 = some (6, 1) := by kernel_rfl
theorem tField_146_7 : tField Tryd.prog 146 7 = some 7 := by kernel_rfl
theorem placeOf_146_7 : placeOf Tryd.prog 146 7 = some (7, 1) := by kernel_rfl
theorem tField_146_8 : tField Tryd.prog 146 8 = some 8 := by kernel_rfl
theorem placeOf_146_8 : placeOf Tryd.prog 146 8 = some (8, 1) := by kernel_rfl
theorem tField_146_9 : tField Tryd.prog 146 9 = some 9 := by kernel_rfl
theorem placeOf_146_9 : placeOf Tryd.prog 146 9 = some (9, 1) := by kernel_rfl
theorem tField_146_10 : tField Tryd.prog 146 10 = some 10 := by kernel_rfl
theorem placeOf_146_10 : placeOf Tryd.prog 146 10 = some (10, 1) := by kernel_rfl
theorem tI_147 : tI Tryd.prog 147 = some (true, 11, [Value.int IntKind.u64 0, Value.int IntKind.u64 0, Value.int IntKind.u32 0, Value.int IntKind.u8 0, Value.int IntKind.u8 0, Value.int IntKind.u8 0, Value.int IntKind.u8 0, Value.nilFunc, Value.pointer Option.none, Value.int IntKind.i32 0, Value.int IntKind.i32 0]) := by kernel_rfl
theorem fieldsOk_147 : fieldsOk Tryd.prog 147 = true := by kernel_rfl
theorem tField_147_0 : tField Tryd.prog 147 0 = some 0 := by kernel_rfl
theorem placeOf_147_0 : placeOf Tryd.prog 147 0 = some (0, 1) := by kernel_rfl
theorem tField_147_1 : tField Tryd.prog 147 1 = some 1 := by kernel_rfl
theorem placeOf_147_1 : placeOf Tryd.prog 147 1 = some (1, 1) := by kernel_rfl
theorem tField_147_2 : tField Tryd.prog 147 2 = some 2 := by kernel_rfl
theorem placeOf_147_2 : placeOf Tryd.prog 147 2 = some (2, 1) := by kernel_rfl
theorem tField_147_3 : tField Tryd.prog 147 3 = some 3 := by kernel_rfl
theorem placeOf_147_3 : placeOf Tryd.prog 147 3 = some (3, 1) := by kernel_rfl
theorem tField_147_4 : tField Tryd.prog 147 4 = some 4 := by kernel_rfl
theorem placeOf_147_4 : placeOf Tryd.prog 147 4 = some (4, 1) := by kernel_rfl
theorem tField_147_5 : tField Tryd.prog 147 5 = some 5 := by kernel_rfl
theorem placeOf_147_5 : placeOf Tryd.prog 147 5 = some (5, 1) := by kernel_rfl
theorem tField_147_6 : tField Tryd.prog 147 6 = some 6 := by kernel_rfl
theorem placeOf_147_6 : placeOf Tryd.prog 147 6 = some (6, 1) := by kernel_rfl
theorem tField_147_7 : tField Tryd.prog 147 7 = some 7 := by kernel_rfl
theorem placeOf_147_7 : placeOf Tryd.prog 147 7 = some (7, 1) := by kernel_rfl
theorem tField_147_8 : tField Tryd.prog 147 8 = some 8 := by kernel_rfl
theorem placeOf_147_8 : placeOf Tryd.prog 147 8 = some (8, 1) := by kernel_rfl
theorem tField_147_9 : tField Tryd.prog 147 9 = some 9 := by kernel_rfl
theorem placeOf_147_9 : placeOf Tryd.prog 147 9 = some (9, 1) := by kernel_rfl
theorem tField_147_10 : tField Tryd.prog 147 10 = some 10 := by kernel_rfl
theorem placeOf_147_10 : placeOf Tryd.prog 147 10 = some (10, 1) := by kernel_rfl
theorem tI_148 : tI Tryd.prog 148 = some (false, 1, [Value.nilFunc]) := by kernel_rfl
theorem tI_149 : tI Tryd.prog 149 = some (false, 1, [Value.pointer Option.none]) := by kernel_rfl
theorem tI_150 : tI Tryd.prog 150 = some (true, 2, [Value.int IntKind.u64 0, Value.int IntKind.u64 0]) := by kernel_rfl
theorem tArr_150 : tArr Tryd.prog 150 = some (2, 1, false) := by kernel_rfl
theorem tEqS_150 : tEqS Tryd.prog 150 = some [IntKind.u64, IntKind.u64] := by kernel_rfl
theorem fieldsOk_150 : fieldsOk Tryd.prog 150 = true := by kernel_rfl
theorem placeOf_150_0 : placeOf Tryd.prog 150 0 = some (0, 1) := by kernel_rfl
theorem placeOf_150_1 : placeOf Tryd.prog 150 1 = some (1, 1) := by kernel_rfl
theorem placeOf_150_2 : placeOf Tryd.prog 150 2 = some (2, 1) := by kernel_rfl
theorem placeOf_150_3 : placeOf Tryd.prog 150 3 = some (3, 1) := by kernel_rfl
theorem placeOf_150_4 : placeOf Tryd.prog 150 4 = some (4, 1) := by kernel_rfl
theorem placeOf_150_5 : placeOf Tryd.prog 150 5 = some (5, 1) := by kernel_rfl
theorem placeOf_150_6 : placeOf Tryd.prog 150 6 = some (6, 1) := by kernel_rfl
theorem placeOf_150_7 : placeOf Tryd.prog 150 7 = some (7, 1) := by kernel_rfl
theorem placeOf_150_8 : placeOf Tryd.prog 150 8 = some (8, 1) := by kernel_rfl
theorem placeOf_150_9 : placeOf Tryd.prog 150 9 = some (9, 1) := by kernel_rfl
theorem placeOf_150_10 : placeOf Tryd.prog 150 10 = some (10, 1) := by kernel_rfl
theorem placeOf_150_11 : placeOf Tryd.prog 150 11 = some (11, 1) := by kernel_rfl
theorem tI_151 : tI Tryd.prog 151 = some (true, 2, [Value.int IntKind.u64 0, Value.int IntKind.u64 0]) := by kernel_rfl
theorem tArr_151 : tArr Tryd.prog 151 = some (2, 1, false) := by kernel_rfl
theorem tEqS_151 : tEqS Tryd.prog 151 = some [IntKind.u64, IntKind.u64] := by kernel_rfl
theorem fieldsOk_151 : fieldsOk Tryd.prog 151 = true := by kernel_rfl
theorem placeOf_151_0 : placeOf Tryd.prog 151 0 = some (0, 1) := by kernel_rfl
theorem placeOf_151_1 : placeOf Tryd.prog 151 1 = some (1, 1) := by kernel_rfl
theorem placeOf_151_2 : placeOf Tryd.prog 151 2 = some (2, 1) := by kernel_rfl
theorem placeOf_151_3 : placeOf Tryd.prog 151 3 = some (3, 1) := by kernel_rfl
theorem placeOf_151_4 : placeOf Tryd.prog 151 4 = some (4, 1) := by kernel_rfl
theorem placeOf_151_5 : placeOf Tryd.prog 151 5 = some (5, 1) := by kernel_rfl
theorem placeOf_151_6 : placeOf Tryd.prog 151 6 = some (6, 1) := by kernel_rfl
theorem placeOf_151_7 : placeOf Tryd.prog 151 7 = some (7, 1) := by kernel_rfl
theorem placeOf_151_8 : placeOf Tryd.prog 151 8 = some (8, 1) := by kernel_rfl
theorem placeOf_151_9 : placeOf Tryd.prog 151 9 = some (9, 1) := by kernel_rfl
theorem placeOf_151_10 : placeOf Tryd.prog 151 10 = some (10, 1) := by kernel_rfl
theorem placeOf_151_11 : placeOf Tryd.prog 151 11 = some (11, 1) := by kernel_rfl
theorem callable_2 : callable Tryd.prog 2 = true := by kernel_rfl
theorem callable_3 : callable Tryd.prog 3 = true := by kernel_rfl
theorem callable_4 : callable Tryd.prog 4 = true := by kernel_rfl
theorem callable_5 : callable Tryd.prog 5 = true := by kernel_rfl
theorem callable_6 : callable Tryd.prog 6 = true := by kernel_rfl
theorem callable_7 : callable Tryd.prog 7 = true := by kernel_rfl
theorem callable_8 : callable Tryd.prog 8 = true := by kernel_rfl
theorem callable_9 : callable Tryd.prog 9 = true := by kernel_rfl
theorem callable_10 : callable Tryd.prog 10 = true := by kernel_rfl
theorem callable_11 : callable Tryd.prog 11 = true := by kernel_rfl
theorem callable_12 : callable Tryd.prog 12 = true := by kernel_rfl
theorem callable_13 : callable Tryd.prog 13 = true := by kernel_rfl
theorem callable_14 : callable Tryd.prog 14 = true := by kernel_rfl
theorem callable_15 : callable Tryd.prog 15 = true := by kernel_rfl
theorem callable_16 : callable Tryd.prog 16 = true := by kernel_rfl
theorem callable_17 : callable Tryd.prog 17 = true := by kernel_rfl
theorem callable_18 : callable Tryd.prog 18 = true := by kernel_rfl
theorem callable_19 : callable Tryd.prog 19 = true := by kernel_rfl
theorem callable_20 : callable Tryd.prog 20 = true := by kernel_rfl
theorem callable_21 : callable Tryd.prog 21 = true := by kernel_rfl
theorem callable_22 : callable Tryd.prog 22 = true := by kernel_rfl
theorem callable_23 : callable Tryd.prog 23 = true := by kernel_rfl
theorem callable_24 : callable Tryd.prog 24 = true := by kernel_rfl
theorem callable_25 : callable Tryd.prog 25 = true := by kernel_rfl
theorem callable_26 : callable Tryd.prog 26 = true := by kernel_rfl
theorem callable_27 : callable Tryd.prog 27 = true := by kernel_rfl
theorem callable_28 : callable Tryd.prog 28 = true := by kernel_rfl
theorem callable_29 : callable Tryd.prog 29 = true := by kernel_rfl
theorem callable_30 : callable Tryd.prog 30 = true := by kernel_rfl
theorem callable_31 : callable Tryd.prog 31 = true := by kernel_rfl
theorem callable_32 : callable Tryd.prog 32 = true := by kernel_rfl
theorem callable_33 : callable Tryd.prog 33 = true := by kernel_rfl
theorem callable_34 : callable Tryd.prog 34 = true := by kernel_rfl
theorem callable_35 : callable Tryd.prog 35 = true := by kernel_rfl
theorem callable_36 : callable Tryd.prog 36 = true := by kernel_rfl
theorem callable_37 : callable Tryd.prog 37 = true := by kernel_rfl
theorem callable_38 : callable Tryd.prog 38 = true := by kernel_rfl
theorem callable_39 : callable Tryd.prog 39 = true := by kernel_rfl
theorem callable_40 : callable Tryd.prog 40 = true := by kernel_rfl
theorem callable_41 : callable Tryd.prog 41 = true := by kernel_rfl
theorem callable_42 : callable Tryd.prog 42 = true := by kernel_rfl
theorem callable_43 : callable Tryd.prog 43 = true := by kernel_rfl
theorem callable_44 : callable Tryd.prog 44 = true := by kernel_rfl
theorem callable_45 : callable Tryd.prog 45 = true := by kernel_rfl
theorem callable_46 : callable Tryd.prog 46 = true := by kernel_rfl
theorem callable_47 : callable Tryd.prog 47 = true := by kernel_rfl
theorem callable_48 : callable Tryd.prog 48 = true := by kernel_rfl
theorem callable_49 : callable Tryd.prog 49 = true := by kernel_rfl
theorem callable_50 : callable Tryd.prog 50 = true := by kernel_rfl
theorem callable_51 : callable Tryd.prog 51 = true := by kernel_rfl
theorem callable_52 : callable Tryd.prog 52 = true := by kernel_rfl
theorem callable_53 : callable Tryd.prog 53 = true := by kernel_rfl
theorem callable_54 : callable Tryd.prog 54 = true := by kernel_rfl
theorem callable_55 : callable Tryd.prog 55 = true := by kernel_rfl
theorem callable_56 : callable Tryd.prog 56 = true := by kernel_rfl
theorem callable_57 : callable Tryd.prog 57 = true := by kernel_rfl
theorem callable_58 : callable Tryd.prog 58 = true := by kernel_rfl
theorem callable_59 : callable Tryd.prog 59 = true := by kernel_rfl
theorem callable_60 : callable Tryd.prog 60 = true := by kernel_rfl
theorem callable_61 : callable Tryd.prog 61 = true := by kernel_rfl
theorem callable_62 : callable Tryd.prog 62 = true := by kernel_rfl
theorem callable_63 : callable Tryd.prog 63 = true := by kernel_rfl
theorem callable_64 : callable Tryd.prog 64 = true := by kernel_rfl
theorem callable_65 : callable Tryd.prog 65 = true := by kernel_rfl
theorem callable_66 : callable Tryd.prog 66 = true := by kernel_rfl
theorem callable_67 : callable Tryd.prog 67 = true := by kernel_rfl
theorem callable_68 : callable Tryd.prog 68 = true := by kernel_rfl
theorem callable_69 : callable Tryd.prog 69 = true := by kernel_rfl
theorem callable_70 : callable Tryd.prog 70 = true := by kernel_rfl
theorem callable_71 : callable Tryd.prog 71 = true := by kernel_rfl
theorem callable_72 : callable Tryd.prog 72 = true := by kernel_rfl
theorem callable_73 : callable Tryd.prog 73 = true := by kernel_rfl
theorem callable_74 : callable Tryd.prog 74 = true := by kernel_rfl
theorem callable_75 : callable Tryd.prog 75 = true := by kernel_rfl
theorem callable_76 : callable Tryd.prog 76 = true := by kernel_rfl
theorem callable_77 : callable Tryd.prog 77 = true := by kernel_rfl
theorem callable_78 : callable Tryd.prog 78 = true := by kernel_rfl
theorem callable_79 : callable Tryd.prog 79 = true := by kernel_rfl
theorem callable_80 : callable Tryd.prog 80 = true := by kernel_rfl
theorem callable_81 : callable Tryd.prog 81 = true := by kernel_rfl
theorem callable_82 : callable Tryd.prog 82 = true := by kernel_rfl
theorem callable_83 : callable Tryd.prog 83 = true := by kernel_rfl
theorem callable_84 : callable Tryd.prog 84 = true := by kernel_rfl
theorem callable_85 : callable Tryd.prog 85 = true := by kernel_rfl
theorem callable_86 : callable Tryd.prog 86 = true := by kernel_rfl
theorem callable_87 : callable Tryd.prog 87 = true := by kernel_rfl
theorem callable_88 : callable Tryd.prog 88 = true := by kernel_rfl
theorem callable_89 : callable Tryd.prog 89 = true := by kernel_rfl
theorem callable_90 : callable Tryd.prog 90 = true := by kernel_rfl
theorem callable_91 : callable Tryd.prog 91 = true := by kernel_rfl
theorem callable_92 : callable Tryd.prog 92 = true := by kernel_rfl
theorem callable_93 : callable Tryd.prog 93 = true := by kernel_rfl
theorem callable_94 : callable Tryd.prog 94 = true := by kernel_rfl
theorem callable_95 : callable Tryd.prog 95 = true := by kernel_rfl
theorem callable_96 : callable Tryd.prog 96 = true := by kernel_rfl
theorem callable_97 : callable Tryd.prog 97 = true := by kernel_rfl
theorem callable_98 : callable Tryd.prog 98 = true := by kernel_rfl
theorem callable_99 : callable Tryd.prog 99 = true := by kernel_rfl
theorem callable_100 : callable Tryd.prog 100 = true := by kernel_rfl
theorem callable_126 : callable Tryd.prog 126 = true := by kernel_rfl
attribute [simp] tI_0 tI_1 tI_2 tInt_2 tI_3 tInt_3 tI_4 tBool_4 tI_5 tInt_5 tI_6 tInt_6 tI_7 fieldsOk_7 tField_7_0 placeOf_7_0 tField_7_1 placeOf_7_1 tField_7_2 placeOf_7_2 tField_7_3 placeOf_7_3 tI_8 fieldsOk_8 tField_8_0 placeOf_8_0 tField_8_1 placeOf_8_1 tField_8_2 placeOf_8_2 tField_8_3 placeOf_8_3 tI_9 tStr_9 tI_10 tStr_10 tI_11 tStr_11 tI_12 tInt_12 tI_13 fieldsOk_13 tField_13_0 placeOf_13_0 tField_13_1 placeOf_13_1 tI_14 fieldsOk_14 tField_14_0 placeOf_14_0 tField_14_1 placeOf_14_1 tI_15 tI_16 tI_17 tI_18 fieldsOk_18 tField_18_0 placeOf_18_0 tI_19 fieldsOk_19 tField_19_0 placeOf_19_0 tI_20 tI_21 tInt_21 tI_22 tElem_22 tByteSl_22 tI_23 tElem_23 tI_24 tI_25 tI_26 tI_27 tElem_27 tI_28 tI_29 tI_30 tI_31 tI_32 tElem_32 tI_33 tI_34 tI_35 tI_36 tI_37 tEqS_37 fieldsOk_37 tField_37_0 placeOf_37_0 tField_37_1 placeOf_37_1 tField_37_2 placeOf_37_2 tI_38 tEqS_38 fieldsOk_38 tField_38_0 placeOf_38_0 tField_38_1 placeOf_38_1 tField_38_2 placeOf_38_2 tI_39 tI_40 tI_41 tI_42 tI_43 tI_44 tI_45 tI_46 tElem_46 tI_47 tElem_47 tI_48 fieldsOk_48 tField_48_0 placeOf_48_0 tField_48_1 placeOf_48_1 tI_49 fieldsOk_49 tField_49_0 placeOf_49_0 tField_49_1 placeOf_49_1 tI_50 fieldsOk_50 tField_50_0 placeOf_50_0 tField_50_1 placeOf_50_1 tI_51 tI_52 tI_53 tI_54 tI_55 tI_56 tI_57 tI_58 tI_59 tI_60 tI_61 tI_62 tI_63 tI_64 tI_65 tI_66 tI_67 tI_68 tI_69 fieldsOk_69 tField_69_0 placeOf_69_0 tField_69_1 placeOf_69_1 tI_70 fieldsOk_70 tField_70_0 placeOf_70_0 tField_70_1 placeOf_70_1 tI_71 tI_72 tI_73 tElem_73 tI_74 tI_75 tI_76 tI_77 tElem_77 tI_78 tI_79 tI_80 tI_81 tI_82 tElem_82 tI_83 tI_84 tI_85 tI_86 tI_87 tArr_87 tEqS_87 fieldsOk_87 placeOf_87_0 placeOf_87_1 placeOf_87_2 placeOf_87_3 placeOf_87_4 placeOf_87_5 placeOf_87_6 placeOf_87_7 placeOf_87_8 placeOf_87_9 placeOf_87_10 placeOf_87_11 tI_88 tInt_88 tI_89 tI_90 tI_91 tI_92 tI_93 tI_94 tEqS_94 fieldsOk_94 tField_94_0 placeOf_94_0 tField_94_1 placeOf_94_1 tI_95 tEqS_95 fieldsOk_95 tField_95_0 placeOf_95_0 tField_95_1 placeOf_95_1 tI_96 tI_97 tI_98 tI_99 tI_100 tArr_100 tEqS_100 fieldsOk_100 placeOf_100_0 placeOf_100_1 placeOf_100_2 placeOf_100_3 placeOf_100_4 placeOf_100_5 placeOf_100_6 placeOf_100_7 placeOf_100_8 placeOf_100_9 placeOf_100_10 placeOf_100_11 tI_101 tInt_101 tArr_102 fieldsOk_102 placeOf_102_0 placeOf_102_1 placeOf_102_2 placeOf_102_3 placeOf_102_4 placeOf_102_5 placeOf_102_6 placeOf_102_7 placeOf_102_8 placeOf_102_9 placeOf_102_10 placeOf_102_11 tI_103 tInt_103 tI_104 tI_105 tI_106 tI_107 tI_108 tI_109 tI_110 tI_111 tI_112 tI_113 tI_114 tI_115 tElem_115 tI_116 fieldsOk_116 tField_116_0 placeOf_116_0 tField_116_1 placeOf_116_1 tField_116_2 placeOf_116_2 tField_116_3 placeOf_116_3 tI_117 fieldsOk_117 tField_117_0 placeOf_117_0 tField_117_1 placeOf_117_1 tField_117_2 placeOf_117_2 tField_117_3 placeOf_117_3 tI_118 tI_119 tEqS_119 fieldsOk_119 tField_119_0 placeOf_119_0 tField_119_1 placeOf_119_1 tField_119_2 placeOf_119_2 tI_120 tEqS_120 fieldsOk_120 tField_120_0 placeOf_120_0 tField_120_1 placeOf_120_1 tField_120_2 placeOf_120_2 tI_121 tI_122 tI_123 tArr_123 tEqS_123 fieldsOk_123 placeOf_123_0 placeOf_123_1 placeOf_123_2 placeOf_123_3 placeOf_123_4 placeOf_123_5 placeOf_123_6 placeOf_123_7 placeOf_123_8 placeOf_123_9 placeOf_123_10 placeOf_123_11 tArr_124 fieldsOk_124 placeOf_124_0 placeOf_124_1 placeOf_124_2 placeOf_124_3 placeOf_124_4 placeOf_124_5 placeOf_124_6 placeOf_124_7 placeOf_124_8 placeOf_124_9 placeOf_124_10 placeOf_124_11 tI_125 tI_126 tElem_126 tI_127 tI_128 tI_129 tI_130 tI_131 tI_132 tI_133 tI_134 fieldsOk_134 tField_134_0 placeOf_134_0 tField_134_1 placeOf_134_1 tField_134_2 placeOf_134_2 tField_134_3 placeOf_134_3 tI_135 fieldsOk_135 tField_135_0 placeOf_135_0 tField_135_1 placeOf_135_1 tField_135_2 placeOf_135_2 tField_135_3 placeOf_135_3 tI_136 tArr_136 fieldsOk_136 placeOf_136_0 placeOf_136_1 placeOf_136_2 placeOf_136_3 placeOf_136_4 placeOf_136_5 placeOf_136_6 placeOf_136_7 placeOf_136_8 placeOf_136_9 placeOf_136_10 placeOf_136_11 tI_137 fieldsOk_137 placeOf_137_0 tI_138 fieldsOk_138 placeOf_138_0 tI_139 tI_140 tInt_140 tI_141 tInt_141 tI_142 tI_143 tI_144 tInt_144 tI_145 tInt_145 tI_146 fieldsOk_146 tField_146_0 placeOf_146_0 tField_146_1 placeOf_146_1 tField_146_2 placeOf_146_2 tField_146_3 placeOf_146_3 tField_146_4 placeOf_146_4 tField_146_5 placeOf_146_5 tField_146_6 placeOf_146_6 tField_146_7 placeOf_146_7 tField_146_8 placeOf_146_8 tField_146_9 placeOf_146_9 tField_146_10 placeOf_146_10 tI_147 fieldsOk_147 tField_147_0 placeOf_147_0 tField_147_1 placeOf_147_1 tField_147_2 placeOf_147_2 tField_147_3 placeOf_147_3 tField_147_4 placeOf_147_4 tField_147_5 placeOf_147_5 tField_147_6 placeOf_147_6 tField_147_7 placeOf_147_7 tField_147_8 placeOf_147_8 tField_147_9 placeOf_147_9 tField_147_10 placeOf_147_10 tI_148 tI_149 tI_150 tArr_150 tEqS_150 fieldsOk_150 placeOf_150_0 placeOf_150_1 placeOf_150_2 placeOf_150_3 placeOf_150_4 placeOf_150_5 placeOf_150_6 placeOf_150_7 placeOf_150_8 placeOf_150_9 placeOf_150_10 placeOf_150_11 tI_151 tArr_151 tEqS_151 fieldsOk_151 placeOf_151_0 placeOf_151_1 placeOf_151_2 placeOf_151_3 placeOf_151_4 placeOf_151_5 placeOf_151_6 placeOf_151_7 placeOf_151_8 placeOf_151_9 placeOf_151_10 placeOf_151_11 callable_2 callable_3 callable_4 callable_5 callable_6 callable_7 callable_8 callable_9 callable_10 callable_11 callable_12 callable_13 callable_14 callable_15 callable_16 callable_17 callable_18 callable_19 callable_20 callable_21 callable_22 callable_23 callable_24 callable_25 callable_26 callable_27 callable_28 callable_29 callable_30 callable_31 callable_32 callable_33 callable_34 callable_35 callable_36 callable_37 callable_38 callable_39 callable_40 callable_41 callable_42 callable_43 callable_44 callable_45 callable_46 callable_47 callable_48 callable_49 callable_50 callable_51 callable_52 callable_53 callable_54 callable_55 callable_56 callable_57 callable_58 callable_59 callable_60 callable_61 callable_62 callable_63 callable_64 callable_65 callable_66 callable_67 callable_68 callable_69 callable_70 callable_71 callable_72 callable_73 callable_74 callable_75 callable_76 callable_77 callable_78 callable_79 callable_80 callable_81 callable_82 callable_83 callable_84 callable_85 callable_86 callable_87 callable_88 callable_89 callable_90 callable_91 callable_92 callable_93 callable_94 callable_95 callable_96 callable_97 callable_98 callable_99 callable_100 callable_126
theorem mixed : Tryd.prog.follows .mixedOrders = true := by kernel_rfl

end Go.Fw.Ty
