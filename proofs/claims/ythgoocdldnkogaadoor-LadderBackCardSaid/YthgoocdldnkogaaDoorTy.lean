import Derived.Test.YthgoocdldnkogaaDoorRows
import Derived.Test.YthgoocdldnkogaaDoorG4
namespace Go.Proofs.YthgoocdldnkogaaDoor
open Go.RowKit

@[simp] theorem ty_1 : tyT Tryd.prog 1 = some (1, false) := by kernel_rfl
@[simp] theorem sl_1 : slT Tryd.prog 1 = none := by kernel_rfl
@[simp] theorem zero_1 : zeroT Tryd.prog 1 = some ([.nilFunc]) := by kernel_rfl
@[simp] theorem str_1 : isStrT Tryd.prog 1 = false := by kernel_rfl
@[simp] theorem isint_1 : isIntT Tryd.prog 1 = false := by kernel_rfl
@[simp] theorem ty_2 : tyT Tryd.prog 2 = some (1, false) := by kernel_rfl
@[simp] theorem sl_2 : slT Tryd.prog 2 = none := by kernel_rfl
@[simp] theorem zero_2 : zeroT Tryd.prog 2 = some ([.int .i64 0]) := by kernel_rfl
@[simp] theorem int_2 : intT Tryd.prog 2 = some .i64 := by kernel_rfl
@[simp] theorem str_2 : isStrT Tryd.prog 2 = false := by kernel_rfl
@[simp] theorem isint_2 : isIntT Tryd.prog 2 = true := by kernel_rfl
@[simp] theorem ty_3 : tyT Tryd.prog 3 = some (1, false) := by kernel_rfl
@[simp] theorem sl_3 : slT Tryd.prog 3 = none := by kernel_rfl
@[simp] theorem zero_3 : zeroT Tryd.prog 3 = some ([.int .i64 0]) := by kernel_rfl
@[simp] theorem int_3 : intT Tryd.prog 3 = some .i64 := by kernel_rfl
@[simp] theorem str_3 : isStrT Tryd.prog 3 = false := by kernel_rfl
@[simp] theorem isint_3 : isIntT Tryd.prog 3 = true := by kernel_rfl
@[simp] theorem ty_4 : tyT Tryd.prog 4 = some (1, false) := by kernel_rfl
@[simp] theorem sl_4 : slT Tryd.prog 4 = none := by kernel_rfl
@[simp] theorem zero_4 : zeroT Tryd.prog 4 = some ([.bool false]) := by kernel_rfl
@[simp] theorem str_4 : isStrT Tryd.prog 4 = false := by kernel_rfl
@[simp] theorem isint_4 : isIntT Tryd.prog 4 = false := by kernel_rfl
@[simp] theorem bool_4 : isBoolT Tryd.prog 4 = true := by kernel_rfl
@[simp] theorem ty_5 : tyT Tryd.prog 5 = some (1, false) := by kernel_rfl
@[simp] theorem sl_5 : slT Tryd.prog 5 = none := by kernel_rfl
@[simp] theorem zero_5 : zeroT Tryd.prog 5 = some ([.int .u8 0]) := by kernel_rfl
@[simp] theorem int_5 : intT Tryd.prog 5 = some .u8 := by kernel_rfl
@[simp] theorem str_5 : isStrT Tryd.prog 5 = false := by kernel_rfl
@[simp] theorem isint_5 : isIntT Tryd.prog 5 = true := by kernel_rfl
@[simp] theorem ty_7 : tyT Tryd.prog 7 = some (4, true) := by kernel_rfl
@[simp] theorem sl_7 : slT Tryd.prog 7 = none := by kernel_rfl
@[simp] theorem fld_7_0 : fldT Tryd.prog 7 0 = some (0, 1, false) := by kernel_rfl
@[simp] theorem fld_7_1 : fldT Tryd.prog 7 1 = some (1, 1, false) := by kernel_rfl
@[simp] theorem fld_7_2 : fldT Tryd.prog 7 2 = some (2, 1, false) := by kernel_rfl
@[simp] theorem fld_7_3 : fldT Tryd.prog 7 3 = some (3, 1, false) := by kernel_rfl
@[simp] theorem pl_7 : plT Tryd.prog 7 = some fun i => [(0, 1), (1, 1), (2, 1), (3, 1)][i]? := by kernel_rfl
@[simp] theorem zero_7 : zeroT Tryd.prog 7 = some ([.int .i64 0, .int .i64 0, .bool false, .int .u8 0]) := by kernel_rfl
@[simp] theorem str_7 : isStrT Tryd.prog 7 = false := by kernel_rfl
@[simp] theorem isint_7 : isIntT Tryd.prog 7 = false := by kernel_rfl
@[simp] theorem ty_9 : tyT Tryd.prog 9 = some (1, false) := by kernel_rfl
@[simp] theorem sl_9 : slT Tryd.prog 9 = none := by kernel_rfl
@[simp] theorem zero_9 : zeroT Tryd.prog 9 = some ([.string ByteArray.empty]) := by kernel_rfl
@[simp] theorem str_9 : isStrT Tryd.prog 9 = true := by kernel_rfl
@[simp] theorem isint_9 : isIntT Tryd.prog 9 = false := by kernel_rfl
@[simp] theorem ty_12 : tyT Tryd.prog 12 = some (1, false) := by kernel_rfl
@[simp] theorem sl_12 : slT Tryd.prog 12 = none := by kernel_rfl
@[simp] theorem zero_12 : zeroT Tryd.prog 12 = some ([.int .u64 0]) := by kernel_rfl
@[simp] theorem int_12 : intT Tryd.prog 12 = some .u64 := by kernel_rfl
@[simp] theorem str_12 : isStrT Tryd.prog 12 = false := by kernel_rfl
@[simp] theorem isint_12 : isIntT Tryd.prog 12 = true := by kernel_rfl
@[simp] theorem ty_13 : tyT Tryd.prog 13 = some (2, true) := by kernel_rfl
@[simp] theorem sl_13 : slT Tryd.prog 13 = none := by kernel_rfl
@[simp] theorem fld_13_0 : fldT Tryd.prog 13 0 = some (0, 1, false) := by kernel_rfl
@[simp] theorem fld_13_1 : fldT Tryd.prog 13 1 = some (1, 1, false) := by kernel_rfl
@[simp] theorem pl_13 : plT Tryd.prog 13 = some fun i => [(0, 1), (1, 1)][i]? := by kernel_rfl
@[simp] theorem zero_13 : zeroT Tryd.prog 13 = some ([.string ByteArray.empty, .int .u64 0]) := by kernel_rfl
@[simp] theorem str_13 : isStrT Tryd.prog 13 = false := by kernel_rfl
@[simp] theorem isint_13 : isIntT Tryd.prog 13 = false := by kernel_rfl
@[simp] theorem ty_18 : tyT Tryd.prog 18 = some (1, true) := by kernel_rfl
@[simp] theorem sl_18 : slT Tryd.prog 18 = none := by kernel_rfl
@[simp] theorem fld_18_0 : fldT Tryd.prog 18 0 = some (0, 1, false) := by kernel_rfl
@[simp] theorem pl_18 : plT Tryd.prog 18 = some fun i => [(0, 1)][i]? := by kernel_rfl
@[simp] theorem zero_18 : zeroT Tryd.prog 18 = some ([.pointer none]) := by kernel_rfl
@[simp] theorem str_18 : isStrT Tryd.prog 18 = false := by kernel_rfl
@[simp] theorem isint_18 : isIntT Tryd.prog 18 = false := by kernel_rfl
@[simp] theorem ty_19 : tyT Tryd.prog 19 = some (1, true) := by kernel_rfl
@[simp] theorem sl_19 : slT Tryd.prog 19 = none := by kernel_rfl
@[simp] theorem fld_19_0 : fldT Tryd.prog 19 0 = some (0, 1, false) := by kernel_rfl
@[simp] theorem pl_19 : plT Tryd.prog 19 = some fun i => [(0, 1)][i]? := by kernel_rfl
@[simp] theorem zero_19 : zeroT Tryd.prog 19 = some ([.pointer none]) := by kernel_rfl
@[simp] theorem str_19 : isStrT Tryd.prog 19 = false := by kernel_rfl
@[simp] theorem isint_19 : isIntT Tryd.prog 19 = false := by kernel_rfl
@[simp] theorem if_20 : ifT Tryd.prog 20 = true := by kernel_rfl
@[simp] theorem ty_21 : tyT Tryd.prog 21 = some (1, false) := by kernel_rfl
@[simp] theorem sl_21 : slT Tryd.prog 21 = none := by kernel_rfl
@[simp] theorem zero_21 : zeroT Tryd.prog 21 = some ([.int .i32 0]) := by kernel_rfl
@[simp] theorem int_21 : intT Tryd.prog 21 = some .i32 := by kernel_rfl
@[simp] theorem str_21 : isStrT Tryd.prog 21 = false := by kernel_rfl
@[simp] theorem isint_21 : isIntT Tryd.prog 21 = true := by kernel_rfl
@[simp] theorem ty_22 : tyT Tryd.prog 22 = some (1, false) := by kernel_rfl
@[simp] theorem sl_22 : slT Tryd.prog 22 = some (38, 4, 72) := by kernel_rfl
@[simp] theorem zero_22 : zeroT Tryd.prog 22 = some ([.slice none 0 0]) := by kernel_rfl
@[simp] theorem str_22 : isStrT Tryd.prog 22 = false := by kernel_rfl
@[simp] theorem isint_22 : isIntT Tryd.prog 22 = false := by kernel_rfl
@[simp] theorem ty_23 : tyT Tryd.prog 23 = some (3, true) := by kernel_rfl
@[simp] theorem sl_23 : slT Tryd.prog 23 = none := by kernel_rfl
@[simp] theorem fld_23_0 : fldT Tryd.prog 23 0 = some (0, 1, false) := by kernel_rfl
@[simp] theorem fld_23_1 : fldT Tryd.prog 23 1 = some (1, 1, false) := by kernel_rfl
@[simp] theorem fld_23_2 : fldT Tryd.prog 23 2 = some (2, 1, false) := by kernel_rfl
@[simp] theorem pl_23 : plT Tryd.prog 23 = some fun i => [(0, 1), (1, 1), (2, 1)][i]? := by kernel_rfl
@[simp] theorem zero_23 : zeroT Tryd.prog 23 = some ([.int .i64 0, .int .i64 0, .slice none 0 0]) := by kernel_rfl
@[simp] theorem str_23 : isStrT Tryd.prog 23 = false := by kernel_rfl
@[simp] theorem isint_23 : isIntT Tryd.prog 23 = false := by kernel_rfl
@[simp] theorem ty_24 : tyT Tryd.prog 24 = some (3, true) := by kernel_rfl
@[simp] theorem sl_24 : slT Tryd.prog 24 = none := by kernel_rfl
@[simp] theorem fld_24_0 : fldT Tryd.prog 24 0 = some (0, 1, false) := by kernel_rfl
@[simp] theorem fld_24_1 : fldT Tryd.prog 24 1 = some (1, 1, false) := by kernel_rfl
@[simp] theorem fld_24_2 : fldT Tryd.prog 24 2 = some (2, 1, false) := by kernel_rfl
@[simp] theorem pl_24 : plT Tryd.prog 24 = some fun i => [(0, 1), (1, 1), (2, 1)][i]? := by kernel_rfl
@[simp] theorem zero_24 : zeroT Tryd.prog 24 = some ([.int .i64 0, .int .i64 0, .slice none 0 0]) := by kernel_rfl
@[simp] theorem str_24 : isStrT Tryd.prog 24 = false := by kernel_rfl
@[simp] theorem isint_24 : isIntT Tryd.prog 24 = false := by kernel_rfl
@[simp] theorem ty_25 : tyT Tryd.prog 25 = some (1, false) := by kernel_rfl
@[simp] theorem sl_25 : slT Tryd.prog 25 = some (34, 4, 32) := by kernel_rfl
@[simp] theorem zero_25 : zeroT Tryd.prog 25 = some ([.slice none 0 0]) := by kernel_rfl
@[simp] theorem str_25 : isStrT Tryd.prog 25 = false := by kernel_rfl
@[simp] theorem isint_25 : isIntT Tryd.prog 25 = false := by kernel_rfl
@[simp] theorem ty_26 : tyT Tryd.prog 26 = some (1, false) := by kernel_rfl
@[simp] theorem sl_26 : slT Tryd.prog 26 = none := by kernel_rfl
@[simp] theorem zero_26 : zeroT Tryd.prog 26 = some ([.nilFunc]) := by kernel_rfl
@[simp] theorem str_26 : isStrT Tryd.prog 26 = false := by kernel_rfl
@[simp] theorem isint_26 : isIntT Tryd.prog 26 = false := by kernel_rfl
@[simp] theorem ty_27 : tyT Tryd.prog 27 = some (1, false) := by kernel_rfl
@[simp] theorem sl_27 : slT Tryd.prog 27 = none := by kernel_rfl
@[simp] theorem zero_27 : zeroT Tryd.prog 27 = some ([.nilFunc]) := by kernel_rfl
@[simp] theorem str_27 : isStrT Tryd.prog 27 = false := by kernel_rfl
@[simp] theorem isint_27 : isIntT Tryd.prog 27 = false := by kernel_rfl
@[simp] theorem ty_28 : tyT Tryd.prog 28 = some (1, false) := by kernel_rfl
@[simp] theorem sl_28 : slT Tryd.prog 28 = none := by kernel_rfl
@[simp] theorem zero_28 : zeroT Tryd.prog 28 = some ([.nilFunc]) := by kernel_rfl
@[simp] theorem str_28 : isStrT Tryd.prog 28 = false := by kernel_rfl
@[simp] theorem isint_28 : isIntT Tryd.prog 28 = false := by kernel_rfl
@[simp] theorem ty_29 : tyT Tryd.prog 29 = some (1, false) := by kernel_rfl
@[simp] theorem sl_29 : slT Tryd.prog 29 = none := by kernel_rfl
@[simp] theorem zero_29 : zeroT Tryd.prog 29 = some ([.int .i64 0]) := by kernel_rfl
@[simp] theorem int_29 : intT Tryd.prog 29 = some .i64 := by kernel_rfl
@[simp] theorem str_29 : isStrT Tryd.prog 29 = false := by kernel_rfl
@[simp] theorem isint_29 : isIntT Tryd.prog 29 = true := by kernel_rfl
@[simp] theorem ty_31 : tyT Tryd.prog 31 = some (1, false) := by kernel_rfl
@[simp] theorem sl_31 : slT Tryd.prog 31 = none := by kernel_rfl
@[simp] theorem zero_31 : zeroT Tryd.prog 31 = some ([.nilFunc]) := by kernel_rfl
@[simp] theorem str_31 : isStrT Tryd.prog 31 = false := by kernel_rfl
@[simp] theorem isint_31 : isIntT Tryd.prog 31 = false := by kernel_rfl
@[simp] theorem ty_32 : tyT Tryd.prog 32 = some (1, false) := by kernel_rfl
@[simp] theorem sl_32 : slT Tryd.prog 32 = none := by kernel_rfl
@[simp] theorem zero_32 : zeroT Tryd.prog 32 = some ([.int .i64 0]) := by kernel_rfl
@[simp] theorem int_32 : intT Tryd.prog 32 = some .i64 := by kernel_rfl
@[simp] theorem str_32 : isStrT Tryd.prog 32 = false := by kernel_rfl
@[simp] theorem isint_32 : isIntT Tryd.prog 32 = true := by kernel_rfl
@[simp] theorem ty_33 : tyT Tryd.prog 33 = some (4, true) := by kernel_rfl
@[simp] theorem sl_33 : slT Tryd.prog 33 = none := by kernel_rfl
@[simp] theorem fld_33_0 : fldT Tryd.prog 33 0 = some (0, 1, false) := by kernel_rfl
@[simp] theorem fld_33_1 : fldT Tryd.prog 33 1 = some (1, 1, false) := by kernel_rfl
@[simp] theorem fld_33_2 : fldT Tryd.prog 33 2 = some (2, 1, false) := by kernel_rfl
@[simp] theorem fld_33_3 : fldT Tryd.prog 33 3 = some (3, 1, false) := by kernel_rfl
@[simp] theorem pl_33 : plT Tryd.prog 33 = some fun i => [(0, 1), (1, 1), (2, 1), (3, 1)][i]? := by kernel_rfl
@[simp] theorem zero_33 : zeroT Tryd.prog 33 = some ([.int .i64 0, .bool false, .int .i64 0, .int .i64 0]) := by kernel_rfl
@[simp] theorem str_33 : isStrT Tryd.prog 33 = false := by kernel_rfl
@[simp] theorem isint_33 : isIntT Tryd.prog 33 = false := by kernel_rfl
@[simp] theorem ty_34 : tyT Tryd.prog 34 = some (4, true) := by kernel_rfl
@[simp] theorem sl_34 : slT Tryd.prog 34 = none := by kernel_rfl
@[simp] theorem fld_34_0 : fldT Tryd.prog 34 0 = some (0, 1, false) := by kernel_rfl
@[simp] theorem fld_34_1 : fldT Tryd.prog 34 1 = some (1, 1, false) := by kernel_rfl
@[simp] theorem fld_34_2 : fldT Tryd.prog 34 2 = some (2, 1, false) := by kernel_rfl
@[simp] theorem fld_34_3 : fldT Tryd.prog 34 3 = some (3, 1, false) := by kernel_rfl
@[simp] theorem pl_34 : plT Tryd.prog 34 = some fun i => [(0, 1), (1, 1), (2, 1), (3, 1)][i]? := by kernel_rfl
@[simp] theorem flat_34 : flatT Tryd.prog 34 = some [.i, .b, .i, .i] := by kernel_rfl
@[simp] theorem zero_34 : zeroT Tryd.prog 34 = some ([.int .i64 0, .bool false, .int .i64 0, .int .i64 0]) := by kernel_rfl
@[simp] theorem str_34 : isStrT Tryd.prog 34 = false := by kernel_rfl
@[simp] theorem isint_34 : isIntT Tryd.prog 34 = false := by kernel_rfl
@[simp] theorem ty_35 : tyT Tryd.prog 35 = some (1, false) := by kernel_rfl
@[simp] theorem sl_35 : slT Tryd.prog 35 = some (45, 10, 96) := by kernel_rfl
@[simp] theorem zero_35 : zeroT Tryd.prog 35 = some ([.slice none 0 0]) := by kernel_rfl
@[simp] theorem str_35 : isStrT Tryd.prog 35 = false := by kernel_rfl
@[simp] theorem isint_35 : isIntT Tryd.prog 35 = false := by kernel_rfl
@[simp] theorem ty_36 : tyT Tryd.prog 36 = some (1, false) := by kernel_rfl
@[simp] theorem sl_36 : slT Tryd.prog 36 = some (48, 5, 64) := by kernel_rfl
@[simp] theorem zero_36 : zeroT Tryd.prog 36 = some ([.slice none 0 0]) := by kernel_rfl
@[simp] theorem str_36 : isStrT Tryd.prog 36 = false := by kernel_rfl
@[simp] theorem isint_36 : isIntT Tryd.prog 36 = false := by kernel_rfl
@[simp] theorem ty_37 : tyT Tryd.prog 37 = some (4, true) := by kernel_rfl
@[simp] theorem sl_37 : slT Tryd.prog 37 = none := by kernel_rfl
@[simp] theorem fld_37_0 : fldT Tryd.prog 37 0 = some (0, 1, false) := by kernel_rfl
@[simp] theorem fld_37_1 : fldT Tryd.prog 37 1 = some (1, 1, false) := by kernel_rfl
@[simp] theorem fld_37_2 : fldT Tryd.prog 37 2 = some (2, 1, false) := by kernel_rfl
@[simp] theorem fld_37_3 : fldT Tryd.prog 37 3 = some (3, 1, false) := by kernel_rfl
@[simp] theorem pl_37 : plT Tryd.prog 37 = some fun i => [(0, 1), (1, 1), (2, 1), (3, 1)][i]? := by kernel_rfl
@[simp] theorem zero_37 : zeroT Tryd.prog 37 = some ([.int .i64 0, .string ByteArray.empty, .slice none 0 0, .slice none 0 0]) := by kernel_rfl
@[simp] theorem str_37 : isStrT Tryd.prog 37 = false := by kernel_rfl
@[simp] theorem isint_37 : isIntT Tryd.prog 37 = false := by kernel_rfl
@[simp] theorem ty_38 : tyT Tryd.prog 38 = some (4, true) := by kernel_rfl
@[simp] theorem sl_38 : slT Tryd.prog 38 = none := by kernel_rfl
@[simp] theorem fld_38_0 : fldT Tryd.prog 38 0 = some (0, 1, false) := by kernel_rfl
@[simp] theorem fld_38_1 : fldT Tryd.prog 38 1 = some (1, 1, false) := by kernel_rfl
@[simp] theorem fld_38_2 : fldT Tryd.prog 38 2 = some (2, 1, false) := by kernel_rfl
@[simp] theorem fld_38_3 : fldT Tryd.prog 38 3 = some (3, 1, false) := by kernel_rfl
@[simp] theorem pl_38 : plT Tryd.prog 38 = some fun i => [(0, 1), (1, 1), (2, 1), (3, 1)][i]? := by kernel_rfl
@[simp] theorem zero_38 : zeroT Tryd.prog 38 = some ([.int .i64 0, .string ByteArray.empty, .slice none 0 0, .slice none 0 0]) := by kernel_rfl
@[simp] theorem str_38 : isStrT Tryd.prog 38 = false := by kernel_rfl
@[simp] theorem isint_38 : isIntT Tryd.prog 38 = false := by kernel_rfl
@[simp] theorem ty_39 : tyT Tryd.prog 39 = some (1, false) := by kernel_rfl
@[simp] theorem sl_39 : slT Tryd.prog 39 = none := by kernel_rfl
@[simp] theorem zero_39 : zeroT Tryd.prog 39 = some ([.int .i64 0]) := by kernel_rfl
@[simp] theorem int_39 : intT Tryd.prog 39 = some .i64 := by kernel_rfl
@[simp] theorem str_39 : isStrT Tryd.prog 39 = false := by kernel_rfl
@[simp] theorem isint_39 : isIntT Tryd.prog 39 = true := by kernel_rfl
@[simp] theorem ty_40 : tyT Tryd.prog 40 = some (2, true) := by kernel_rfl
@[simp] theorem sl_40 : slT Tryd.prog 40 = none := by kernel_rfl
@[simp] theorem fld_40_0 : fldT Tryd.prog 40 0 = some (0, 1, false) := by kernel_rfl
@[simp] theorem fld_40_1 : fldT Tryd.prog 40 1 = some (1, 1, false) := by kernel_rfl
@[simp] theorem pl_40 : plT Tryd.prog 40 = some fun i => [(0, 1), (1, 1)][i]? := by kernel_rfl
@[simp] theorem zero_40 : zeroT Tryd.prog 40 = some ([.int .i64 0, .int .i64 0]) := by kernel_rfl
@[simp] theorem str_40 : isStrT Tryd.prog 40 = false := by kernel_rfl
@[simp] theorem isint_40 : isIntT Tryd.prog 40 = false := by kernel_rfl
@[simp] theorem ty_41 : tyT Tryd.prog 41 = some (2, true) := by kernel_rfl
@[simp] theorem sl_41 : slT Tryd.prog 41 = none := by kernel_rfl
@[simp] theorem fld_41_0 : fldT Tryd.prog 41 0 = some (0, 1, false) := by kernel_rfl
@[simp] theorem fld_41_1 : fldT Tryd.prog 41 1 = some (1, 1, false) := by kernel_rfl
@[simp] theorem pl_41 : plT Tryd.prog 41 = some fun i => [(0, 1), (1, 1)][i]? := by kernel_rfl
@[simp] theorem flat_41 : flatT Tryd.prog 41 = some [.i, .i] := by kernel_rfl
@[simp] theorem zero_41 : zeroT Tryd.prog 41 = some ([.int .i64 0, .int .i64 0]) := by kernel_rfl
@[simp] theorem str_41 : isStrT Tryd.prog 41 = false := by kernel_rfl
@[simp] theorem isint_41 : isIntT Tryd.prog 41 = false := by kernel_rfl
@[simp] theorem ty_42 : tyT Tryd.prog 42 = some (4, true) := by kernel_rfl
@[simp] theorem sl_42 : slT Tryd.prog 42 = none := by kernel_rfl
@[simp] theorem fld_42_0 : fldT Tryd.prog 42 0 = some (0, 1, false) := by kernel_rfl
@[simp] theorem fld_42_1 : fldT Tryd.prog 42 1 = some (1, 1, false) := by kernel_rfl
@[simp] theorem fld_42_2 : fldT Tryd.prog 42 2 = some (2, 1, false) := by kernel_rfl
@[simp] theorem fld_42_3 : fldT Tryd.prog 42 3 = some (3, 1, false) := by kernel_rfl
@[simp] theorem pl_42 : plT Tryd.prog 42 = some fun i => [(0, 1), (1, 1), (2, 1), (3, 1)][i]? := by kernel_rfl
@[simp] theorem zero_42 : zeroT Tryd.prog 42 = some ([.int .i64 0, .int .i64 0, .int .i64 0, .string ByteArray.empty]) := by kernel_rfl
@[simp] theorem str_42 : isStrT Tryd.prog 42 = false := by kernel_rfl
@[simp] theorem isint_42 : isIntT Tryd.prog 42 = false := by kernel_rfl
@[simp] theorem ty_43 : tyT Tryd.prog 43 = some (4, true) := by kernel_rfl
@[simp] theorem sl_43 : slT Tryd.prog 43 = none := by kernel_rfl
@[simp] theorem fld_43_0 : fldT Tryd.prog 43 0 = some (0, 1, false) := by kernel_rfl
@[simp] theorem fld_43_1 : fldT Tryd.prog 43 1 = some (1, 1, false) := by kernel_rfl
@[simp] theorem fld_43_2 : fldT Tryd.prog 43 2 = some (2, 1, false) := by kernel_rfl
@[simp] theorem fld_43_3 : fldT Tryd.prog 43 3 = some (3, 1, false) := by kernel_rfl
@[simp] theorem pl_43 : plT Tryd.prog 43 = some fun i => [(0, 1), (1, 1), (2, 1), (3, 1)][i]? := by kernel_rfl
@[simp] theorem flat_43 : flatT Tryd.prog 43 = some [.i, .i, .i, .s] := by kernel_rfl
@[simp] theorem zero_43 : zeroT Tryd.prog 43 = some ([.int .i64 0, .int .i64 0, .int .i64 0, .string ByteArray.empty]) := by kernel_rfl
@[simp] theorem str_43 : isStrT Tryd.prog 43 = false := by kernel_rfl
@[simp] theorem isint_43 : isIntT Tryd.prog 43 = false := by kernel_rfl
@[simp] theorem ty_44 : tyT Tryd.prog 44 = some (10, true) := by kernel_rfl
@[simp] theorem sl_44 : slT Tryd.prog 44 = none := by kernel_rfl
@[simp] theorem fld_44_0 : fldT Tryd.prog 44 0 = some (0, 1, false) := by kernel_rfl
@[simp] theorem fld_44_1 : fldT Tryd.prog 44 1 = some (1, 1, false) := by kernel_rfl
@[simp] theorem fld_44_2 : fldT Tryd.prog 44 2 = some (2, 2, true) := by kernel_rfl
@[simp] theorem fld_44_3 : fldT Tryd.prog 44 3 = some (4, 1, false) := by kernel_rfl
@[simp] theorem fld_44_4 : fldT Tryd.prog 44 4 = some (5, 4, true) := by kernel_rfl
@[simp] theorem fld_44_5 : fldT Tryd.prog 44 5 = some (9, 1, false) := by kernel_rfl
@[simp] theorem pl_44 : plT Tryd.prog 44 = some fun i => [(0, 1), (1, 1), (2, 2), (4, 1), (5, 4), (9, 1)][i]? := by kernel_rfl
@[simp] theorem zero_44 : zeroT Tryd.prog 44 = some ([.int .i64 0, .string ByteArray.empty, .int .i64 0, .int .i64 0, .bool false, .int .i64 0, .int .i64 0, .int .i64 0, .string ByteArray.empty, .int .i64 0]) := by kernel_rfl
@[simp] theorem str_44 : isStrT Tryd.prog 44 = false := by kernel_rfl
@[simp] theorem isint_44 : isIntT Tryd.prog 44 = false := by kernel_rfl
@[simp] theorem ty_45 : tyT Tryd.prog 45 = some (10, true) := by kernel_rfl
@[simp] theorem sl_45 : slT Tryd.prog 45 = none := by kernel_rfl
@[simp] theorem fld_45_0 : fldT Tryd.prog 45 0 = some (0, 1, false) := by kernel_rfl
@[simp] theorem fld_45_1 : fldT Tryd.prog 45 1 = some (1, 1, false) := by kernel_rfl
@[simp] theorem fld_45_2 : fldT Tryd.prog 45 2 = some (2, 2, true) := by kernel_rfl
@[simp] theorem fld_45_3 : fldT Tryd.prog 45 3 = some (4, 1, false) := by kernel_rfl
@[simp] theorem fld_45_4 : fldT Tryd.prog 45 4 = some (5, 4, true) := by kernel_rfl
@[simp] theorem fld_45_5 : fldT Tryd.prog 45 5 = some (9, 1, false) := by kernel_rfl
@[simp] theorem pl_45 : plT Tryd.prog 45 = some fun i => [(0, 1), (1, 1), (2, 2), (4, 1), (5, 4), (9, 1)][i]? := by kernel_rfl
@[simp] theorem flat_45 : flatT Tryd.prog 45 = some [.i, .s, .i, .i, .b, .i, .i, .i, .s, .i] := by kernel_rfl
@[simp] theorem zero_45 : zeroT Tryd.prog 45 = some ([.int .i64 0, .string ByteArray.empty, .int .i64 0, .int .i64 0, .bool false, .int .i64 0, .int .i64 0, .int .i64 0, .string ByteArray.empty, .int .i64 0]) := by kernel_rfl
@[simp] theorem str_45 : isStrT Tryd.prog 45 = false := by kernel_rfl
@[simp] theorem isint_45 : isIntT Tryd.prog 45 = false := by kernel_rfl
@[simp] theorem ty_46 : tyT Tryd.prog 46 = some (1, false) := by kernel_rfl
@[simp] theorem sl_46 : slT Tryd.prog 46 = some (3, 1, 8) := by kernel_rfl
@[simp] theorem zero_46 : zeroT Tryd.prog 46 = some ([.slice none 0 0]) := by kernel_rfl
@[simp] theorem str_46 : isStrT Tryd.prog 46 = false := by kernel_rfl
@[simp] theorem isint_46 : isIntT Tryd.prog 46 = false := by kernel_rfl
@[simp] theorem ty_47 : tyT Tryd.prog 47 = some (5, true) := by kernel_rfl
@[simp] theorem sl_47 : slT Tryd.prog 47 = none := by kernel_rfl
@[simp] theorem fld_47_0 : fldT Tryd.prog 47 0 = some (0, 1, false) := by kernel_rfl
@[simp] theorem fld_47_1 : fldT Tryd.prog 47 1 = some (1, 1, false) := by kernel_rfl
@[simp] theorem fld_47_2 : fldT Tryd.prog 47 2 = some (2, 1, false) := by kernel_rfl
@[simp] theorem fld_47_3 : fldT Tryd.prog 47 3 = some (3, 1, false) := by kernel_rfl
@[simp] theorem fld_47_4 : fldT Tryd.prog 47 4 = some (4, 1, false) := by kernel_rfl
@[simp] theorem pl_47 : plT Tryd.prog 47 = some fun i => [(0, 1), (1, 1), (2, 1), (3, 1), (4, 1)][i]? := by kernel_rfl
@[simp] theorem zero_47 : zeroT Tryd.prog 47 = some ([.int .i64 0, .string ByteArray.empty, .slice none 0 0, .bool false, .int .i64 0]) := by kernel_rfl
@[simp] theorem str_47 : isStrT Tryd.prog 47 = false := by kernel_rfl
@[simp] theorem isint_47 : isIntT Tryd.prog 47 = false := by kernel_rfl
@[simp] theorem ty_48 : tyT Tryd.prog 48 = some (5, true) := by kernel_rfl
@[simp] theorem sl_48 : slT Tryd.prog 48 = none := by kernel_rfl
@[simp] theorem fld_48_0 : fldT Tryd.prog 48 0 = some (0, 1, false) := by kernel_rfl
@[simp] theorem fld_48_1 : fldT Tryd.prog 48 1 = some (1, 1, false) := by kernel_rfl
@[simp] theorem fld_48_2 : fldT Tryd.prog 48 2 = some (2, 1, false) := by kernel_rfl
@[simp] theorem fld_48_3 : fldT Tryd.prog 48 3 = some (3, 1, false) := by kernel_rfl
@[simp] theorem fld_48_4 : fldT Tryd.prog 48 4 = some (4, 1, false) := by kernel_rfl
@[simp] theorem pl_48 : plT Tryd.prog 48 = some fun i => [(0, 1), (1, 1), (2, 1), (3, 1), (4, 1)][i]? := by kernel_rfl
@[simp] theorem zero_48 : zeroT Tryd.prog 48 = some ([.int .i64 0, .string ByteArray.empty, .slice none 0 0, .bool false, .int .i64 0]) := by kernel_rfl
@[simp] theorem str_48 : isStrT Tryd.prog 48 = false := by kernel_rfl
@[simp] theorem isint_48 : isIntT Tryd.prog 48 = false := by kernel_rfl
@[simp] theorem ty_49 : tyT Tryd.prog 49 = some (1, false) := by kernel_rfl
@[simp] theorem sl_49 : slT Tryd.prog 49 = none := by kernel_rfl
@[simp] theorem zero_49 : zeroT Tryd.prog 49 = some ([.nilFunc]) := by kernel_rfl
@[simp] theorem str_49 : isStrT Tryd.prog 49 = false := by kernel_rfl
@[simp] theorem isint_49 : isIntT Tryd.prog 49 = false := by kernel_rfl
@[simp] theorem ty_50 : tyT Tryd.prog 50 = some (1, false) := by kernel_rfl
@[simp] theorem sl_50 : slT Tryd.prog 50 = none := by kernel_rfl
@[simp] theorem zero_50 : zeroT Tryd.prog 50 = some ([.nilFunc]) := by kernel_rfl
@[simp] theorem str_50 : isStrT Tryd.prog 50 = false := by kernel_rfl
@[simp] theorem isint_50 : isIntT Tryd.prog 50 = false := by kernel_rfl
@[simp] theorem ty_51 : tyT Tryd.prog 51 = some (1, false) := by kernel_rfl
@[simp] theorem sl_51 : slT Tryd.prog 51 = none := by kernel_rfl
@[simp] theorem zero_51 : zeroT Tryd.prog 51 = some ([.nilFunc]) := by kernel_rfl
@[simp] theorem str_51 : isStrT Tryd.prog 51 = false := by kernel_rfl
@[simp] theorem isint_51 : isIntT Tryd.prog 51 = false := by kernel_rfl
@[simp] theorem ty_52 : tyT Tryd.prog 52 = some (1, false) := by kernel_rfl
@[simp] theorem sl_52 : slT Tryd.prog 52 = none := by kernel_rfl
@[simp] theorem zero_52 : zeroT Tryd.prog 52 = some ([.nilFunc]) := by kernel_rfl
@[simp] theorem str_52 : isStrT Tryd.prog 52 = false := by kernel_rfl
@[simp] theorem isint_52 : isIntT Tryd.prog 52 = false := by kernel_rfl
@[simp] theorem ty_53 : tyT Tryd.prog 53 = some (1, false) := by kernel_rfl
@[simp] theorem sl_53 : slT Tryd.prog 53 = none := by kernel_rfl
@[simp] theorem zero_53 : zeroT Tryd.prog 53 = some ([.nilFunc]) := by kernel_rfl
@[simp] theorem str_53 : isStrT Tryd.prog 53 = false := by kernel_rfl
@[simp] theorem isint_53 : isIntT Tryd.prog 53 = false := by kernel_rfl
@[simp] theorem ty_54 : tyT Tryd.prog 54 = some (1, false) := by kernel_rfl
@[simp] theorem sl_54 : slT Tryd.prog 54 = none := by kernel_rfl
@[simp] theorem zero_54 : zeroT Tryd.prog 54 = some ([.nilFunc]) := by kernel_rfl
@[simp] theorem str_54 : isStrT Tryd.prog 54 = false := by kernel_rfl
@[simp] theorem isint_54 : isIntT Tryd.prog 54 = false := by kernel_rfl
@[simp] theorem ty_55 : tyT Tryd.prog 55 = some (1, false) := by kernel_rfl
@[simp] theorem sl_55 : slT Tryd.prog 55 = some (5, 1, 1) := by kernel_rfl
@[simp] theorem zero_55 : zeroT Tryd.prog 55 = some ([.slice none 0 0]) := by kernel_rfl
@[simp] theorem str_55 : isStrT Tryd.prog 55 = false := by kernel_rfl
@[simp] theorem isint_55 : isIntT Tryd.prog 55 = false := by kernel_rfl
@[simp] theorem ty_56 : tyT Tryd.prog 56 = some (1, false) := by kernel_rfl
@[simp] theorem sl_56 : slT Tryd.prog 56 = none := by kernel_rfl
@[simp] theorem zero_56 : zeroT Tryd.prog 56 = some ([.nilFunc]) := by kernel_rfl
@[simp] theorem str_56 : isStrT Tryd.prog 56 = false := by kernel_rfl
@[simp] theorem isint_56 : isIntT Tryd.prog 56 = false := by kernel_rfl
@[simp] theorem ty_57 : tyT Tryd.prog 57 = some (1, false) := by kernel_rfl
@[simp] theorem sl_57 : slT Tryd.prog 57 = some (59, 5, 48) := by kernel_rfl
@[simp] theorem zero_57 : zeroT Tryd.prog 57 = some ([.slice none 0 0]) := by kernel_rfl
@[simp] theorem str_57 : isStrT Tryd.prog 57 = false := by kernel_rfl
@[simp] theorem isint_57 : isIntT Tryd.prog 57 = false := by kernel_rfl
@[simp] theorem ty_58 : tyT Tryd.prog 58 = some (5, true) := by kernel_rfl
@[simp] theorem sl_58 : slT Tryd.prog 58 = none := by kernel_rfl
@[simp] theorem fld_58_0 : fldT Tryd.prog 58 0 = some (0, 1, false) := by kernel_rfl
@[simp] theorem fld_58_1 : fldT Tryd.prog 58 1 = some (1, 4, true) := by kernel_rfl
@[simp] theorem pl_58 : plT Tryd.prog 58 = some fun i => [(0, 1), (1, 4)][i]? := by kernel_rfl
@[simp] theorem zero_58 : zeroT Tryd.prog 58 = some ([.int .i64 0, .int .i64 0, .int .i64 0, .int .i64 0, .string ByteArray.empty]) := by kernel_rfl
@[simp] theorem str_58 : isStrT Tryd.prog 58 = false := by kernel_rfl
@[simp] theorem isint_58 : isIntT Tryd.prog 58 = false := by kernel_rfl
@[simp] theorem ty_59 : tyT Tryd.prog 59 = some (5, true) := by kernel_rfl
@[simp] theorem sl_59 : slT Tryd.prog 59 = none := by kernel_rfl
@[simp] theorem fld_59_0 : fldT Tryd.prog 59 0 = some (0, 1, false) := by kernel_rfl
@[simp] theorem fld_59_1 : fldT Tryd.prog 59 1 = some (1, 4, true) := by kernel_rfl
@[simp] theorem pl_59 : plT Tryd.prog 59 = some fun i => [(0, 1), (1, 4)][i]? := by kernel_rfl
@[simp] theorem flat_59 : flatT Tryd.prog 59 = some [.i, .i, .i, .i, .s] := by kernel_rfl
@[simp] theorem zero_59 : zeroT Tryd.prog 59 = some ([.int .i64 0, .int .i64 0, .int .i64 0, .int .i64 0, .string ByteArray.empty]) := by kernel_rfl
@[simp] theorem str_59 : isStrT Tryd.prog 59 = false := by kernel_rfl
@[simp] theorem isint_59 : isIntT Tryd.prog 59 = false := by kernel_rfl
@[simp] theorem ty_60 : tyT Tryd.prog 60 = some (1, false) := by kernel_rfl
@[simp] theorem sl_60 : slT Tryd.prog 60 = none := by kernel_rfl
@[simp] theorem zero_60 : zeroT Tryd.prog 60 = some ([.nilFunc]) := by kernel_rfl
@[simp] theorem str_60 : isStrT Tryd.prog 60 = false := by kernel_rfl
@[simp] theorem isint_60 : isIntT Tryd.prog 60 = false := by kernel_rfl
@[simp] theorem ty_61 : tyT Tryd.prog 61 = some (1, false) := by kernel_rfl
@[simp] theorem sl_61 : slT Tryd.prog 61 = none := by kernel_rfl
@[simp] theorem zero_61 : zeroT Tryd.prog 61 = some ([.nilFunc]) := by kernel_rfl
@[simp] theorem str_61 : isStrT Tryd.prog 61 = false := by kernel_rfl
@[simp] theorem isint_61 : isIntT Tryd.prog 61 = false := by kernel_rfl
@[simp] theorem ty_62 : tyT Tryd.prog 62 = some (1, false) := by kernel_rfl
@[simp] theorem sl_62 : slT Tryd.prog 62 = none := by kernel_rfl
@[simp] theorem map_62 : mapT Tryd.prog 62 = some (34, 4) := by kernel_rfl
@[simp] theorem zero1_4 : zero1 Tryd.prog 4 = some (.bool false) := by kernel_rfl
@[simp] theorem zero_62 : zeroT Tryd.prog 62 = some ([.map none]) := by kernel_rfl
@[simp] theorem str_62 : isStrT Tryd.prog 62 = false := by kernel_rfl
@[simp] theorem isint_62 : isIntT Tryd.prog 62 = false := by kernel_rfl
@[simp] theorem ty_63 : tyT Tryd.prog 63 = some (1, false) := by kernel_rfl
@[simp] theorem sl_63 : slT Tryd.prog 63 = none := by kernel_rfl
@[simp] theorem zero_63 : zeroT Tryd.prog 63 = some ([.nilFunc]) := by kernel_rfl
@[simp] theorem str_63 : isStrT Tryd.prog 63 = false := by kernel_rfl
@[simp] theorem isint_63 : isIntT Tryd.prog 63 = false := by kernel_rfl
@[simp] theorem ty_64 : tyT Tryd.prog 64 = some (1, false) := by kernel_rfl
@[simp] theorem sl_64 : slT Tryd.prog 64 = none := by kernel_rfl
@[simp] theorem zero_64 : zeroT Tryd.prog 64 = some ([.nilFunc]) := by kernel_rfl
@[simp] theorem str_64 : isStrT Tryd.prog 64 = false := by kernel_rfl
@[simp] theorem isint_64 : isIntT Tryd.prog 64 = false := by kernel_rfl
@[simp] theorem ty_65 : tyT Tryd.prog 65 = some (1, false) := by kernel_rfl
@[simp] theorem sl_65 : slT Tryd.prog 65 = none := by kernel_rfl
@[simp] theorem zero_65 : zeroT Tryd.prog 65 = some ([.nilFunc]) := by kernel_rfl
@[simp] theorem str_65 : isStrT Tryd.prog 65 = false := by kernel_rfl
@[simp] theorem isint_65 : isIntT Tryd.prog 65 = false := by kernel_rfl
@[simp] theorem ty_66 : tyT Tryd.prog 66 = some (1, false) := by kernel_rfl
@[simp] theorem sl_66 : slT Tryd.prog 66 = none := by kernel_rfl
@[simp] theorem zero_66 : zeroT Tryd.prog 66 = some ([.nilFunc]) := by kernel_rfl
@[simp] theorem str_66 : isStrT Tryd.prog 66 = false := by kernel_rfl
@[simp] theorem isint_66 : isIntT Tryd.prog 66 = false := by kernel_rfl
@[simp] theorem ty_67 : tyT Tryd.prog 67 = some (1, false) := by kernel_rfl
@[simp] theorem sl_67 : slT Tryd.prog 67 = none := by kernel_rfl
@[simp] theorem zero_67 : zeroT Tryd.prog 67 = some ([.pointer none]) := by kernel_rfl
@[simp] theorem str_67 : isStrT Tryd.prog 67 = false := by kernel_rfl
@[simp] theorem isint_67 : isIntT Tryd.prog 67 = false := by kernel_rfl
@[simp] theorem ptr_67 : isPtrT Tryd.prog 67 = true := by kernel_rfl
@[simp] theorem ty_68 : tyT Tryd.prog 68 = some (1, false) := by kernel_rfl
@[simp] theorem sl_68 : slT Tryd.prog 68 = none := by kernel_rfl
@[simp] theorem zero_68 : zeroT Tryd.prog 68 = some ([.nilFunc]) := by kernel_rfl
@[simp] theorem str_68 : isStrT Tryd.prog 68 = false := by kernel_rfl
@[simp] theorem isint_68 : isIntT Tryd.prog 68 = false := by kernel_rfl
@[simp] theorem ty_69 : tyT Tryd.prog 69 = some (1, false) := by kernel_rfl
@[simp] theorem sl_69 : slT Tryd.prog 69 = none := by kernel_rfl
@[simp] theorem zero_69 : zeroT Tryd.prog 69 = some ([.nilFunc]) := by kernel_rfl
@[simp] theorem str_69 : isStrT Tryd.prog 69 = false := by kernel_rfl
@[simp] theorem isint_69 : isIntT Tryd.prog 69 = false := by kernel_rfl
@[simp] theorem ty_70 : tyT Tryd.prog 70 = some (1, false) := by kernel_rfl
@[simp] theorem sl_70 : slT Tryd.prog 70 = none := by kernel_rfl
@[simp] theorem zero_70 : zeroT Tryd.prog 70 = some ([.nilFunc]) := by kernel_rfl
@[simp] theorem str_70 : isStrT Tryd.prog 70 = false := by kernel_rfl
@[simp] theorem isint_70 : isIntT Tryd.prog 70 = false := by kernel_rfl
@[simp] theorem ty_72 : tyT Tryd.prog 72 = some (1, false) := by kernel_rfl
@[simp] theorem sl_72 : slT Tryd.prog 72 = none := by kernel_rfl
@[simp] theorem zero_72 : zeroT Tryd.prog 72 = some ([.nilFunc]) := by kernel_rfl
@[simp] theorem str_72 : isStrT Tryd.prog 72 = false := by kernel_rfl
@[simp] theorem isint_72 : isIntT Tryd.prog 72 = false := by kernel_rfl
@[simp] theorem ty_73 : tyT Tryd.prog 73 = some (1, false) := by kernel_rfl
@[simp] theorem sl_73 : slT Tryd.prog 73 = none := by kernel_rfl
@[simp] theorem zero_73 : zeroT Tryd.prog 73 = some ([.nilFunc]) := by kernel_rfl
@[simp] theorem str_73 : isStrT Tryd.prog 73 = false := by kernel_rfl
@[simp] theorem isint_73 : isIntT Tryd.prog 73 = false := by kernel_rfl
@[simp] theorem ty_74 : tyT Tryd.prog 74 = some (1, false) := by kernel_rfl
@[simp] theorem sl_74 : slT Tryd.prog 74 = none := by kernel_rfl
@[simp] theorem zero_74 : zeroT Tryd.prog 74 = some ([.nilFunc]) := by kernel_rfl
@[simp] theorem str_74 : isStrT Tryd.prog 74 = false := by kernel_rfl
@[simp] theorem isint_74 : isIntT Tryd.prog 74 = false := by kernel_rfl
@[simp] theorem ty_75 : tyT Tryd.prog 75 = some (1, false) := by kernel_rfl
@[simp] theorem sl_75 : slT Tryd.prog 75 = none := by kernel_rfl
@[simp] theorem zero_75 : zeroT Tryd.prog 75 = some ([.nilFunc]) := by kernel_rfl
@[simp] theorem str_75 : isStrT Tryd.prog 75 = false := by kernel_rfl
@[simp] theorem isint_75 : isIntT Tryd.prog 75 = false := by kernel_rfl
@[simp] theorem ty_76 : tyT Tryd.prog 76 = some (1, false) := by kernel_rfl
@[simp] theorem sl_76 : slT Tryd.prog 76 = none := by kernel_rfl
@[simp] theorem zero_76 : zeroT Tryd.prog 76 = some ([.nilFunc]) := by kernel_rfl
@[simp] theorem str_76 : isStrT Tryd.prog 76 = false := by kernel_rfl
@[simp] theorem isint_76 : isIntT Tryd.prog 76 = false := by kernel_rfl
@[simp] theorem ty_77 : tyT Tryd.prog 77 = some (1, false) := by kernel_rfl
@[simp] theorem sl_77 : slT Tryd.prog 77 = none := by kernel_rfl
@[simp] theorem zero_77 : zeroT Tryd.prog 77 = some ([.nilFunc]) := by kernel_rfl
@[simp] theorem str_77 : isStrT Tryd.prog 77 = false := by kernel_rfl
@[simp] theorem isint_77 : isIntT Tryd.prog 77 = false := by kernel_rfl
@[simp] theorem ty_78 : tyT Tryd.prog 78 = some (1, false) := by kernel_rfl
@[simp] theorem sl_78 : slT Tryd.prog 78 = none := by kernel_rfl
@[simp] theorem zero_78 : zeroT Tryd.prog 78 = some ([.nilFunc]) := by kernel_rfl
@[simp] theorem str_78 : isStrT Tryd.prog 78 = false := by kernel_rfl
@[simp] theorem isint_78 : isIntT Tryd.prog 78 = false := by kernel_rfl
@[simp] theorem ty_79 : tyT Tryd.prog 79 = some (1, false) := by kernel_rfl
@[simp] theorem sl_79 : slT Tryd.prog 79 = none := by kernel_rfl
@[simp] theorem zero_79 : zeroT Tryd.prog 79 = some ([.nilFunc]) := by kernel_rfl
@[simp] theorem str_79 : isStrT Tryd.prog 79 = false := by kernel_rfl
@[simp] theorem isint_79 : isIntT Tryd.prog 79 = false := by kernel_rfl
@[simp] theorem ty_80 : tyT Tryd.prog 80 = some (1, false) := by kernel_rfl
@[simp] theorem sl_80 : slT Tryd.prog 80 = none := by kernel_rfl
@[simp] theorem zero_80 : zeroT Tryd.prog 80 = some ([.nilFunc]) := by kernel_rfl
@[simp] theorem str_80 : isStrT Tryd.prog 80 = false := by kernel_rfl
@[simp] theorem isint_80 : isIntT Tryd.prog 80 = false := by kernel_rfl
@[simp] theorem ty_81 : tyT Tryd.prog 81 = some (1, false) := by kernel_rfl
@[simp] theorem sl_81 : slT Tryd.prog 81 = none := by kernel_rfl
@[simp] theorem zero_81 : zeroT Tryd.prog 81 = some ([.nilFunc]) := by kernel_rfl
@[simp] theorem str_81 : isStrT Tryd.prog 81 = false := by kernel_rfl
@[simp] theorem isint_81 : isIntT Tryd.prog 81 = false := by kernel_rfl
@[simp] theorem ty_82 : tyT Tryd.prog 82 = some (1, false) := by kernel_rfl
@[simp] theorem sl_82 : slT Tryd.prog 82 = none := by kernel_rfl
@[simp] theorem zero_82 : zeroT Tryd.prog 82 = some ([.nilFunc]) := by kernel_rfl
@[simp] theorem str_82 : isStrT Tryd.prog 82 = false := by kernel_rfl
@[simp] theorem isint_82 : isIntT Tryd.prog 82 = false := by kernel_rfl
@[simp] theorem ty_83 : tyT Tryd.prog 83 = some (1, false) := by kernel_rfl
@[simp] theorem sl_83 : slT Tryd.prog 83 = none := by kernel_rfl
@[simp] theorem zero_83 : zeroT Tryd.prog 83 = some ([.nilFunc]) := by kernel_rfl
@[simp] theorem str_83 : isStrT Tryd.prog 83 = false := by kernel_rfl
@[simp] theorem isint_83 : isIntT Tryd.prog 83 = false := by kernel_rfl
@[simp] theorem ty_84 : tyT Tryd.prog 84 = some (1, false) := by kernel_rfl
@[simp] theorem sl_84 : slT Tryd.prog 84 = none := by kernel_rfl
@[simp] theorem zero_84 : zeroT Tryd.prog 84 = some ([.nilFunc]) := by kernel_rfl
@[simp] theorem str_84 : isStrT Tryd.prog 84 = false := by kernel_rfl
@[simp] theorem isint_84 : isIntT Tryd.prog 84 = false := by kernel_rfl
@[simp] theorem ty_85 : tyT Tryd.prog 85 = some (1, false) := by kernel_rfl
@[simp] theorem sl_85 : slT Tryd.prog 85 = none := by kernel_rfl
@[simp] theorem zero_85 : zeroT Tryd.prog 85 = some ([.nilFunc]) := by kernel_rfl
@[simp] theorem str_85 : isStrT Tryd.prog 85 = false := by kernel_rfl
@[simp] theorem isint_85 : isIntT Tryd.prog 85 = false := by kernel_rfl
@[simp] theorem ty_86 : tyT Tryd.prog 86 = some (1, false) := by kernel_rfl
@[simp] theorem sl_86 : slT Tryd.prog 86 = none := by kernel_rfl
@[simp] theorem zero_86 : zeroT Tryd.prog 86 = some ([.nilFunc]) := by kernel_rfl
@[simp] theorem str_86 : isStrT Tryd.prog 86 = false := by kernel_rfl
@[simp] theorem isint_86 : isIntT Tryd.prog 86 = false := by kernel_rfl
@[simp] theorem ty_87 : tyT Tryd.prog 87 = some (1, false) := by kernel_rfl
@[simp] theorem sl_87 : slT Tryd.prog 87 = none := by kernel_rfl
@[simp] theorem zero_87 : zeroT Tryd.prog 87 = some ([.nilFunc]) := by kernel_rfl
@[simp] theorem str_87 : isStrT Tryd.prog 87 = false := by kernel_rfl
@[simp] theorem isint_87 : isIntT Tryd.prog 87 = false := by kernel_rfl
@[simp] theorem ty_88 : tyT Tryd.prog 88 = some (1, false) := by kernel_rfl
@[simp] theorem sl_88 : slT Tryd.prog 88 = none := by kernel_rfl
@[simp] theorem zero_88 : zeroT Tryd.prog 88 = some ([.nilFunc]) := by kernel_rfl
@[simp] theorem str_88 : isStrT Tryd.prog 88 = false := by kernel_rfl
@[simp] theorem isint_88 : isIntT Tryd.prog 88 = false := by kernel_rfl
@[simp] theorem ty_89 : tyT Tryd.prog 89 = some (1, false) := by kernel_rfl
@[simp] theorem sl_89 : slT Tryd.prog 89 = none := by kernel_rfl
@[simp] theorem zero_89 : zeroT Tryd.prog 89 = some ([.nilFunc]) := by kernel_rfl
@[simp] theorem str_89 : isStrT Tryd.prog 89 = false := by kernel_rfl
@[simp] theorem isint_89 : isIntT Tryd.prog 89 = false := by kernel_rfl
@[simp] theorem ty_90 : tyT Tryd.prog 90 = some (1, false) := by kernel_rfl
@[simp] theorem sl_90 : slT Tryd.prog 90 = none := by kernel_rfl
@[simp] theorem zero_90 : zeroT Tryd.prog 90 = some ([.nilFunc]) := by kernel_rfl
@[simp] theorem str_90 : isStrT Tryd.prog 90 = false := by kernel_rfl
@[simp] theorem isint_90 : isIntT Tryd.prog 90 = false := by kernel_rfl
@[simp] theorem ty_91 : tyT Tryd.prog 91 = some (1, false) := by kernel_rfl
@[simp] theorem sl_91 : slT Tryd.prog 91 = none := by kernel_rfl
@[simp] theorem zero_91 : zeroT Tryd.prog 91 = some ([.nilFunc]) := by kernel_rfl
@[simp] theorem str_91 : isStrT Tryd.prog 91 = false := by kernel_rfl
@[simp] theorem isint_91 : isIntT Tryd.prog 91 = false := by kernel_rfl
@[simp] theorem ty_92 : tyT Tryd.prog 92 = some (1, false) := by kernel_rfl
@[simp] theorem sl_92 : slT Tryd.prog 92 = none := by kernel_rfl
@[simp] theorem zero_92 : zeroT Tryd.prog 92 = some ([.nilFunc]) := by kernel_rfl
@[simp] theorem str_92 : isStrT Tryd.prog 92 = false := by kernel_rfl
@[simp] theorem isint_92 : isIntT Tryd.prog 92 = false := by kernel_rfl
@[simp] theorem ty_93 : tyT Tryd.prog 93 = some (1, false) := by kernel_rfl
@[simp] theorem sl_93 : slT Tryd.prog 93 = none := by kernel_rfl
@[simp] theorem zero_93 : zeroT Tryd.prog 93 = some ([.nilFunc]) := by kernel_rfl
@[simp] theorem str_93 : isStrT Tryd.prog 93 = false := by kernel_rfl
@[simp] theorem isint_93 : isIntT Tryd.prog 93 = false := by kernel_rfl
@[simp] theorem ty_94 : tyT Tryd.prog 94 = some (1, false) := by kernel_rfl
@[simp] theorem sl_94 : slT Tryd.prog 94 = none := by kernel_rfl
@[simp] theorem zero_94 : zeroT Tryd.prog 94 = some ([.nilFunc]) := by kernel_rfl
@[simp] theorem str_94 : isStrT Tryd.prog 94 = false := by kernel_rfl
@[simp] theorem isint_94 : isIntT Tryd.prog 94 = false := by kernel_rfl
@[simp] theorem ty_95 : tyT Tryd.prog 95 = some (1, false) := by kernel_rfl
@[simp] theorem sl_95 : slT Tryd.prog 95 = none := by kernel_rfl
@[simp] theorem zero_95 : zeroT Tryd.prog 95 = some ([.nilFunc]) := by kernel_rfl
@[simp] theorem str_95 : isStrT Tryd.prog 95 = false := by kernel_rfl
@[simp] theorem isint_95 : isIntT Tryd.prog 95 = false := by kernel_rfl
@[simp] theorem ty_96 : tyT Tryd.prog 96 = some (1, false) := by kernel_rfl
@[simp] theorem sl_96 : slT Tryd.prog 96 = none := by kernel_rfl
@[simp] theorem map_96 : mapT Tryd.prog 96 = some (9, 4) := by kernel_rfl
@[simp] theorem zero_96 : zeroT Tryd.prog 96 = some ([.map none]) := by kernel_rfl
@[simp] theorem str_96 : isStrT Tryd.prog 96 = false := by kernel_rfl
@[simp] theorem isint_96 : isIntT Tryd.prog 96 = false := by kernel_rfl
@[simp] theorem ty_97 : tyT Tryd.prog 97 = some (1, false) := by kernel_rfl
@[simp] theorem sl_97 : slT Tryd.prog 97 = none := by kernel_rfl
@[simp] theorem zero_97 : zeroT Tryd.prog 97 = some ([.nilFunc]) := by kernel_rfl
@[simp] theorem str_97 : isStrT Tryd.prog 97 = false := by kernel_rfl
@[simp] theorem isint_97 : isIntT Tryd.prog 97 = false := by kernel_rfl
@[simp] theorem ty_98 : tyT Tryd.prog 98 = some (1, false) := by kernel_rfl
@[simp] theorem sl_98 : slT Tryd.prog 98 = none := by kernel_rfl
@[simp] theorem zero_98 : zeroT Tryd.prog 98 = some ([.nilFunc]) := by kernel_rfl
@[simp] theorem str_98 : isStrT Tryd.prog 98 = false := by kernel_rfl
@[simp] theorem isint_98 : isIntT Tryd.prog 98 = false := by kernel_rfl
@[simp] theorem ty_99 : tyT Tryd.prog 99 = some (1, false) := by kernel_rfl
@[simp] theorem sl_99 : slT Tryd.prog 99 = none := by kernel_rfl
@[simp] theorem zero_99 : zeroT Tryd.prog 99 = some ([.nilFunc]) := by kernel_rfl
@[simp] theorem str_99 : isStrT Tryd.prog 99 = false := by kernel_rfl
@[simp] theorem isint_99 : isIntT Tryd.prog 99 = false := by kernel_rfl
@[simp] theorem ty_100 : tyT Tryd.prog 100 = some (1, false) := by kernel_rfl
@[simp] theorem sl_100 : slT Tryd.prog 100 = none := by kernel_rfl
@[simp] theorem zero_100 : zeroT Tryd.prog 100 = some ([.nilFunc]) := by kernel_rfl
@[simp] theorem str_100 : isStrT Tryd.prog 100 = false := by kernel_rfl
@[simp] theorem isint_100 : isIntT Tryd.prog 100 = false := by kernel_rfl
@[simp] theorem ty_101 : tyT Tryd.prog 101 = some (1, false) := by kernel_rfl
@[simp] theorem sl_101 : slT Tryd.prog 101 = none := by kernel_rfl
@[simp] theorem zero_101 : zeroT Tryd.prog 101 = some ([.nilFunc]) := by kernel_rfl
@[simp] theorem str_101 : isStrT Tryd.prog 101 = false := by kernel_rfl
@[simp] theorem isint_101 : isIntT Tryd.prog 101 = false := by kernel_rfl
@[simp] theorem ty_102 : tyT Tryd.prog 102 = some (1, false) := by kernel_rfl
@[simp] theorem sl_102 : slT Tryd.prog 102 = none := by kernel_rfl
@[simp] theorem zero_102 : zeroT Tryd.prog 102 = some ([.nilFunc]) := by kernel_rfl
@[simp] theorem str_102 : isStrT Tryd.prog 102 = false := by kernel_rfl
@[simp] theorem isint_102 : isIntT Tryd.prog 102 = false := by kernel_rfl
@[simp] theorem ty_103 : tyT Tryd.prog 103 = some (1, false) := by kernel_rfl
@[simp] theorem sl_103 : slT Tryd.prog 103 = none := by kernel_rfl
@[simp] theorem zero_103 : zeroT Tryd.prog 103 = some ([.nilFunc]) := by kernel_rfl
@[simp] theorem str_103 : isStrT Tryd.prog 103 = false := by kernel_rfl
@[simp] theorem isint_103 : isIntT Tryd.prog 103 = false := by kernel_rfl
@[simp] theorem ty_104 : tyT Tryd.prog 104 = some (1, false) := by kernel_rfl
@[simp] theorem sl_104 : slT Tryd.prog 104 = none := by kernel_rfl
@[simp] theorem zero_104 : zeroT Tryd.prog 104 = some ([.nilFunc]) := by kernel_rfl
@[simp] theorem str_104 : isStrT Tryd.prog 104 = false := by kernel_rfl
@[simp] theorem isint_104 : isIntT Tryd.prog 104 = false := by kernel_rfl
@[simp] theorem ty_105 : tyT Tryd.prog 105 = some (1, false) := by kernel_rfl
@[simp] theorem sl_105 : slT Tryd.prog 105 = none := by kernel_rfl
@[simp] theorem zero_105 : zeroT Tryd.prog 105 = some ([.nilFunc]) := by kernel_rfl
@[simp] theorem str_105 : isStrT Tryd.prog 105 = false := by kernel_rfl
@[simp] theorem isint_105 : isIntT Tryd.prog 105 = false := by kernel_rfl
@[simp] theorem ty_106 : tyT Tryd.prog 106 = some (1, false) := by kernel_rfl
@[simp] theorem sl_106 : slT Tryd.prog 106 = none := by kernel_rfl
@[simp] theorem zero_106 : zeroT Tryd.prog 106 = some ([.nilFunc]) := by kernel_rfl
@[simp] theorem str_106 : isStrT Tryd.prog 106 = false := by kernel_rfl
@[simp] theorem isint_106 : isIntT Tryd.prog 106 = false := by kernel_rfl
@[simp] theorem ty_107 : tyT Tryd.prog 107 = some (1, false) := by kernel_rfl
@[simp] theorem sl_107 : slT Tryd.prog 107 = none := by kernel_rfl
@[simp] theorem zero_107 : zeroT Tryd.prog 107 = some ([.nilFunc]) := by kernel_rfl
@[simp] theorem str_107 : isStrT Tryd.prog 107 = false := by kernel_rfl
@[simp] theorem isint_107 : isIntT Tryd.prog 107 = false := by kernel_rfl
@[simp] theorem ty_108 : tyT Tryd.prog 108 = some (1, false) := by kernel_rfl
@[simp] theorem sl_108 : slT Tryd.prog 108 = none := by kernel_rfl
@[simp] theorem zero_108 : zeroT Tryd.prog 108 = some ([.nilFunc]) := by kernel_rfl
@[simp] theorem str_108 : isStrT Tryd.prog 108 = false := by kernel_rfl
@[simp] theorem isint_108 : isIntT Tryd.prog 108 = false := by kernel_rfl
@[simp] theorem ty_109 : tyT Tryd.prog 109 = some (1, false) := by kernel_rfl
@[simp] theorem sl_109 : slT Tryd.prog 109 = none := by kernel_rfl
@[simp] theorem zero_109 : zeroT Tryd.prog 109 = some ([.nilFunc]) := by kernel_rfl
@[simp] theorem str_109 : isStrT Tryd.prog 109 = false := by kernel_rfl
@[simp] theorem isint_109 : isIntT Tryd.prog 109 = false := by kernel_rfl
@[simp] theorem ty_110 : tyT Tryd.prog 110 = some (1, false) := by kernel_rfl
@[simp] theorem sl_110 : slT Tryd.prog 110 = none := by kernel_rfl
@[simp] theorem zero_110 : zeroT Tryd.prog 110 = some ([.nilFunc]) := by kernel_rfl
@[simp] theorem str_110 : isStrT Tryd.prog 110 = false := by kernel_rfl
@[simp] theorem isint_110 : isIntT Tryd.prog 110 = false := by kernel_rfl
@[simp] theorem ty_111 : tyT Tryd.prog 111 = some (1, false) := by kernel_rfl
@[simp] theorem sl_111 : slT Tryd.prog 111 = none := by kernel_rfl
@[simp] theorem zero_111 : zeroT Tryd.prog 111 = some ([.nilFunc]) := by kernel_rfl
@[simp] theorem str_111 : isStrT Tryd.prog 111 = false := by kernel_rfl
@[simp] theorem isint_111 : isIntT Tryd.prog 111 = false := by kernel_rfl
@[simp] theorem ty_112 : tyT Tryd.prog 112 = some (1, false) := by kernel_rfl
@[simp] theorem sl_112 : slT Tryd.prog 112 = none := by kernel_rfl
@[simp] theorem zero_112 : zeroT Tryd.prog 112 = some ([.nilFunc]) := by kernel_rfl
@[simp] theorem str_112 : isStrT Tryd.prog 112 = false := by kernel_rfl
@[simp] theorem isint_112 : isIntT Tryd.prog 112 = false := by kernel_rfl
@[simp] theorem ty_113 : tyT Tryd.prog 113 = some (1, false) := by kernel_rfl
@[simp] theorem sl_113 : slT Tryd.prog 113 = none := by kernel_rfl
@[simp] theorem zero_113 : zeroT Tryd.prog 113 = some ([.nilFunc]) := by kernel_rfl
@[simp] theorem str_113 : isStrT Tryd.prog 113 = false := by kernel_rfl
@[simp] theorem isint_113 : isIntT Tryd.prog 113 = false := by kernel_rfl
@[simp] theorem ty_114 : tyT Tryd.prog 114 = some (1, false) := by kernel_rfl
@[simp] theorem sl_114 : slT Tryd.prog 114 = none := by kernel_rfl
@[simp] theorem zero_114 : zeroT Tryd.prog 114 = some ([.nilFunc]) := by kernel_rfl
@[simp] theorem str_114 : isStrT Tryd.prog 114 = false := by kernel_rfl
@[simp] theorem isint_114 : isIntT Tryd.prog 114 = false := by kernel_rfl
@[simp] theorem ty_115 : tyT Tryd.prog 115 = some (1, false) := by kernel_rfl
@[simp] theorem sl_115 : slT Tryd.prog 115 = none := by kernel_rfl
@[simp] theorem zero_115 : zeroT Tryd.prog 115 = some ([.nilFunc]) := by kernel_rfl
@[simp] theorem str_115 : isStrT Tryd.prog 115 = false := by kernel_rfl
@[simp] theorem isint_115 : isIntT Tryd.prog 115 = false := by kernel_rfl
@[simp] theorem ty_116 : tyT Tryd.prog 116 = some (1, false) := by kernel_rfl
@[simp] theorem sl_116 : slT Tryd.prog 116 = none := by kernel_rfl
@[simp] theorem zero_116 : zeroT Tryd.prog 116 = some ([.nilFunc]) := by kernel_rfl
@[simp] theorem str_116 : isStrT Tryd.prog 116 = false := by kernel_rfl
@[simp] theorem isint_116 : isIntT Tryd.prog 116 = false := by kernel_rfl
@[simp] theorem ty_117 : tyT Tryd.prog 117 = some (1, false) := by kernel_rfl
@[simp] theorem sl_117 : slT Tryd.prog 117 = none := by kernel_rfl
@[simp] theorem zero_117 : zeroT Tryd.prog 117 = some ([.nilFunc]) := by kernel_rfl
@[simp] theorem str_117 : isStrT Tryd.prog 117 = false := by kernel_rfl
@[simp] theorem isint_117 : isIntT Tryd.prog 117 = false := by kernel_rfl
@[simp] theorem ty_118 : tyT Tryd.prog 118 = some (1, false) := by kernel_rfl
@[simp] theorem sl_118 : slT Tryd.prog 118 = none := by kernel_rfl
@[simp] theorem zero_118 : zeroT Tryd.prog 118 = some ([.nilFunc]) := by kernel_rfl
@[simp] theorem str_118 : isStrT Tryd.prog 118 = false := by kernel_rfl
@[simp] theorem isint_118 : isIntT Tryd.prog 118 = false := by kernel_rfl
@[simp] theorem ty_119 : tyT Tryd.prog 119 = some (1, false) := by kernel_rfl
@[simp] theorem sl_119 : slT Tryd.prog 119 = none := by kernel_rfl
@[simp] theorem zero_119 : zeroT Tryd.prog 119 = some ([.nilFunc]) := by kernel_rfl
@[simp] theorem str_119 : isStrT Tryd.prog 119 = false := by kernel_rfl
@[simp] theorem isint_119 : isIntT Tryd.prog 119 = false := by kernel_rfl
@[simp] theorem ty_120 : tyT Tryd.prog 120 = some (1, false) := by kernel_rfl
@[simp] theorem sl_120 : slT Tryd.prog 120 = none := by kernel_rfl
@[simp] theorem zero_120 : zeroT Tryd.prog 120 = some ([.nilFunc]) := by kernel_rfl
@[simp] theorem str_120 : isStrT Tryd.prog 120 = false := by kernel_rfl
@[simp] theorem isint_120 : isIntT Tryd.prog 120 = false := by kernel_rfl
@[simp] theorem ty_121 : tyT Tryd.prog 121 = some (1, false) := by kernel_rfl
@[simp] theorem sl_121 : slT Tryd.prog 121 = none := by kernel_rfl
@[simp] theorem zero_121 : zeroT Tryd.prog 121 = some ([.nilFunc]) := by kernel_rfl
@[simp] theorem str_121 : isStrT Tryd.prog 121 = false := by kernel_rfl
@[simp] theorem isint_121 : isIntT Tryd.prog 121 = false := by kernel_rfl
@[simp] theorem ty_122 : tyT Tryd.prog 122 = some (1, false) := by kernel_rfl
@[simp] theorem sl_122 : slT Tryd.prog 122 = none := by kernel_rfl
@[simp] theorem zero_122 : zeroT Tryd.prog 122 = some ([.nilFunc]) := by kernel_rfl
@[simp] theorem str_122 : isStrT Tryd.prog 122 = false := by kernel_rfl
@[simp] theorem isint_122 : isIntT Tryd.prog 122 = false := by kernel_rfl
@[simp] theorem ty_123 : tyT Tryd.prog 123 = some (1, false) := by kernel_rfl
@[simp] theorem sl_123 : slT Tryd.prog 123 = none := by kernel_rfl
@[simp] theorem zero_123 : zeroT Tryd.prog 123 = some ([.nilFunc]) := by kernel_rfl
@[simp] theorem str_123 : isStrT Tryd.prog 123 = false := by kernel_rfl
@[simp] theorem isint_123 : isIntT Tryd.prog 123 = false := by kernel_rfl
@[simp] theorem ty_124 : tyT Tryd.prog 124 = some (256, true) := by kernel_rfl
@[simp] theorem sl_124 : slT Tryd.prog 124 = none := by kernel_rfl
@[simp] theorem arx_124 : arX Tryd.prog 124 = some (256, 1, false) := by kernel_rfl
@[simp] theorem ar_124 : arT Tryd.prog 124 = some (256, 1) := by kernel_rfl
@[simp] theorem pl_124 : plT Tryd.prog 124 = some fun i => some (i * 1, 1) := by kernel_rfl
@[simp] theorem zero_124 : zeroT Tryd.prog 124 = some (List.replicate 256 (.int .u8 0)) := by kernel_rfl
@[simp] theorem str_124 : isStrT Tryd.prog 124 = false := by kernel_rfl
@[simp] theorem isint_124 : isIntT Tryd.prog 124 = false := by kernel_rfl
@[simp] theorem ty_125 : tyT Tryd.prog 125 = some (2, true) := by kernel_rfl
@[simp] theorem sl_125 : slT Tryd.prog 125 = none := by kernel_rfl
@[simp] theorem fld_125_0 : fldT Tryd.prog 125 0 = some (0, 1, false) := by kernel_rfl
@[simp] theorem fld_125_1 : fldT Tryd.prog 125 1 = some (1, 1, false) := by kernel_rfl
@[simp] theorem pl_125 : plT Tryd.prog 125 = some fun i => [(0, 1), (1, 1)][i]? := by kernel_rfl
@[simp] theorem zero_125 : zeroT Tryd.prog 125 = some ([.int .u8 0, .int .u8 0]) := by kernel_rfl
@[simp] theorem str_125 : isStrT Tryd.prog 125 = false := by kernel_rfl
@[simp] theorem isint_125 : isIntT Tryd.prog 125 = false := by kernel_rfl
@[simp] theorem ty_126 : tyT Tryd.prog 126 = some (2, true) := by kernel_rfl
@[simp] theorem sl_126 : slT Tryd.prog 126 = none := by kernel_rfl
@[simp] theorem fld_126_0 : fldT Tryd.prog 126 0 = some (0, 1, false) := by kernel_rfl
@[simp] theorem fld_126_1 : fldT Tryd.prog 126 1 = some (1, 1, false) := by kernel_rfl
@[simp] theorem pl_126 : plT Tryd.prog 126 = some fun i => [(0, 1), (1, 1)][i]? := by kernel_rfl
@[simp] theorem zero_126 : zeroT Tryd.prog 126 = some ([.int .u8 0, .int .u8 0]) := by kernel_rfl
@[simp] theorem str_126 : isStrT Tryd.prog 126 = false := by kernel_rfl
@[simp] theorem isint_126 : isIntT Tryd.prog 126 = false := by kernel_rfl
@[simp] theorem ty_127 : tyT Tryd.prog 127 = some (32, true) := by kernel_rfl
@[simp] theorem sl_127 : slT Tryd.prog 127 = none := by kernel_rfl
@[simp] theorem arx_127 : arX Tryd.prog 127 = some (16, 2, true) := by kernel_rfl
@[simp] theorem ar_127 : arT Tryd.prog 127 = some (16, 2) := by kernel_rfl
@[simp] theorem pl_127 : plT Tryd.prog 127 = some fun i => some (i * 2, 2) := by kernel_rfl
@[simp] theorem zero_127 : zeroT Tryd.prog 127 = some (List.replicate 32 (.int .u8 0)) := by kernel_rfl
@[simp] theorem str_127 : isStrT Tryd.prog 127 = false := by kernel_rfl
@[simp] theorem isint_127 : isIntT Tryd.prog 127 = false := by kernel_rfl
@[simp] theorem ty_128 : tyT Tryd.prog 128 = some (1, false) := by kernel_rfl
@[simp] theorem sl_128 : slT Tryd.prog 128 = none := by kernel_rfl
@[simp] theorem zero_128 : zeroT Tryd.prog 128 = some ([.int .u64 0]) := by kernel_rfl
@[simp] theorem int_128 : intT Tryd.prog 128 = some .u64 := by kernel_rfl
@[simp] theorem str_128 : isStrT Tryd.prog 128 = false := by kernel_rfl
@[simp] theorem isint_128 : isIntT Tryd.prog 128 = true := by kernel_rfl
@[simp] theorem ty_129 : tyT Tryd.prog 129 = some (1, false) := by kernel_rfl
@[simp] theorem sl_129 : slT Tryd.prog 129 = none := by kernel_rfl
@[simp] theorem zero_129 : zeroT Tryd.prog 129 = some ([.int .u64 0]) := by kernel_rfl
@[simp] theorem int_129 : intT Tryd.prog 129 = some .u64 := by kernel_rfl
@[simp] theorem str_129 : isStrT Tryd.prog 129 = false := by kernel_rfl
@[simp] theorem isint_129 : isIntT Tryd.prog 129 = true := by kernel_rfl
@[simp] theorem ty_130 : tyT Tryd.prog 130 = some (1, false) := by kernel_rfl
@[simp] theorem sl_130 : slT Tryd.prog 130 = none := by kernel_rfl
@[simp] theorem zero_130 : zeroT Tryd.prog 130 = some ([.nilFunc]) := by kernel_rfl
@[simp] theorem str_130 : isStrT Tryd.prog 130 = false := by kernel_rfl
@[simp] theorem isint_130 : isIntT Tryd.prog 130 = false := by kernel_rfl
@[simp] theorem ty_131 : tyT Tryd.prog 131 = some (4, true) := by kernel_rfl
@[simp] theorem sl_131 : slT Tryd.prog 131 = none := by kernel_rfl
@[simp] theorem fld_131_0 : fldT Tryd.prog 131 0 = some (0, 1, false) := by kernel_rfl
@[simp] theorem fld_131_1 : fldT Tryd.prog 131 1 = some (1, 1, false) := by kernel_rfl
@[simp] theorem fld_131_2 : fldT Tryd.prog 131 2 = some (2, 1, false) := by kernel_rfl
@[simp] theorem fld_131_3 : fldT Tryd.prog 131 3 = some (3, 1, false) := by kernel_rfl
@[simp] theorem pl_131 : plT Tryd.prog 131 = some fun i => [(0, 1), (1, 1), (2, 1), (3, 1)][i]? := by kernel_rfl
@[simp] theorem zero_131 : zeroT Tryd.prog 131 = some ([.pointer none, .pointer none, .pointer none, .string ByteArray.empty]) := by kernel_rfl
@[simp] theorem str_131 : isStrT Tryd.prog 131 = false := by kernel_rfl
@[simp] theorem isint_131 : isIntT Tryd.prog 131 = false := by kernel_rfl
@[simp] theorem ty_133 : tyT Tryd.prog 133 = some (0, true) := by kernel_rfl
@[simp] theorem sl_133 : slT Tryd.prog 133 = none := by kernel_rfl
@[simp] theorem arx_133 : arX Tryd.prog 133 = some (0, 1, false) := by kernel_rfl
@[simp] theorem ar_133 : arT Tryd.prog 133 = some (0, 1) := by kernel_rfl
@[simp] theorem pl_133 : plT Tryd.prog 133 = some fun i => some (i * 1, 1) := by kernel_rfl
@[simp] theorem zero_133 : zeroT Tryd.prog 133 = some ([]) := by kernel_rfl
@[simp] theorem str_133 : isStrT Tryd.prog 133 = false := by kernel_rfl
@[simp] theorem isint_133 : isIntT Tryd.prog 133 = false := by kernel_rfl
@[simp] theorem ty_134 : tyT Tryd.prog 134 = some (0, true) := by kernel_rfl
@[simp] theorem sl_134 : slT Tryd.prog 134 = none := by kernel_rfl
@[simp] theorem pl_134 : plT Tryd.prog 134 = some fun i => [(0, 0)][i]? := by kernel_rfl
@[simp] theorem zero_134 : zeroT Tryd.prog 134 = some ([]) := by kernel_rfl
@[simp] theorem str_134 : isStrT Tryd.prog 134 = false := by kernel_rfl
@[simp] theorem isint_134 : isIntT Tryd.prog 134 = false := by kernel_rfl
@[simp] theorem ty_136 : tyT Tryd.prog 136 = some (1, false) := by kernel_rfl
@[simp] theorem sl_136 : slT Tryd.prog 136 = none := by kernel_rfl
@[simp] theorem zero_136 : zeroT Tryd.prog 136 = some ([.nilFunc]) := by kernel_rfl
@[simp] theorem str_136 : isStrT Tryd.prog 136 = false := by kernel_rfl
@[simp] theorem isint_136 : isIntT Tryd.prog 136 = false := by kernel_rfl
@[simp] theorem ty_137 : tyT Tryd.prog 137 = some (1, false) := by kernel_rfl
@[simp] theorem sl_137 : slT Tryd.prog 137 = none := by kernel_rfl
@[simp] theorem zero_137 : zeroT Tryd.prog 137 = some ([.int .u32 0]) := by kernel_rfl
@[simp] theorem int_137 : intT Tryd.prog 137 = some .u32 := by kernel_rfl
@[simp] theorem str_137 : isStrT Tryd.prog 137 = false := by kernel_rfl
@[simp] theorem isint_137 : isIntT Tryd.prog 137 = true := by kernel_rfl
@[simp] theorem ty_140 : tyT Tryd.prog 140 = some (1, false) := by kernel_rfl
@[simp] theorem sl_140 : slT Tryd.prog 140 = none := by kernel_rfl
@[simp] theorem zero_140 : zeroT Tryd.prog 140 = some ([.nilFunc]) := by kernel_rfl
@[simp] theorem str_140 : isStrT Tryd.prog 140 = false := by kernel_rfl
@[simp] theorem isint_140 : isIntT Tryd.prog 140 = false := by kernel_rfl
@[simp] theorem ty_141 : tyT Tryd.prog 141 = some (1, false) := by kernel_rfl
@[simp] theorem sl_141 : slT Tryd.prog 141 = none := by kernel_rfl
@[simp] theorem zero_141 : zeroT Tryd.prog 141 = some ([.pointer none]) := by kernel_rfl
@[simp] theorem str_141 : isStrT Tryd.prog 141 = false := by kernel_rfl
@[simp] theorem isint_141 : isIntT Tryd.prog 141 = false := by kernel_rfl
@[simp] theorem ptr_141 : isPtrT Tryd.prog 141 = true := by kernel_rfl
@[simp] theorem ty_144 : tyT Tryd.prog 144 = some (11, true) := by kernel_rfl
@[simp] theorem sl_144 : slT Tryd.prog 144 = none := by kernel_rfl
@[simp] theorem fld_144_0 : fldT Tryd.prog 144 0 = some (0, 1, false) := by kernel_rfl
@[simp] theorem fld_144_1 : fldT Tryd.prog 144 1 = some (1, 1, false) := by kernel_rfl
@[simp] theorem fld_144_2 : fldT Tryd.prog 144 2 = some (2, 1, false) := by kernel_rfl
@[simp] theorem fld_144_3 : fldT Tryd.prog 144 3 = some (3, 1, false) := by kernel_rfl
@[simp] theorem fld_144_4 : fldT Tryd.prog 144 4 = some (4, 1, false) := by kernel_rfl
@[simp] theorem fld_144_5 : fldT Tryd.prog 144 5 = some (5, 1, false) := by kernel_rfl
@[simp] theorem fld_144_6 : fldT Tryd.prog 144 6 = some (6, 1, false) := by kernel_rfl
@[simp] theorem fld_144_7 : fldT Tryd.prog 144 7 = some (7, 1, false) := by kernel_rfl
@[simp] theorem fld_144_8 : fldT Tryd.prog 144 8 = some (8, 1, false) := by kernel_rfl
@[simp] theorem fld_144_9 : fldT Tryd.prog 144 9 = some (9, 1, false) := by kernel_rfl
@[simp] theorem fld_144_10 : fldT Tryd.prog 144 10 = some (10, 1, false) := by kernel_rfl
@[simp] theorem pl_144 : plT Tryd.prog 144 = some fun i => [(0, 1), (1, 1), (2, 1), (3, 1), (4, 1), (5, 1), (6, 1), (7, 1), (8, 1), (9, 1), (10, 1)][i]? := by kernel_rfl
@[simp] theorem zero_144 : zeroT Tryd.prog 144 = some ([.int .u64 0, .int .u64 0, .int .u32 0, .int .u8 0, .int .u8 0, .int .u8 0, .int .u8 0, .nilFunc, .pointer none, .int .i32 0, .int .i32 0]) := by kernel_rfl
@[simp] theorem str_144 : isStrT Tryd.prog 144 = false := by kernel_rfl
@[simp] theorem isint_144 : isIntT Tryd.prog 144 = false := by kernel_rfl
@[simp] theorem ty_146 : tyT Tryd.prog 146 = some (1, false) := by kernel_rfl
@[simp] theorem sl_146 : slT Tryd.prog 146 = none := by kernel_rfl
@[simp] theorem str_146 : isStrT Tryd.prog 146 = false := by kernel_rfl
@[simp] theorem isint_146 : isIntT Tryd.prog 146 = false := by kernel_rfl
@[simp] theorem call_3 : callable Tryd.prog 3 = true := by kernel_rfl
@[simp] theorem ovl_3 : ovlT Tryd.prog 3 = false := by kernel_rfl
@[simp] theorem call_4 : callable Tryd.prog 4 = true := by kernel_rfl
@[simp] theorem ovl_4 : ovlT Tryd.prog 4 = false := by kernel_rfl
@[simp] theorem call_5 : callable Tryd.prog 5 = true := by kernel_rfl
@[simp] theorem ovl_5 : ovlT Tryd.prog 5 = false := by kernel_rfl
@[simp] theorem call_6 : callable Tryd.prog 6 = true := by kernel_rfl
@[simp] theorem ovl_6 : ovlT Tryd.prog 6 = false := by kernel_rfl
@[simp] theorem call_7 : callable Tryd.prog 7 = true := by kernel_rfl
@[simp] theorem ovl_7 : ovlT Tryd.prog 7 = false := by kernel_rfl
@[simp] theorem call_8 : callable Tryd.prog 8 = true := by kernel_rfl
@[simp] theorem ovl_8 : ovlT Tryd.prog 8 = false := by kernel_rfl
@[simp] theorem call_9 : callable Tryd.prog 9 = true := by kernel_rfl
@[simp] theorem ovl_9 : ovlT Tryd.prog 9 = false := by kernel_rfl
@[simp] theorem call_10 : callable Tryd.prog 10 = true := by kernel_rfl
@[simp] theorem ovl_10 : ovlT Tryd.prog 10 = false := by kernel_rfl
@[simp] theorem call_11 : callable Tryd.prog 11 = true := by kernel_rfl
@[simp] theorem ovl_11 : ovlT Tryd.prog 11 = false := by kernel_rfl
@[simp] theorem call_12 : callable Tryd.prog 12 = true := by kernel_rfl
@[simp] theorem ovl_12 : ovlT Tryd.prog 12 = false := by kernel_rfl
@[simp] theorem call_13 : callable Tryd.prog 13 = true := by kernel_rfl
@[simp] theorem ovl_13 : ovlT Tryd.prog 13 = false := by kernel_rfl
@[simp] theorem call_14 : callable Tryd.prog 14 = true := by kernel_rfl
@[simp] theorem ovl_14 : ovlT Tryd.prog 14 = false := by kernel_rfl
@[simp] theorem call_15 : callable Tryd.prog 15 = true := by kernel_rfl
@[simp] theorem ovl_15 : ovlT Tryd.prog 15 = false := by kernel_rfl
@[simp] theorem call_16 : callable Tryd.prog 16 = true := by kernel_rfl
@[simp] theorem ovl_16 : ovlT Tryd.prog 16 = false := by kernel_rfl
@[simp] theorem call_17 : callable Tryd.prog 17 = true := by kernel_rfl
@[simp] theorem ovl_17 : ovlT Tryd.prog 17 = false := by kernel_rfl
@[simp] theorem call_18 : callable Tryd.prog 18 = true := by kernel_rfl
@[simp] theorem ovl_18 : ovlT Tryd.prog 18 = false := by kernel_rfl
@[simp] theorem call_19 : callable Tryd.prog 19 = true := by kernel_rfl
@[simp] theorem ovl_19 : ovlT Tryd.prog 19 = false := by kernel_rfl
@[simp] theorem call_20 : callable Tryd.prog 20 = true := by kernel_rfl
@[simp] theorem ovl_20 : ovlT Tryd.prog 20 = false := by kernel_rfl
@[simp] theorem call_21 : callable Tryd.prog 21 = true := by kernel_rfl
@[simp] theorem ovl_21 : ovlT Tryd.prog 21 = false := by kernel_rfl
@[simp] theorem call_22 : callable Tryd.prog 22 = true := by kernel_rfl
@[simp] theorem ovl_22 : ovlT Tryd.prog 22 = false := by kernel_rfl
@[simp] theorem call_23 : callable Tryd.prog 23 = true := by kernel_rfl
@[simp] theorem ovl_23 : ovlT Tryd.prog 23 = false := by kernel_rfl
@[simp] theorem call_24 : callable Tryd.prog 24 = true := by kernel_rfl
@[simp] theorem ovl_24 : ovlT Tryd.prog 24 = false := by kernel_rfl
@[simp] theorem call_25 : callable Tryd.prog 25 = true := by kernel_rfl
@[simp] theorem ovl_25 : ovlT Tryd.prog 25 = false := by kernel_rfl
@[simp] theorem call_26 : callable Tryd.prog 26 = true := by kernel_rfl
@[simp] theorem ovl_26 : ovlT Tryd.prog 26 = false := by kernel_rfl
@[simp] theorem call_27 : callable Tryd.prog 27 = true := by kernel_rfl
@[simp] theorem ovl_27 : ovlT Tryd.prog 27 = false := by kernel_rfl
@[simp] theorem call_28 : callable Tryd.prog 28 = true := by kernel_rfl
@[simp] theorem ovl_28 : ovlT Tryd.prog 28 = false := by kernel_rfl
@[simp] theorem call_29 : callable Tryd.prog 29 = true := by kernel_rfl
@[simp] theorem ovl_29 : ovlT Tryd.prog 29 = false := by kernel_rfl
@[simp] theorem call_30 : callable Tryd.prog 30 = true := by kernel_rfl
@[simp] theorem ovl_30 : ovlT Tryd.prog 30 = false := by kernel_rfl
@[simp] theorem call_31 : callable Tryd.prog 31 = true := by kernel_rfl
@[simp] theorem ovl_31 : ovlT Tryd.prog 31 = false := by kernel_rfl
@[simp] theorem call_32 : callable Tryd.prog 32 = true := by kernel_rfl
@[simp] theorem ovl_32 : ovlT Tryd.prog 32 = false := by kernel_rfl
@[simp] theorem call_33 : callable Tryd.prog 33 = true := by kernel_rfl
@[simp] theorem ovl_33 : ovlT Tryd.prog 33 = false := by kernel_rfl
@[simp] theorem call_34 : callable Tryd.prog 34 = true := by kernel_rfl
@[simp] theorem ovl_34 : ovlT Tryd.prog 34 = false := by kernel_rfl
@[simp] theorem call_35 : callable Tryd.prog 35 = true := by kernel_rfl
@[simp] theorem ovl_35 : ovlT Tryd.prog 35 = false := by kernel_rfl
@[simp] theorem call_36 : callable Tryd.prog 36 = true := by kernel_rfl
@[simp] theorem ovl_36 : ovlT Tryd.prog 36 = false := by kernel_rfl
@[simp] theorem call_37 : callable Tryd.prog 37 = true := by kernel_rfl
@[simp] theorem ovl_37 : ovlT Tryd.prog 37 = false := by kernel_rfl
@[simp] theorem call_38 : callable Tryd.prog 38 = true := by kernel_rfl
@[simp] theorem ovl_38 : ovlT Tryd.prog 38 = false := by kernel_rfl
@[simp] theorem call_39 : callable Tryd.prog 39 = true := by kernel_rfl
@[simp] theorem ovl_39 : ovlT Tryd.prog 39 = false := by kernel_rfl
@[simp] theorem call_40 : callable Tryd.prog 40 = true := by kernel_rfl
@[simp] theorem ovl_40 : ovlT Tryd.prog 40 = false := by kernel_rfl
@[simp] theorem call_41 : callable Tryd.prog 41 = true := by kernel_rfl
@[simp] theorem ovl_41 : ovlT Tryd.prog 41 = false := by kernel_rfl
@[simp] theorem call_42 : callable Tryd.prog 42 = true := by kernel_rfl
@[simp] theorem ovl_42 : ovlT Tryd.prog 42 = false := by kernel_rfl
@[simp] theorem call_43 : callable Tryd.prog 43 = true := by kernel_rfl
@[simp] theorem ovl_43 : ovlT Tryd.prog 43 = false := by kernel_rfl
@[simp] theorem call_44 : callable Tryd.prog 44 = true := by kernel_rfl
@[simp] theorem ovl_44 : ovlT Tryd.prog 44 = false := by kernel_rfl
@[simp] theorem call_45 : callable Tryd.prog 45 = true := by kernel_rfl
@[simp] theorem ovl_45 : ovlT Tryd.prog 45 = false := by kernel_rfl
@[simp] theorem call_46 : callable Tryd.prog 46 = true := by kernel_rfl
@[simp] theorem ovl_46 : ovlT Tryd.prog 46 = false := by kernel_rfl
@[simp] theorem call_47 : callable Tryd.prog 47 = true := by kernel_rfl
@[simp] theorem ovl_47 : ovlT Tryd.prog 47 = false := by kernel_rfl
@[simp] theorem call_48 : callable Tryd.prog 48 = true := by kernel_rfl
@[simp] theorem ovl_48 : ovlT Tryd.prog 48 = false := by kernel_rfl
@[simp] theorem call_49 : callable Tryd.prog 49 = true := by kernel_rfl
@[simp] theorem ovl_49 : ovlT Tryd.prog 49 = false := by kernel_rfl
@[simp] theorem call_50 : callable Tryd.prog 50 = true := by kernel_rfl
@[simp] theorem ovl_50 : ovlT Tryd.prog 50 = false := by kernel_rfl
@[simp] theorem call_51 : callable Tryd.prog 51 = true := by kernel_rfl
@[simp] theorem ovl_51 : ovlT Tryd.prog 51 = false := by kernel_rfl
@[simp] theorem call_52 : callable Tryd.prog 52 = true := by kernel_rfl
@[simp] theorem ovl_52 : ovlT Tryd.prog 52 = false := by kernel_rfl
@[simp] theorem call_53 : callable Tryd.prog 53 = true := by kernel_rfl
@[simp] theorem ovl_53 : ovlT Tryd.prog 53 = false := by kernel_rfl
@[simp] theorem call_54 : callable Tryd.prog 54 = true := by kernel_rfl
@[simp] theorem ovl_54 : ovlT Tryd.prog 54 = false := by kernel_rfl
@[simp] theorem call_55 : callable Tryd.prog 55 = true := by kernel_rfl
@[simp] theorem ovl_55 : ovlT Tryd.prog 55 = false := by kernel_rfl
@[simp] theorem call_56 : callable Tryd.prog 56 = true := by kernel_rfl
@[simp] theorem ovl_56 : ovlT Tryd.prog 56 = false := by kernel_rfl
@[simp] theorem call_57 : callable Tryd.prog 57 = true := by kernel_rfl
@[simp] theorem ovl_57 : ovlT Tryd.prog 57 = false := by kernel_rfl
@[simp] theorem call_58 : callable Tryd.prog 58 = true := by kernel_rfl
@[simp] theorem ovl_58 : ovlT Tryd.prog 58 = false := by kernel_rfl
@[simp] theorem call_59 : callable Tryd.prog 59 = true := by kernel_rfl
@[simp] theorem ovl_59 : ovlT Tryd.prog 59 = false := by kernel_rfl
@[simp] theorem call_60 : callable Tryd.prog 60 = true := by kernel_rfl
@[simp] theorem ovl_60 : ovlT Tryd.prog 60 = false := by kernel_rfl
@[simp] theorem call_61 : callable Tryd.prog 61 = true := by kernel_rfl
@[simp] theorem ovl_61 : ovlT Tryd.prog 61 = false := by kernel_rfl
@[simp] theorem call_62 : callable Tryd.prog 62 = true := by kernel_rfl
@[simp] theorem ovl_62 : ovlT Tryd.prog 62 = false := by kernel_rfl
@[simp] theorem call_63 : callable Tryd.prog 63 = true := by kernel_rfl
@[simp] theorem ovl_63 : ovlT Tryd.prog 63 = false := by kernel_rfl
@[simp] theorem call_64 : callable Tryd.prog 64 = true := by kernel_rfl
@[simp] theorem ovl_64 : ovlT Tryd.prog 64 = false := by kernel_rfl
@[simp] theorem call_65 : callable Tryd.prog 65 = true := by kernel_rfl
@[simp] theorem ovl_65 : ovlT Tryd.prog 65 = false := by kernel_rfl
@[simp] theorem call_66 : callable Tryd.prog 66 = true := by kernel_rfl
@[simp] theorem ovl_66 : ovlT Tryd.prog 66 = false := by kernel_rfl
@[simp] theorem call_67 : callable Tryd.prog 67 = true := by kernel_rfl
@[simp] theorem ovl_67 : ovlT Tryd.prog 67 = false := by kernel_rfl
@[simp] theorem call_68 : callable Tryd.prog 68 = true := by kernel_rfl
@[simp] theorem ovl_68 : ovlT Tryd.prog 68 = false := by kernel_rfl
@[simp] theorem call_69 : callable Tryd.prog 69 = true := by kernel_rfl
@[simp] theorem ovl_69 : ovlT Tryd.prog 69 = false := by kernel_rfl
@[simp] theorem call_70 : callable Tryd.prog 70 = true := by kernel_rfl
@[simp] theorem ovl_70 : ovlT Tryd.prog 70 = false := by kernel_rfl
@[simp] theorem call_71 : callable Tryd.prog 71 = true := by kernel_rfl
@[simp] theorem ovl_71 : ovlT Tryd.prog 71 = false := by kernel_rfl
@[simp] theorem call_72 : callable Tryd.prog 72 = true := by kernel_rfl
@[simp] theorem ovl_72 : ovlT Tryd.prog 72 = false := by kernel_rfl
@[simp] theorem call_73 : callable Tryd.prog 73 = true := by kernel_rfl
@[simp] theorem ovl_73 : ovlT Tryd.prog 73 = false := by kernel_rfl
@[simp] theorem call_74 : callable Tryd.prog 74 = true := by kernel_rfl
@[simp] theorem ovl_74 : ovlT Tryd.prog 74 = false := by kernel_rfl
@[simp] theorem call_75 : callable Tryd.prog 75 = true := by kernel_rfl
@[simp] theorem ovl_75 : ovlT Tryd.prog 75 = false := by kernel_rfl
@[simp] theorem call_76 : callable Tryd.prog 76 = true := by kernel_rfl
@[simp] theorem ovl_76 : ovlT Tryd.prog 76 = false := by kernel_rfl
@[simp] theorem call_77 : callable Tryd.prog 77 = true := by kernel_rfl
@[simp] theorem ovl_77 : ovlT Tryd.prog 77 = false := by kernel_rfl
@[simp] theorem call_78 : callable Tryd.prog 78 = true := by kernel_rfl
@[simp] theorem ovl_78 : ovlT Tryd.prog 78 = false := by kernel_rfl
@[simp] theorem call_79 : callable Tryd.prog 79 = true := by kernel_rfl
@[simp] theorem ovl_79 : ovlT Tryd.prog 79 = false := by kernel_rfl
@[simp] theorem call_80 : callable Tryd.prog 80 = true := by kernel_rfl
@[simp] theorem ovl_80 : ovlT Tryd.prog 80 = false := by kernel_rfl
@[simp] theorem call_81 : callable Tryd.prog 81 = true := by kernel_rfl
@[simp] theorem ovl_81 : ovlT Tryd.prog 81 = false := by kernel_rfl
@[simp] theorem call_82 : callable Tryd.prog 82 = true := by kernel_rfl
@[simp] theorem ovl_82 : ovlT Tryd.prog 82 = false := by kernel_rfl
@[simp] theorem call_83 : callable Tryd.prog 83 = true := by kernel_rfl
@[simp] theorem ovl_83 : ovlT Tryd.prog 83 = false := by kernel_rfl
@[simp] theorem call_84 : callable Tryd.prog 84 = true := by kernel_rfl
@[simp] theorem ovl_84 : ovlT Tryd.prog 84 = false := by kernel_rfl
@[simp] theorem call_85 : callable Tryd.prog 85 = true := by kernel_rfl
@[simp] theorem ovl_85 : ovlT Tryd.prog 85 = false := by kernel_rfl
@[simp] theorem call_86 : callable Tryd.prog 86 = true := by kernel_rfl
@[simp] theorem ovl_86 : ovlT Tryd.prog 86 = false := by kernel_rfl
@[simp] theorem call_87 : callable Tryd.prog 87 = true := by kernel_rfl
@[simp] theorem ovl_87 : ovlT Tryd.prog 87 = false := by kernel_rfl
@[simp] theorem call_88 : callable Tryd.prog 88 = true := by kernel_rfl
@[simp] theorem ovl_88 : ovlT Tryd.prog 88 = false := by kernel_rfl
@[simp] theorem call_89 : callable Tryd.prog 89 = true := by kernel_rfl
@[simp] theorem ovl_89 : ovlT Tryd.prog 89 = false := by kernel_rfl
@[simp] theorem call_90 : callable Tryd.prog 90 = true := by kernel_rfl
@[simp] theorem ovl_90 : ovlT Tryd.prog 90 = false := by kernel_rfl
@[simp] theorem call_91 : callable Tryd.prog 91 = true := by kernel_rfl
@[simp] theorem ovl_91 : ovlT Tryd.prog 91 = false := by kernel_rfl
@[simp] theorem call_92 : callable Tryd.prog 92 = true := by kernel_rfl
@[simp] theorem ovl_92 : ovlT Tryd.prog 92 = false := by kernel_rfl
@[simp] theorem call_93 : callable Tryd.prog 93 = true := by kernel_rfl
@[simp] theorem ovl_93 : ovlT Tryd.prog 93 = false := by kernel_rfl
@[simp] theorem call_94 : callable Tryd.prog 94 = true := by kernel_rfl
@[simp] theorem ovl_94 : ovlT Tryd.prog 94 = false := by kernel_rfl
@[simp] theorem call_95 : callable Tryd.prog 95 = true := by kernel_rfl
@[simp] theorem ovl_95 : ovlT Tryd.prog 95 = false := by kernel_rfl
@[simp] theorem call_96 : callable Tryd.prog 96 = true := by kernel_rfl
@[simp] theorem ovl_96 : ovlT Tryd.prog 96 = false := by kernel_rfl
@[simp] theorem call_97 : callable Tryd.prog 97 = true := by kernel_rfl
@[simp] theorem ovl_97 : ovlT Tryd.prog 97 = false := by kernel_rfl
@[simp] theorem call_98 : callable Tryd.prog 98 = true := by kernel_rfl
@[simp] theorem ovl_98 : ovlT Tryd.prog 98 = false := by kernel_rfl
@[simp] theorem call_99 : callable Tryd.prog 99 = true := by kernel_rfl
@[simp] theorem ovl_99 : ovlT Tryd.prog 99 = false := by kernel_rfl
@[simp] theorem call_100 : callable Tryd.prog 100 = true := by kernel_rfl
@[simp] theorem ovl_100 : ovlT Tryd.prog 100 = false := by kernel_rfl
@[simp] theorem call_101 : callable Tryd.prog 101 = true := by kernel_rfl
@[simp] theorem ovl_101 : ovlT Tryd.prog 101 = false := by kernel_rfl
@[simp] theorem call_102 : callable Tryd.prog 102 = true := by kernel_rfl
@[simp] theorem ovl_102 : ovlT Tryd.prog 102 = false := by kernel_rfl
@[simp] theorem call_103 : callable Tryd.prog 103 = true := by kernel_rfl
@[simp] theorem ovl_103 : ovlT Tryd.prog 103 = false := by kernel_rfl
@[simp] theorem call_104 : callable Tryd.prog 104 = true := by kernel_rfl
@[simp] theorem ovl_104 : ovlT Tryd.prog 104 = false := by kernel_rfl
@[simp] theorem call_105 : callable Tryd.prog 105 = true := by kernel_rfl
@[simp] theorem ovl_105 : ovlT Tryd.prog 105 = false := by kernel_rfl
theorem mixed : Tryd.prog.follows .mixedOrders = true := by kernel_rfl
end Go.Proofs.YthgoocdldnkogaaDoor
