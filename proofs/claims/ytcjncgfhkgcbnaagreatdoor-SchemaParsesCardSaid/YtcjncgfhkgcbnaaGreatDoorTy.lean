import Derived.Test.YtcjncgfhkgcbnaaGreatDoorRows
import Derived.Test.YtcjncgfhkgcbnaaGreatDoorG4
namespace Go.Proofs.YtcjncgfhkgcbnaaGreatDoor
open Go.RowKit

@[simp] theorem ty_1 : tyT Tryz.prog 1 = some (1, false) := by kernel_rfl
@[simp] theorem sl_1 : slT Tryz.prog 1 = none := by kernel_rfl
@[simp] theorem zero_1 : zeroT Tryz.prog 1 = some ([.nilFunc]) := by kernel_rfl
@[simp] theorem str_1 : isStrT Tryz.prog 1 = false := by kernel_rfl
@[simp] theorem isint_1 : isIntT Tryz.prog 1 = false := by kernel_rfl
@[simp] theorem ty_2 : tyT Tryz.prog 2 = some (1, false) := by kernel_rfl
@[simp] theorem sl_2 : slT Tryz.prog 2 = none := by kernel_rfl
@[simp] theorem zero_2 : zeroT Tryz.prog 2 = some ([.int .i64 0]) := by kernel_rfl
@[simp] theorem int_2 : intT Tryz.prog 2 = some .i64 := by kernel_rfl
@[simp] theorem str_2 : isStrT Tryz.prog 2 = false := by kernel_rfl
@[simp] theorem isint_2 : isIntT Tryz.prog 2 = true := by kernel_rfl
@[simp] theorem ty_3 : tyT Tryz.prog 3 = some (1, false) := by kernel_rfl
@[simp] theorem sl_3 : slT Tryz.prog 3 = none := by kernel_rfl
@[simp] theorem zero_3 : zeroT Tryz.prog 3 = some ([.int .i64 0]) := by kernel_rfl
@[simp] theorem int_3 : intT Tryz.prog 3 = some .i64 := by kernel_rfl
@[simp] theorem str_3 : isStrT Tryz.prog 3 = false := by kernel_rfl
@[simp] theorem isint_3 : isIntT Tryz.prog 3 = true := by kernel_rfl
@[simp] theorem ty_4 : tyT Tryz.prog 4 = some (1, false) := by kernel_rfl
@[simp] theorem sl_4 : slT Tryz.prog 4 = none := by kernel_rfl
@[simp] theorem zero_4 : zeroT Tryz.prog 4 = some ([.bool false]) := by kernel_rfl
@[simp] theorem str_4 : isStrT Tryz.prog 4 = false := by kernel_rfl
@[simp] theorem isint_4 : isIntT Tryz.prog 4 = false := by kernel_rfl
@[simp] theorem bool_4 : isBoolT Tryz.prog 4 = true := by kernel_rfl
@[simp] theorem ty_5 : tyT Tryz.prog 5 = some (1, false) := by kernel_rfl
@[simp] theorem sl_5 : slT Tryz.prog 5 = none := by kernel_rfl
@[simp] theorem zero_5 : zeroT Tryz.prog 5 = some ([.int .u8 0]) := by kernel_rfl
@[simp] theorem int_5 : intT Tryz.prog 5 = some .u8 := by kernel_rfl
@[simp] theorem str_5 : isStrT Tryz.prog 5 = false := by kernel_rfl
@[simp] theorem isint_5 : isIntT Tryz.prog 5 = true := by kernel_rfl
@[simp] theorem ty_7 : tyT Tryz.prog 7 = some (4, true) := by kernel_rfl
@[simp] theorem sl_7 : slT Tryz.prog 7 = none := by kernel_rfl
@[simp] theorem fld_7_0 : fldT Tryz.prog 7 0 = some (0, 1, false) := by kernel_rfl
@[simp] theorem fld_7_1 : fldT Tryz.prog 7 1 = some (1, 1, false) := by kernel_rfl
@[simp] theorem fld_7_2 : fldT Tryz.prog 7 2 = some (2, 1, false) := by kernel_rfl
@[simp] theorem fld_7_3 : fldT Tryz.prog 7 3 = some (3, 1, false) := by kernel_rfl
@[simp] theorem pl_7 : plT Tryz.prog 7 = some fun i => [(0, 1), (1, 1), (2, 1), (3, 1)][i]? := by kernel_rfl
@[simp] theorem zero_7 : zeroT Tryz.prog 7 = some ([.int .i64 0, .int .i64 0, .bool false, .int .u8 0]) := by kernel_rfl
@[simp] theorem str_7 : isStrT Tryz.prog 7 = false := by kernel_rfl
@[simp] theorem isint_7 : isIntT Tryz.prog 7 = false := by kernel_rfl
@[simp] theorem ty_9 : tyT Tryz.prog 9 = some (1, false) := by kernel_rfl
@[simp] theorem sl_9 : slT Tryz.prog 9 = none := by kernel_rfl
@[simp] theorem zero_9 : zeroT Tryz.prog 9 = some ([.string ByteArray.empty]) := by kernel_rfl
@[simp] theorem str_9 : isStrT Tryz.prog 9 = true := by kernel_rfl
@[simp] theorem isint_9 : isIntT Tryz.prog 9 = false := by kernel_rfl
@[simp] theorem ty_12 : tyT Tryz.prog 12 = some (1, false) := by kernel_rfl
@[simp] theorem sl_12 : slT Tryz.prog 12 = none := by kernel_rfl
@[simp] theorem zero_12 : zeroT Tryz.prog 12 = some ([.int .u64 0]) := by kernel_rfl
@[simp] theorem int_12 : intT Tryz.prog 12 = some .u64 := by kernel_rfl
@[simp] theorem str_12 : isStrT Tryz.prog 12 = false := by kernel_rfl
@[simp] theorem isint_12 : isIntT Tryz.prog 12 = true := by kernel_rfl
@[simp] theorem ty_13 : tyT Tryz.prog 13 = some (2, true) := by kernel_rfl
@[simp] theorem sl_13 : slT Tryz.prog 13 = none := by kernel_rfl
@[simp] theorem fld_13_0 : fldT Tryz.prog 13 0 = some (0, 1, false) := by kernel_rfl
@[simp] theorem fld_13_1 : fldT Tryz.prog 13 1 = some (1, 1, false) := by kernel_rfl
@[simp] theorem pl_13 : plT Tryz.prog 13 = some fun i => [(0, 1), (1, 1)][i]? := by kernel_rfl
@[simp] theorem zero_13 : zeroT Tryz.prog 13 = some ([.string ByteArray.empty, .int .u64 0]) := by kernel_rfl
@[simp] theorem str_13 : isStrT Tryz.prog 13 = false := by kernel_rfl
@[simp] theorem isint_13 : isIntT Tryz.prog 13 = false := by kernel_rfl
@[simp] theorem ty_18 : tyT Tryz.prog 18 = some (1, true) := by kernel_rfl
@[simp] theorem sl_18 : slT Tryz.prog 18 = none := by kernel_rfl
@[simp] theorem fld_18_0 : fldT Tryz.prog 18 0 = some (0, 1, false) := by kernel_rfl
@[simp] theorem pl_18 : plT Tryz.prog 18 = some fun i => [(0, 1)][i]? := by kernel_rfl
@[simp] theorem zero_18 : zeroT Tryz.prog 18 = some ([.pointer none]) := by kernel_rfl
@[simp] theorem str_18 : isStrT Tryz.prog 18 = false := by kernel_rfl
@[simp] theorem isint_18 : isIntT Tryz.prog 18 = false := by kernel_rfl
@[simp] theorem ty_19 : tyT Tryz.prog 19 = some (1, true) := by kernel_rfl
@[simp] theorem sl_19 : slT Tryz.prog 19 = none := by kernel_rfl
@[simp] theorem fld_19_0 : fldT Tryz.prog 19 0 = some (0, 1, false) := by kernel_rfl
@[simp] theorem pl_19 : plT Tryz.prog 19 = some fun i => [(0, 1)][i]? := by kernel_rfl
@[simp] theorem zero_19 : zeroT Tryz.prog 19 = some ([.pointer none]) := by kernel_rfl
@[simp] theorem str_19 : isStrT Tryz.prog 19 = false := by kernel_rfl
@[simp] theorem isint_19 : isIntT Tryz.prog 19 = false := by kernel_rfl
@[simp] theorem ty_21 : tyT Tryz.prog 21 = some (1, false) := by kernel_rfl
@[simp] theorem sl_21 : slT Tryz.prog 21 = none := by kernel_rfl
@[simp] theorem zero_21 : zeroT Tryz.prog 21 = some ([.int .i32 0]) := by kernel_rfl
@[simp] theorem int_21 : intT Tryz.prog 21 = some .i32 := by kernel_rfl
@[simp] theorem str_21 : isStrT Tryz.prog 21 = false := by kernel_rfl
@[simp] theorem isint_21 : isIntT Tryz.prog 21 = true := by kernel_rfl
@[simp] theorem ty_22 : tyT Tryz.prog 22 = some (1, false) := by kernel_rfl
@[simp] theorem sl_22 : slT Tryz.prog 22 = some (39, 4, 72) := by kernel_rfl
@[simp] theorem zero_22 : zeroT Tryz.prog 22 = some ([.slice none 0 0]) := by kernel_rfl
@[simp] theorem str_22 : isStrT Tryz.prog 22 = false := by kernel_rfl
@[simp] theorem isint_22 : isIntT Tryz.prog 22 = false := by kernel_rfl
@[simp] theorem ty_23 : tyT Tryz.prog 23 = some (3, true) := by kernel_rfl
@[simp] theorem sl_23 : slT Tryz.prog 23 = none := by kernel_rfl
@[simp] theorem fld_23_0 : fldT Tryz.prog 23 0 = some (0, 1, false) := by kernel_rfl
@[simp] theorem fld_23_1 : fldT Tryz.prog 23 1 = some (1, 1, false) := by kernel_rfl
@[simp] theorem fld_23_2 : fldT Tryz.prog 23 2 = some (2, 1, false) := by kernel_rfl
@[simp] theorem pl_23 : plT Tryz.prog 23 = some fun i => [(0, 1), (1, 1), (2, 1)][i]? := by kernel_rfl
@[simp] theorem zero_23 : zeroT Tryz.prog 23 = some ([.int .i64 0, .int .i64 0, .slice none 0 0]) := by kernel_rfl
@[simp] theorem str_23 : isStrT Tryz.prog 23 = false := by kernel_rfl
@[simp] theorem isint_23 : isIntT Tryz.prog 23 = false := by kernel_rfl
@[simp] theorem ty_24 : tyT Tryz.prog 24 = some (3, true) := by kernel_rfl
@[simp] theorem sl_24 : slT Tryz.prog 24 = none := by kernel_rfl
@[simp] theorem fld_24_0 : fldT Tryz.prog 24 0 = some (0, 1, false) := by kernel_rfl
@[simp] theorem fld_24_1 : fldT Tryz.prog 24 1 = some (1, 1, false) := by kernel_rfl
@[simp] theorem fld_24_2 : fldT Tryz.prog 24 2 = some (2, 1, false) := by kernel_rfl
@[simp] theorem pl_24 : plT Tryz.prog 24 = some fun i => [(0, 1), (1, 1), (2, 1)][i]? := by kernel_rfl
@[simp] theorem zero_24 : zeroT Tryz.prog 24 = some ([.int .i64 0, .int .i64 0, .slice none 0 0]) := by kernel_rfl
@[simp] theorem str_24 : isStrT Tryz.prog 24 = false := by kernel_rfl
@[simp] theorem isint_24 : isIntT Tryz.prog 24 = false := by kernel_rfl
@[simp] theorem ty_25 : tyT Tryz.prog 25 = some (1, false) := by kernel_rfl
@[simp] theorem sl_25 : slT Tryz.prog 25 = none := by kernel_rfl
@[simp] theorem zero_25 : zeroT Tryz.prog 25 = some ([.nilFunc]) := by kernel_rfl
@[simp] theorem str_25 : isStrT Tryz.prog 25 = false := by kernel_rfl
@[simp] theorem isint_25 : isIntT Tryz.prog 25 = false := by kernel_rfl
@[simp] theorem ty_26 : tyT Tryz.prog 26 = some (1, false) := by kernel_rfl
@[simp] theorem sl_26 : slT Tryz.prog 26 = none := by kernel_rfl
@[simp] theorem zero_26 : zeroT Tryz.prog 26 = some ([.nilFunc]) := by kernel_rfl
@[simp] theorem str_26 : isStrT Tryz.prog 26 = false := by kernel_rfl
@[simp] theorem isint_26 : isIntT Tryz.prog 26 = false := by kernel_rfl
@[simp] theorem ty_27 : tyT Tryz.prog 27 = some (1, false) := by kernel_rfl
@[simp] theorem sl_27 : slT Tryz.prog 27 = some (5, 1, 1) := by kernel_rfl
@[simp] theorem zero_27 : zeroT Tryz.prog 27 = some ([.slice none 0 0]) := by kernel_rfl
@[simp] theorem str_27 : isStrT Tryz.prog 27 = false := by kernel_rfl
@[simp] theorem isint_27 : isIntT Tryz.prog 27 = false := by kernel_rfl
@[simp] theorem ty_28 : tyT Tryz.prog 28 = some (1, false) := by kernel_rfl
@[simp] theorem sl_28 : slT Tryz.prog 28 = none := by kernel_rfl
@[simp] theorem zero_28 : zeroT Tryz.prog 28 = some ([.int .i64 0]) := by kernel_rfl
@[simp] theorem int_28 : intT Tryz.prog 28 = some .i64 := by kernel_rfl
@[simp] theorem str_28 : isStrT Tryz.prog 28 = false := by kernel_rfl
@[simp] theorem isint_28 : isIntT Tryz.prog 28 = true := by kernel_rfl
@[simp] theorem ty_30 : tyT Tryz.prog 30 = some (1, false) := by kernel_rfl
@[simp] theorem sl_30 : slT Tryz.prog 30 = none := by kernel_rfl
@[simp] theorem zero_30 : zeroT Tryz.prog 30 = some ([.nilFunc]) := by kernel_rfl
@[simp] theorem str_30 : isStrT Tryz.prog 30 = false := by kernel_rfl
@[simp] theorem isint_30 : isIntT Tryz.prog 30 = false := by kernel_rfl
@[simp] theorem ty_32 : tyT Tryz.prog 32 = some (1, false) := by kernel_rfl
@[simp] theorem sl_32 : slT Tryz.prog 32 = none := by kernel_rfl
@[simp] theorem zero_32 : zeroT Tryz.prog 32 = some ([.nilFunc]) := by kernel_rfl
@[simp] theorem str_32 : isStrT Tryz.prog 32 = false := by kernel_rfl
@[simp] theorem isint_32 : isIntT Tryz.prog 32 = false := by kernel_rfl
@[simp] theorem ty_33 : tyT Tryz.prog 33 = some (1, false) := by kernel_rfl
@[simp] theorem sl_33 : slT Tryz.prog 33 = none := by kernel_rfl
@[simp] theorem zero_33 : zeroT Tryz.prog 33 = some ([.nilFunc]) := by kernel_rfl
@[simp] theorem str_33 : isStrT Tryz.prog 33 = false := by kernel_rfl
@[simp] theorem isint_33 : isIntT Tryz.prog 33 = false := by kernel_rfl
@[simp] theorem ty_34 : tyT Tryz.prog 34 = some (1, false) := by kernel_rfl
@[simp] theorem sl_34 : slT Tryz.prog 34 = none := by kernel_rfl
@[simp] theorem zero_34 : zeroT Tryz.prog 34 = some ([.nilFunc]) := by kernel_rfl
@[simp] theorem str_34 : isStrT Tryz.prog 34 = false := by kernel_rfl
@[simp] theorem isint_34 : isIntT Tryz.prog 34 = false := by kernel_rfl
@[simp] theorem ty_35 : tyT Tryz.prog 35 = some (1, false) := by kernel_rfl
@[simp] theorem sl_35 : slT Tryz.prog 35 = none := by kernel_rfl
@[simp] theorem zero_35 : zeroT Tryz.prog 35 = some ([.nilFunc]) := by kernel_rfl
@[simp] theorem str_35 : isStrT Tryz.prog 35 = false := by kernel_rfl
@[simp] theorem isint_35 : isIntT Tryz.prog 35 = false := by kernel_rfl
@[simp] theorem ty_36 : tyT Tryz.prog 36 = some (1, false) := by kernel_rfl
@[simp] theorem sl_36 : slT Tryz.prog 36 = some (53, 10, 96) := by kernel_rfl
@[simp] theorem zero_36 : zeroT Tryz.prog 36 = some ([.slice none 0 0]) := by kernel_rfl
@[simp] theorem str_36 : isStrT Tryz.prog 36 = false := by kernel_rfl
@[simp] theorem isint_36 : isIntT Tryz.prog 36 = false := by kernel_rfl
@[simp] theorem ty_37 : tyT Tryz.prog 37 = some (1, false) := by kernel_rfl
@[simp] theorem sl_37 : slT Tryz.prog 37 = some (56, 5, 64) := by kernel_rfl
@[simp] theorem zero_37 : zeroT Tryz.prog 37 = some ([.slice none 0 0]) := by kernel_rfl
@[simp] theorem str_37 : isStrT Tryz.prog 37 = false := by kernel_rfl
@[simp] theorem isint_37 : isIntT Tryz.prog 37 = false := by kernel_rfl
@[simp] theorem ty_38 : tyT Tryz.prog 38 = some (4, true) := by kernel_rfl
@[simp] theorem sl_38 : slT Tryz.prog 38 = none := by kernel_rfl
@[simp] theorem fld_38_0 : fldT Tryz.prog 38 0 = some (0, 1, false) := by kernel_rfl
@[simp] theorem fld_38_1 : fldT Tryz.prog 38 1 = some (1, 1, false) := by kernel_rfl
@[simp] theorem fld_38_2 : fldT Tryz.prog 38 2 = some (2, 1, false) := by kernel_rfl
@[simp] theorem fld_38_3 : fldT Tryz.prog 38 3 = some (3, 1, false) := by kernel_rfl
@[simp] theorem pl_38 : plT Tryz.prog 38 = some fun i => [(0, 1), (1, 1), (2, 1), (3, 1)][i]? := by kernel_rfl
@[simp] theorem zero_38 : zeroT Tryz.prog 38 = some ([.int .i64 0, .string ByteArray.empty, .slice none 0 0, .slice none 0 0]) := by kernel_rfl
@[simp] theorem str_38 : isStrT Tryz.prog 38 = false := by kernel_rfl
@[simp] theorem isint_38 : isIntT Tryz.prog 38 = false := by kernel_rfl
@[simp] theorem ty_39 : tyT Tryz.prog 39 = some (4, true) := by kernel_rfl
@[simp] theorem sl_39 : slT Tryz.prog 39 = none := by kernel_rfl
@[simp] theorem fld_39_0 : fldT Tryz.prog 39 0 = some (0, 1, false) := by kernel_rfl
@[simp] theorem fld_39_1 : fldT Tryz.prog 39 1 = some (1, 1, false) := by kernel_rfl
@[simp] theorem fld_39_2 : fldT Tryz.prog 39 2 = some (2, 1, false) := by kernel_rfl
@[simp] theorem fld_39_3 : fldT Tryz.prog 39 3 = some (3, 1, false) := by kernel_rfl
@[simp] theorem pl_39 : plT Tryz.prog 39 = some fun i => [(0, 1), (1, 1), (2, 1), (3, 1)][i]? := by kernel_rfl
@[simp] theorem zero_39 : zeroT Tryz.prog 39 = some ([.int .i64 0, .string ByteArray.empty, .slice none 0 0, .slice none 0 0]) := by kernel_rfl
@[simp] theorem str_39 : isStrT Tryz.prog 39 = false := by kernel_rfl
@[simp] theorem isint_39 : isIntT Tryz.prog 39 = false := by kernel_rfl
@[simp] theorem ty_40 : tyT Tryz.prog 40 = some (1, false) := by kernel_rfl
@[simp] theorem sl_40 : slT Tryz.prog 40 = none := by kernel_rfl
@[simp] theorem zero_40 : zeroT Tryz.prog 40 = some ([.nilFunc]) := by kernel_rfl
@[simp] theorem str_40 : isStrT Tryz.prog 40 = false := by kernel_rfl
@[simp] theorem isint_40 : isIntT Tryz.prog 40 = false := by kernel_rfl
@[simp] theorem ty_41 : tyT Tryz.prog 41 = some (1, false) := by kernel_rfl
@[simp] theorem sl_41 : slT Tryz.prog 41 = none := by kernel_rfl
@[simp] theorem zero_41 : zeroT Tryz.prog 41 = some ([.nilFunc]) := by kernel_rfl
@[simp] theorem str_41 : isStrT Tryz.prog 41 = false := by kernel_rfl
@[simp] theorem isint_41 : isIntT Tryz.prog 41 = false := by kernel_rfl
@[simp] theorem ty_42 : tyT Tryz.prog 42 = some (1, false) := by kernel_rfl
@[simp] theorem sl_42 : slT Tryz.prog 42 = none := by kernel_rfl
@[simp] theorem zero_42 : zeroT Tryz.prog 42 = some ([.nilFunc]) := by kernel_rfl
@[simp] theorem str_42 : isStrT Tryz.prog 42 = false := by kernel_rfl
@[simp] theorem isint_42 : isIntT Tryz.prog 42 = false := by kernel_rfl
@[simp] theorem ty_43 : tyT Tryz.prog 43 = some (1, false) := by kernel_rfl
@[simp] theorem sl_43 : slT Tryz.prog 43 = none := by kernel_rfl
@[simp] theorem zero_43 : zeroT Tryz.prog 43 = some ([.nilFunc]) := by kernel_rfl
@[simp] theorem str_43 : isStrT Tryz.prog 43 = false := by kernel_rfl
@[simp] theorem isint_43 : isIntT Tryz.prog 43 = false := by kernel_rfl
@[simp] theorem ty_44 : tyT Tryz.prog 44 = some (1, false) := by kernel_rfl
@[simp] theorem sl_44 : slT Tryz.prog 44 = none := by kernel_rfl
@[simp] theorem zero_44 : zeroT Tryz.prog 44 = some ([.nilFunc]) := by kernel_rfl
@[simp] theorem str_44 : isStrT Tryz.prog 44 = false := by kernel_rfl
@[simp] theorem isint_44 : isIntT Tryz.prog 44 = false := by kernel_rfl
@[simp] theorem ty_45 : tyT Tryz.prog 45 = some (1, false) := by kernel_rfl
@[simp] theorem sl_45 : slT Tryz.prog 45 = none := by kernel_rfl
@[simp] theorem zero_45 : zeroT Tryz.prog 45 = some ([.nilFunc]) := by kernel_rfl
@[simp] theorem str_45 : isStrT Tryz.prog 45 = false := by kernel_rfl
@[simp] theorem isint_45 : isIntT Tryz.prog 45 = false := by kernel_rfl
@[simp] theorem ty_46 : tyT Tryz.prog 46 = some (1, false) := by kernel_rfl
@[simp] theorem sl_46 : slT Tryz.prog 46 = none := by kernel_rfl
@[simp] theorem zero_46 : zeroT Tryz.prog 46 = some ([.int .i64 0]) := by kernel_rfl
@[simp] theorem int_46 : intT Tryz.prog 46 = some .i64 := by kernel_rfl
@[simp] theorem str_46 : isStrT Tryz.prog 46 = false := by kernel_rfl
@[simp] theorem isint_46 : isIntT Tryz.prog 46 = true := by kernel_rfl
@[simp] theorem ty_47 : tyT Tryz.prog 47 = some (2, true) := by kernel_rfl
@[simp] theorem sl_47 : slT Tryz.prog 47 = none := by kernel_rfl
@[simp] theorem fld_47_0 : fldT Tryz.prog 47 0 = some (0, 1, false) := by kernel_rfl
@[simp] theorem fld_47_1 : fldT Tryz.prog 47 1 = some (1, 1, false) := by kernel_rfl
@[simp] theorem pl_47 : plT Tryz.prog 47 = some fun i => [(0, 1), (1, 1)][i]? := by kernel_rfl
@[simp] theorem zero_47 : zeroT Tryz.prog 47 = some ([.int .i64 0, .int .i64 0]) := by kernel_rfl
@[simp] theorem str_47 : isStrT Tryz.prog 47 = false := by kernel_rfl
@[simp] theorem isint_47 : isIntT Tryz.prog 47 = false := by kernel_rfl
@[simp] theorem ty_48 : tyT Tryz.prog 48 = some (2, true) := by kernel_rfl
@[simp] theorem sl_48 : slT Tryz.prog 48 = none := by kernel_rfl
@[simp] theorem fld_48_0 : fldT Tryz.prog 48 0 = some (0, 1, false) := by kernel_rfl
@[simp] theorem fld_48_1 : fldT Tryz.prog 48 1 = some (1, 1, false) := by kernel_rfl
@[simp] theorem pl_48 : plT Tryz.prog 48 = some fun i => [(0, 1), (1, 1)][i]? := by kernel_rfl
@[simp] theorem flat_48 : flatT Tryz.prog 48 = some [.i, .i] := by kernel_rfl
@[simp] theorem zero_48 : zeroT Tryz.prog 48 = some ([.int .i64 0, .int .i64 0]) := by kernel_rfl
@[simp] theorem str_48 : isStrT Tryz.prog 48 = false := by kernel_rfl
@[simp] theorem isint_48 : isIntT Tryz.prog 48 = false := by kernel_rfl
@[simp] theorem ty_49 : tyT Tryz.prog 49 = some (4, true) := by kernel_rfl
@[simp] theorem sl_49 : slT Tryz.prog 49 = none := by kernel_rfl
@[simp] theorem fld_49_0 : fldT Tryz.prog 49 0 = some (0, 1, false) := by kernel_rfl
@[simp] theorem fld_49_1 : fldT Tryz.prog 49 1 = some (1, 1, false) := by kernel_rfl
@[simp] theorem fld_49_2 : fldT Tryz.prog 49 2 = some (2, 1, false) := by kernel_rfl
@[simp] theorem fld_49_3 : fldT Tryz.prog 49 3 = some (3, 1, false) := by kernel_rfl
@[simp] theorem pl_49 : plT Tryz.prog 49 = some fun i => [(0, 1), (1, 1), (2, 1), (3, 1)][i]? := by kernel_rfl
@[simp] theorem zero_49 : zeroT Tryz.prog 49 = some ([.int .i64 0, .int .i64 0, .int .i64 0, .string ByteArray.empty]) := by kernel_rfl
@[simp] theorem str_49 : isStrT Tryz.prog 49 = false := by kernel_rfl
@[simp] theorem isint_49 : isIntT Tryz.prog 49 = false := by kernel_rfl
@[simp] theorem ty_50 : tyT Tryz.prog 50 = some (4, true) := by kernel_rfl
@[simp] theorem sl_50 : slT Tryz.prog 50 = none := by kernel_rfl
@[simp] theorem fld_50_0 : fldT Tryz.prog 50 0 = some (0, 1, false) := by kernel_rfl
@[simp] theorem fld_50_1 : fldT Tryz.prog 50 1 = some (1, 1, false) := by kernel_rfl
@[simp] theorem fld_50_2 : fldT Tryz.prog 50 2 = some (2, 1, false) := by kernel_rfl
@[simp] theorem fld_50_3 : fldT Tryz.prog 50 3 = some (3, 1, false) := by kernel_rfl
@[simp] theorem pl_50 : plT Tryz.prog 50 = some fun i => [(0, 1), (1, 1), (2, 1), (3, 1)][i]? := by kernel_rfl
@[simp] theorem flat_50 : flatT Tryz.prog 50 = some [.i, .i, .i, .s] := by kernel_rfl
@[simp] theorem zero_50 : zeroT Tryz.prog 50 = some ([.int .i64 0, .int .i64 0, .int .i64 0, .string ByteArray.empty]) := by kernel_rfl
@[simp] theorem str_50 : isStrT Tryz.prog 50 = false := by kernel_rfl
@[simp] theorem isint_50 : isIntT Tryz.prog 50 = false := by kernel_rfl
@[simp] theorem ty_51 : tyT Tryz.prog 51 = some (1, false) := by kernel_rfl
@[simp] theorem sl_51 : slT Tryz.prog 51 = none := by kernel_rfl
@[simp] theorem zero_51 : zeroT Tryz.prog 51 = some ([.int .i64 0]) := by kernel_rfl
@[simp] theorem int_51 : intT Tryz.prog 51 = some .i64 := by kernel_rfl
@[simp] theorem str_51 : isStrT Tryz.prog 51 = false := by kernel_rfl
@[simp] theorem isint_51 : isIntT Tryz.prog 51 = true := by kernel_rfl
@[simp] theorem ty_52 : tyT Tryz.prog 52 = some (10, true) := by kernel_rfl
@[simp] theorem sl_52 : slT Tryz.prog 52 = none := by kernel_rfl
@[simp] theorem fld_52_0 : fldT Tryz.prog 52 0 = some (0, 1, false) := by kernel_rfl
@[simp] theorem fld_52_1 : fldT Tryz.prog 52 1 = some (1, 1, false) := by kernel_rfl
@[simp] theorem fld_52_2 : fldT Tryz.prog 52 2 = some (2, 2, true) := by kernel_rfl
@[simp] theorem fld_52_3 : fldT Tryz.prog 52 3 = some (4, 1, false) := by kernel_rfl
@[simp] theorem fld_52_4 : fldT Tryz.prog 52 4 = some (5, 4, true) := by kernel_rfl
@[simp] theorem fld_52_5 : fldT Tryz.prog 52 5 = some (9, 1, false) := by kernel_rfl
@[simp] theorem pl_52 : plT Tryz.prog 52 = some fun i => [(0, 1), (1, 1), (2, 2), (4, 1), (5, 4), (9, 1)][i]? := by kernel_rfl
@[simp] theorem zero_52 : zeroT Tryz.prog 52 = some ([.int .i64 0, .string ByteArray.empty, .int .i64 0, .int .i64 0, .bool false, .int .i64 0, .int .i64 0, .int .i64 0, .string ByteArray.empty, .int .i64 0]) := by kernel_rfl
@[simp] theorem str_52 : isStrT Tryz.prog 52 = false := by kernel_rfl
@[simp] theorem isint_52 : isIntT Tryz.prog 52 = false := by kernel_rfl
@[simp] theorem ty_53 : tyT Tryz.prog 53 = some (10, true) := by kernel_rfl
@[simp] theorem sl_53 : slT Tryz.prog 53 = none := by kernel_rfl
@[simp] theorem fld_53_0 : fldT Tryz.prog 53 0 = some (0, 1, false) := by kernel_rfl
@[simp] theorem fld_53_1 : fldT Tryz.prog 53 1 = some (1, 1, false) := by kernel_rfl
@[simp] theorem fld_53_2 : fldT Tryz.prog 53 2 = some (2, 2, true) := by kernel_rfl
@[simp] theorem fld_53_3 : fldT Tryz.prog 53 3 = some (4, 1, false) := by kernel_rfl
@[simp] theorem fld_53_4 : fldT Tryz.prog 53 4 = some (5, 4, true) := by kernel_rfl
@[simp] theorem fld_53_5 : fldT Tryz.prog 53 5 = some (9, 1, false) := by kernel_rfl
@[simp] theorem pl_53 : plT Tryz.prog 53 = some fun i => [(0, 1), (1, 1), (2, 2), (4, 1), (5, 4), (9, 1)][i]? := by kernel_rfl
@[simp] theorem flat_53 : flatT Tryz.prog 53 = some [.i, .s, .i, .i, .b, .i, .i, .i, .s, .i] := by kernel_rfl
@[simp] theorem zero_53 : zeroT Tryz.prog 53 = some ([.int .i64 0, .string ByteArray.empty, .int .i64 0, .int .i64 0, .bool false, .int .i64 0, .int .i64 0, .int .i64 0, .string ByteArray.empty, .int .i64 0]) := by kernel_rfl
@[simp] theorem str_53 : isStrT Tryz.prog 53 = false := by kernel_rfl
@[simp] theorem isint_53 : isIntT Tryz.prog 53 = false := by kernel_rfl
@[simp] theorem ty_54 : tyT Tryz.prog 54 = some (1, false) := by kernel_rfl
@[simp] theorem sl_54 : slT Tryz.prog 54 = some (3, 1, 8) := by kernel_rfl
@[simp] theorem zero_54 : zeroT Tryz.prog 54 = some ([.slice none 0 0]) := by kernel_rfl
@[simp] theorem str_54 : isStrT Tryz.prog 54 = false := by kernel_rfl
@[simp] theorem isint_54 : isIntT Tryz.prog 54 = false := by kernel_rfl
@[simp] theorem ty_55 : tyT Tryz.prog 55 = some (5, true) := by kernel_rfl
@[simp] theorem sl_55 : slT Tryz.prog 55 = none := by kernel_rfl
@[simp] theorem fld_55_0 : fldT Tryz.prog 55 0 = some (0, 1, false) := by kernel_rfl
@[simp] theorem fld_55_1 : fldT Tryz.prog 55 1 = some (1, 1, false) := by kernel_rfl
@[simp] theorem fld_55_2 : fldT Tryz.prog 55 2 = some (2, 1, false) := by kernel_rfl
@[simp] theorem fld_55_3 : fldT Tryz.prog 55 3 = some (3, 1, false) := by kernel_rfl
@[simp] theorem fld_55_4 : fldT Tryz.prog 55 4 = some (4, 1, false) := by kernel_rfl
@[simp] theorem pl_55 : plT Tryz.prog 55 = some fun i => [(0, 1), (1, 1), (2, 1), (3, 1), (4, 1)][i]? := by kernel_rfl
@[simp] theorem zero_55 : zeroT Tryz.prog 55 = some ([.int .i64 0, .string ByteArray.empty, .slice none 0 0, .bool false, .int .i64 0]) := by kernel_rfl
@[simp] theorem str_55 : isStrT Tryz.prog 55 = false := by kernel_rfl
@[simp] theorem isint_55 : isIntT Tryz.prog 55 = false := by kernel_rfl
@[simp] theorem ty_56 : tyT Tryz.prog 56 = some (5, true) := by kernel_rfl
@[simp] theorem sl_56 : slT Tryz.prog 56 = none := by kernel_rfl
@[simp] theorem fld_56_0 : fldT Tryz.prog 56 0 = some (0, 1, false) := by kernel_rfl
@[simp] theorem fld_56_1 : fldT Tryz.prog 56 1 = some (1, 1, false) := by kernel_rfl
@[simp] theorem fld_56_2 : fldT Tryz.prog 56 2 = some (2, 1, false) := by kernel_rfl
@[simp] theorem fld_56_3 : fldT Tryz.prog 56 3 = some (3, 1, false) := by kernel_rfl
@[simp] theorem fld_56_4 : fldT Tryz.prog 56 4 = some (4, 1, false) := by kernel_rfl
@[simp] theorem pl_56 : plT Tryz.prog 56 = some fun i => [(0, 1), (1, 1), (2, 1), (3, 1), (4, 1)][i]? := by kernel_rfl
@[simp] theorem zero_56 : zeroT Tryz.prog 56 = some ([.int .i64 0, .string ByteArray.empty, .slice none 0 0, .bool false, .int .i64 0]) := by kernel_rfl
@[simp] theorem str_56 : isStrT Tryz.prog 56 = false := by kernel_rfl
@[simp] theorem isint_56 : isIntT Tryz.prog 56 = false := by kernel_rfl
@[simp] theorem ty_57 : tyT Tryz.prog 57 = some (1, false) := by kernel_rfl
@[simp] theorem sl_57 : slT Tryz.prog 57 = none := by kernel_rfl
@[simp] theorem zero_57 : zeroT Tryz.prog 57 = some ([.int .i64 0]) := by kernel_rfl
@[simp] theorem int_57 : intT Tryz.prog 57 = some .i64 := by kernel_rfl
@[simp] theorem str_57 : isStrT Tryz.prog 57 = false := by kernel_rfl
@[simp] theorem isint_57 : isIntT Tryz.prog 57 = true := by kernel_rfl
@[simp] theorem ty_58 : tyT Tryz.prog 58 = some (18, true) := by kernel_rfl
@[simp] theorem sl_58 : slT Tryz.prog 58 = none := by kernel_rfl
@[simp] theorem fld_58_0 : fldT Tryz.prog 58 0 = some (0, 1, false) := by kernel_rfl
@[simp] theorem fld_58_1 : fldT Tryz.prog 58 1 = some (1, 1, false) := by kernel_rfl
@[simp] theorem fld_58_2 : fldT Tryz.prog 58 2 = some (2, 1, false) := by kernel_rfl
@[simp] theorem fld_58_3 : fldT Tryz.prog 58 3 = some (3, 1, false) := by kernel_rfl
@[simp] theorem fld_58_4 : fldT Tryz.prog 58 4 = some (4, 1, false) := by kernel_rfl
@[simp] theorem fld_58_5 : fldT Tryz.prog 58 5 = some (5, 5, true) := by kernel_rfl
@[simp] theorem fld_58_6 : fldT Tryz.prog 58 6 = some (10, 1, false) := by kernel_rfl
@[simp] theorem fld_58_7 : fldT Tryz.prog 58 7 = some (11, 1, false) := by kernel_rfl
@[simp] theorem fld_58_8 : fldT Tryz.prog 58 8 = some (12, 1, false) := by kernel_rfl
@[simp] theorem fld_58_9 : fldT Tryz.prog 58 9 = some (13, 1, false) := by kernel_rfl
@[simp] theorem fld_58_10 : fldT Tryz.prog 58 10 = some (14, 1, false) := by kernel_rfl
@[simp] theorem fld_58_11 : fldT Tryz.prog 58 11 = some (15, 1, false) := by kernel_rfl
@[simp] theorem fld_58_12 : fldT Tryz.prog 58 12 = some (16, 1, false) := by kernel_rfl
@[simp] theorem fld_58_13 : fldT Tryz.prog 58 13 = some (17, 1, false) := by kernel_rfl
@[simp] theorem pl_58 : plT Tryz.prog 58 = some fun i => [(0, 1), (1, 1), (2, 1), (3, 1), (4, 1), (5, 5), (10, 1), (11, 1), (12, 1), (13, 1), (14, 1), (15, 1), (16, 1), (17, 1)][i]? := by kernel_rfl
@[simp] theorem zero_58 : zeroT Tryz.prog 58 = some ([.int .i64 0, .int .i64 0, .int .i64 0, .string ByteArray.empty, .slice none 0 0, .int .i64 0, .string ByteArray.empty, .slice none 0 0, .bool false, .int .i64 0, .int .i64 0, .int .i64 0, .string ByteArray.empty, .bool false, .bool false, .bool false, .int .i64 0, .bool false]) := by kernel_rfl
@[simp] theorem str_58 : isStrT Tryz.prog 58 = false := by kernel_rfl
@[simp] theorem isint_58 : isIntT Tryz.prog 58 = false := by kernel_rfl
@[simp] theorem ty_59 : tyT Tryz.prog 59 = some (18, true) := by kernel_rfl
@[simp] theorem sl_59 : slT Tryz.prog 59 = none := by kernel_rfl
@[simp] theorem fld_59_0 : fldT Tryz.prog 59 0 = some (0, 1, false) := by kernel_rfl
@[simp] theorem fld_59_1 : fldT Tryz.prog 59 1 = some (1, 1, false) := by kernel_rfl
@[simp] theorem fld_59_2 : fldT Tryz.prog 59 2 = some (2, 1, false) := by kernel_rfl
@[simp] theorem fld_59_3 : fldT Tryz.prog 59 3 = some (3, 1, false) := by kernel_rfl
@[simp] theorem fld_59_4 : fldT Tryz.prog 59 4 = some (4, 1, false) := by kernel_rfl
@[simp] theorem fld_59_5 : fldT Tryz.prog 59 5 = some (5, 5, true) := by kernel_rfl
@[simp] theorem fld_59_6 : fldT Tryz.prog 59 6 = some (10, 1, false) := by kernel_rfl
@[simp] theorem fld_59_7 : fldT Tryz.prog 59 7 = some (11, 1, false) := by kernel_rfl
@[simp] theorem fld_59_8 : fldT Tryz.prog 59 8 = some (12, 1, false) := by kernel_rfl
@[simp] theorem fld_59_9 : fldT Tryz.prog 59 9 = some (13, 1, false) := by kernel_rfl
@[simp] theorem fld_59_10 : fldT Tryz.prog 59 10 = some (14, 1, false) := by kernel_rfl
@[simp] theorem fld_59_11 : fldT Tryz.prog 59 11 = some (15, 1, false) := by kernel_rfl
@[simp] theorem fld_59_12 : fldT Tryz.prog 59 12 = some (16, 1, false) := by kernel_rfl
@[simp] theorem fld_59_13 : fldT Tryz.prog 59 13 = some (17, 1, false) := by kernel_rfl
@[simp] theorem pl_59 : plT Tryz.prog 59 = some fun i => [(0, 1), (1, 1), (2, 1), (3, 1), (4, 1), (5, 5), (10, 1), (11, 1), (12, 1), (13, 1), (14, 1), (15, 1), (16, 1), (17, 1)][i]? := by kernel_rfl
@[simp] theorem zero_59 : zeroT Tryz.prog 59 = some ([.int .i64 0, .int .i64 0, .int .i64 0, .string ByteArray.empty, .slice none 0 0, .int .i64 0, .string ByteArray.empty, .slice none 0 0, .bool false, .int .i64 0, .int .i64 0, .int .i64 0, .string ByteArray.empty, .bool false, .bool false, .bool false, .int .i64 0, .bool false]) := by kernel_rfl
@[simp] theorem str_59 : isStrT Tryz.prog 59 = false := by kernel_rfl
@[simp] theorem isint_59 : isIntT Tryz.prog 59 = false := by kernel_rfl
@[simp] theorem ty_60 : tyT Tryz.prog 60 = some (1, false) := by kernel_rfl
@[simp] theorem sl_60 : slT Tryz.prog 60 = none := by kernel_rfl
@[simp] theorem zero_60 : zeroT Tryz.prog 60 = some ([.nilFunc]) := by kernel_rfl
@[simp] theorem str_60 : isStrT Tryz.prog 60 = false := by kernel_rfl
@[simp] theorem isint_60 : isIntT Tryz.prog 60 = false := by kernel_rfl
@[simp] theorem ty_61 : tyT Tryz.prog 61 = some (1, false) := by kernel_rfl
@[simp] theorem sl_61 : slT Tryz.prog 61 = none := by kernel_rfl
@[simp] theorem zero_61 : zeroT Tryz.prog 61 = some ([.int .i64 0]) := by kernel_rfl
@[simp] theorem int_61 : intT Tryz.prog 61 = some .i64 := by kernel_rfl
@[simp] theorem str_61 : isStrT Tryz.prog 61 = false := by kernel_rfl
@[simp] theorem isint_61 : isIntT Tryz.prog 61 = true := by kernel_rfl
@[simp] theorem ty_62 : tyT Tryz.prog 62 = some (1, false) := by kernel_rfl
@[simp] theorem sl_62 : slT Tryz.prog 62 = some (69, 4, 32) := by kernel_rfl
@[simp] theorem zero_62 : zeroT Tryz.prog 62 = some ([.slice none 0 0]) := by kernel_rfl
@[simp] theorem str_62 : isStrT Tryz.prog 62 = false := by kernel_rfl
@[simp] theorem isint_62 : isIntT Tryz.prog 62 = false := by kernel_rfl
@[simp] theorem ty_63 : tyT Tryz.prog 63 = some (3, true) := by kernel_rfl
@[simp] theorem sl_63 : slT Tryz.prog 63 = none := by kernel_rfl
@[simp] theorem fld_63_0 : fldT Tryz.prog 63 0 = some (0, 1, false) := by kernel_rfl
@[simp] theorem fld_63_1 : fldT Tryz.prog 63 1 = some (1, 1, false) := by kernel_rfl
@[simp] theorem fld_63_2 : fldT Tryz.prog 63 2 = some (2, 1, false) := by kernel_rfl
@[simp] theorem pl_63 : plT Tryz.prog 63 = some fun i => [(0, 1), (1, 1), (2, 1)][i]? := by kernel_rfl
@[simp] theorem zero_63 : zeroT Tryz.prog 63 = some ([.int .i64 0, .slice none 0 0, .bool false]) := by kernel_rfl
@[simp] theorem str_63 : isStrT Tryz.prog 63 = false := by kernel_rfl
@[simp] theorem isint_63 : isIntT Tryz.prog 63 = false := by kernel_rfl
@[simp] theorem ty_64 : tyT Tryz.prog 64 = some (3, true) := by kernel_rfl
@[simp] theorem sl_64 : slT Tryz.prog 64 = none := by kernel_rfl
@[simp] theorem fld_64_0 : fldT Tryz.prog 64 0 = some (0, 1, false) := by kernel_rfl
@[simp] theorem fld_64_1 : fldT Tryz.prog 64 1 = some (1, 1, false) := by kernel_rfl
@[simp] theorem fld_64_2 : fldT Tryz.prog 64 2 = some (2, 1, false) := by kernel_rfl
@[simp] theorem pl_64 : plT Tryz.prog 64 = some fun i => [(0, 1), (1, 1), (2, 1)][i]? := by kernel_rfl
@[simp] theorem zero_64 : zeroT Tryz.prog 64 = some ([.int .i64 0, .slice none 0 0, .bool false]) := by kernel_rfl
@[simp] theorem str_64 : isStrT Tryz.prog 64 = false := by kernel_rfl
@[simp] theorem isint_64 : isIntT Tryz.prog 64 = false := by kernel_rfl
@[simp] theorem ty_65 : tyT Tryz.prog 65 = some (1, false) := by kernel_rfl
@[simp] theorem sl_65 : slT Tryz.prog 65 = none := by kernel_rfl
@[simp] theorem zero_65 : zeroT Tryz.prog 65 = some ([.nilFunc]) := by kernel_rfl
@[simp] theorem str_65 : isStrT Tryz.prog 65 = false := by kernel_rfl
@[simp] theorem isint_65 : isIntT Tryz.prog 65 = false := by kernel_rfl
@[simp] theorem ty_67 : tyT Tryz.prog 67 = some (1, false) := by kernel_rfl
@[simp] theorem sl_67 : slT Tryz.prog 67 = none := by kernel_rfl
@[simp] theorem zero_67 : zeroT Tryz.prog 67 = some ([.nilFunc]) := by kernel_rfl
@[simp] theorem str_67 : isStrT Tryz.prog 67 = false := by kernel_rfl
@[simp] theorem isint_67 : isIntT Tryz.prog 67 = false := by kernel_rfl
@[simp] theorem ty_68 : tyT Tryz.prog 68 = some (4, true) := by kernel_rfl
@[simp] theorem sl_68 : slT Tryz.prog 68 = none := by kernel_rfl
@[simp] theorem fld_68_0 : fldT Tryz.prog 68 0 = some (0, 1, false) := by kernel_rfl
@[simp] theorem fld_68_1 : fldT Tryz.prog 68 1 = some (1, 1, false) := by kernel_rfl
@[simp] theorem fld_68_2 : fldT Tryz.prog 68 2 = some (2, 1, false) := by kernel_rfl
@[simp] theorem fld_68_3 : fldT Tryz.prog 68 3 = some (3, 1, false) := by kernel_rfl
@[simp] theorem pl_68 : plT Tryz.prog 68 = some fun i => [(0, 1), (1, 1), (2, 1), (3, 1)][i]? := by kernel_rfl
@[simp] theorem zero_68 : zeroT Tryz.prog 68 = some ([.int .i64 0, .bool false, .int .i64 0, .int .i64 0]) := by kernel_rfl
@[simp] theorem str_68 : isStrT Tryz.prog 68 = false := by kernel_rfl
@[simp] theorem isint_68 : isIntT Tryz.prog 68 = false := by kernel_rfl
@[simp] theorem ty_69 : tyT Tryz.prog 69 = some (4, true) := by kernel_rfl
@[simp] theorem sl_69 : slT Tryz.prog 69 = none := by kernel_rfl
@[simp] theorem fld_69_0 : fldT Tryz.prog 69 0 = some (0, 1, false) := by kernel_rfl
@[simp] theorem fld_69_1 : fldT Tryz.prog 69 1 = some (1, 1, false) := by kernel_rfl
@[simp] theorem fld_69_2 : fldT Tryz.prog 69 2 = some (2, 1, false) := by kernel_rfl
@[simp] theorem fld_69_3 : fldT Tryz.prog 69 3 = some (3, 1, false) := by kernel_rfl
@[simp] theorem pl_69 : plT Tryz.prog 69 = some fun i => [(0, 1), (1, 1), (2, 1), (3, 1)][i]? := by kernel_rfl
@[simp] theorem flat_69 : flatT Tryz.prog 69 = some [.i, .b, .i, .i] := by kernel_rfl
@[simp] theorem zero_69 : zeroT Tryz.prog 69 = some ([.int .i64 0, .bool false, .int .i64 0, .int .i64 0]) := by kernel_rfl
@[simp] theorem str_69 : isStrT Tryz.prog 69 = false := by kernel_rfl
@[simp] theorem isint_69 : isIntT Tryz.prog 69 = false := by kernel_rfl
@[simp] theorem ty_70 : tyT Tryz.prog 70 = some (1, false) := by kernel_rfl
@[simp] theorem sl_70 : slT Tryz.prog 70 = none := by kernel_rfl
@[simp] theorem zero_70 : zeroT Tryz.prog 70 = some ([.nilFunc]) := by kernel_rfl
@[simp] theorem str_70 : isStrT Tryz.prog 70 = false := by kernel_rfl
@[simp] theorem isint_70 : isIntT Tryz.prog 70 = false := by kernel_rfl
@[simp] theorem ty_71 : tyT Tryz.prog 71 = some (1, false) := by kernel_rfl
@[simp] theorem sl_71 : slT Tryz.prog 71 = none := by kernel_rfl
@[simp] theorem zero_71 : zeroT Tryz.prog 71 = some ([.nilFunc]) := by kernel_rfl
@[simp] theorem str_71 : isStrT Tryz.prog 71 = false := by kernel_rfl
@[simp] theorem isint_71 : isIntT Tryz.prog 71 = false := by kernel_rfl
@[simp] theorem ty_73 : tyT Tryz.prog 73 = some (1, false) := by kernel_rfl
@[simp] theorem sl_73 : slT Tryz.prog 73 = none := by kernel_rfl
@[simp] theorem zero_73 : zeroT Tryz.prog 73 = some ([.nilFunc]) := by kernel_rfl
@[simp] theorem str_73 : isStrT Tryz.prog 73 = false := by kernel_rfl
@[simp] theorem isint_73 : isIntT Tryz.prog 73 = false := by kernel_rfl
@[simp] theorem ty_74 : tyT Tryz.prog 74 = some (1, false) := by kernel_rfl
@[simp] theorem sl_74 : slT Tryz.prog 74 = none := by kernel_rfl
@[simp] theorem zero_74 : zeroT Tryz.prog 74 = some ([.pointer none]) := by kernel_rfl
@[simp] theorem str_74 : isStrT Tryz.prog 74 = false := by kernel_rfl
@[simp] theorem isint_74 : isIntT Tryz.prog 74 = false := by kernel_rfl
@[simp] theorem ptr_74 : isPtrT Tryz.prog 74 = true := by kernel_rfl
@[simp] theorem ty_75 : tyT Tryz.prog 75 = some (1, true) := by kernel_rfl
@[simp] theorem sl_75 : slT Tryz.prog 75 = none := by kernel_rfl
@[simp] theorem fld_75_0 : fldT Tryz.prog 75 0 = some (0, 1, false) := by kernel_rfl
@[simp] theorem pl_75 : plT Tryz.prog 75 = some fun i => [(0, 1)][i]? := by kernel_rfl
@[simp] theorem zero_75 : zeroT Tryz.prog 75 = some ([.slice none 0 0]) := by kernel_rfl
@[simp] theorem str_75 : isStrT Tryz.prog 75 = false := by kernel_rfl
@[simp] theorem isint_75 : isIntT Tryz.prog 75 = false := by kernel_rfl
@[simp] theorem ty_76 : tyT Tryz.prog 76 = some (1, true) := by kernel_rfl
@[simp] theorem sl_76 : slT Tryz.prog 76 = none := by kernel_rfl
@[simp] theorem fld_76_0 : fldT Tryz.prog 76 0 = some (0, 1, false) := by kernel_rfl
@[simp] theorem pl_76 : plT Tryz.prog 76 = some fun i => [(0, 1)][i]? := by kernel_rfl
@[simp] theorem zero_76 : zeroT Tryz.prog 76 = some ([.slice none 0 0]) := by kernel_rfl
@[simp] theorem str_76 : isStrT Tryz.prog 76 = false := by kernel_rfl
@[simp] theorem isint_76 : isIntT Tryz.prog 76 = false := by kernel_rfl
@[simp] theorem ty_77 : tyT Tryz.prog 77 = some (1, false) := by kernel_rfl
@[simp] theorem sl_77 : slT Tryz.prog 77 = none := by kernel_rfl
@[simp] theorem zero_77 : zeroT Tryz.prog 77 = some ([.nilFunc]) := by kernel_rfl
@[simp] theorem str_77 : isStrT Tryz.prog 77 = false := by kernel_rfl
@[simp] theorem isint_77 : isIntT Tryz.prog 77 = false := by kernel_rfl
@[simp] theorem ty_78 : tyT Tryz.prog 78 = some (1, false) := by kernel_rfl
@[simp] theorem sl_78 : slT Tryz.prog 78 = none := by kernel_rfl
@[simp] theorem zero_78 : zeroT Tryz.prog 78 = some ([.nilFunc]) := by kernel_rfl
@[simp] theorem str_78 : isStrT Tryz.prog 78 = false := by kernel_rfl
@[simp] theorem isint_78 : isIntT Tryz.prog 78 = false := by kernel_rfl
@[simp] theorem ty_79 : tyT Tryz.prog 79 = some (1, false) := by kernel_rfl
@[simp] theorem sl_79 : slT Tryz.prog 79 = none := by kernel_rfl
@[simp] theorem zero_79 : zeroT Tryz.prog 79 = some ([.nilFunc]) := by kernel_rfl
@[simp] theorem str_79 : isStrT Tryz.prog 79 = false := by kernel_rfl
@[simp] theorem isint_79 : isIntT Tryz.prog 79 = false := by kernel_rfl
@[simp] theorem ty_80 : tyT Tryz.prog 80 = some (1, false) := by kernel_rfl
@[simp] theorem sl_80 : slT Tryz.prog 80 = none := by kernel_rfl
@[simp] theorem zero_80 : zeroT Tryz.prog 80 = some ([.nilFunc]) := by kernel_rfl
@[simp] theorem str_80 : isStrT Tryz.prog 80 = false := by kernel_rfl
@[simp] theorem isint_80 : isIntT Tryz.prog 80 = false := by kernel_rfl
@[simp] theorem ty_81 : tyT Tryz.prog 81 = some (1, false) := by kernel_rfl
@[simp] theorem sl_81 : slT Tryz.prog 81 = none := by kernel_rfl
@[simp] theorem zero_81 : zeroT Tryz.prog 81 = some ([.nilFunc]) := by kernel_rfl
@[simp] theorem str_81 : isStrT Tryz.prog 81 = false := by kernel_rfl
@[simp] theorem isint_81 : isIntT Tryz.prog 81 = false := by kernel_rfl
@[simp] theorem ty_82 : tyT Tryz.prog 82 = some (1, false) := by kernel_rfl
@[simp] theorem sl_82 : slT Tryz.prog 82 = none := by kernel_rfl
@[simp] theorem zero_82 : zeroT Tryz.prog 82 = some ([.nilFunc]) := by kernel_rfl
@[simp] theorem str_82 : isStrT Tryz.prog 82 = false := by kernel_rfl
@[simp] theorem isint_82 : isIntT Tryz.prog 82 = false := by kernel_rfl
@[simp] theorem ty_83 : tyT Tryz.prog 83 = some (1, false) := by kernel_rfl
@[simp] theorem sl_83 : slT Tryz.prog 83 = none := by kernel_rfl
@[simp] theorem zero_83 : zeroT Tryz.prog 83 = some ([.nilFunc]) := by kernel_rfl
@[simp] theorem str_83 : isStrT Tryz.prog 83 = false := by kernel_rfl
@[simp] theorem isint_83 : isIntT Tryz.prog 83 = false := by kernel_rfl
@[simp] theorem ty_84 : tyT Tryz.prog 84 = some (1, false) := by kernel_rfl
@[simp] theorem sl_84 : slT Tryz.prog 84 = none := by kernel_rfl
@[simp] theorem zero_84 : zeroT Tryz.prog 84 = some ([.nilFunc]) := by kernel_rfl
@[simp] theorem str_84 : isStrT Tryz.prog 84 = false := by kernel_rfl
@[simp] theorem isint_84 : isIntT Tryz.prog 84 = false := by kernel_rfl
@[simp] theorem ty_85 : tyT Tryz.prog 85 = some (1, false) := by kernel_rfl
@[simp] theorem sl_85 : slT Tryz.prog 85 = none := by kernel_rfl
@[simp] theorem zero_85 : zeroT Tryz.prog 85 = some ([.nilFunc]) := by kernel_rfl
@[simp] theorem str_85 : isStrT Tryz.prog 85 = false := by kernel_rfl
@[simp] theorem isint_85 : isIntT Tryz.prog 85 = false := by kernel_rfl
@[simp] theorem ty_86 : tyT Tryz.prog 86 = some (1, false) := by kernel_rfl
@[simp] theorem sl_86 : slT Tryz.prog 86 = none := by kernel_rfl
@[simp] theorem zero_86 : zeroT Tryz.prog 86 = some ([.nilFunc]) := by kernel_rfl
@[simp] theorem str_86 : isStrT Tryz.prog 86 = false := by kernel_rfl
@[simp] theorem isint_86 : isIntT Tryz.prog 86 = false := by kernel_rfl
@[simp] theorem ty_87 : tyT Tryz.prog 87 = some (1, false) := by kernel_rfl
@[simp] theorem sl_87 : slT Tryz.prog 87 = none := by kernel_rfl
@[simp] theorem zero_87 : zeroT Tryz.prog 87 = some ([.nilFunc]) := by kernel_rfl
@[simp] theorem str_87 : isStrT Tryz.prog 87 = false := by kernel_rfl
@[simp] theorem isint_87 : isIntT Tryz.prog 87 = false := by kernel_rfl
@[simp] theorem ty_88 : tyT Tryz.prog 88 = some (1, false) := by kernel_rfl
@[simp] theorem sl_88 : slT Tryz.prog 88 = none := by kernel_rfl
@[simp] theorem zero_88 : zeroT Tryz.prog 88 = some ([.nilFunc]) := by kernel_rfl
@[simp] theorem str_88 : isStrT Tryz.prog 88 = false := by kernel_rfl
@[simp] theorem isint_88 : isIntT Tryz.prog 88 = false := by kernel_rfl
@[simp] theorem ty_89 : tyT Tryz.prog 89 = some (1, false) := by kernel_rfl
@[simp] theorem sl_89 : slT Tryz.prog 89 = none := by kernel_rfl
@[simp] theorem zero_89 : zeroT Tryz.prog 89 = some ([.nilFunc]) := by kernel_rfl
@[simp] theorem str_89 : isStrT Tryz.prog 89 = false := by kernel_rfl
@[simp] theorem isint_89 : isIntT Tryz.prog 89 = false := by kernel_rfl
@[simp] theorem ty_90 : tyT Tryz.prog 90 = some (1, false) := by kernel_rfl
@[simp] theorem sl_90 : slT Tryz.prog 90 = none := by kernel_rfl
@[simp] theorem zero_90 : zeroT Tryz.prog 90 = some ([.nilFunc]) := by kernel_rfl
@[simp] theorem str_90 : isStrT Tryz.prog 90 = false := by kernel_rfl
@[simp] theorem isint_90 : isIntT Tryz.prog 90 = false := by kernel_rfl
@[simp] theorem ty_91 : tyT Tryz.prog 91 = some (1, false) := by kernel_rfl
@[simp] theorem sl_91 : slT Tryz.prog 91 = none := by kernel_rfl
@[simp] theorem zero_91 : zeroT Tryz.prog 91 = some ([.nilFunc]) := by kernel_rfl
@[simp] theorem str_91 : isStrT Tryz.prog 91 = false := by kernel_rfl
@[simp] theorem isint_91 : isIntT Tryz.prog 91 = false := by kernel_rfl
@[simp] theorem ty_92 : tyT Tryz.prog 92 = some (1, false) := by kernel_rfl
@[simp] theorem sl_92 : slT Tryz.prog 92 = none := by kernel_rfl
@[simp] theorem zero_92 : zeroT Tryz.prog 92 = some ([.nilFunc]) := by kernel_rfl
@[simp] theorem str_92 : isStrT Tryz.prog 92 = false := by kernel_rfl
@[simp] theorem isint_92 : isIntT Tryz.prog 92 = false := by kernel_rfl
@[simp] theorem ty_93 : tyT Tryz.prog 93 = some (1, false) := by kernel_rfl
@[simp] theorem sl_93 : slT Tryz.prog 93 = none := by kernel_rfl
@[simp] theorem zero_93 : zeroT Tryz.prog 93 = some ([.nilFunc]) := by kernel_rfl
@[simp] theorem str_93 : isStrT Tryz.prog 93 = false := by kernel_rfl
@[simp] theorem isint_93 : isIntT Tryz.prog 93 = false := by kernel_rfl
@[simp] theorem ty_94 : tyT Tryz.prog 94 = some (1, false) := by kernel_rfl
@[simp] theorem sl_94 : slT Tryz.prog 94 = none := by kernel_rfl
@[simp] theorem zero_94 : zeroT Tryz.prog 94 = some ([.nilFunc]) := by kernel_rfl
@[simp] theorem str_94 : isStrT Tryz.prog 94 = false := by kernel_rfl
@[simp] theorem isint_94 : isIntT Tryz.prog 94 = false := by kernel_rfl
@[simp] theorem ty_95 : tyT Tryz.prog 95 = some (1, false) := by kernel_rfl
@[simp] theorem sl_95 : slT Tryz.prog 95 = none := by kernel_rfl
@[simp] theorem zero_95 : zeroT Tryz.prog 95 = some ([.pointer none]) := by kernel_rfl
@[simp] theorem str_95 : isStrT Tryz.prog 95 = false := by kernel_rfl
@[simp] theorem isint_95 : isIntT Tryz.prog 95 = false := by kernel_rfl
@[simp] theorem ptr_95 : isPtrT Tryz.prog 95 = true := by kernel_rfl
@[simp] theorem ty_96 : tyT Tryz.prog 96 = some (1, false) := by kernel_rfl
@[simp] theorem sl_96 : slT Tryz.prog 96 = none := by kernel_rfl
@[simp] theorem zero_96 : zeroT Tryz.prog 96 = some ([.pointer none]) := by kernel_rfl
@[simp] theorem str_96 : isStrT Tryz.prog 96 = false := by kernel_rfl
@[simp] theorem isint_96 : isIntT Tryz.prog 96 = false := by kernel_rfl
@[simp] theorem ptr_96 : isPtrT Tryz.prog 96 = true := by kernel_rfl
@[simp] theorem ty_97 : tyT Tryz.prog 97 = some (1, false) := by kernel_rfl
@[simp] theorem sl_97 : slT Tryz.prog 97 = none := by kernel_rfl
@[simp] theorem zero_97 : zeroT Tryz.prog 97 = some ([.nilFunc]) := by kernel_rfl
@[simp] theorem str_97 : isStrT Tryz.prog 97 = false := by kernel_rfl
@[simp] theorem isint_97 : isIntT Tryz.prog 97 = false := by kernel_rfl
@[simp] theorem ty_98 : tyT Tryz.prog 98 = some (2, true) := by kernel_rfl
@[simp] theorem sl_98 : slT Tryz.prog 98 = none := by kernel_rfl
@[simp] theorem fld_98_0 : fldT Tryz.prog 98 0 = some (0, 1, false) := by kernel_rfl
@[simp] theorem fld_98_1 : fldT Tryz.prog 98 1 = some (1, 1, false) := by kernel_rfl
@[simp] theorem pl_98 : plT Tryz.prog 98 = some fun i => [(0, 1), (1, 1)][i]? := by kernel_rfl
@[simp] theorem zero_98 : zeroT Tryz.prog 98 = some ([.pointer none, .bool false]) := by kernel_rfl
@[simp] theorem str_98 : isStrT Tryz.prog 98 = false := by kernel_rfl
@[simp] theorem isint_98 : isIntT Tryz.prog 98 = false := by kernel_rfl
@[simp] theorem ty_99 : tyT Tryz.prog 99 = some (2, true) := by kernel_rfl
@[simp] theorem sl_99 : slT Tryz.prog 99 = none := by kernel_rfl
@[simp] theorem fld_99_0 : fldT Tryz.prog 99 0 = some (0, 1, false) := by kernel_rfl
@[simp] theorem fld_99_1 : fldT Tryz.prog 99 1 = some (1, 1, false) := by kernel_rfl
@[simp] theorem pl_99 : plT Tryz.prog 99 = some fun i => [(0, 1), (1, 1)][i]? := by kernel_rfl
@[simp] theorem zero_99 : zeroT Tryz.prog 99 = some ([.pointer none, .bool false]) := by kernel_rfl
@[simp] theorem str_99 : isStrT Tryz.prog 99 = false := by kernel_rfl
@[simp] theorem isint_99 : isIntT Tryz.prog 99 = false := by kernel_rfl
@[simp] theorem ty_100 : tyT Tryz.prog 100 = some (1, false) := by kernel_rfl
@[simp] theorem sl_100 : slT Tryz.prog 100 = none := by kernel_rfl
@[simp] theorem zero_100 : zeroT Tryz.prog 100 = some ([.nilFunc]) := by kernel_rfl
@[simp] theorem str_100 : isStrT Tryz.prog 100 = false := by kernel_rfl
@[simp] theorem isint_100 : isIntT Tryz.prog 100 = false := by kernel_rfl
@[simp] theorem ty_101 : tyT Tryz.prog 101 = some (1, false) := by kernel_rfl
@[simp] theorem sl_101 : slT Tryz.prog 101 = none := by kernel_rfl
@[simp] theorem zero_101 : zeroT Tryz.prog 101 = some ([.nilFunc]) := by kernel_rfl
@[simp] theorem str_101 : isStrT Tryz.prog 101 = false := by kernel_rfl
@[simp] theorem isint_101 : isIntT Tryz.prog 101 = false := by kernel_rfl
@[simp] theorem ty_102 : tyT Tryz.prog 102 = some (1, false) := by kernel_rfl
@[simp] theorem sl_102 : slT Tryz.prog 102 = none := by kernel_rfl
@[simp] theorem zero_102 : zeroT Tryz.prog 102 = some ([.nilFunc]) := by kernel_rfl
@[simp] theorem str_102 : isStrT Tryz.prog 102 = false := by kernel_rfl
@[simp] theorem isint_102 : isIntT Tryz.prog 102 = false := by kernel_rfl
@[simp] theorem ty_103 : tyT Tryz.prog 103 = some (1, false) := by kernel_rfl
@[simp] theorem sl_103 : slT Tryz.prog 103 = none := by kernel_rfl
@[simp] theorem zero_103 : zeroT Tryz.prog 103 = some ([.nilFunc]) := by kernel_rfl
@[simp] theorem str_103 : isStrT Tryz.prog 103 = false := by kernel_rfl
@[simp] theorem isint_103 : isIntT Tryz.prog 103 = false := by kernel_rfl
@[simp] theorem ty_104 : tyT Tryz.prog 104 = some (1, false) := by kernel_rfl
@[simp] theorem sl_104 : slT Tryz.prog 104 = none := by kernel_rfl
@[simp] theorem zero_104 : zeroT Tryz.prog 104 = some ([.nilFunc]) := by kernel_rfl
@[simp] theorem str_104 : isStrT Tryz.prog 104 = false := by kernel_rfl
@[simp] theorem isint_104 : isIntT Tryz.prog 104 = false := by kernel_rfl
@[simp] theorem ty_105 : tyT Tryz.prog 105 = some (1, false) := by kernel_rfl
@[simp] theorem sl_105 : slT Tryz.prog 105 = some (107, 5, 48) := by kernel_rfl
@[simp] theorem zero_105 : zeroT Tryz.prog 105 = some ([.slice none 0 0]) := by kernel_rfl
@[simp] theorem str_105 : isStrT Tryz.prog 105 = false := by kernel_rfl
@[simp] theorem isint_105 : isIntT Tryz.prog 105 = false := by kernel_rfl
@[simp] theorem ty_106 : tyT Tryz.prog 106 = some (5, true) := by kernel_rfl
@[simp] theorem sl_106 : slT Tryz.prog 106 = none := by kernel_rfl
@[simp] theorem fld_106_0 : fldT Tryz.prog 106 0 = some (0, 1, false) := by kernel_rfl
@[simp] theorem fld_106_1 : fldT Tryz.prog 106 1 = some (1, 4, true) := by kernel_rfl
@[simp] theorem pl_106 : plT Tryz.prog 106 = some fun i => [(0, 1), (1, 4)][i]? := by kernel_rfl
@[simp] theorem zero_106 : zeroT Tryz.prog 106 = some ([.int .i64 0, .int .i64 0, .int .i64 0, .int .i64 0, .string ByteArray.empty]) := by kernel_rfl
@[simp] theorem str_106 : isStrT Tryz.prog 106 = false := by kernel_rfl
@[simp] theorem isint_106 : isIntT Tryz.prog 106 = false := by kernel_rfl
@[simp] theorem ty_107 : tyT Tryz.prog 107 = some (5, true) := by kernel_rfl
@[simp] theorem sl_107 : slT Tryz.prog 107 = none := by kernel_rfl
@[simp] theorem fld_107_0 : fldT Tryz.prog 107 0 = some (0, 1, false) := by kernel_rfl
@[simp] theorem fld_107_1 : fldT Tryz.prog 107 1 = some (1, 4, true) := by kernel_rfl
@[simp] theorem pl_107 : plT Tryz.prog 107 = some fun i => [(0, 1), (1, 4)][i]? := by kernel_rfl
@[simp] theorem flat_107 : flatT Tryz.prog 107 = some [.i, .i, .i, .i, .s] := by kernel_rfl
@[simp] theorem zero_107 : zeroT Tryz.prog 107 = some ([.int .i64 0, .int .i64 0, .int .i64 0, .int .i64 0, .string ByteArray.empty]) := by kernel_rfl
@[simp] theorem str_107 : isStrT Tryz.prog 107 = false := by kernel_rfl
@[simp] theorem isint_107 : isIntT Tryz.prog 107 = false := by kernel_rfl
@[simp] theorem ty_108 : tyT Tryz.prog 108 = some (1, false) := by kernel_rfl
@[simp] theorem sl_108 : slT Tryz.prog 108 = none := by kernel_rfl
@[simp] theorem zero_108 : zeroT Tryz.prog 108 = some ([.nilFunc]) := by kernel_rfl
@[simp] theorem str_108 : isStrT Tryz.prog 108 = false := by kernel_rfl
@[simp] theorem isint_108 : isIntT Tryz.prog 108 = false := by kernel_rfl
@[simp] theorem ty_109 : tyT Tryz.prog 109 = some (1, false) := by kernel_rfl
@[simp] theorem sl_109 : slT Tryz.prog 109 = none := by kernel_rfl
@[simp] theorem zero_109 : zeroT Tryz.prog 109 = some ([.nilFunc]) := by kernel_rfl
@[simp] theorem str_109 : isStrT Tryz.prog 109 = false := by kernel_rfl
@[simp] theorem isint_109 : isIntT Tryz.prog 109 = false := by kernel_rfl
@[simp] theorem ty_110 : tyT Tryz.prog 110 = some (1, false) := by kernel_rfl
@[simp] theorem sl_110 : slT Tryz.prog 110 = none := by kernel_rfl
@[simp] theorem zero_110 : zeroT Tryz.prog 110 = some ([.pointer none]) := by kernel_rfl
@[simp] theorem str_110 : isStrT Tryz.prog 110 = false := by kernel_rfl
@[simp] theorem isint_110 : isIntT Tryz.prog 110 = false := by kernel_rfl
@[simp] theorem ptr_110 : isPtrT Tryz.prog 110 = true := by kernel_rfl
@[simp] theorem ty_111 : tyT Tryz.prog 111 = some (2, true) := by kernel_rfl
@[simp] theorem sl_111 : slT Tryz.prog 111 = none := by kernel_rfl
@[simp] theorem fld_111_0 : fldT Tryz.prog 111 0 = some (0, 1, false) := by kernel_rfl
@[simp] theorem fld_111_1 : fldT Tryz.prog 111 1 = some (1, 1, false) := by kernel_rfl
@[simp] theorem pl_111 : plT Tryz.prog 111 = some fun i => [(0, 1), (1, 1)][i]? := by kernel_rfl
@[simp] theorem zero_111 : zeroT Tryz.prog 111 = some ([.slice none 0 0, .bool false]) := by kernel_rfl
@[simp] theorem str_111 : isStrT Tryz.prog 111 = false := by kernel_rfl
@[simp] theorem isint_111 : isIntT Tryz.prog 111 = false := by kernel_rfl
@[simp] theorem ty_112 : tyT Tryz.prog 112 = some (2, true) := by kernel_rfl
@[simp] theorem sl_112 : slT Tryz.prog 112 = none := by kernel_rfl
@[simp] theorem fld_112_0 : fldT Tryz.prog 112 0 = some (0, 1, false) := by kernel_rfl
@[simp] theorem fld_112_1 : fldT Tryz.prog 112 1 = some (1, 1, false) := by kernel_rfl
@[simp] theorem pl_112 : plT Tryz.prog 112 = some fun i => [(0, 1), (1, 1)][i]? := by kernel_rfl
@[simp] theorem zero_112 : zeroT Tryz.prog 112 = some ([.slice none 0 0, .bool false]) := by kernel_rfl
@[simp] theorem str_112 : isStrT Tryz.prog 112 = false := by kernel_rfl
@[simp] theorem isint_112 : isIntT Tryz.prog 112 = false := by kernel_rfl
@[simp] theorem ty_113 : tyT Tryz.prog 113 = some (1, false) := by kernel_rfl
@[simp] theorem sl_113 : slT Tryz.prog 113 = none := by kernel_rfl
@[simp] theorem zero_113 : zeroT Tryz.prog 113 = some ([.nilFunc]) := by kernel_rfl
@[simp] theorem str_113 : isStrT Tryz.prog 113 = false := by kernel_rfl
@[simp] theorem isint_113 : isIntT Tryz.prog 113 = false := by kernel_rfl
@[simp] theorem ty_114 : tyT Tryz.prog 114 = some (1, false) := by kernel_rfl
@[simp] theorem sl_114 : slT Tryz.prog 114 = none := by kernel_rfl
@[simp] theorem zero_114 : zeroT Tryz.prog 114 = some ([.nilFunc]) := by kernel_rfl
@[simp] theorem str_114 : isStrT Tryz.prog 114 = false := by kernel_rfl
@[simp] theorem isint_114 : isIntT Tryz.prog 114 = false := by kernel_rfl
@[simp] theorem ty_115 : tyT Tryz.prog 115 = some (1, false) := by kernel_rfl
@[simp] theorem sl_115 : slT Tryz.prog 115 = none := by kernel_rfl
@[simp] theorem zero_115 : zeroT Tryz.prog 115 = some ([.nilFunc]) := by kernel_rfl
@[simp] theorem str_115 : isStrT Tryz.prog 115 = false := by kernel_rfl
@[simp] theorem isint_115 : isIntT Tryz.prog 115 = false := by kernel_rfl
@[simp] theorem ty_116 : tyT Tryz.prog 116 = some (1, false) := by kernel_rfl
@[simp] theorem sl_116 : slT Tryz.prog 116 = none := by kernel_rfl
@[simp] theorem zero_116 : zeroT Tryz.prog 116 = some ([.nilFunc]) := by kernel_rfl
@[simp] theorem str_116 : isStrT Tryz.prog 116 = false := by kernel_rfl
@[simp] theorem isint_116 : isIntT Tryz.prog 116 = false := by kernel_rfl
@[simp] theorem ty_117 : tyT Tryz.prog 117 = some (1, false) := by kernel_rfl
@[simp] theorem sl_117 : slT Tryz.prog 117 = none := by kernel_rfl
@[simp] theorem zero_117 : zeroT Tryz.prog 117 = some ([.nilFunc]) := by kernel_rfl
@[simp] theorem str_117 : isStrT Tryz.prog 117 = false := by kernel_rfl
@[simp] theorem isint_117 : isIntT Tryz.prog 117 = false := by kernel_rfl
@[simp] theorem ty_118 : tyT Tryz.prog 118 = some (1, false) := by kernel_rfl
@[simp] theorem sl_118 : slT Tryz.prog 118 = none := by kernel_rfl
@[simp] theorem zero_118 : zeroT Tryz.prog 118 = some ([.nilFunc]) := by kernel_rfl
@[simp] theorem str_118 : isStrT Tryz.prog 118 = false := by kernel_rfl
@[simp] theorem isint_118 : isIntT Tryz.prog 118 = false := by kernel_rfl
@[simp] theorem ty_119 : tyT Tryz.prog 119 = some (1, false) := by kernel_rfl
@[simp] theorem sl_119 : slT Tryz.prog 119 = none := by kernel_rfl
@[simp] theorem zero_119 : zeroT Tryz.prog 119 = some ([.nilFunc]) := by kernel_rfl
@[simp] theorem str_119 : isStrT Tryz.prog 119 = false := by kernel_rfl
@[simp] theorem isint_119 : isIntT Tryz.prog 119 = false := by kernel_rfl
@[simp] theorem ty_120 : tyT Tryz.prog 120 = some (1, false) := by kernel_rfl
@[simp] theorem sl_120 : slT Tryz.prog 120 = none := by kernel_rfl
@[simp] theorem zero_120 : zeroT Tryz.prog 120 = some ([.nilFunc]) := by kernel_rfl
@[simp] theorem str_120 : isStrT Tryz.prog 120 = false := by kernel_rfl
@[simp] theorem isint_120 : isIntT Tryz.prog 120 = false := by kernel_rfl
@[simp] theorem ty_121 : tyT Tryz.prog 121 = some (1, false) := by kernel_rfl
@[simp] theorem sl_121 : slT Tryz.prog 121 = none := by kernel_rfl
@[simp] theorem zero_121 : zeroT Tryz.prog 121 = some ([.nilFunc]) := by kernel_rfl
@[simp] theorem str_121 : isStrT Tryz.prog 121 = false := by kernel_rfl
@[simp] theorem isint_121 : isIntT Tryz.prog 121 = false := by kernel_rfl
@[simp] theorem ty_122 : tyT Tryz.prog 122 = some (1, false) := by kernel_rfl
@[simp] theorem sl_122 : slT Tryz.prog 122 = none := by kernel_rfl
@[simp] theorem zero_122 : zeroT Tryz.prog 122 = some ([.nilFunc]) := by kernel_rfl
@[simp] theorem str_122 : isStrT Tryz.prog 122 = false := by kernel_rfl
@[simp] theorem isint_122 : isIntT Tryz.prog 122 = false := by kernel_rfl
@[simp] theorem ty_123 : tyT Tryz.prog 123 = some (1, false) := by kernel_rfl
@[simp] theorem sl_123 : slT Tryz.prog 123 = none := by kernel_rfl
@[simp] theorem zero_123 : zeroT Tryz.prog 123 = some ([.nilFunc]) := by kernel_rfl
@[simp] theorem str_123 : isStrT Tryz.prog 123 = false := by kernel_rfl
@[simp] theorem isint_123 : isIntT Tryz.prog 123 = false := by kernel_rfl
@[simp] theorem ty_124 : tyT Tryz.prog 124 = some (1, false) := by kernel_rfl
@[simp] theorem sl_124 : slT Tryz.prog 124 = none := by kernel_rfl
@[simp] theorem zero_124 : zeroT Tryz.prog 124 = some ([.nilFunc]) := by kernel_rfl
@[simp] theorem str_124 : isStrT Tryz.prog 124 = false := by kernel_rfl
@[simp] theorem isint_124 : isIntT Tryz.prog 124 = false := by kernel_rfl
@[simp] theorem ty_125 : tyT Tryz.prog 125 = some (1, false) := by kernel_rfl
@[simp] theorem sl_125 : slT Tryz.prog 125 = none := by kernel_rfl
@[simp] theorem zero_125 : zeroT Tryz.prog 125 = some ([.nilFunc]) := by kernel_rfl
@[simp] theorem str_125 : isStrT Tryz.prog 125 = false := by kernel_rfl
@[simp] theorem isint_125 : isIntT Tryz.prog 125 = false := by kernel_rfl
@[simp] theorem ty_126 : tyT Tryz.prog 126 = some (1, false) := by kernel_rfl
@[simp] theorem sl_126 : slT Tryz.prog 126 = none := by kernel_rfl
@[simp] theorem zero_126 : zeroT Tryz.prog 126 = some ([.nilFunc]) := by kernel_rfl
@[simp] theorem str_126 : isStrT Tryz.prog 126 = false := by kernel_rfl
@[simp] theorem isint_126 : isIntT Tryz.prog 126 = false := by kernel_rfl
@[simp] theorem ty_128 : tyT Tryz.prog 128 = some (1, false) := by kernel_rfl
@[simp] theorem sl_128 : slT Tryz.prog 128 = none := by kernel_rfl
@[simp] theorem zero_128 : zeroT Tryz.prog 128 = some ([.nilFunc]) := by kernel_rfl
@[simp] theorem str_128 : isStrT Tryz.prog 128 = false := by kernel_rfl
@[simp] theorem isint_128 : isIntT Tryz.prog 128 = false := by kernel_rfl
@[simp] theorem ty_129 : tyT Tryz.prog 129 = some (1, false) := by kernel_rfl
@[simp] theorem sl_129 : slT Tryz.prog 129 = none := by kernel_rfl
@[simp] theorem zero_129 : zeroT Tryz.prog 129 = some ([.pointer none]) := by kernel_rfl
@[simp] theorem str_129 : isStrT Tryz.prog 129 = false := by kernel_rfl
@[simp] theorem isint_129 : isIntT Tryz.prog 129 = false := by kernel_rfl
@[simp] theorem ptr_129 : isPtrT Tryz.prog 129 = true := by kernel_rfl
@[simp] theorem ty_130 : tyT Tryz.prog 130 = some (1, false) := by kernel_rfl
@[simp] theorem sl_130 : slT Tryz.prog 130 = none := by kernel_rfl
@[simp] theorem zero_130 : zeroT Tryz.prog 130 = some ([.nilFunc]) := by kernel_rfl
@[simp] theorem str_130 : isStrT Tryz.prog 130 = false := by kernel_rfl
@[simp] theorem isint_130 : isIntT Tryz.prog 130 = false := by kernel_rfl
@[simp] theorem ty_131 : tyT Tryz.prog 131 = some (1, false) := by kernel_rfl
@[simp] theorem sl_131 : slT Tryz.prog 131 = none := by kernel_rfl
@[simp] theorem zero_131 : zeroT Tryz.prog 131 = some ([.nilFunc]) := by kernel_rfl
@[simp] theorem str_131 : isStrT Tryz.prog 131 = false := by kernel_rfl
@[simp] theorem isint_131 : isIntT Tryz.prog 131 = false := by kernel_rfl
@[simp] theorem ty_132 : tyT Tryz.prog 132 = some (19, true) := by kernel_rfl
@[simp] theorem sl_132 : slT Tryz.prog 132 = none := by kernel_rfl
@[simp] theorem fld_132_0 : fldT Tryz.prog 132 0 = some (0, 18, true) := by kernel_rfl
@[simp] theorem fld_132_1 : fldT Tryz.prog 132 1 = some (18, 1, false) := by kernel_rfl
@[simp] theorem pl_132 : plT Tryz.prog 132 = some fun i => [(0, 18), (18, 1)][i]? := by kernel_rfl
@[simp] theorem zero_132 : zeroT Tryz.prog 132 = some ([.int .i64 0, .int .i64 0, .int .i64 0, .string ByteArray.empty, .slice none 0 0, .int .i64 0, .string ByteArray.empty, .slice none 0 0, .bool false, .int .i64 0, .int .i64 0, .int .i64 0, .string ByteArray.empty, .bool false, .bool false, .bool false, .int .i64 0, .bool false, .pointer none]) := by kernel_rfl
@[simp] theorem str_132 : isStrT Tryz.prog 132 = false := by kernel_rfl
@[simp] theorem isint_132 : isIntT Tryz.prog 132 = false := by kernel_rfl
@[simp] theorem ty_133 : tyT Tryz.prog 133 = some (19, true) := by kernel_rfl
@[simp] theorem sl_133 : slT Tryz.prog 133 = none := by kernel_rfl
@[simp] theorem fld_133_0 : fldT Tryz.prog 133 0 = some (0, 18, true) := by kernel_rfl
@[simp] theorem fld_133_1 : fldT Tryz.prog 133 1 = some (18, 1, false) := by kernel_rfl
@[simp] theorem pl_133 : plT Tryz.prog 133 = some fun i => [(0, 18), (18, 1)][i]? := by kernel_rfl
@[simp] theorem zero_133 : zeroT Tryz.prog 133 = some ([.int .i64 0, .int .i64 0, .int .i64 0, .string ByteArray.empty, .slice none 0 0, .int .i64 0, .string ByteArray.empty, .slice none 0 0, .bool false, .int .i64 0, .int .i64 0, .int .i64 0, .string ByteArray.empty, .bool false, .bool false, .bool false, .int .i64 0, .bool false, .pointer none]) := by kernel_rfl
@[simp] theorem str_133 : isStrT Tryz.prog 133 = false := by kernel_rfl
@[simp] theorem isint_133 : isIntT Tryz.prog 133 = false := by kernel_rfl
@[simp] theorem ty_134 : tyT Tryz.prog 134 = some (1, false) := by kernel_rfl
@[simp] theorem sl_134 : slT Tryz.prog 134 = none := by kernel_rfl
@[simp] theorem zero_134 : zeroT Tryz.prog 134 = some ([.nilFunc]) := by kernel_rfl
@[simp] theorem str_134 : isStrT Tryz.prog 134 = false := by kernel_rfl
@[simp] theorem isint_134 : isIntT Tryz.prog 134 = false := by kernel_rfl
@[simp] theorem ty_135 : tyT Tryz.prog 135 = some (1, false) := by kernel_rfl
@[simp] theorem sl_135 : slT Tryz.prog 135 = none := by kernel_rfl
@[simp] theorem map_135 : mapT Tryz.prog 135 = some (69, 4) := by kernel_rfl
@[simp] theorem zero1_4 : zero1 Tryz.prog 4 = some (.bool false) := by kernel_rfl
@[simp] theorem zero_135 : zeroT Tryz.prog 135 = some ([.map none]) := by kernel_rfl
@[simp] theorem str_135 : isStrT Tryz.prog 135 = false := by kernel_rfl
@[simp] theorem isint_135 : isIntT Tryz.prog 135 = false := by kernel_rfl
@[simp] theorem ty_136 : tyT Tryz.prog 136 = some (1, false) := by kernel_rfl
@[simp] theorem sl_136 : slT Tryz.prog 136 = none := by kernel_rfl
@[simp] theorem zero_136 : zeroT Tryz.prog 136 = some ([.nilFunc]) := by kernel_rfl
@[simp] theorem str_136 : isStrT Tryz.prog 136 = false := by kernel_rfl
@[simp] theorem isint_136 : isIntT Tryz.prog 136 = false := by kernel_rfl
@[simp] theorem ty_137 : tyT Tryz.prog 137 = some (1, false) := by kernel_rfl
@[simp] theorem sl_137 : slT Tryz.prog 137 = none := by kernel_rfl
@[simp] theorem zero_137 : zeroT Tryz.prog 137 = some ([.nilFunc]) := by kernel_rfl
@[simp] theorem str_137 : isStrT Tryz.prog 137 = false := by kernel_rfl
@[simp] theorem isint_137 : isIntT Tryz.prog 137 = false := by kernel_rfl
@[simp] theorem ty_138 : tyT Tryz.prog 138 = some (1, false) := by kernel_rfl
@[simp] theorem sl_138 : slT Tryz.prog 138 = none := by kernel_rfl
@[simp] theorem zero_138 : zeroT Tryz.prog 138 = some ([.nilFunc]) := by kernel_rfl
@[simp] theorem str_138 : isStrT Tryz.prog 138 = false := by kernel_rfl
@[simp] theorem isint_138 : isIntT Tryz.prog 138 = false := by kernel_rfl
@[simp] theorem ty_139 : tyT Tryz.prog 139 = some (1, false) := by kernel_rfl
@[simp] theorem sl_139 : slT Tryz.prog 139 = none := by kernel_rfl
@[simp] theorem zero_139 : zeroT Tryz.prog 139 = some ([.nilFunc]) := by kernel_rfl
@[simp] theorem str_139 : isStrT Tryz.prog 139 = false := by kernel_rfl
@[simp] theorem isint_139 : isIntT Tryz.prog 139 = false := by kernel_rfl
@[simp] theorem ty_140 : tyT Tryz.prog 140 = some (1, false) := by kernel_rfl
@[simp] theorem sl_140 : slT Tryz.prog 140 = none := by kernel_rfl
@[simp] theorem zero_140 : zeroT Tryz.prog 140 = some ([.nilFunc]) := by kernel_rfl
@[simp] theorem str_140 : isStrT Tryz.prog 140 = false := by kernel_rfl
@[simp] theorem isint_140 : isIntT Tryz.prog 140 = false := by kernel_rfl
@[simp] theorem ty_141 : tyT Tryz.prog 141 = some (1, false) := by kernel_rfl
@[simp] theorem sl_141 : slT Tryz.prog 141 = none := by kernel_rfl
@[simp] theorem zero_141 : zeroT Tryz.prog 141 = some ([.nilFunc]) := by kernel_rfl
@[simp] theorem str_141 : isStrT Tryz.prog 141 = false := by kernel_rfl
@[simp] theorem isint_141 : isIntT Tryz.prog 141 = false := by kernel_rfl
@[simp] theorem ty_142 : tyT Tryz.prog 142 = some (1, false) := by kernel_rfl
@[simp] theorem sl_142 : slT Tryz.prog 142 = none := by kernel_rfl
@[simp] theorem zero_142 : zeroT Tryz.prog 142 = some ([.int .u64 0]) := by kernel_rfl
@[simp] theorem int_142 : intT Tryz.prog 142 = some .u64 := by kernel_rfl
@[simp] theorem str_142 : isStrT Tryz.prog 142 = false := by kernel_rfl
@[simp] theorem isint_142 : isIntT Tryz.prog 142 = true := by kernel_rfl
@[simp] theorem ty_143 : tyT Tryz.prog 143 = some (1, false) := by kernel_rfl
@[simp] theorem sl_143 : slT Tryz.prog 143 = none := by kernel_rfl
@[simp] theorem zero_143 : zeroT Tryz.prog 143 = some ([.int .u64 0]) := by kernel_rfl
@[simp] theorem int_143 : intT Tryz.prog 143 = some .u64 := by kernel_rfl
@[simp] theorem str_143 : isStrT Tryz.prog 143 = false := by kernel_rfl
@[simp] theorem isint_143 : isIntT Tryz.prog 143 = true := by kernel_rfl
@[simp] theorem ty_144 : tyT Tryz.prog 144 = some (1, false) := by kernel_rfl
@[simp] theorem sl_144 : slT Tryz.prog 144 = none := by kernel_rfl
@[simp] theorem zero_144 : zeroT Tryz.prog 144 = some ([.nilFunc]) := by kernel_rfl
@[simp] theorem str_144 : isStrT Tryz.prog 144 = false := by kernel_rfl
@[simp] theorem isint_144 : isIntT Tryz.prog 144 = false := by kernel_rfl
@[simp] theorem ty_145 : tyT Tryz.prog 145 = some (1, false) := by kernel_rfl
@[simp] theorem sl_145 : slT Tryz.prog 145 = none := by kernel_rfl
@[simp] theorem zero_145 : zeroT Tryz.prog 145 = some ([.nilFunc]) := by kernel_rfl
@[simp] theorem str_145 : isStrT Tryz.prog 145 = false := by kernel_rfl
@[simp] theorem isint_145 : isIntT Tryz.prog 145 = false := by kernel_rfl
@[simp] theorem ty_146 : tyT Tryz.prog 146 = some (1, false) := by kernel_rfl
@[simp] theorem sl_146 : slT Tryz.prog 146 = none := by kernel_rfl
@[simp] theorem zero_146 : zeroT Tryz.prog 146 = some ([.nilFunc]) := by kernel_rfl
@[simp] theorem str_146 : isStrT Tryz.prog 146 = false := by kernel_rfl
@[simp] theorem isint_146 : isIntT Tryz.prog 146 = false := by kernel_rfl
@[simp] theorem ty_147 : tyT Tryz.prog 147 = some (1, false) := by kernel_rfl
@[simp] theorem sl_147 : slT Tryz.prog 147 = none := by kernel_rfl
@[simp] theorem zero_147 : zeroT Tryz.prog 147 = some ([.nilFunc]) := by kernel_rfl
@[simp] theorem str_147 : isStrT Tryz.prog 147 = false := by kernel_rfl
@[simp] theorem isint_147 : isIntT Tryz.prog 147 = false := by kernel_rfl
@[simp] theorem ty_148 : tyT Tryz.prog 148 = some (1, false) := by kernel_rfl
@[simp] theorem sl_148 : slT Tryz.prog 148 = none := by kernel_rfl
@[simp] theorem zero_148 : zeroT Tryz.prog 148 = some ([.nilFunc]) := by kernel_rfl
@[simp] theorem str_148 : isStrT Tryz.prog 148 = false := by kernel_rfl
@[simp] theorem isint_148 : isIntT Tryz.prog 148 = false := by kernel_rfl
@[simp] theorem ty_149 : tyT Tryz.prog 149 = some (1, false) := by kernel_rfl
@[simp] theorem sl_149 : slT Tryz.prog 149 = none := by kernel_rfl
@[simp] theorem zero_149 : zeroT Tryz.prog 149 = some ([.nilFunc]) := by kernel_rfl
@[simp] theorem str_149 : isStrT Tryz.prog 149 = false := by kernel_rfl
@[simp] theorem isint_149 : isIntT Tryz.prog 149 = false := by kernel_rfl
@[simp] theorem ty_150 : tyT Tryz.prog 150 = some (1, false) := by kernel_rfl
@[simp] theorem sl_150 : slT Tryz.prog 150 = none := by kernel_rfl
@[simp] theorem zero_150 : zeroT Tryz.prog 150 = some ([.nilFunc]) := by kernel_rfl
@[simp] theorem str_150 : isStrT Tryz.prog 150 = false := by kernel_rfl
@[simp] theorem isint_150 : isIntT Tryz.prog 150 = false := by kernel_rfl
@[simp] theorem ty_151 : tyT Tryz.prog 151 = some (1, false) := by kernel_rfl
@[simp] theorem sl_151 : slT Tryz.prog 151 = none := by kernel_rfl
@[simp] theorem zero_151 : zeroT Tryz.prog 151 = some ([.nilFunc]) := by kernel_rfl
@[simp] theorem str_151 : isStrT Tryz.prog 151 = false := by kernel_rfl
@[simp] theorem isint_151 : isIntT Tryz.prog 151 = false := by kernel_rfl
@[simp] theorem ty_152 : tyT Tryz.prog 152 = some (1, false) := by kernel_rfl
@[simp] theorem sl_152 : slT Tryz.prog 152 = none := by kernel_rfl
@[simp] theorem map_152 : mapT Tryz.prog 152 = some (9, 4) := by kernel_rfl
@[simp] theorem zero_152 : zeroT Tryz.prog 152 = some ([.map none]) := by kernel_rfl
@[simp] theorem str_152 : isStrT Tryz.prog 152 = false := by kernel_rfl
@[simp] theorem isint_152 : isIntT Tryz.prog 152 = false := by kernel_rfl
@[simp] theorem ty_153 : tyT Tryz.prog 153 = some (1, false) := by kernel_rfl
@[simp] theorem sl_153 : slT Tryz.prog 153 = none := by kernel_rfl
@[simp] theorem zero_153 : zeroT Tryz.prog 153 = some ([.nilFunc]) := by kernel_rfl
@[simp] theorem str_153 : isStrT Tryz.prog 153 = false := by kernel_rfl
@[simp] theorem isint_153 : isIntT Tryz.prog 153 = false := by kernel_rfl
@[simp] theorem ty_154 : tyT Tryz.prog 154 = some (1, false) := by kernel_rfl
@[simp] theorem sl_154 : slT Tryz.prog 154 = none := by kernel_rfl
@[simp] theorem zero_154 : zeroT Tryz.prog 154 = some ([.nilFunc]) := by kernel_rfl
@[simp] theorem str_154 : isStrT Tryz.prog 154 = false := by kernel_rfl
@[simp] theorem isint_154 : isIntT Tryz.prog 154 = false := by kernel_rfl
@[simp] theorem ty_155 : tyT Tryz.prog 155 = some (1, false) := by kernel_rfl
@[simp] theorem sl_155 : slT Tryz.prog 155 = none := by kernel_rfl
@[simp] theorem zero_155 : zeroT Tryz.prog 155 = some ([.nilFunc]) := by kernel_rfl
@[simp] theorem str_155 : isStrT Tryz.prog 155 = false := by kernel_rfl
@[simp] theorem isint_155 : isIntT Tryz.prog 155 = false := by kernel_rfl
@[simp] theorem ty_156 : tyT Tryz.prog 156 = some (1, false) := by kernel_rfl
@[simp] theorem sl_156 : slT Tryz.prog 156 = none := by kernel_rfl
@[simp] theorem zero_156 : zeroT Tryz.prog 156 = some ([.nilFunc]) := by kernel_rfl
@[simp] theorem str_156 : isStrT Tryz.prog 156 = false := by kernel_rfl
@[simp] theorem isint_156 : isIntT Tryz.prog 156 = false := by kernel_rfl
@[simp] theorem ty_157 : tyT Tryz.prog 157 = some (1, false) := by kernel_rfl
@[simp] theorem sl_157 : slT Tryz.prog 157 = none := by kernel_rfl
@[simp] theorem zero_157 : zeroT Tryz.prog 157 = some ([.nilFunc]) := by kernel_rfl
@[simp] theorem str_157 : isStrT Tryz.prog 157 = false := by kernel_rfl
@[simp] theorem isint_157 : isIntT Tryz.prog 157 = false := by kernel_rfl
@[simp] theorem ty_158 : tyT Tryz.prog 158 = some (1, false) := by kernel_rfl
@[simp] theorem sl_158 : slT Tryz.prog 158 = none := by kernel_rfl
@[simp] theorem zero_158 : zeroT Tryz.prog 158 = some ([.nilFunc]) := by kernel_rfl
@[simp] theorem str_158 : isStrT Tryz.prog 158 = false := by kernel_rfl
@[simp] theorem isint_158 : isIntT Tryz.prog 158 = false := by kernel_rfl
@[simp] theorem ty_159 : tyT Tryz.prog 159 = some (1, false) := by kernel_rfl
@[simp] theorem sl_159 : slT Tryz.prog 159 = none := by kernel_rfl
@[simp] theorem zero_159 : zeroT Tryz.prog 159 = some ([.nilFunc]) := by kernel_rfl
@[simp] theorem str_159 : isStrT Tryz.prog 159 = false := by kernel_rfl
@[simp] theorem isint_159 : isIntT Tryz.prog 159 = false := by kernel_rfl
@[simp] theorem ty_160 : tyT Tryz.prog 160 = some (1, false) := by kernel_rfl
@[simp] theorem sl_160 : slT Tryz.prog 160 = none := by kernel_rfl
@[simp] theorem zero_160 : zeroT Tryz.prog 160 = some ([.nilFunc]) := by kernel_rfl
@[simp] theorem str_160 : isStrT Tryz.prog 160 = false := by kernel_rfl
@[simp] theorem isint_160 : isIntT Tryz.prog 160 = false := by kernel_rfl
@[simp] theorem ty_161 : tyT Tryz.prog 161 = some (1, false) := by kernel_rfl
@[simp] theorem sl_161 : slT Tryz.prog 161 = none := by kernel_rfl
@[simp] theorem zero_161 : zeroT Tryz.prog 161 = some ([.nilFunc]) := by kernel_rfl
@[simp] theorem str_161 : isStrT Tryz.prog 161 = false := by kernel_rfl
@[simp] theorem isint_161 : isIntT Tryz.prog 161 = false := by kernel_rfl
@[simp] theorem ty_162 : tyT Tryz.prog 162 = some (1, false) := by kernel_rfl
@[simp] theorem sl_162 : slT Tryz.prog 162 = none := by kernel_rfl
@[simp] theorem zero_162 : zeroT Tryz.prog 162 = some ([.nilFunc]) := by kernel_rfl
@[simp] theorem str_162 : isStrT Tryz.prog 162 = false := by kernel_rfl
@[simp] theorem isint_162 : isIntT Tryz.prog 162 = false := by kernel_rfl
@[simp] theorem ty_163 : tyT Tryz.prog 163 = some (1, false) := by kernel_rfl
@[simp] theorem sl_163 : slT Tryz.prog 163 = none := by kernel_rfl
@[simp] theorem zero_163 : zeroT Tryz.prog 163 = some ([.nilFunc]) := by kernel_rfl
@[simp] theorem str_163 : isStrT Tryz.prog 163 = false := by kernel_rfl
@[simp] theorem isint_163 : isIntT Tryz.prog 163 = false := by kernel_rfl
@[simp] theorem ty_164 : tyT Tryz.prog 164 = some (2, true) := by kernel_rfl
@[simp] theorem sl_164 : slT Tryz.prog 164 = none := by kernel_rfl
@[simp] theorem fld_164_0 : fldT Tryz.prog 164 0 = some (0, 1, false) := by kernel_rfl
@[simp] theorem fld_164_1 : fldT Tryz.prog 164 1 = some (1, 1, false) := by kernel_rfl
@[simp] theorem pl_164 : plT Tryz.prog 164 = some fun i => [(0, 1), (1, 1)][i]? := by kernel_rfl
@[simp] theorem zero_164 : zeroT Tryz.prog 164 = some ([.slice none 0 0, .bool false]) := by kernel_rfl
@[simp] theorem str_164 : isStrT Tryz.prog 164 = false := by kernel_rfl
@[simp] theorem isint_164 : isIntT Tryz.prog 164 = false := by kernel_rfl
@[simp] theorem ty_165 : tyT Tryz.prog 165 = some (2, true) := by kernel_rfl
@[simp] theorem sl_165 : slT Tryz.prog 165 = none := by kernel_rfl
@[simp] theorem fld_165_0 : fldT Tryz.prog 165 0 = some (0, 1, false) := by kernel_rfl
@[simp] theorem fld_165_1 : fldT Tryz.prog 165 1 = some (1, 1, false) := by kernel_rfl
@[simp] theorem pl_165 : plT Tryz.prog 165 = some fun i => [(0, 1), (1, 1)][i]? := by kernel_rfl
@[simp] theorem zero_165 : zeroT Tryz.prog 165 = some ([.slice none 0 0, .bool false]) := by kernel_rfl
@[simp] theorem str_165 : isStrT Tryz.prog 165 = false := by kernel_rfl
@[simp] theorem isint_165 : isIntT Tryz.prog 165 = false := by kernel_rfl
@[simp] theorem ty_167 : tyT Tryz.prog 167 = some (1, false) := by kernel_rfl
@[simp] theorem sl_167 : slT Tryz.prog 167 = none := by kernel_rfl
@[simp] theorem zero_167 : zeroT Tryz.prog 167 = some ([.nilFunc]) := by kernel_rfl
@[simp] theorem str_167 : isStrT Tryz.prog 167 = false := by kernel_rfl
@[simp] theorem isint_167 : isIntT Tryz.prog 167 = false := by kernel_rfl
@[simp] theorem ty_168 : tyT Tryz.prog 168 = some (1, false) := by kernel_rfl
@[simp] theorem sl_168 : slT Tryz.prog 168 = none := by kernel_rfl
@[simp] theorem zero_168 : zeroT Tryz.prog 168 = some ([.nilFunc]) := by kernel_rfl
@[simp] theorem str_168 : isStrT Tryz.prog 168 = false := by kernel_rfl
@[simp] theorem isint_168 : isIntT Tryz.prog 168 = false := by kernel_rfl
@[simp] theorem ty_169 : tyT Tryz.prog 169 = some (1, false) := by kernel_rfl
@[simp] theorem sl_169 : slT Tryz.prog 169 = none := by kernel_rfl
@[simp] theorem zero_169 : zeroT Tryz.prog 169 = some ([.nilFunc]) := by kernel_rfl
@[simp] theorem str_169 : isStrT Tryz.prog 169 = false := by kernel_rfl
@[simp] theorem isint_169 : isIntT Tryz.prog 169 = false := by kernel_rfl
@[simp] theorem ty_170 : tyT Tryz.prog 170 = some (1, false) := by kernel_rfl
@[simp] theorem sl_170 : slT Tryz.prog 170 = none := by kernel_rfl
@[simp] theorem zero_170 : zeroT Tryz.prog 170 = some ([.nilFunc]) := by kernel_rfl
@[simp] theorem str_170 : isStrT Tryz.prog 170 = false := by kernel_rfl
@[simp] theorem isint_170 : isIntT Tryz.prog 170 = false := by kernel_rfl
@[simp] theorem ty_171 : tyT Tryz.prog 171 = some (1, false) := by kernel_rfl
@[simp] theorem sl_171 : slT Tryz.prog 171 = none := by kernel_rfl
@[simp] theorem zero_171 : zeroT Tryz.prog 171 = some ([.nilFunc]) := by kernel_rfl
@[simp] theorem str_171 : isStrT Tryz.prog 171 = false := by kernel_rfl
@[simp] theorem isint_171 : isIntT Tryz.prog 171 = false := by kernel_rfl
@[simp] theorem ty_172 : tyT Tryz.prog 172 = some (1, false) := by kernel_rfl
@[simp] theorem sl_172 : slT Tryz.prog 172 = none := by kernel_rfl
@[simp] theorem zero_172 : zeroT Tryz.prog 172 = some ([.nilFunc]) := by kernel_rfl
@[simp] theorem str_172 : isStrT Tryz.prog 172 = false := by kernel_rfl
@[simp] theorem isint_172 : isIntT Tryz.prog 172 = false := by kernel_rfl
@[simp] theorem ty_173 : tyT Tryz.prog 173 = some (1, false) := by kernel_rfl
@[simp] theorem sl_173 : slT Tryz.prog 173 = none := by kernel_rfl
@[simp] theorem zero_173 : zeroT Tryz.prog 173 = some ([.nilFunc]) := by kernel_rfl
@[simp] theorem str_173 : isStrT Tryz.prog 173 = false := by kernel_rfl
@[simp] theorem isint_173 : isIntT Tryz.prog 173 = false := by kernel_rfl
@[simp] theorem ty_175 : tyT Tryz.prog 175 = some (1, false) := by kernel_rfl
@[simp] theorem sl_175 : slT Tryz.prog 175 = none := by kernel_rfl
@[simp] theorem zero_175 : zeroT Tryz.prog 175 = some ([.nilFunc]) := by kernel_rfl
@[simp] theorem str_175 : isStrT Tryz.prog 175 = false := by kernel_rfl
@[simp] theorem isint_175 : isIntT Tryz.prog 175 = false := by kernel_rfl
@[simp] theorem ty_177 : tyT Tryz.prog 177 = some (1, false) := by kernel_rfl
@[simp] theorem sl_177 : slT Tryz.prog 177 = none := by kernel_rfl
@[simp] theorem zero_177 : zeroT Tryz.prog 177 = some ([.nilFunc]) := by kernel_rfl
@[simp] theorem str_177 : isStrT Tryz.prog 177 = false := by kernel_rfl
@[simp] theorem isint_177 : isIntT Tryz.prog 177 = false := by kernel_rfl
@[simp] theorem ty_179 : tyT Tryz.prog 179 = some (1, false) := by kernel_rfl
@[simp] theorem sl_179 : slT Tryz.prog 179 = none := by kernel_rfl
@[simp] theorem zero_179 : zeroT Tryz.prog 179 = some ([.nilFunc]) := by kernel_rfl
@[simp] theorem str_179 : isStrT Tryz.prog 179 = false := by kernel_rfl
@[simp] theorem isint_179 : isIntT Tryz.prog 179 = false := by kernel_rfl
@[simp] theorem ty_180 : tyT Tryz.prog 180 = some (1, false) := by kernel_rfl
@[simp] theorem sl_180 : slT Tryz.prog 180 = none := by kernel_rfl
@[simp] theorem zero_180 : zeroT Tryz.prog 180 = some ([.nilFunc]) := by kernel_rfl
@[simp] theorem str_180 : isStrT Tryz.prog 180 = false := by kernel_rfl
@[simp] theorem isint_180 : isIntT Tryz.prog 180 = false := by kernel_rfl
@[simp] theorem ty_181 : tyT Tryz.prog 181 = some (1, false) := by kernel_rfl
@[simp] theorem sl_181 : slT Tryz.prog 181 = none := by kernel_rfl
@[simp] theorem zero_181 : zeroT Tryz.prog 181 = some ([.nilFunc]) := by kernel_rfl
@[simp] theorem str_181 : isStrT Tryz.prog 181 = false := by kernel_rfl
@[simp] theorem isint_181 : isIntT Tryz.prog 181 = false := by kernel_rfl
@[simp] theorem ty_182 : tyT Tryz.prog 182 = some (1, false) := by kernel_rfl
@[simp] theorem sl_182 : slT Tryz.prog 182 = none := by kernel_rfl
@[simp] theorem zero_182 : zeroT Tryz.prog 182 = some ([.nilFunc]) := by kernel_rfl
@[simp] theorem str_182 : isStrT Tryz.prog 182 = false := by kernel_rfl
@[simp] theorem isint_182 : isIntT Tryz.prog 182 = false := by kernel_rfl
@[simp] theorem ty_184 : tyT Tryz.prog 184 = some (1, false) := by kernel_rfl
@[simp] theorem sl_184 : slT Tryz.prog 184 = none := by kernel_rfl
@[simp] theorem zero_184 : zeroT Tryz.prog 184 = some ([.nilFunc]) := by kernel_rfl
@[simp] theorem str_184 : isStrT Tryz.prog 184 = false := by kernel_rfl
@[simp] theorem isint_184 : isIntT Tryz.prog 184 = false := by kernel_rfl
@[simp] theorem ty_185 : tyT Tryz.prog 185 = some (1, false) := by kernel_rfl
@[simp] theorem sl_185 : slT Tryz.prog 185 = none := by kernel_rfl
@[simp] theorem zero_185 : zeroT Tryz.prog 185 = some ([.nilFunc]) := by kernel_rfl
@[simp] theorem str_185 : isStrT Tryz.prog 185 = false := by kernel_rfl
@[simp] theorem isint_185 : isIntT Tryz.prog 185 = false := by kernel_rfl
@[simp] theorem ty_186 : tyT Tryz.prog 186 = some (1, false) := by kernel_rfl
@[simp] theorem sl_186 : slT Tryz.prog 186 = none := by kernel_rfl
@[simp] theorem zero_186 : zeroT Tryz.prog 186 = some ([.nilFunc]) := by kernel_rfl
@[simp] theorem str_186 : isStrT Tryz.prog 186 = false := by kernel_rfl
@[simp] theorem isint_186 : isIntT Tryz.prog 186 = false := by kernel_rfl
@[simp] theorem ty_187 : tyT Tryz.prog 187 = some (1, false) := by kernel_rfl
@[simp] theorem sl_187 : slT Tryz.prog 187 = none := by kernel_rfl
@[simp] theorem zero_187 : zeroT Tryz.prog 187 = some ([.nilFunc]) := by kernel_rfl
@[simp] theorem str_187 : isStrT Tryz.prog 187 = false := by kernel_rfl
@[simp] theorem isint_187 : isIntT Tryz.prog 187 = false := by kernel_rfl
@[simp] theorem ty_188 : tyT Tryz.prog 188 = some (1, false) := by kernel_rfl
@[simp] theorem sl_188 : slT Tryz.prog 188 = none := by kernel_rfl
@[simp] theorem zero_188 : zeroT Tryz.prog 188 = some ([.nilFunc]) := by kernel_rfl
@[simp] theorem str_188 : isStrT Tryz.prog 188 = false := by kernel_rfl
@[simp] theorem isint_188 : isIntT Tryz.prog 188 = false := by kernel_rfl
@[simp] theorem ty_189 : tyT Tryz.prog 189 = some (1, false) := by kernel_rfl
@[simp] theorem sl_189 : slT Tryz.prog 189 = none := by kernel_rfl
@[simp] theorem zero_189 : zeroT Tryz.prog 189 = some ([.nilFunc]) := by kernel_rfl
@[simp] theorem str_189 : isStrT Tryz.prog 189 = false := by kernel_rfl
@[simp] theorem isint_189 : isIntT Tryz.prog 189 = false := by kernel_rfl
@[simp] theorem ty_190 : tyT Tryz.prog 190 = some (1, false) := by kernel_rfl
@[simp] theorem sl_190 : slT Tryz.prog 190 = none := by kernel_rfl
@[simp] theorem zero_190 : zeroT Tryz.prog 190 = some ([.nilFunc]) := by kernel_rfl
@[simp] theorem str_190 : isStrT Tryz.prog 190 = false := by kernel_rfl
@[simp] theorem isint_190 : isIntT Tryz.prog 190 = false := by kernel_rfl
@[simp] theorem ty_191 : tyT Tryz.prog 191 = some (1, false) := by kernel_rfl
@[simp] theorem sl_191 : slT Tryz.prog 191 = none := by kernel_rfl
@[simp] theorem zero_191 : zeroT Tryz.prog 191 = some ([.nilFunc]) := by kernel_rfl
@[simp] theorem str_191 : isStrT Tryz.prog 191 = false := by kernel_rfl
@[simp] theorem isint_191 : isIntT Tryz.prog 191 = false := by kernel_rfl
@[simp] theorem ty_192 : tyT Tryz.prog 192 = some (1, false) := by kernel_rfl
@[simp] theorem sl_192 : slT Tryz.prog 192 = none := by kernel_rfl
@[simp] theorem zero_192 : zeroT Tryz.prog 192 = some ([.nilFunc]) := by kernel_rfl
@[simp] theorem str_192 : isStrT Tryz.prog 192 = false := by kernel_rfl
@[simp] theorem isint_192 : isIntT Tryz.prog 192 = false := by kernel_rfl
@[simp] theorem ty_194 : tyT Tryz.prog 194 = some (1, false) := by kernel_rfl
@[simp] theorem sl_194 : slT Tryz.prog 194 = none := by kernel_rfl
@[simp] theorem zero_194 : zeroT Tryz.prog 194 = some ([.nilFunc]) := by kernel_rfl
@[simp] theorem str_194 : isStrT Tryz.prog 194 = false := by kernel_rfl
@[simp] theorem isint_194 : isIntT Tryz.prog 194 = false := by kernel_rfl
@[simp] theorem ty_195 : tyT Tryz.prog 195 = some (1, false) := by kernel_rfl
@[simp] theorem sl_195 : slT Tryz.prog 195 = none := by kernel_rfl
@[simp] theorem zero_195 : zeroT Tryz.prog 195 = some ([.nilFunc]) := by kernel_rfl
@[simp] theorem str_195 : isStrT Tryz.prog 195 = false := by kernel_rfl
@[simp] theorem isint_195 : isIntT Tryz.prog 195 = false := by kernel_rfl
@[simp] theorem ty_196 : tyT Tryz.prog 196 = some (1, false) := by kernel_rfl
@[simp] theorem sl_196 : slT Tryz.prog 196 = none := by kernel_rfl
@[simp] theorem zero_196 : zeroT Tryz.prog 196 = some ([.nilFunc]) := by kernel_rfl
@[simp] theorem str_196 : isStrT Tryz.prog 196 = false := by kernel_rfl
@[simp] theorem isint_196 : isIntT Tryz.prog 196 = false := by kernel_rfl
@[simp] theorem ty_197 : tyT Tryz.prog 197 = some (1, false) := by kernel_rfl
@[simp] theorem sl_197 : slT Tryz.prog 197 = none := by kernel_rfl
@[simp] theorem zero_197 : zeroT Tryz.prog 197 = some ([.nilFunc]) := by kernel_rfl
@[simp] theorem str_197 : isStrT Tryz.prog 197 = false := by kernel_rfl
@[simp] theorem isint_197 : isIntT Tryz.prog 197 = false := by kernel_rfl
@[simp] theorem ty_198 : tyT Tryz.prog 198 = some (1, false) := by kernel_rfl
@[simp] theorem sl_198 : slT Tryz.prog 198 = none := by kernel_rfl
@[simp] theorem zero_198 : zeroT Tryz.prog 198 = some ([.nilFunc]) := by kernel_rfl
@[simp] theorem str_198 : isStrT Tryz.prog 198 = false := by kernel_rfl
@[simp] theorem isint_198 : isIntT Tryz.prog 198 = false := by kernel_rfl
@[simp] theorem ty_199 : tyT Tryz.prog 199 = some (1, false) := by kernel_rfl
@[simp] theorem sl_199 : slT Tryz.prog 199 = none := by kernel_rfl
@[simp] theorem zero_199 : zeroT Tryz.prog 199 = some ([.nilFunc]) := by kernel_rfl
@[simp] theorem str_199 : isStrT Tryz.prog 199 = false := by kernel_rfl
@[simp] theorem isint_199 : isIntT Tryz.prog 199 = false := by kernel_rfl
@[simp] theorem ty_200 : tyT Tryz.prog 200 = some (1, false) := by kernel_rfl
@[simp] theorem sl_200 : slT Tryz.prog 200 = none := by kernel_rfl
@[simp] theorem zero_200 : zeroT Tryz.prog 200 = some ([.nilFunc]) := by kernel_rfl
@[simp] theorem str_200 : isStrT Tryz.prog 200 = false := by kernel_rfl
@[simp] theorem isint_200 : isIntT Tryz.prog 200 = false := by kernel_rfl
@[simp] theorem ty_201 : tyT Tryz.prog 201 = some (1, false) := by kernel_rfl
@[simp] theorem sl_201 : slT Tryz.prog 201 = none := by kernel_rfl
@[simp] theorem zero_201 : zeroT Tryz.prog 201 = some ([.nilFunc]) := by kernel_rfl
@[simp] theorem str_201 : isStrT Tryz.prog 201 = false := by kernel_rfl
@[simp] theorem isint_201 : isIntT Tryz.prog 201 = false := by kernel_rfl
@[simp] theorem ty_202 : tyT Tryz.prog 202 = some (1, false) := by kernel_rfl
@[simp] theorem sl_202 : slT Tryz.prog 202 = none := by kernel_rfl
@[simp] theorem zero_202 : zeroT Tryz.prog 202 = some ([.nilFunc]) := by kernel_rfl
@[simp] theorem str_202 : isStrT Tryz.prog 202 = false := by kernel_rfl
@[simp] theorem isint_202 : isIntT Tryz.prog 202 = false := by kernel_rfl
@[simp] theorem ty_203 : tyT Tryz.prog 203 = some (1, false) := by kernel_rfl
@[simp] theorem sl_203 : slT Tryz.prog 203 = none := by kernel_rfl
@[simp] theorem zero_203 : zeroT Tryz.prog 203 = some ([.nilFunc]) := by kernel_rfl
@[simp] theorem str_203 : isStrT Tryz.prog 203 = false := by kernel_rfl
@[simp] theorem isint_203 : isIntT Tryz.prog 203 = false := by kernel_rfl
@[simp] theorem ty_204 : tyT Tryz.prog 204 = some (3, true) := by kernel_rfl
@[simp] theorem sl_204 : slT Tryz.prog 204 = none := by kernel_rfl
@[simp] theorem ar_204 : arT Tryz.prog 204 = some (3, 1) := by kernel_rfl
@[simp] theorem pl_204 : plT Tryz.prog 204 = some fun i => some (i * 1, 1) := by kernel_rfl
@[simp] theorem zero_204 : zeroT Tryz.prog 204 = some ([.int .i64 0, .int .i64 0, .int .i64 0]) := by kernel_rfl
@[simp] theorem str_204 : isStrT Tryz.prog 204 = false := by kernel_rfl
@[simp] theorem isint_204 : isIntT Tryz.prog 204 = false := by kernel_rfl
@[simp] theorem ty_205 : tyT Tryz.prog 205 = some (1, false) := by kernel_rfl
@[simp] theorem sl_205 : slT Tryz.prog 205 = none := by kernel_rfl
@[simp] theorem zero_205 : zeroT Tryz.prog 205 = some ([.nilFunc]) := by kernel_rfl
@[simp] theorem str_205 : isStrT Tryz.prog 205 = false := by kernel_rfl
@[simp] theorem isint_205 : isIntT Tryz.prog 205 = false := by kernel_rfl
@[simp] theorem ty_206 : tyT Tryz.prog 206 = some (1, false) := by kernel_rfl
@[simp] theorem sl_206 : slT Tryz.prog 206 = none := by kernel_rfl
@[simp] theorem zero_206 : zeroT Tryz.prog 206 = some ([.nilFunc]) := by kernel_rfl
@[simp] theorem str_206 : isStrT Tryz.prog 206 = false := by kernel_rfl
@[simp] theorem isint_206 : isIntT Tryz.prog 206 = false := by kernel_rfl
@[simp] theorem ty_207 : tyT Tryz.prog 207 = some (1, false) := by kernel_rfl
@[simp] theorem sl_207 : slT Tryz.prog 207 = none := by kernel_rfl
@[simp] theorem zero_207 : zeroT Tryz.prog 207 = some ([.nilFunc]) := by kernel_rfl
@[simp] theorem str_207 : isStrT Tryz.prog 207 = false := by kernel_rfl
@[simp] theorem isint_207 : isIntT Tryz.prog 207 = false := by kernel_rfl
@[simp] theorem ty_208 : tyT Tryz.prog 208 = some (1, false) := by kernel_rfl
@[simp] theorem sl_208 : slT Tryz.prog 208 = none := by kernel_rfl
@[simp] theorem zero_208 : zeroT Tryz.prog 208 = some ([.nilFunc]) := by kernel_rfl
@[simp] theorem str_208 : isStrT Tryz.prog 208 = false := by kernel_rfl
@[simp] theorem isint_208 : isIntT Tryz.prog 208 = false := by kernel_rfl
@[simp] theorem ty_209 : tyT Tryz.prog 209 = some (1, false) := by kernel_rfl
@[simp] theorem sl_209 : slT Tryz.prog 209 = none := by kernel_rfl
@[simp] theorem zero_209 : zeroT Tryz.prog 209 = some ([.nilFunc]) := by kernel_rfl
@[simp] theorem str_209 : isStrT Tryz.prog 209 = false := by kernel_rfl
@[simp] theorem isint_209 : isIntT Tryz.prog 209 = false := by kernel_rfl
@[simp] theorem ty_210 : tyT Tryz.prog 210 = some (1, false) := by kernel_rfl
@[simp] theorem sl_210 : slT Tryz.prog 210 = none := by kernel_rfl
@[simp] theorem zero_210 : zeroT Tryz.prog 210 = some ([.nilFunc]) := by kernel_rfl
@[simp] theorem str_210 : isStrT Tryz.prog 210 = false := by kernel_rfl
@[simp] theorem isint_210 : isIntT Tryz.prog 210 = false := by kernel_rfl
@[simp] theorem ty_211 : tyT Tryz.prog 211 = some (1, false) := by kernel_rfl
@[simp] theorem sl_211 : slT Tryz.prog 211 = none := by kernel_rfl
@[simp] theorem zero_211 : zeroT Tryz.prog 211 = some ([.nilFunc]) := by kernel_rfl
@[simp] theorem str_211 : isStrT Tryz.prog 211 = false := by kernel_rfl
@[simp] theorem isint_211 : isIntT Tryz.prog 211 = false := by kernel_rfl
@[simp] theorem ty_212 : tyT Tryz.prog 212 = some (1, false) := by kernel_rfl
@[simp] theorem sl_212 : slT Tryz.prog 212 = none := by kernel_rfl
@[simp] theorem zero_212 : zeroT Tryz.prog 212 = some ([.nilFunc]) := by kernel_rfl
@[simp] theorem str_212 : isStrT Tryz.prog 212 = false := by kernel_rfl
@[simp] theorem isint_212 : isIntT Tryz.prog 212 = false := by kernel_rfl
@[simp] theorem ty_213 : tyT Tryz.prog 213 = some (1, false) := by kernel_rfl
@[simp] theorem sl_213 : slT Tryz.prog 213 = none := by kernel_rfl
@[simp] theorem zero_213 : zeroT Tryz.prog 213 = some ([.nilFunc]) := by kernel_rfl
@[simp] theorem str_213 : isStrT Tryz.prog 213 = false := by kernel_rfl
@[simp] theorem isint_213 : isIntT Tryz.prog 213 = false := by kernel_rfl
@[simp] theorem ty_214 : tyT Tryz.prog 214 = some (1, false) := by kernel_rfl
@[simp] theorem sl_214 : slT Tryz.prog 214 = none := by kernel_rfl
@[simp] theorem zero_214 : zeroT Tryz.prog 214 = some ([.nilFunc]) := by kernel_rfl
@[simp] theorem str_214 : isStrT Tryz.prog 214 = false := by kernel_rfl
@[simp] theorem isint_214 : isIntT Tryz.prog 214 = false := by kernel_rfl
@[simp] theorem ty_215 : tyT Tryz.prog 215 = some (1, false) := by kernel_rfl
@[simp] theorem sl_215 : slT Tryz.prog 215 = none := by kernel_rfl
@[simp] theorem zero_215 : zeroT Tryz.prog 215 = some ([.nilFunc]) := by kernel_rfl
@[simp] theorem str_215 : isStrT Tryz.prog 215 = false := by kernel_rfl
@[simp] theorem isint_215 : isIntT Tryz.prog 215 = false := by kernel_rfl
@[simp] theorem ty_216 : tyT Tryz.prog 216 = some (1, false) := by kernel_rfl
@[simp] theorem sl_216 : slT Tryz.prog 216 = none := by kernel_rfl
@[simp] theorem zero_216 : zeroT Tryz.prog 216 = some ([.nilFunc]) := by kernel_rfl
@[simp] theorem str_216 : isStrT Tryz.prog 216 = false := by kernel_rfl
@[simp] theorem isint_216 : isIntT Tryz.prog 216 = false := by kernel_rfl
@[simp] theorem ty_217 : tyT Tryz.prog 217 = some (1, false) := by kernel_rfl
@[simp] theorem sl_217 : slT Tryz.prog 217 = none := by kernel_rfl
@[simp] theorem zero_217 : zeroT Tryz.prog 217 = some ([.nilFunc]) := by kernel_rfl
@[simp] theorem str_217 : isStrT Tryz.prog 217 = false := by kernel_rfl
@[simp] theorem isint_217 : isIntT Tryz.prog 217 = false := by kernel_rfl
@[simp] theorem ty_218 : tyT Tryz.prog 218 = some (256, true) := by kernel_rfl
@[simp] theorem sl_218 : slT Tryz.prog 218 = none := by kernel_rfl
@[simp] theorem ar_218 : arT Tryz.prog 218 = some (256, 1) := by kernel_rfl
@[simp] theorem pl_218 : plT Tryz.prog 218 = some fun i => some (i * 1, 1) := by kernel_rfl
@[simp] theorem zero_218 : zeroT Tryz.prog 218 = some (List.replicate 256 (.int .u8 0)) := by kernel_rfl
@[simp] theorem str_218 : isStrT Tryz.prog 218 = false := by kernel_rfl
@[simp] theorem isint_218 : isIntT Tryz.prog 218 = false := by kernel_rfl
@[simp] theorem ty_219 : tyT Tryz.prog 219 = some (2, true) := by kernel_rfl
@[simp] theorem sl_219 : slT Tryz.prog 219 = none := by kernel_rfl
@[simp] theorem fld_219_0 : fldT Tryz.prog 219 0 = some (0, 1, false) := by kernel_rfl
@[simp] theorem fld_219_1 : fldT Tryz.prog 219 1 = some (1, 1, false) := by kernel_rfl
@[simp] theorem pl_219 : plT Tryz.prog 219 = some fun i => [(0, 1), (1, 1)][i]? := by kernel_rfl
@[simp] theorem zero_219 : zeroT Tryz.prog 219 = some ([.int .u8 0, .int .u8 0]) := by kernel_rfl
@[simp] theorem str_219 : isStrT Tryz.prog 219 = false := by kernel_rfl
@[simp] theorem isint_219 : isIntT Tryz.prog 219 = false := by kernel_rfl
@[simp] theorem ty_220 : tyT Tryz.prog 220 = some (2, true) := by kernel_rfl
@[simp] theorem sl_220 : slT Tryz.prog 220 = none := by kernel_rfl
@[simp] theorem fld_220_0 : fldT Tryz.prog 220 0 = some (0, 1, false) := by kernel_rfl
@[simp] theorem fld_220_1 : fldT Tryz.prog 220 1 = some (1, 1, false) := by kernel_rfl
@[simp] theorem pl_220 : plT Tryz.prog 220 = some fun i => [(0, 1), (1, 1)][i]? := by kernel_rfl
@[simp] theorem zero_220 : zeroT Tryz.prog 220 = some ([.int .u8 0, .int .u8 0]) := by kernel_rfl
@[simp] theorem str_220 : isStrT Tryz.prog 220 = false := by kernel_rfl
@[simp] theorem isint_220 : isIntT Tryz.prog 220 = false := by kernel_rfl
@[simp] theorem ty_221 : tyT Tryz.prog 221 = some (32, true) := by kernel_rfl
@[simp] theorem sl_221 : slT Tryz.prog 221 = none := by kernel_rfl
@[simp] theorem ar_221 : arT Tryz.prog 221 = some (16, 2) := by kernel_rfl
@[simp] theorem pl_221 : plT Tryz.prog 221 = some fun i => some (i * 2, 2) := by kernel_rfl
@[simp] theorem zero_221 : zeroT Tryz.prog 221 = some (List.replicate 32 (.int .u8 0)) := by kernel_rfl
@[simp] theorem str_221 : isStrT Tryz.prog 221 = false := by kernel_rfl
@[simp] theorem isint_221 : isIntT Tryz.prog 221 = false := by kernel_rfl
@[simp] theorem ty_222 : tyT Tryz.prog 222 = some (1, false) := by kernel_rfl
@[simp] theorem sl_222 : slT Tryz.prog 222 = none := by kernel_rfl
@[simp] theorem zero_222 : zeroT Tryz.prog 222 = some ([.nilFunc]) := by kernel_rfl
@[simp] theorem str_222 : isStrT Tryz.prog 222 = false := by kernel_rfl
@[simp] theorem isint_222 : isIntT Tryz.prog 222 = false := by kernel_rfl
@[simp] theorem ty_223 : tyT Tryz.prog 223 = some (4, true) := by kernel_rfl
@[simp] theorem sl_223 : slT Tryz.prog 223 = none := by kernel_rfl
@[simp] theorem fld_223_0 : fldT Tryz.prog 223 0 = some (0, 1, false) := by kernel_rfl
@[simp] theorem fld_223_1 : fldT Tryz.prog 223 1 = some (1, 1, false) := by kernel_rfl
@[simp] theorem fld_223_2 : fldT Tryz.prog 223 2 = some (2, 1, false) := by kernel_rfl
@[simp] theorem fld_223_3 : fldT Tryz.prog 223 3 = some (3, 1, false) := by kernel_rfl
@[simp] theorem pl_223 : plT Tryz.prog 223 = some fun i => [(0, 1), (1, 1), (2, 1), (3, 1)][i]? := by kernel_rfl
@[simp] theorem zero_223 : zeroT Tryz.prog 223 = some ([.pointer none, .pointer none, .pointer none, .string ByteArray.empty]) := by kernel_rfl
@[simp] theorem str_223 : isStrT Tryz.prog 223 = false := by kernel_rfl
@[simp] theorem isint_223 : isIntT Tryz.prog 223 = false := by kernel_rfl
@[simp] theorem ty_225 : tyT Tryz.prog 225 = some (0, true) := by kernel_rfl
@[simp] theorem sl_225 : slT Tryz.prog 225 = none := by kernel_rfl
@[simp] theorem ar_225 : arT Tryz.prog 225 = some (0, 1) := by kernel_rfl
@[simp] theorem pl_225 : plT Tryz.prog 225 = some fun i => some (i * 1, 1) := by kernel_rfl
@[simp] theorem zero_225 : zeroT Tryz.prog 225 = some ([]) := by kernel_rfl
@[simp] theorem str_225 : isStrT Tryz.prog 225 = false := by kernel_rfl
@[simp] theorem isint_225 : isIntT Tryz.prog 225 = false := by kernel_rfl
@[simp] theorem ty_226 : tyT Tryz.prog 226 = some (0, true) := by kernel_rfl
@[simp] theorem sl_226 : slT Tryz.prog 226 = none := by kernel_rfl
@[simp] theorem pl_226 : plT Tryz.prog 226 = some fun i => [(0, 0)][i]? := by kernel_rfl
@[simp] theorem zero_226 : zeroT Tryz.prog 226 = some ([]) := by kernel_rfl
@[simp] theorem str_226 : isStrT Tryz.prog 226 = false := by kernel_rfl
@[simp] theorem isint_226 : isIntT Tryz.prog 226 = false := by kernel_rfl
@[simp] theorem ty_228 : tyT Tryz.prog 228 = some (1, false) := by kernel_rfl
@[simp] theorem sl_228 : slT Tryz.prog 228 = none := by kernel_rfl
@[simp] theorem zero_228 : zeroT Tryz.prog 228 = some ([.int .u32 0]) := by kernel_rfl
@[simp] theorem int_228 : intT Tryz.prog 228 = some .u32 := by kernel_rfl
@[simp] theorem str_228 : isStrT Tryz.prog 228 = false := by kernel_rfl
@[simp] theorem isint_228 : isIntT Tryz.prog 228 = true := by kernel_rfl
@[simp] theorem ty_231 : tyT Tryz.prog 231 = some (1, false) := by kernel_rfl
@[simp] theorem sl_231 : slT Tryz.prog 231 = none := by kernel_rfl
@[simp] theorem zero_231 : zeroT Tryz.prog 231 = some ([.nilFunc]) := by kernel_rfl
@[simp] theorem str_231 : isStrT Tryz.prog 231 = false := by kernel_rfl
@[simp] theorem isint_231 : isIntT Tryz.prog 231 = false := by kernel_rfl
@[simp] theorem ty_232 : tyT Tryz.prog 232 = some (1, false) := by kernel_rfl
@[simp] theorem sl_232 : slT Tryz.prog 232 = none := by kernel_rfl
@[simp] theorem zero_232 : zeroT Tryz.prog 232 = some ([.pointer none]) := by kernel_rfl
@[simp] theorem str_232 : isStrT Tryz.prog 232 = false := by kernel_rfl
@[simp] theorem isint_232 : isIntT Tryz.prog 232 = false := by kernel_rfl
@[simp] theorem ptr_232 : isPtrT Tryz.prog 232 = true := by kernel_rfl
@[simp] theorem ty_235 : tyT Tryz.prog 235 = some (11, true) := by kernel_rfl
@[simp] theorem sl_235 : slT Tryz.prog 235 = none := by kernel_rfl
@[simp] theorem fld_235_0 : fldT Tryz.prog 235 0 = some (0, 1, false) := by kernel_rfl
@[simp] theorem fld_235_1 : fldT Tryz.prog 235 1 = some (1, 1, false) := by kernel_rfl
@[simp] theorem fld_235_2 : fldT Tryz.prog 235 2 = some (2, 1, false) := by kernel_rfl
@[simp] theorem fld_235_3 : fldT Tryz.prog 235 3 = some (3, 1, false) := by kernel_rfl
@[simp] theorem fld_235_4 : fldT Tryz.prog 235 4 = some (4, 1, false) := by kernel_rfl
@[simp] theorem fld_235_5 : fldT Tryz.prog 235 5 = some (5, 1, false) := by kernel_rfl
@[simp] theorem fld_235_6 : fldT Tryz.prog 235 6 = some (6, 1, false) := by kernel_rfl
@[simp] theorem fld_235_7 : fldT Tryz.prog 235 7 = some (7, 1, false) := by kernel_rfl
@[simp] theorem fld_235_8 : fldT Tryz.prog 235 8 = some (8, 1, false) := by kernel_rfl
@[simp] theorem fld_235_9 : fldT Tryz.prog 235 9 = some (9, 1, false) := by kernel_rfl
@[simp] theorem fld_235_10 : fldT Tryz.prog 235 10 = some (10, 1, false) := by kernel_rfl
@[simp] theorem pl_235 : plT Tryz.prog 235 = some fun i => [(0, 1), (1, 1), (2, 1), (3, 1), (4, 1), (5, 1), (6, 1), (7, 1), (8, 1), (9, 1), (10, 1)][i]? := by kernel_rfl
@[simp] theorem zero_235 : zeroT Tryz.prog 235 = some ([.int .u64 0, .int .u64 0, .int .u32 0, .int .u8 0, .int .u8 0, .int .u8 0, .int .u8 0, .nilFunc, .pointer none, .int .i32 0, .int .i32 0]) := by kernel_rfl
@[simp] theorem str_235 : isStrT Tryz.prog 235 = false := by kernel_rfl
@[simp] theorem isint_235 : isIntT Tryz.prog 235 = false := by kernel_rfl
@[simp] theorem ty_237 : tyT Tryz.prog 237 = some (1, false) := by kernel_rfl
@[simp] theorem sl_237 : slT Tryz.prog 237 = none := by kernel_rfl
@[simp] theorem str_237 : isStrT Tryz.prog 237 = false := by kernel_rfl
@[simp] theorem isint_237 : isIntT Tryz.prog 237 = false := by kernel_rfl
@[simp] theorem call_3 : callable Tryz.prog 3 = true := by kernel_rfl
@[simp] theorem ovl_3 : ovlT Tryz.prog 3 = false := by kernel_rfl
@[simp] theorem call_4 : callable Tryz.prog 4 = true := by kernel_rfl
@[simp] theorem ovl_4 : ovlT Tryz.prog 4 = false := by kernel_rfl
@[simp] theorem call_5 : callable Tryz.prog 5 = true := by kernel_rfl
@[simp] theorem ovl_5 : ovlT Tryz.prog 5 = false := by kernel_rfl
@[simp] theorem call_6 : callable Tryz.prog 6 = true := by kernel_rfl
@[simp] theorem ovl_6 : ovlT Tryz.prog 6 = false := by kernel_rfl
@[simp] theorem call_7 : callable Tryz.prog 7 = true := by kernel_rfl
@[simp] theorem ovl_7 : ovlT Tryz.prog 7 = false := by kernel_rfl
@[simp] theorem call_8 : callable Tryz.prog 8 = true := by kernel_rfl
@[simp] theorem ovl_8 : ovlT Tryz.prog 8 = false := by kernel_rfl
@[simp] theorem call_9 : callable Tryz.prog 9 = true := by kernel_rfl
@[simp] theorem ovl_9 : ovlT Tryz.prog 9 = false := by kernel_rfl
@[simp] theorem call_10 : callable Tryz.prog 10 = true := by kernel_rfl
@[simp] theorem ovl_10 : ovlT Tryz.prog 10 = false := by kernel_rfl
@[simp] theorem call_11 : callable Tryz.prog 11 = true := by kernel_rfl
@[simp] theorem ovl_11 : ovlT Tryz.prog 11 = false := by kernel_rfl
@[simp] theorem call_12 : callable Tryz.prog 12 = true := by kernel_rfl
@[simp] theorem ovl_12 : ovlT Tryz.prog 12 = false := by kernel_rfl
@[simp] theorem call_13 : callable Tryz.prog 13 = true := by kernel_rfl
@[simp] theorem ovl_13 : ovlT Tryz.prog 13 = false := by kernel_rfl
@[simp] theorem call_14 : callable Tryz.prog 14 = true := by kernel_rfl
@[simp] theorem ovl_14 : ovlT Tryz.prog 14 = false := by kernel_rfl
@[simp] theorem call_15 : callable Tryz.prog 15 = true := by kernel_rfl
@[simp] theorem ovl_15 : ovlT Tryz.prog 15 = false := by kernel_rfl
@[simp] theorem call_16 : callable Tryz.prog 16 = true := by kernel_rfl
@[simp] theorem ovl_16 : ovlT Tryz.prog 16 = false := by kernel_rfl
@[simp] theorem call_17 : callable Tryz.prog 17 = true := by kernel_rfl
@[simp] theorem ovl_17 : ovlT Tryz.prog 17 = false := by kernel_rfl
@[simp] theorem call_18 : callable Tryz.prog 18 = true := by kernel_rfl
@[simp] theorem ovl_18 : ovlT Tryz.prog 18 = false := by kernel_rfl
@[simp] theorem call_19 : callable Tryz.prog 19 = true := by kernel_rfl
@[simp] theorem ovl_19 : ovlT Tryz.prog 19 = false := by kernel_rfl
@[simp] theorem call_20 : callable Tryz.prog 20 = true := by kernel_rfl
@[simp] theorem ovl_20 : ovlT Tryz.prog 20 = false := by kernel_rfl
@[simp] theorem call_21 : callable Tryz.prog 21 = true := by kernel_rfl
@[simp] theorem ovl_21 : ovlT Tryz.prog 21 = false := by kernel_rfl
@[simp] theorem call_22 : callable Tryz.prog 22 = true := by kernel_rfl
@[simp] theorem ovl_22 : ovlT Tryz.prog 22 = false := by kernel_rfl
@[simp] theorem call_23 : callable Tryz.prog 23 = true := by kernel_rfl
@[simp] theorem ovl_23 : ovlT Tryz.prog 23 = false := by kernel_rfl
@[simp] theorem call_24 : callable Tryz.prog 24 = true := by kernel_rfl
@[simp] theorem ovl_24 : ovlT Tryz.prog 24 = false := by kernel_rfl
@[simp] theorem call_25 : callable Tryz.prog 25 = true := by kernel_rfl
@[simp] theorem ovl_25 : ovlT Tryz.prog 25 = false := by kernel_rfl
@[simp] theorem call_26 : callable Tryz.prog 26 = true := by kernel_rfl
@[simp] theorem ovl_26 : ovlT Tryz.prog 26 = false := by kernel_rfl
@[simp] theorem call_27 : callable Tryz.prog 27 = true := by kernel_rfl
@[simp] theorem ovl_27 : ovlT Tryz.prog 27 = false := by kernel_rfl
@[simp] theorem call_28 : callable Tryz.prog 28 = true := by kernel_rfl
@[simp] theorem ovl_28 : ovlT Tryz.prog 28 = false := by kernel_rfl
@[simp] theorem call_29 : callable Tryz.prog 29 = true := by kernel_rfl
@[simp] theorem ovl_29 : ovlT Tryz.prog 29 = false := by kernel_rfl
@[simp] theorem call_30 : callable Tryz.prog 30 = true := by kernel_rfl
@[simp] theorem ovl_30 : ovlT Tryz.prog 30 = false := by kernel_rfl
@[simp] theorem call_31 : callable Tryz.prog 31 = true := by kernel_rfl
@[simp] theorem ovl_31 : ovlT Tryz.prog 31 = false := by kernel_rfl
@[simp] theorem call_32 : callable Tryz.prog 32 = true := by kernel_rfl
@[simp] theorem ovl_32 : ovlT Tryz.prog 32 = false := by kernel_rfl
@[simp] theorem call_33 : callable Tryz.prog 33 = true := by kernel_rfl
@[simp] theorem ovl_33 : ovlT Tryz.prog 33 = false := by kernel_rfl
@[simp] theorem call_34 : callable Tryz.prog 34 = true := by kernel_rfl
@[simp] theorem ovl_34 : ovlT Tryz.prog 34 = false := by kernel_rfl
@[simp] theorem call_35 : callable Tryz.prog 35 = true := by kernel_rfl
@[simp] theorem ovl_35 : ovlT Tryz.prog 35 = false := by kernel_rfl
@[simp] theorem call_36 : callable Tryz.prog 36 = true := by kernel_rfl
@[simp] theorem ovl_36 : ovlT Tryz.prog 36 = false := by kernel_rfl
@[simp] theorem call_37 : callable Tryz.prog 37 = true := by kernel_rfl
@[simp] theorem ovl_37 : ovlT Tryz.prog 37 = false := by kernel_rfl
@[simp] theorem call_38 : callable Tryz.prog 38 = true := by kernel_rfl
@[simp] theorem ovl_38 : ovlT Tryz.prog 38 = false := by kernel_rfl
@[simp] theorem call_39 : callable Tryz.prog 39 = true := by kernel_rfl
@[simp] theorem ovl_39 : ovlT Tryz.prog 39 = false := by kernel_rfl
@[simp] theorem call_40 : callable Tryz.prog 40 = true := by kernel_rfl
@[simp] theorem ovl_40 : ovlT Tryz.prog 40 = false := by kernel_rfl
@[simp] theorem call_41 : callable Tryz.prog 41 = true := by kernel_rfl
@[simp] theorem ovl_41 : ovlT Tryz.prog 41 = false := by kernel_rfl
@[simp] theorem call_42 : callable Tryz.prog 42 = true := by kernel_rfl
@[simp] theorem ovl_42 : ovlT Tryz.prog 42 = false := by kernel_rfl
@[simp] theorem call_43 : callable Tryz.prog 43 = true := by kernel_rfl
@[simp] theorem ovl_43 : ovlT Tryz.prog 43 = false := by kernel_rfl
@[simp] theorem call_44 : callable Tryz.prog 44 = true := by kernel_rfl
@[simp] theorem ovl_44 : ovlT Tryz.prog 44 = false := by kernel_rfl
@[simp] theorem call_45 : callable Tryz.prog 45 = true := by kernel_rfl
@[simp] theorem ovl_45 : ovlT Tryz.prog 45 = false := by kernel_rfl
@[simp] theorem call_46 : callable Tryz.prog 46 = true := by kernel_rfl
@[simp] theorem ovl_46 : ovlT Tryz.prog 46 = false := by kernel_rfl
@[simp] theorem call_47 : callable Tryz.prog 47 = true := by kernel_rfl
@[simp] theorem ovl_47 : ovlT Tryz.prog 47 = false := by kernel_rfl
@[simp] theorem call_48 : callable Tryz.prog 48 = true := by kernel_rfl
@[simp] theorem ovl_48 : ovlT Tryz.prog 48 = false := by kernel_rfl
@[simp] theorem call_49 : callable Tryz.prog 49 = true := by kernel_rfl
@[simp] theorem ovl_49 : ovlT Tryz.prog 49 = false := by kernel_rfl
@[simp] theorem call_50 : callable Tryz.prog 50 = true := by kernel_rfl
@[simp] theorem ovl_50 : ovlT Tryz.prog 50 = false := by kernel_rfl
@[simp] theorem call_51 : callable Tryz.prog 51 = true := by kernel_rfl
@[simp] theorem ovl_51 : ovlT Tryz.prog 51 = false := by kernel_rfl
@[simp] theorem call_52 : callable Tryz.prog 52 = true := by kernel_rfl
@[simp] theorem ovl_52 : ovlT Tryz.prog 52 = false := by kernel_rfl
@[simp] theorem call_53 : callable Tryz.prog 53 = true := by kernel_rfl
@[simp] theorem ovl_53 : ovlT Tryz.prog 53 = false := by kernel_rfl
@[simp] theorem call_54 : callable Tryz.prog 54 = true := by kernel_rfl
@[simp] theorem ovl_54 : ovlT Tryz.prog 54 = false := by kernel_rfl
@[simp] theorem call_55 : callable Tryz.prog 55 = true := by kernel_rfl
@[simp] theorem ovl_55 : ovlT Tryz.prog 55 = false := by kernel_rfl
@[simp] theorem call_56 : callable Tryz.prog 56 = true := by kernel_rfl
@[simp] theorem ovl_56 : ovlT Tryz.prog 56 = false := by kernel_rfl
@[simp] theorem call_57 : callable Tryz.prog 57 = true := by kernel_rfl
@[simp] theorem ovl_57 : ovlT Tryz.prog 57 = false := by kernel_rfl
@[simp] theorem call_58 : callable Tryz.prog 58 = true := by kernel_rfl
@[simp] theorem ovl_58 : ovlT Tryz.prog 58 = false := by kernel_rfl
@[simp] theorem call_59 : callable Tryz.prog 59 = true := by kernel_rfl
@[simp] theorem ovl_59 : ovlT Tryz.prog 59 = false := by kernel_rfl
@[simp] theorem call_60 : callable Tryz.prog 60 = true := by kernel_rfl
@[simp] theorem ovl_60 : ovlT Tryz.prog 60 = false := by kernel_rfl
@[simp] theorem call_61 : callable Tryz.prog 61 = true := by kernel_rfl
@[simp] theorem ovl_61 : ovlT Tryz.prog 61 = false := by kernel_rfl
@[simp] theorem call_62 : callable Tryz.prog 62 = true := by kernel_rfl
@[simp] theorem ovl_62 : ovlT Tryz.prog 62 = false := by kernel_rfl
@[simp] theorem call_63 : callable Tryz.prog 63 = true := by kernel_rfl
@[simp] theorem ovl_63 : ovlT Tryz.prog 63 = false := by kernel_rfl
@[simp] theorem call_64 : callable Tryz.prog 64 = true := by kernel_rfl
@[simp] theorem ovl_64 : ovlT Tryz.prog 64 = false := by kernel_rfl
@[simp] theorem call_65 : callable Tryz.prog 65 = true := by kernel_rfl
@[simp] theorem ovl_65 : ovlT Tryz.prog 65 = false := by kernel_rfl
@[simp] theorem call_66 : callable Tryz.prog 66 = true := by kernel_rfl
@[simp] theorem ovl_66 : ovlT Tryz.prog 66 = false := by kernel_rfl
@[simp] theorem call_67 : callable Tryz.prog 67 = true := by kernel_rfl
@[simp] theorem ovl_67 : ovlT Tryz.prog 67 = false := by kernel_rfl
@[simp] theorem call_68 : callable Tryz.prog 68 = true := by kernel_rfl
@[simp] theorem ovl_68 : ovlT Tryz.prog 68 = false := by kernel_rfl
@[simp] theorem call_69 : callable Tryz.prog 69 = true := by kernel_rfl
@[simp] theorem ovl_69 : ovlT Tryz.prog 69 = false := by kernel_rfl
@[simp] theorem call_70 : callable Tryz.prog 70 = true := by kernel_rfl
@[simp] theorem ovl_70 : ovlT Tryz.prog 70 = false := by kernel_rfl
@[simp] theorem call_71 : callable Tryz.prog 71 = true := by kernel_rfl
@[simp] theorem ovl_71 : ovlT Tryz.prog 71 = false := by kernel_rfl
@[simp] theorem call_72 : callable Tryz.prog 72 = true := by kernel_rfl
@[simp] theorem ovl_72 : ovlT Tryz.prog 72 = false := by kernel_rfl
@[simp] theorem call_73 : callable Tryz.prog 73 = true := by kernel_rfl
@[simp] theorem ovl_73 : ovlT Tryz.prog 73 = false := by kernel_rfl
@[simp] theorem call_74 : callable Tryz.prog 74 = true := by kernel_rfl
@[simp] theorem ovl_74 : ovlT Tryz.prog 74 = false := by kernel_rfl
@[simp] theorem call_75 : callable Tryz.prog 75 = true := by kernel_rfl
@[simp] theorem ovl_75 : ovlT Tryz.prog 75 = false := by kernel_rfl
@[simp] theorem call_76 : callable Tryz.prog 76 = true := by kernel_rfl
@[simp] theorem ovl_76 : ovlT Tryz.prog 76 = false := by kernel_rfl
@[simp] theorem call_77 : callable Tryz.prog 77 = true := by kernel_rfl
@[simp] theorem ovl_77 : ovlT Tryz.prog 77 = false := by kernel_rfl
@[simp] theorem call_78 : callable Tryz.prog 78 = true := by kernel_rfl
@[simp] theorem ovl_78 : ovlT Tryz.prog 78 = false := by kernel_rfl
@[simp] theorem call_79 : callable Tryz.prog 79 = true := by kernel_rfl
@[simp] theorem ovl_79 : ovlT Tryz.prog 79 = false := by kernel_rfl
@[simp] theorem call_80 : callable Tryz.prog 80 = true := by kernel_rfl
@[simp] theorem ovl_80 : ovlT Tryz.prog 80 = false := by kernel_rfl
@[simp] theorem call_81 : callable Tryz.prog 81 = true := by kernel_rfl
@[simp] theorem ovl_81 : ovlT Tryz.prog 81 = false := by kernel_rfl
@[simp] theorem call_82 : callable Tryz.prog 82 = true := by kernel_rfl
@[simp] theorem ovl_82 : ovlT Tryz.prog 82 = false := by kernel_rfl
@[simp] theorem call_83 : callable Tryz.prog 83 = true := by kernel_rfl
@[simp] theorem ovl_83 : ovlT Tryz.prog 83 = false := by kernel_rfl
@[simp] theorem call_84 : callable Tryz.prog 84 = true := by kernel_rfl
@[simp] theorem ovl_84 : ovlT Tryz.prog 84 = false := by kernel_rfl
@[simp] theorem call_85 : callable Tryz.prog 85 = true := by kernel_rfl
@[simp] theorem ovl_85 : ovlT Tryz.prog 85 = false := by kernel_rfl
@[simp] theorem call_86 : callable Tryz.prog 86 = true := by kernel_rfl
@[simp] theorem ovl_86 : ovlT Tryz.prog 86 = false := by kernel_rfl
@[simp] theorem call_87 : callable Tryz.prog 87 = true := by kernel_rfl
@[simp] theorem ovl_87 : ovlT Tryz.prog 87 = false := by kernel_rfl
@[simp] theorem call_88 : callable Tryz.prog 88 = true := by kernel_rfl
@[simp] theorem ovl_88 : ovlT Tryz.prog 88 = false := by kernel_rfl
@[simp] theorem call_89 : callable Tryz.prog 89 = true := by kernel_rfl
@[simp] theorem ovl_89 : ovlT Tryz.prog 89 = false := by kernel_rfl
@[simp] theorem call_90 : callable Tryz.prog 90 = true := by kernel_rfl
@[simp] theorem ovl_90 : ovlT Tryz.prog 90 = false := by kernel_rfl
@[simp] theorem call_91 : callable Tryz.prog 91 = true := by kernel_rfl
@[simp] theorem ovl_91 : ovlT Tryz.prog 91 = false := by kernel_rfl
@[simp] theorem call_92 : callable Tryz.prog 92 = true := by kernel_rfl
@[simp] theorem ovl_92 : ovlT Tryz.prog 92 = false := by kernel_rfl
@[simp] theorem call_93 : callable Tryz.prog 93 = true := by kernel_rfl
@[simp] theorem ovl_93 : ovlT Tryz.prog 93 = false := by kernel_rfl
@[simp] theorem call_94 : callable Tryz.prog 94 = true := by kernel_rfl
@[simp] theorem ovl_94 : ovlT Tryz.prog 94 = false := by kernel_rfl
@[simp] theorem call_95 : callable Tryz.prog 95 = true := by kernel_rfl
@[simp] theorem ovl_95 : ovlT Tryz.prog 95 = false := by kernel_rfl
@[simp] theorem call_96 : callable Tryz.prog 96 = true := by kernel_rfl
@[simp] theorem ovl_96 : ovlT Tryz.prog 96 = false := by kernel_rfl
@[simp] theorem call_97 : callable Tryz.prog 97 = true := by kernel_rfl
@[simp] theorem ovl_97 : ovlT Tryz.prog 97 = false := by kernel_rfl
@[simp] theorem call_98 : callable Tryz.prog 98 = true := by kernel_rfl
@[simp] theorem ovl_98 : ovlT Tryz.prog 98 = false := by kernel_rfl
@[simp] theorem call_99 : callable Tryz.prog 99 = true := by kernel_rfl
@[simp] theorem ovl_99 : ovlT Tryz.prog 99 = false := by kernel_rfl
@[simp] theorem call_100 : callable Tryz.prog 100 = true := by kernel_rfl
@[simp] theorem ovl_100 : ovlT Tryz.prog 100 = false := by kernel_rfl
@[simp] theorem call_101 : callable Tryz.prog 101 = true := by kernel_rfl
@[simp] theorem ovl_101 : ovlT Tryz.prog 101 = false := by kernel_rfl
@[simp] theorem call_102 : callable Tryz.prog 102 = true := by kernel_rfl
@[simp] theorem ovl_102 : ovlT Tryz.prog 102 = false := by kernel_rfl
@[simp] theorem call_103 : callable Tryz.prog 103 = true := by kernel_rfl
@[simp] theorem ovl_103 : ovlT Tryz.prog 103 = false := by kernel_rfl
@[simp] theorem call_104 : callable Tryz.prog 104 = true := by kernel_rfl
@[simp] theorem ovl_104 : ovlT Tryz.prog 104 = false := by kernel_rfl
@[simp] theorem call_105 : callable Tryz.prog 105 = true := by kernel_rfl
@[simp] theorem ovl_105 : ovlT Tryz.prog 105 = false := by kernel_rfl
@[simp] theorem call_106 : callable Tryz.prog 106 = true := by kernel_rfl
@[simp] theorem ovl_106 : ovlT Tryz.prog 106 = false := by kernel_rfl
@[simp] theorem call_107 : callable Tryz.prog 107 = true := by kernel_rfl
@[simp] theorem ovl_107 : ovlT Tryz.prog 107 = false := by kernel_rfl
@[simp] theorem call_108 : callable Tryz.prog 108 = true := by kernel_rfl
@[simp] theorem ovl_108 : ovlT Tryz.prog 108 = false := by kernel_rfl
@[simp] theorem call_109 : callable Tryz.prog 109 = true := by kernel_rfl
@[simp] theorem ovl_109 : ovlT Tryz.prog 109 = false := by kernel_rfl
@[simp] theorem call_110 : callable Tryz.prog 110 = true := by kernel_rfl
@[simp] theorem ovl_110 : ovlT Tryz.prog 110 = false := by kernel_rfl
@[simp] theorem call_111 : callable Tryz.prog 111 = true := by kernel_rfl
@[simp] theorem ovl_111 : ovlT Tryz.prog 111 = false := by kernel_rfl
@[simp] theorem call_112 : callable Tryz.prog 112 = true := by kernel_rfl
@[simp] theorem ovl_112 : ovlT Tryz.prog 112 = false := by kernel_rfl
@[simp] theorem call_113 : callable Tryz.prog 113 = true := by kernel_rfl
@[simp] theorem ovl_113 : ovlT Tryz.prog 113 = false := by kernel_rfl
@[simp] theorem call_114 : callable Tryz.prog 114 = true := by kernel_rfl
@[simp] theorem ovl_114 : ovlT Tryz.prog 114 = false := by kernel_rfl
@[simp] theorem call_115 : callable Tryz.prog 115 = true := by kernel_rfl
@[simp] theorem ovl_115 : ovlT Tryz.prog 115 = false := by kernel_rfl
@[simp] theorem call_116 : callable Tryz.prog 116 = true := by kernel_rfl
@[simp] theorem ovl_116 : ovlT Tryz.prog 116 = false := by kernel_rfl
@[simp] theorem call_117 : callable Tryz.prog 117 = true := by kernel_rfl
@[simp] theorem ovl_117 : ovlT Tryz.prog 117 = false := by kernel_rfl
@[simp] theorem call_118 : callable Tryz.prog 118 = true := by kernel_rfl
@[simp] theorem ovl_118 : ovlT Tryz.prog 118 = false := by kernel_rfl
@[simp] theorem call_119 : callable Tryz.prog 119 = true := by kernel_rfl
@[simp] theorem ovl_119 : ovlT Tryz.prog 119 = false := by kernel_rfl
@[simp] theorem call_120 : callable Tryz.prog 120 = true := by kernel_rfl
@[simp] theorem ovl_120 : ovlT Tryz.prog 120 = false := by kernel_rfl
@[simp] theorem call_121 : callable Tryz.prog 121 = true := by kernel_rfl
@[simp] theorem ovl_121 : ovlT Tryz.prog 121 = false := by kernel_rfl
@[simp] theorem call_122 : callable Tryz.prog 122 = true := by kernel_rfl
@[simp] theorem ovl_122 : ovlT Tryz.prog 122 = false := by kernel_rfl
@[simp] theorem call_123 : callable Tryz.prog 123 = true := by kernel_rfl
@[simp] theorem ovl_123 : ovlT Tryz.prog 123 = false := by kernel_rfl
@[simp] theorem call_124 : callable Tryz.prog 124 = true := by kernel_rfl
@[simp] theorem ovl_124 : ovlT Tryz.prog 124 = false := by kernel_rfl
@[simp] theorem call_125 : callable Tryz.prog 125 = true := by kernel_rfl
@[simp] theorem ovl_125 : ovlT Tryz.prog 125 = false := by kernel_rfl
@[simp] theorem call_126 : callable Tryz.prog 126 = true := by kernel_rfl
@[simp] theorem ovl_126 : ovlT Tryz.prog 126 = false := by kernel_rfl
@[simp] theorem call_127 : callable Tryz.prog 127 = true := by kernel_rfl
@[simp] theorem ovl_127 : ovlT Tryz.prog 127 = false := by kernel_rfl
@[simp] theorem call_128 : callable Tryz.prog 128 = true := by kernel_rfl
@[simp] theorem ovl_128 : ovlT Tryz.prog 128 = false := by kernel_rfl
@[simp] theorem call_129 : callable Tryz.prog 129 = true := by kernel_rfl
@[simp] theorem ovl_129 : ovlT Tryz.prog 129 = false := by kernel_rfl
@[simp] theorem call_130 : callable Tryz.prog 130 = true := by kernel_rfl
@[simp] theorem ovl_130 : ovlT Tryz.prog 130 = false := by kernel_rfl
@[simp] theorem call_131 : callable Tryz.prog 131 = true := by kernel_rfl
@[simp] theorem ovl_131 : ovlT Tryz.prog 131 = false := by kernel_rfl
@[simp] theorem call_132 : callable Tryz.prog 132 = true := by kernel_rfl
@[simp] theorem ovl_132 : ovlT Tryz.prog 132 = false := by kernel_rfl
@[simp] theorem call_133 : callable Tryz.prog 133 = true := by kernel_rfl
@[simp] theorem ovl_133 : ovlT Tryz.prog 133 = false := by kernel_rfl
@[simp] theorem call_134 : callable Tryz.prog 134 = true := by kernel_rfl
@[simp] theorem ovl_134 : ovlT Tryz.prog 134 = false := by kernel_rfl
@[simp] theorem call_135 : callable Tryz.prog 135 = true := by kernel_rfl
@[simp] theorem ovl_135 : ovlT Tryz.prog 135 = false := by kernel_rfl
@[simp] theorem call_136 : callable Tryz.prog 136 = true := by kernel_rfl
@[simp] theorem ovl_136 : ovlT Tryz.prog 136 = false := by kernel_rfl
@[simp] theorem call_137 : callable Tryz.prog 137 = true := by kernel_rfl
@[simp] theorem ovl_137 : ovlT Tryz.prog 137 = false := by kernel_rfl
@[simp] theorem call_138 : callable Tryz.prog 138 = true := by kernel_rfl
@[simp] theorem ovl_138 : ovlT Tryz.prog 138 = false := by kernel_rfl
@[simp] theorem call_139 : callable Tryz.prog 139 = true := by kernel_rfl
@[simp] theorem ovl_139 : ovlT Tryz.prog 139 = false := by kernel_rfl
@[simp] theorem call_140 : callable Tryz.prog 140 = true := by kernel_rfl
@[simp] theorem ovl_140 : ovlT Tryz.prog 140 = false := by kernel_rfl
@[simp] theorem call_141 : callable Tryz.prog 141 = true := by kernel_rfl
@[simp] theorem ovl_141 : ovlT Tryz.prog 141 = false := by kernel_rfl
@[simp] theorem call_142 : callable Tryz.prog 142 = true := by kernel_rfl
@[simp] theorem ovl_142 : ovlT Tryz.prog 142 = false := by kernel_rfl
@[simp] theorem call_143 : callable Tryz.prog 143 = true := by kernel_rfl
@[simp] theorem ovl_143 : ovlT Tryz.prog 143 = false := by kernel_rfl
@[simp] theorem call_144 : callable Tryz.prog 144 = true := by kernel_rfl
@[simp] theorem ovl_144 : ovlT Tryz.prog 144 = false := by kernel_rfl
@[simp] theorem call_145 : callable Tryz.prog 145 = true := by kernel_rfl
@[simp] theorem ovl_145 : ovlT Tryz.prog 145 = false := by kernel_rfl
@[simp] theorem call_146 : callable Tryz.prog 146 = true := by kernel_rfl
@[simp] theorem ovl_146 : ovlT Tryz.prog 146 = false := by kernel_rfl
@[simp] theorem call_147 : callable Tryz.prog 147 = true := by kernel_rfl
@[simp] theorem ovl_147 : ovlT Tryz.prog 147 = false := by kernel_rfl
@[simp] theorem call_148 : callable Tryz.prog 148 = true := by kernel_rfl
@[simp] theorem ovl_148 : ovlT Tryz.prog 148 = false := by kernel_rfl
@[simp] theorem call_149 : callable Tryz.prog 149 = true := by kernel_rfl
@[simp] theorem ovl_149 : ovlT Tryz.prog 149 = false := by kernel_rfl
@[simp] theorem call_150 : callable Tryz.prog 150 = true := by kernel_rfl
@[simp] theorem ovl_150 : ovlT Tryz.prog 150 = false := by kernel_rfl
@[simp] theorem call_151 : callable Tryz.prog 151 = true := by kernel_rfl
@[simp] theorem ovl_151 : ovlT Tryz.prog 151 = false := by kernel_rfl
@[simp] theorem call_152 : callable Tryz.prog 152 = true := by kernel_rfl
@[simp] theorem ovl_152 : ovlT Tryz.prog 152 = false := by kernel_rfl
@[simp] theorem call_153 : callable Tryz.prog 153 = true := by kernel_rfl
@[simp] theorem ovl_153 : ovlT Tryz.prog 153 = false := by kernel_rfl
@[simp] theorem call_154 : callable Tryz.prog 154 = true := by kernel_rfl
@[simp] theorem ovl_154 : ovlT Tryz.prog 154 = false := by kernel_rfl
@[simp] theorem call_155 : callable Tryz.prog 155 = true := by kernel_rfl
@[simp] theorem ovl_155 : ovlT Tryz.prog 155 = false := by kernel_rfl
@[simp] theorem call_156 : callable Tryz.prog 156 = true := by kernel_rfl
@[simp] theorem ovl_156 : ovlT Tryz.prog 156 = false := by kernel_rfl
@[simp] theorem call_157 : callable Tryz.prog 157 = true := by kernel_rfl
@[simp] theorem ovl_157 : ovlT Tryz.prog 157 = false := by kernel_rfl
@[simp] theorem call_158 : callable Tryz.prog 158 = true := by kernel_rfl
@[simp] theorem ovl_158 : ovlT Tryz.prog 158 = false := by kernel_rfl
@[simp] theorem call_159 : callable Tryz.prog 159 = true := by kernel_rfl
@[simp] theorem ovl_159 : ovlT Tryz.prog 159 = false := by kernel_rfl
@[simp] theorem call_160 : callable Tryz.prog 160 = true := by kernel_rfl
@[simp] theorem ovl_160 : ovlT Tryz.prog 160 = false := by kernel_rfl
@[simp] theorem call_161 : callable Tryz.prog 161 = true := by kernel_rfl
@[simp] theorem ovl_161 : ovlT Tryz.prog 161 = false := by kernel_rfl
@[simp] theorem call_162 : callable Tryz.prog 162 = true := by kernel_rfl
@[simp] theorem ovl_162 : ovlT Tryz.prog 162 = false := by kernel_rfl
@[simp] theorem call_163 : callable Tryz.prog 163 = true := by kernel_rfl
@[simp] theorem ovl_163 : ovlT Tryz.prog 163 = false := by kernel_rfl
@[simp] theorem call_164 : callable Tryz.prog 164 = true := by kernel_rfl
@[simp] theorem ovl_164 : ovlT Tryz.prog 164 = false := by kernel_rfl
@[simp] theorem call_165 : callable Tryz.prog 165 = true := by kernel_rfl
@[simp] theorem ovl_165 : ovlT Tryz.prog 165 = false := by kernel_rfl
@[simp] theorem call_166 : callable Tryz.prog 166 = true := by kernel_rfl
@[simp] theorem ovl_166 : ovlT Tryz.prog 166 = false := by kernel_rfl
@[simp] theorem call_167 : callable Tryz.prog 167 = true := by kernel_rfl
@[simp] theorem ovl_167 : ovlT Tryz.prog 167 = false := by kernel_rfl
@[simp] theorem call_168 : callable Tryz.prog 168 = true := by kernel_rfl
@[simp] theorem ovl_168 : ovlT Tryz.prog 168 = false := by kernel_rfl
@[simp] theorem call_169 : callable Tryz.prog 169 = true := by kernel_rfl
@[simp] theorem ovl_169 : ovlT Tryz.prog 169 = false := by kernel_rfl
@[simp] theorem call_170 : callable Tryz.prog 170 = true := by kernel_rfl
@[simp] theorem ovl_170 : ovlT Tryz.prog 170 = false := by kernel_rfl
@[simp] theorem call_171 : callable Tryz.prog 171 = true := by kernel_rfl
@[simp] theorem ovl_171 : ovlT Tryz.prog 171 = false := by kernel_rfl
@[simp] theorem call_172 : callable Tryz.prog 172 = true := by kernel_rfl
@[simp] theorem ovl_172 : ovlT Tryz.prog 172 = false := by kernel_rfl
@[simp] theorem call_173 : callable Tryz.prog 173 = true := by kernel_rfl
@[simp] theorem ovl_173 : ovlT Tryz.prog 173 = false := by kernel_rfl
@[simp] theorem call_174 : callable Tryz.prog 174 = true := by kernel_rfl
@[simp] theorem ovl_174 : ovlT Tryz.prog 174 = false := by kernel_rfl
@[simp] theorem call_175 : callable Tryz.prog 175 = true := by kernel_rfl
@[simp] theorem ovl_175 : ovlT Tryz.prog 175 = false := by kernel_rfl
@[simp] theorem call_177 : callable Tryz.prog 177 = true := by kernel_rfl
@[simp] theorem ovl_177 : ovlT Tryz.prog 177 = false := by kernel_rfl
@[simp] theorem call_178 : callable Tryz.prog 178 = true := by kernel_rfl
@[simp] theorem ovl_178 : ovlT Tryz.prog 178 = false := by kernel_rfl
@[simp] theorem call_179 : callable Tryz.prog 179 = true := by kernel_rfl
@[simp] theorem ovl_179 : ovlT Tryz.prog 179 = false := by kernel_rfl
@[simp] theorem call_180 : callable Tryz.prog 180 = true := by kernel_rfl
@[simp] theorem ovl_180 : ovlT Tryz.prog 180 = false := by kernel_rfl
@[simp] theorem call_181 : callable Tryz.prog 181 = true := by kernel_rfl
@[simp] theorem ovl_181 : ovlT Tryz.prog 181 = false := by kernel_rfl
@[simp] theorem call_182 : callable Tryz.prog 182 = true := by kernel_rfl
@[simp] theorem ovl_182 : ovlT Tryz.prog 182 = false := by kernel_rfl
@[simp] theorem call_183 : callable Tryz.prog 183 = true := by kernel_rfl
@[simp] theorem ovl_183 : ovlT Tryz.prog 183 = false := by kernel_rfl
@[simp] theorem call_184 : callable Tryz.prog 184 = true := by kernel_rfl
@[simp] theorem ovl_184 : ovlT Tryz.prog 184 = false := by kernel_rfl
@[simp] theorem call_185 : callable Tryz.prog 185 = true := by kernel_rfl
@[simp] theorem ovl_185 : ovlT Tryz.prog 185 = false := by kernel_rfl
@[simp] theorem call_186 : callable Tryz.prog 186 = true := by kernel_rfl
@[simp] theorem ovl_186 : ovlT Tryz.prog 186 = false := by kernel_rfl
@[simp] theorem call_187 : callable Tryz.prog 187 = true := by kernel_rfl
@[simp] theorem ovl_187 : ovlT Tryz.prog 187 = false := by kernel_rfl
@[simp] theorem call_188 : callable Tryz.prog 188 = true := by kernel_rfl
@[simp] theorem ovl_188 : ovlT Tryz.prog 188 = false := by kernel_rfl
@[simp] theorem call_189 : callable Tryz.prog 189 = true := by kernel_rfl
@[simp] theorem ovl_189 : ovlT Tryz.prog 189 = false := by kernel_rfl
@[simp] theorem call_190 : callable Tryz.prog 190 = true := by kernel_rfl
@[simp] theorem ovl_190 : ovlT Tryz.prog 190 = false := by kernel_rfl
@[simp] theorem ovl_176 : ovlT Tryz.prog 176 = true := by kernel_rfl
theorem mixed : Tryz.prog.follows .mixedOrders = true := by kernel_rfl
end Go.Proofs.YtcjncgfhkgcbnaaGreatDoor
