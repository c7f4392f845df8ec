import Derived.Test.YtjgdlocgoiinbaaGreatDoorRows
import Derived.Test.YtjgdlocgoiinbaaGreatDoorG4
namespace Go.Proofs.YtjgdlocgoiinbaaGreatDoor
open Go.RowKit

@[simp] theorem ty_1 : tyT Tryz.prog 1 = some (1, false) := by kernel_rfl
@[simp] theorem sl_1 : slT Tryz.prog 1 = none := by kernel_rfl
@[simp] theorem zero_1 : zeroT Tryz.prog 1 = some ([.nilFunc]) := by kernel_rfl
@[simp] theorem str_1 : isStrT Tryz.prog 1 = false := by kernel_rfl
@[simp] theorem isint_1 : isIntT Tryz.prog 1 = false := by kernel_rfl
@[simp] theorem ty_2 : tyT Tryz.prog 2 = some (1, false) := by kernel_rfl
@[simp] theorem sl_2 : slT Tryz.prog 2 = none := by kernel_rfl
@[simp] theorem zero_2 : zeroT Tryz.prog 2 = some ([.int .i64 0]) := by kernel_rfl
@[simp] theorem int_2 : intT Tryz.prog 2 = some .i64 := by kernel_rfl
@[simp] theorem str_2 : isStrT Tryz.prog 2 = false := by kernel_rfl
@[simp] theorem isint_2 : isIntT Tryz.prog 2 = true := by kernel_rfl
@[simp] theorem ty_3 : tyT Tryz.prog 3 = some (1, false) := by kernel_rfl
@[simp] theorem sl_3 : slT Tryz.prog 3 = none := by kernel_rfl
@[simp] theorem zero_3 : zeroT Tryz.prog 3 = some ([.int .i64 0]) := by kernel_rfl
@[simp] theorem int_3 : intT Tryz.prog 3 = some .i64 := by kernel_rfl
@[simp] theorem str_3 : isStrT Tryz.prog 3 = false := by kernel_rfl
@[simp] theorem isint_3 : isIntT Tryz.prog 3 = true := by kernel_rfl
@[simp] theorem ty_4 : tyT Tryz.prog 4 = some (1, false) := by kernel_rfl
@[simp] theorem sl_4 : slT Tryz.prog 4 = none := by kernel_rfl
@[simp] theorem zero_4 : zeroT Tryz.prog 4 = some ([.bool false]) := by kernel_rfl
@[simp] theorem str_4 : isStrT Tryz.prog 4 = false := by kernel_rfl
@[simp] theorem isint_4 : isIntT Tryz.prog 4 = false := by kernel_rfl
@[simp] theorem bool_4 : isBoolT Tryz.prog 4 = true := by kernel_rfl
@[simp] theorem ty_5 : tyT Tryz.prog 5 = some (1, false) := by kernel_rfl
@[simp] theorem sl_5 : slT Tryz.prog 5 = none := by kernel_rfl
@[simp] theorem zero_5 : zeroT Tryz.prog 5 = some ([.int .u8 0]) := by kernel_rfl
@[simp] theorem int_5 : intT Tryz.prog 5 = some .u8 := by kernel_rfl
@[simp] theorem str_5 : isStrT Tryz.prog 5 = false := by kernel_rfl
@[simp] theorem isint_5 : isIntT Tryz.prog 5 = true := by kernel_rfl
@[simp] theorem ty_7 : tyT Tryz.prog 7 = some (4, true) := by kernel_rfl
@[simp] theorem sl_7 : slT Tryz.prog 7 = none := by kernel_rfl
@[simp] theorem fld_7_0 : fldT Tryz.prog 7 0 = some (0, 1, false) := by kernel_rfl
@[simp] theorem fld_7_1 : fldT Tryz.prog 7 1 = some (1, 1, false) := by kernel_rfl
@[simp] theorem fld_7_2 : fldT Tryz.prog 7 2 = some (2, 1, false) := by kernel_rfl
@[simp] theorem fld_7_3 : fldT Tryz.prog 7 3 = some (3, 1, false) := by kernel_rfl
@[simp] theorem pl_7 : plT Tryz.prog 7 = some fun i => [(0, 1), (1, 1), (2, 1), (3, 1)][i]? := by kernel_rfl
@[simp] theorem zero_7 : zeroT Tryz.prog 7 = some ([.int .i64 0, .int .i64 0, .bool false, .int .u8 0]) := by kernel_rfl
@[simp] theorem str_7 : isStrT Tryz.prog 7 = false := by kernel_rfl
@[simp] theorem isint_7 : isIntT Tryz.prog 7 = false := by kernel_rfl
@[simp] theorem ty_9 : tyT Tryz.prog 9 = some (1, false) := by kernel_rfl
@[simp] theorem sl_9 : slT Tryz.prog 9 = none := by kernel_rfl
@[simp] theorem zero_9 : zeroT Tryz.prog 9 = some ([.string ByteArray.empty]) := by kernel_rfl
@[simp] theorem str_9 : isStrT Tryz.prog 9 = true := by kernel_rfl
@[simp] theorem isint_9 : isIntT Tryz.prog 9 = false := by kernel_rfl
@[simp] theorem ty_12 : tyT Tryz.prog 12 = some (1, false) := by kernel_rfl
@[simp] theorem sl_12 : slT Tryz.prog 12 = none := by kernel_rfl
@[simp] theorem zero_12 : zeroT Tryz.prog 12 = some ([.int .u64 0]) := by kernel_rfl
@[simp] theorem int_12 : intT Tryz.prog 12 = some .u64 := by kernel_rfl
@[simp] theorem str_12 : isStrT Tryz.prog 12 = false := by kernel_rfl
@[simp] theorem isint_12 : isIntT Tryz.prog 12 = true := by kernel_rfl
@[simp] theorem ty_13 : tyT Tryz.prog 13 = some (2, true) := by kernel_rfl
@[simp] theorem sl_13 : slT Tryz.prog 13 = none := by kernel_rfl
@[simp] theorem fld_13_0 : fldT Tryz.prog 13 0 = some (0, 1, false) := by kernel_rfl
@[simp] theorem fld_13_1 : fldT Tryz.prog 13 1 = some (1, 1, false) := by kernel_rfl
@[simp] theorem pl_13 : plT Tryz.prog 13 = some fun i => [(0, 1), (1, 1)][i]? := by kernel_rfl
@[simp] theorem zero_13 : zeroT Tryz.prog 13 = some ([.string ByteArray.empty, .int .u64 0]) := by kernel_rfl
@[simp] theorem str_13 : isStrT Tryz.prog 13 = false := by kernel_rfl
@[simp] theorem isint_13 : isIntT Tryz.prog 13 = false := by kernel_rfl
@[simp] theorem ty_18 : tyT Tryz.prog 18 = some (1, true) := by kernel_rfl
@[simp] theorem sl_18 : slT Tryz.prog 18 = none := by kernel_rfl
@[simp] theorem fld_18_0 : fldT Tryz.prog 18 0 = some (0, 1, false) := by kernel_rfl
@[simp] theorem pl_18 : plT Tryz.prog 18 = some fun i => [(0, 1)][i]? := by kernel_rfl
@[simp] theorem zero_18 : zeroT Tryz.prog 18 = some ([.pointer none]) := by kernel_rfl
@[simp] theorem str_18 : isStrT Tryz.prog 18 = false := by kernel_rfl
@[simp] theorem isint_18 : isIntT Tryz.prog 18 = false := by kernel_rfl
@[simp] theorem ty_19 : tyT Tryz.prog 19 = some (1, true) := by kernel_rfl
@[simp] theorem sl_19 : slT Tryz.prog 19 = none := by kernel_rfl
@[simp] theorem fld_19_0 : fldT Tryz.prog 19 0 = some (0, 1, false) := by kernel_rfl
@[simp] theorem pl_19 : plT Tryz.prog 19 = some fun i => [(0, 1)][i]? := by kernel_rfl
@[simp] theorem zero_19 : zeroT Tryz.prog 19 = some ([.pointer none]) := by kernel_rfl
@[simp] theorem str_19 : isStrT Tryz.prog 19 = false := by kernel_rfl
@[simp] theorem isint_19 : isIntT Tryz.prog 19 = false := by kernel_rfl
@[simp] theorem if_20 : ifT Tryz.prog 20 = true := by kernel_rfl
@[simp] theorem ty_21 : tyT Tryz.prog 21 = some (1, false) := by kernel_rfl
@[simp] theorem sl_21 : slT Tryz.prog 21 = none := by kernel_rfl
@[simp] theorem zero_21 : zeroT Tryz.prog 21 = some ([.int .i32 0]) := by kernel_rfl
@[simp] theorem int_21 : intT Tryz.prog 21 = some .i32 := by kernel_rfl
@[simp] theorem str_21 : isStrT Tryz.prog 21 = false := by kernel_rfl
@[simp] theorem isint_21 : isIntT Tryz.prog 21 = true := by kernel_rfl
@[simp] theorem ty_22 : tyT Tryz.prog 22 = some (1, false) := by kernel_rfl
@[simp] theorem sl_22 : slT Tryz.prog 22 = none := by kernel_rfl
@[simp] theorem zero_22 : zeroT Tryz.prog 22 = some ([.int .i64 0]) := by kernel_rfl
@[simp] theorem int_22 : intT Tryz.prog 22 = some .i64 := by kernel_rfl
@[simp] theorem str_22 : isStrT Tryz.prog 22 = false := by kernel_rfl
@[simp] theorem isint_22 : isIntT Tryz.prog 22 = true := by kernel_rfl
@[simp] theorem ty_23 : tyT Tryz.prog 23 = some (4, true) := by kernel_rfl
@[simp] theorem sl_23 : slT Tryz.prog 23 = none := by kernel_rfl
@[simp] theorem fld_23_0 : fldT Tryz.prog 23 0 = some (0, 1, false) := by kernel_rfl
@[simp] theorem fld_23_1 : fldT Tryz.prog 23 1 = some (1, 1, false) := by kernel_rfl
@[simp] theorem fld_23_2 : fldT Tryz.prog 23 2 = some (2, 1, false) := by kernel_rfl
@[simp] theorem fld_23_3 : fldT Tryz.prog 23 3 = some (3, 1, false) := by kernel_rfl
@[simp] theorem pl_23 : plT Tryz.prog 23 = some fun i => [(0, 1), (1, 1), (2, 1), (3, 1)][i]? := by kernel_rfl
@[simp] theorem zero_23 : zeroT Tryz.prog 23 = some ([.int .i64 0, .int .i64 0, .int .i64 0, .string ByteArray.empty]) := by kernel_rfl
@[simp] theorem str_23 : isStrT Tryz.prog 23 = false := by kernel_rfl
@[simp] theorem isint_23 : isIntT Tryz.prog 23 = false := by kernel_rfl
@[simp] theorem ty_24 : tyT Tryz.prog 24 = some (4, true) := by kernel_rfl
@[simp] theorem sl_24 : slT Tryz.prog 24 = none := by kernel_rfl
@[simp] theorem fld_24_0 : fldT Tryz.prog 24 0 = some (0, 1, false) := by kernel_rfl
@[simp] theorem fld_24_1 : fldT Tryz.prog 24 1 = some (1, 1, false) := by kernel_rfl
@[simp] theorem fld_24_2 : fldT Tryz.prog 24 2 = some (2, 1, false) := by kernel_rfl
@[simp] theorem fld_24_3 : fldT Tryz.prog 24 3 = some (3, 1, false) := by kernel_rfl
@[simp] theorem pl_24 : plT Tryz.prog 24 = some fun i => [(0, 1), (1, 1), (2, 1), (3, 1)][i]? := by kernel_rfl
@[simp] theorem flat_24 : flatT Tryz.prog 24 = some [.i, .i, .i, .s] := by kernel_rfl
@[simp] theorem zero_24 : zeroT Tryz.prog 24 = some ([.int .i64 0, .int .i64 0, .int .i64 0, .string ByteArray.empty]) := by kernel_rfl
@[simp] theorem str_24 : isStrT Tryz.prog 24 = false := by kernel_rfl
@[simp] theorem isint_24 : isIntT Tryz.prog 24 = false := by kernel_rfl
@[simp] theorem ty_25 : tyT Tryz.prog 25 = some (1, false) := by kernel_rfl
@[simp] theorem sl_25 : slT Tryz.prog 25 = none := by kernel_rfl
@[simp] theorem zero_25 : zeroT Tryz.prog 25 = some ([.nilFunc]) := by kernel_rfl
@[simp] theorem str_25 : isStrT Tryz.prog 25 = false := by kernel_rfl
@[simp] theorem isint_25 : isIntT Tryz.prog 25 = false := by kernel_rfl
@[simp] theorem ty_27 : tyT Tryz.prog 27 = some (1, false) := by kernel_rfl
@[simp] theorem sl_27 : slT Tryz.prog 27 = none := by kernel_rfl
@[simp] theorem zero_27 : zeroT Tryz.prog 27 = some ([.nilFunc]) := by kernel_rfl
@[simp] theorem str_27 : isStrT Tryz.prog 27 = false := by kernel_rfl
@[simp] theorem isint_27 : isIntT Tryz.prog 27 = false := by kernel_rfl
@[simp] theorem ty_28 : tyT Tryz.prog 28 = some (1, false) := by kernel_rfl
@[simp] theorem sl_28 : slT Tryz.prog 28 = none := by kernel_rfl
@[simp] theorem zero_28 : zeroT Tryz.prog 28 = some ([.nilFunc]) := by kernel_rfl
@[simp] theorem str_28 : isStrT Tryz.prog 28 = false := by kernel_rfl
@[simp] theorem isint_28 : isIntT Tryz.prog 28 = false := by kernel_rfl
@[simp] theorem ty_29 : tyT Tryz.prog 29 = some (1, false) := by kernel_rfl
@[simp] theorem sl_29 : slT Tryz.prog 29 = none := by kernel_rfl
@[simp] theorem zero_29 : zeroT Tryz.prog 29 = some ([.nilFunc]) := by kernel_rfl
@[simp] theorem str_29 : isStrT Tryz.prog 29 = false := by kernel_rfl
@[simp] theorem isint_29 : isIntT Tryz.prog 29 = false := by kernel_rfl
@[simp] theorem ty_30 : tyT Tryz.prog 30 = some (1, false) := by kernel_rfl
@[simp] theorem sl_30 : slT Tryz.prog 30 = none := by kernel_rfl
@[simp] theorem zero_30 : zeroT Tryz.prog 30 = some ([.nilFunc]) := by kernel_rfl
@[simp] theorem str_30 : isStrT Tryz.prog 30 = false := by kernel_rfl
@[simp] theorem isint_30 : isIntT Tryz.prog 30 = false := by kernel_rfl
@[simp] theorem ty_31 : tyT Tryz.prog 31 = some (1, false) := by kernel_rfl
@[simp] theorem sl_31 : slT Tryz.prog 31 = none := by kernel_rfl
@[simp] theorem zero_31 : zeroT Tryz.prog 31 = some ([.nilFunc]) := by kernel_rfl
@[simp] theorem str_31 : isStrT Tryz.prog 31 = false := by kernel_rfl
@[simp] theorem isint_31 : isIntT Tryz.prog 31 = false := by kernel_rfl
@[simp] theorem ty_32 : tyT Tryz.prog 32 = some (1, false) := by kernel_rfl
@[simp] theorem sl_32 : slT Tryz.prog 32 = none := by kernel_rfl
@[simp] theorem zero_32 : zeroT Tryz.prog 32 = some ([.nilFunc]) := by kernel_rfl
@[simp] theorem str_32 : isStrT Tryz.prog 32 = false := by kernel_rfl
@[simp] theorem isint_32 : isIntT Tryz.prog 32 = false := by kernel_rfl
@[simp] theorem ty_34 : tyT Tryz.prog 34 = some (1, false) := by kernel_rfl
@[simp] theorem sl_34 : slT Tryz.prog 34 = none := by kernel_rfl
@[simp] theorem zero_34 : zeroT Tryz.prog 34 = some ([.nilFunc]) := by kernel_rfl
@[simp] theorem str_34 : isStrT Tryz.prog 34 = false := by kernel_rfl
@[simp] theorem isint_34 : isIntT Tryz.prog 34 = false := by kernel_rfl
@[simp] theorem ty_35 : tyT Tryz.prog 35 = some (1, false) := by kernel_rfl
@[simp] theorem sl_35 : slT Tryz.prog 35 = none := by kernel_rfl
@[simp] theorem zero_35 : zeroT Tryz.prog 35 = some ([.nilFunc]) := by kernel_rfl
@[simp] theorem str_35 : isStrT Tryz.prog 35 = false := by kernel_rfl
@[simp] theorem isint_35 : isIntT Tryz.prog 35 = false := by kernel_rfl
@[simp] theorem ty_36 : tyT Tryz.prog 36 = some (1, false) := by kernel_rfl
@[simp] theorem sl_36 : slT Tryz.prog 36 = none := by kernel_rfl
@[simp] theorem zero_36 : zeroT Tryz.prog 36 = some ([.nilFunc]) := by kernel_rfl
@[simp] theorem str_36 : isStrT Tryz.prog 36 = false := by kernel_rfl
@[simp] theorem isint_36 : isIntT Tryz.prog 36 = false := by kernel_rfl
@[simp] theorem ty_37 : tyT Tryz.prog 37 = some (1, false) := by kernel_rfl
@[simp] theorem sl_37 : slT Tryz.prog 37 = none := by kernel_rfl
@[simp] theorem zero_37 : zeroT Tryz.prog 37 = some ([.int .i64 0]) := by kernel_rfl
@[simp] theorem int_37 : intT Tryz.prog 37 = some .i64 := by kernel_rfl
@[simp] theorem str_37 : isStrT Tryz.prog 37 = false := by kernel_rfl
@[simp] theorem isint_37 : isIntT Tryz.prog 37 = true := by kernel_rfl
@[simp] theorem ty_38 : tyT Tryz.prog 38 = some (1, false) := by kernel_rfl
@[simp] theorem sl_38 : slT Tryz.prog 38 = none := by kernel_rfl
@[simp] theorem zero_38 : zeroT Tryz.prog 38 = some ([.nilFunc]) := by kernel_rfl
@[simp] theorem str_38 : isStrT Tryz.prog 38 = false := by kernel_rfl
@[simp] theorem isint_38 : isIntT Tryz.prog 38 = false := by kernel_rfl
@[simp] theorem ty_39 : tyT Tryz.prog 39 = some (1, false) := by kernel_rfl
@[simp] theorem sl_39 : slT Tryz.prog 39 = none := by kernel_rfl
@[simp] theorem zero_39 : zeroT Tryz.prog 39 = some ([.nilFunc]) := by kernel_rfl
@[simp] theorem str_39 : isStrT Tryz.prog 39 = false := by kernel_rfl
@[simp] theorem isint_39 : isIntT Tryz.prog 39 = false := by kernel_rfl
@[simp] theorem ty_40 : tyT Tryz.prog 40 = some (1, false) := by kernel_rfl
@[simp] theorem sl_40 : slT Tryz.prog 40 = none := by kernel_rfl
@[simp] theorem zero_40 : zeroT Tryz.prog 40 = some ([.nilFunc]) := by kernel_rfl
@[simp] theorem str_40 : isStrT Tryz.prog 40 = false := by kernel_rfl
@[simp] theorem isint_40 : isIntT Tryz.prog 40 = false := by kernel_rfl
@[simp] theorem ty_41 : tyT Tryz.prog 41 = some (1, false) := by kernel_rfl
@[simp] theorem sl_41 : slT Tryz.prog 41 = none := by kernel_rfl
@[simp] theorem zero_41 : zeroT Tryz.prog 41 = some ([.nilFunc]) := by kernel_rfl
@[simp] theorem str_41 : isStrT Tryz.prog 41 = false := by kernel_rfl
@[simp] theorem isint_41 : isIntT Tryz.prog 41 = false := by kernel_rfl
@[simp] theorem ty_42 : tyT Tryz.prog 42 = some (1, false) := by kernel_rfl
@[simp] theorem sl_42 : slT Tryz.prog 42 = none := by kernel_rfl
@[simp] theorem zero_42 : zeroT Tryz.prog 42 = some ([.nilFunc]) := by kernel_rfl
@[simp] theorem str_42 : isStrT Tryz.prog 42 = false := by kernel_rfl
@[simp] theorem isint_42 : isIntT Tryz.prog 42 = false := by kernel_rfl
@[simp] theorem ty_43 : tyT Tryz.prog 43 = some (2, true) := by kernel_rfl
@[simp] theorem sl_43 : slT Tryz.prog 43 = none := by kernel_rfl
@[simp] theorem fld_43_0 : fldT Tryz.prog 43 0 = some (0, 1, false) := by kernel_rfl
@[simp] theorem fld_43_1 : fldT Tryz.prog 43 1 = some (1, 1, false) := by kernel_rfl
@[simp] theorem pl_43 : plT Tryz.prog 43 = some fun i => [(0, 1), (1, 1)][i]? := by kernel_rfl
@[simp] theorem zero_43 : zeroT Tryz.prog 43 = some ([.int .i64 0, .int .i64 0]) := by kernel_rfl
@[simp] theorem str_43 : isStrT Tryz.prog 43 = false := by kernel_rfl
@[simp] theorem isint_43 : isIntT Tryz.prog 43 = false := by kernel_rfl
@[simp] theorem ty_44 : tyT Tryz.prog 44 = some (2, true) := by kernel_rfl
@[simp] theorem sl_44 : slT Tryz.prog 44 = none := by kernel_rfl
@[simp] theorem fld_44_0 : fldT Tryz.prog 44 0 = some (0, 1, false) := by kernel_rfl
@[simp] theorem fld_44_1 : fldT Tryz.prog 44 1 = some (1, 1, false) := by kernel_rfl
@[simp] theorem pl_44 : plT Tryz.prog 44 = some fun i => [(0, 1), (1, 1)][i]? := by kernel_rfl
@[simp] theorem flat_44 : flatT Tryz.prog 44 = some [.i, .i] := by kernel_rfl
@[simp] theorem zero_44 : zeroT Tryz.prog 44 = some ([.int .i64 0, .int .i64 0]) := by kernel_rfl
@[simp] theorem str_44 : isStrT Tryz.prog 44 = false := by kernel_rfl
@[simp] theorem isint_44 : isIntT Tryz.prog 44 = false := by kernel_rfl
@[simp] theorem ty_45 : tyT Tryz.prog 45 = some (1, false) := by kernel_rfl
@[simp] theorem sl_45 : slT Tryz.prog 45 = none := by kernel_rfl
@[simp] theorem zero_45 : zeroT Tryz.prog 45 = some ([.nilFunc]) := by kernel_rfl
@[simp] theorem str_45 : isStrT Tryz.prog 45 = false := by kernel_rfl
@[simp] theorem isint_45 : isIntT Tryz.prog 45 = false := by kernel_rfl
@[simp] theorem ty_46 : tyT Tryz.prog 46 = some (1, false) := by kernel_rfl
@[simp] theorem sl_46 : slT Tryz.prog 46 = some (9, 1, 16) := by kernel_rfl
@[simp] theorem zero_46 : zeroT Tryz.prog 46 = some ([.slice none 0 0]) := by kernel_rfl
@[simp] theorem str_46 : isStrT Tryz.prog 46 = false := by kernel_rfl
@[simp] theorem isint_46 : isIntT Tryz.prog 46 = false := by kernel_rfl
@[simp] theorem ty_47 : tyT Tryz.prog 47 = some (1, false) := by kernel_rfl
@[simp] theorem sl_47 : slT Tryz.prog 47 = some (5, 1, 1) := by kernel_rfl
@[simp] theorem zero_47 : zeroT Tryz.prog 47 = some ([.slice none 0 0]) := by kernel_rfl
@[simp] theorem str_47 : isStrT Tryz.prog 47 = false := by kernel_rfl
@[simp] theorem isint_47 : isIntT Tryz.prog 47 = false := by kernel_rfl
@[simp] theorem ty_48 : tyT Tryz.prog 48 = some (1, false) := by kernel_rfl
@[simp] theorem sl_48 : slT Tryz.prog 48 = none := by kernel_rfl
@[simp] theorem zero_48 : zeroT Tryz.prog 48 = some ([.nilFunc]) := by kernel_rfl
@[simp] theorem str_48 : isStrT Tryz.prog 48 = false := by kernel_rfl
@[simp] theorem isint_48 : isIntT Tryz.prog 48 = false := by kernel_rfl
@[simp] theorem ty_49 : tyT Tryz.prog 49 = some (1, false) := by kernel_rfl
@[simp] theorem sl_49 : slT Tryz.prog 49 = none := by kernel_rfl
@[simp] theorem zero_49 : zeroT Tryz.prog 49 = some ([.nilFunc]) := by kernel_rfl
@[simp] theorem str_49 : isStrT Tryz.prog 49 = false := by kernel_rfl
@[simp] theorem isint_49 : isIntT Tryz.prog 49 = false := by kernel_rfl
@[simp] theorem ty_50 : tyT Tryz.prog 50 = some (1, false) := by kernel_rfl
@[simp] theorem sl_50 : slT Tryz.prog 50 = some (59, 7, 72) := by kernel_rfl
@[simp] theorem zero_50 : zeroT Tryz.prog 50 = some ([.slice none 0 0]) := by kernel_rfl
@[simp] theorem str_50 : isStrT Tryz.prog 50 = false := by kernel_rfl
@[simp] theorem isint_50 : isIntT Tryz.prog 50 = false := by kernel_rfl
@[simp] theorem ty_51 : tyT Tryz.prog 51 = some (1, false) := by kernel_rfl
@[simp] theorem sl_51 : slT Tryz.prog 51 = none := by kernel_rfl
@[simp] theorem zero_51 : zeroT Tryz.prog 51 = some ([.int .i64 0]) := by kernel_rfl
@[simp] theorem int_51 : intT Tryz.prog 51 = some .i64 := by kernel_rfl
@[simp] theorem str_51 : isStrT Tryz.prog 51 = false := by kernel_rfl
@[simp] theorem isint_51 : isIntT Tryz.prog 51 = true := by kernel_rfl
@[simp] theorem ty_53 : tyT Tryz.prog 53 = some (1, false) := by kernel_rfl
@[simp] theorem sl_53 : slT Tryz.prog 53 = none := by kernel_rfl
@[simp] theorem zero_53 : zeroT Tryz.prog 53 = some ([.nilFunc]) := by kernel_rfl
@[simp] theorem str_53 : isStrT Tryz.prog 53 = false := by kernel_rfl
@[simp] theorem isint_53 : isIntT Tryz.prog 53 = false := by kernel_rfl
@[simp] theorem ty_55 : tyT Tryz.prog 55 = some (1, false) := by kernel_rfl
@[simp] theorem sl_55 : slT Tryz.prog 55 = none := by kernel_rfl
@[simp] theorem zero_55 : zeroT Tryz.prog 55 = some ([.nilFunc]) := by kernel_rfl
@[simp] theorem str_55 : isStrT Tryz.prog 55 = false := by kernel_rfl
@[simp] theorem isint_55 : isIntT Tryz.prog 55 = false := by kernel_rfl
@[simp] theorem ty_56 : tyT Tryz.prog 56 = some (1, false) := by kernel_rfl
@[simp] theorem sl_56 : slT Tryz.prog 56 = none := by kernel_rfl
@[simp] theorem zero_56 : zeroT Tryz.prog 56 = some ([.nilFunc]) := by kernel_rfl
@[simp] theorem str_56 : isStrT Tryz.prog 56 = false := by kernel_rfl
@[simp] theorem isint_56 : isIntT Tryz.prog 56 = false := by kernel_rfl
@[simp] theorem ty_57 : tyT Tryz.prog 57 = some (1, false) := by kernel_rfl
@[simp] theorem sl_57 : slT Tryz.prog 57 = none := by kernel_rfl
@[simp] theorem zero_57 : zeroT Tryz.prog 57 = some ([.int .i64 0]) := by kernel_rfl
@[simp] theorem int_57 : intT Tryz.prog 57 = some .i64 := by kernel_rfl
@[simp] theorem str_57 : isStrT Tryz.prog 57 = false := by kernel_rfl
@[simp] theorem isint_57 : isIntT Tryz.prog 57 = true := by kernel_rfl
@[simp] theorem ty_58 : tyT Tryz.prog 58 = some (7, true) := by kernel_rfl
@[simp] theorem sl_58 : slT Tryz.prog 58 = none := by kernel_rfl
@[simp] theorem fld_58_0 : fldT Tryz.prog 58 0 = some (0, 1, false) := by kernel_rfl
@[simp] theorem fld_58_1 : fldT Tryz.prog 58 1 = some (1, 1, false) := by kernel_rfl
@[simp] theorem fld_58_2 : fldT Tryz.prog 58 2 = some (2, 1, false) := by kernel_rfl
@[simp] theorem fld_58_3 : fldT Tryz.prog 58 3 = some (3, 4, true) := by kernel_rfl
@[simp] theorem pl_58 : plT Tryz.prog 58 = some fun i => [(0, 1), (1, 1), (2, 1), (3, 4)][i]? := by kernel_rfl
@[simp] theorem zero_58 : zeroT Tryz.prog 58 = some ([.int .i64 0, .int .i64 0, .string ByteArray.empty, .int .i64 0, .int .i64 0, .int .i64 0, .string ByteArray.empty]) := by kernel_rfl
@[simp] theorem str_58 : isStrT Tryz.prog 58 = false := by kernel_rfl
@[simp] theorem isint_58 : isIntT Tryz.prog 58 = false := by kernel_rfl
@[simp] theorem ty_59 : tyT Tryz.prog 59 = some (7, true) := by kernel_rfl
@[simp] theorem sl_59 : slT Tryz.prog 59 = none := by kernel_rfl
@[simp] theorem fld_59_0 : fldT Tryz.prog 59 0 = some (0, 1, false) := by kernel_rfl
@[simp] theorem fld_59_1 : fldT Tryz.prog 59 1 = some (1, 1, false) := by kernel_rfl
@[simp] theorem fld_59_2 : fldT Tryz.prog 59 2 = some (2, 1, false) := by kernel_rfl
@[simp] theorem fld_59_3 : fldT Tryz.prog 59 3 = some (3, 4, true) := by kernel_rfl
@[simp] theorem pl_59 : plT Tryz.prog 59 = some fun i => [(0, 1), (1, 1), (2, 1), (3, 4)][i]? := by kernel_rfl
@[simp] theorem flat_59 : flatT Tryz.prog 59 = some [.i, .i, .s, .i, .i, .i, .s] := by kernel_rfl
@[simp] theorem zero_59 : zeroT Tryz.prog 59 = some ([.int .i64 0, .int .i64 0, .string ByteArray.empty, .int .i64 0, .int .i64 0, .int .i64 0, .string ByteArray.empty]) := by kernel_rfl
@[simp] theorem str_59 : isStrT Tryz.prog 59 = false := by kernel_rfl
@[simp] theorem isint_59 : isIntT Tryz.prog 59 = false := by kernel_rfl
@[simp] theorem ty_60 : tyT Tryz.prog 60 = some (1, false) := by kernel_rfl
@[simp] theorem sl_60 : slT Tryz.prog 60 = none := by kernel_rfl
@[simp] theorem zero_60 : zeroT Tryz.prog 60 = some ([.nilFunc]) := by kernel_rfl
@[simp] theorem str_60 : isStrT Tryz.prog 60 = false := by kernel_rfl
@[simp] theorem isint_60 : isIntT Tryz.prog 60 = false := by kernel_rfl
@[simp] theorem ty_61 : tyT Tryz.prog 61 = some (1, false) := by kernel_rfl
@[simp] theorem sl_61 : slT Tryz.prog 61 = none := by kernel_rfl
@[simp] theorem zero_61 : zeroT Tryz.prog 61 = some ([.nilFunc]) := by kernel_rfl
@[simp] theorem str_61 : isStrT Tryz.prog 61 = false := by kernel_rfl
@[simp] theorem isint_61 : isIntT Tryz.prog 61 = false := by kernel_rfl
@[simp] theorem ty_62 : tyT Tryz.prog 62 = some (1, false) := by kernel_rfl
@[simp] theorem sl_62 : slT Tryz.prog 62 = none := by kernel_rfl
@[simp] theorem zero_62 : zeroT Tryz.prog 62 = some ([.nilFunc]) := by kernel_rfl
@[simp] theorem str_62 : isStrT Tryz.prog 62 = false := by kernel_rfl
@[simp] theorem isint_62 : isIntT Tryz.prog 62 = false := by kernel_rfl
@[simp] theorem ty_63 : tyT Tryz.prog 63 = some (1, false) := by kernel_rfl
@[simp] theorem sl_63 : slT Tryz.prog 63 = none := by kernel_rfl
@[simp] theorem zero_63 : zeroT Tryz.prog 63 = some ([.nilFunc]) := by kernel_rfl
@[simp] theorem str_63 : isStrT Tryz.prog 63 = false := by kernel_rfl
@[simp] theorem isint_63 : isIntT Tryz.prog 63 = false := by kernel_rfl
@[simp] theorem ty_64 : tyT Tryz.prog 64 = some (1, false) := by kernel_rfl
@[simp] theorem sl_64 : slT Tryz.prog 64 = none := by kernel_rfl
@[simp] theorem zero_64 : zeroT Tryz.prog 64 = some ([.nilFunc]) := by kernel_rfl
@[simp] theorem str_64 : isStrT Tryz.prog 64 = false := by kernel_rfl
@[simp] theorem isint_64 : isIntT Tryz.prog 64 = false := by kernel_rfl
@[simp] theorem ty_65 : tyT Tryz.prog 65 = some (1, false) := by kernel_rfl
@[simp] theorem sl_65 : slT Tryz.prog 65 = none := by kernel_rfl
@[simp] theorem zero_65 : zeroT Tryz.prog 65 = some ([.nilFunc]) := by kernel_rfl
@[simp] theorem str_65 : isStrT Tryz.prog 65 = false := by kernel_rfl
@[simp] theorem isint_65 : isIntT Tryz.prog 65 = false := by kernel_rfl
@[simp] theorem ty_66 : tyT Tryz.prog 66 = some (1, false) := by kernel_rfl
@[simp] theorem sl_66 : slT Tryz.prog 66 = none := by kernel_rfl
@[simp] theorem zero_66 : zeroT Tryz.prog 66 = some ([.nilFunc]) := by kernel_rfl
@[simp] theorem str_66 : isStrT Tryz.prog 66 = false := by kernel_rfl
@[simp] theorem isint_66 : isIntT Tryz.prog 66 = false := by kernel_rfl
@[simp] theorem ty_67 : tyT Tryz.prog 67 = some (1, false) := by kernel_rfl
@[simp] theorem sl_67 : slT Tryz.prog 67 = none := by kernel_rfl
@[simp] theorem zero_67 : zeroT Tryz.prog 67 = some ([.nilFunc]) := by kernel_rfl
@[simp] theorem str_67 : isStrT Tryz.prog 67 = false := by kernel_rfl
@[simp] theorem isint_67 : isIntT Tryz.prog 67 = false := by kernel_rfl
@[simp] theorem ty_68 : tyT Tryz.prog 68 = some (1, false) := by kernel_rfl
@[simp] theorem sl_68 : slT Tryz.prog 68 = none := by kernel_rfl
@[simp] theorem zero_68 : zeroT Tryz.prog 68 = some ([.nilFunc]) := by kernel_rfl
@[simp] theorem str_68 : isStrT Tryz.prog 68 = false := by kernel_rfl
@[simp] theorem isint_68 : isIntT Tryz.prog 68 = false := by kernel_rfl
@[simp] theorem ty_69 : tyT Tryz.prog 69 = some (1, false) := by kernel_rfl
@[simp] theorem sl_69 : slT Tryz.prog 69 = none := by kernel_rfl
@[simp] theorem zero_69 : zeroT Tryz.prog 69 = some ([.nilFunc]) := by kernel_rfl
@[simp] theorem str_69 : isStrT Tryz.prog 69 = false := by kernel_rfl
@[simp] theorem isint_69 : isIntT Tryz.prog 69 = false := by kernel_rfl
@[simp] theorem ty_70 : tyT Tryz.prog 70 = some (1, false) := by kernel_rfl
@[simp] theorem sl_70 : slT Tryz.prog 70 = none := by kernel_rfl
@[simp] theorem zero_70 : zeroT Tryz.prog 70 = some ([.nilFunc]) := by kernel_rfl
@[simp] theorem str_70 : isStrT Tryz.prog 70 = false := by kernel_rfl
@[simp] theorem isint_70 : isIntT Tryz.prog 70 = false := by kernel_rfl
@[simp] theorem ty_71 : tyT Tryz.prog 71 = some (1, false) := by kernel_rfl
@[simp] theorem sl_71 : slT Tryz.prog 71 = none := by kernel_rfl
@[simp] theorem zero_71 : zeroT Tryz.prog 71 = some ([.nilFunc]) := by kernel_rfl
@[simp] theorem str_71 : isStrT Tryz.prog 71 = false := by kernel_rfl
@[simp] theorem isint_71 : isIntT Tryz.prog 71 = false := by kernel_rfl
@[simp] theorem ty_72 : tyT Tryz.prog 72 = some (1, false) := by kernel_rfl
@[simp] theorem sl_72 : slT Tryz.prog 72 = none := by kernel_rfl
@[simp] theorem zero_72 : zeroT Tryz.prog 72 = some ([.nilFunc]) := by kernel_rfl
@[simp] theorem str_72 : isStrT Tryz.prog 72 = false := by kernel_rfl
@[simp] theorem isint_72 : isIntT Tryz.prog 72 = false := by kernel_rfl
@[simp] theorem ty_74 : tyT Tryz.prog 74 = some (1, false) := by kernel_rfl
@[simp] theorem sl_74 : slT Tryz.prog 74 = none := by kernel_rfl
@[simp] theorem zero_74 : zeroT Tryz.prog 74 = some ([.nilFunc]) := by kernel_rfl
@[simp] theorem str_74 : isStrT Tryz.prog 74 = false := by kernel_rfl
@[simp] theorem isint_74 : isIntT Tryz.prog 74 = false := by kernel_rfl
@[simp] theorem ty_76 : tyT Tryz.prog 76 = some (1, false) := by kernel_rfl
@[simp] theorem sl_76 : slT Tryz.prog 76 = none := by kernel_rfl
@[simp] theorem zero_76 : zeroT Tryz.prog 76 = some ([.nilFunc]) := by kernel_rfl
@[simp] theorem str_76 : isStrT Tryz.prog 76 = false := by kernel_rfl
@[simp] theorem isint_76 : isIntT Tryz.prog 76 = false := by kernel_rfl
@[simp] theorem ty_77 : tyT Tryz.prog 77 = some (6, true) := by kernel_rfl
@[simp] theorem sl_77 : slT Tryz.prog 77 = none := by kernel_rfl
@[simp] theorem arx_77 : arX Tryz.prog 77 = some (6, 1, false) := by kernel_rfl
@[simp] theorem ar_77 : arT Tryz.prog 77 = some (6, 1) := by kernel_rfl
@[simp] theorem pl_77 : plT Tryz.prog 77 = some fun i => some (i * 1, 1) := by kernel_rfl
@[simp] theorem zero_77 : zeroT Tryz.prog 77 = some ([.string ByteArray.empty, .string ByteArray.empty, .string ByteArray.empty, .string ByteArray.empty, .string ByteArray.empty, .string ByteArray.empty]) := by kernel_rfl
@[simp] theorem str_77 : isStrT Tryz.prog 77 = false := by kernel_rfl
@[simp] theorem isint_77 : isIntT Tryz.prog 77 = false := by kernel_rfl
@[simp] theorem ty_79 : tyT Tryz.prog 79 = some (1, false) := by kernel_rfl
@[simp] theorem sl_79 : slT Tryz.prog 79 = none := by kernel_rfl
@[simp] theorem zero_79 : zeroT Tryz.prog 79 = some ([.nilFunc]) := by kernel_rfl
@[simp] theorem str_79 : isStrT Tryz.prog 79 = false := by kernel_rfl
@[simp] theorem isint_79 : isIntT Tryz.prog 79 = false := by kernel_rfl
@[simp] theorem ty_80 : tyT Tryz.prog 80 = some (1, false) := by kernel_rfl
@[simp] theorem sl_80 : slT Tryz.prog 80 = none := by kernel_rfl
@[simp] theorem zero_80 : zeroT Tryz.prog 80 = some ([.nilFunc]) := by kernel_rfl
@[simp] theorem str_80 : isStrT Tryz.prog 80 = false := by kernel_rfl
@[simp] theorem isint_80 : isIntT Tryz.prog 80 = false := by kernel_rfl
@[simp] theorem ty_81 : tyT Tryz.prog 81 = some (1, false) := by kernel_rfl
@[simp] theorem sl_81 : slT Tryz.prog 81 = none := by kernel_rfl
@[simp] theorem zero_81 : zeroT Tryz.prog 81 = some ([.nilFunc]) := by kernel_rfl
@[simp] theorem str_81 : isStrT Tryz.prog 81 = false := by kernel_rfl
@[simp] theorem isint_81 : isIntT Tryz.prog 81 = false := by kernel_rfl
@[simp] theorem ty_82 : tyT Tryz.prog 82 = some (1, false) := by kernel_rfl
@[simp] theorem sl_82 : slT Tryz.prog 82 = none := by kernel_rfl
@[simp] theorem zero_82 : zeroT Tryz.prog 82 = some ([.nilFunc]) := by kernel_rfl
@[simp] theorem str_82 : isStrT Tryz.prog 82 = false := by kernel_rfl
@[simp] theorem isint_82 : isIntT Tryz.prog 82 = false := by kernel_rfl
@[simp] theorem ty_83 : tyT Tryz.prog 83 = some (1, false) := by kernel_rfl
@[simp] theorem sl_83 : slT Tryz.prog 83 = some (3, 1, 8) := by kernel_rfl
@[simp] theorem zero_83 : zeroT Tryz.prog 83 = some ([.slice none 0 0]) := by kernel_rfl
@[simp] theorem str_83 : isStrT Tryz.prog 83 = false := by kernel_rfl
@[simp] theorem isint_83 : isIntT Tryz.prog 83 = false := by kernel_rfl
@[simp] theorem ty_84 : tyT Tryz.prog 84 = some (1, false) := by kernel_rfl
@[simp] theorem sl_84 : slT Tryz.prog 84 = some (3, 1, 8) := by kernel_rfl
@[simp] theorem zero_84 : zeroT Tryz.prog 84 = some ([.slice none 0 0]) := by kernel_rfl
@[simp] theorem str_84 : isStrT Tryz.prog 84 = false := by kernel_rfl
@[simp] theorem isint_84 : isIntT Tryz.prog 84 = false := by kernel_rfl
@[simp] theorem ty_85 : tyT Tryz.prog 85 = some (1, false) := by kernel_rfl
@[simp] theorem sl_85 : slT Tryz.prog 85 = none := by kernel_rfl
@[simp] theorem zero_85 : zeroT Tryz.prog 85 = some ([.nilFunc]) := by kernel_rfl
@[simp] theorem str_85 : isStrT Tryz.prog 85 = false := by kernel_rfl
@[simp] theorem isint_85 : isIntT Tryz.prog 85 = false := by kernel_rfl
@[simp] theorem ty_86 : tyT Tryz.prog 86 = some (1, false) := by kernel_rfl
@[simp] theorem sl_86 : slT Tryz.prog 86 = none := by kernel_rfl
@[simp] theorem zero_86 : zeroT Tryz.prog 86 = some ([.nilFunc]) := by kernel_rfl
@[simp] theorem str_86 : isStrT Tryz.prog 86 = false := by kernel_rfl
@[simp] theorem isint_86 : isIntT Tryz.prog 86 = false := by kernel_rfl
@[simp] theorem ty_87 : tyT Tryz.prog 87 = some (1, false) := by kernel_rfl
@[simp] theorem sl_87 : slT Tryz.prog 87 = none := by kernel_rfl
@[simp] theorem zero_87 : zeroT Tryz.prog 87 = some ([.nilFunc]) := by kernel_rfl
@[simp] theorem str_87 : isStrT Tryz.prog 87 = false := by kernel_rfl
@[simp] theorem isint_87 : isIntT Tryz.prog 87 = false := by kernel_rfl
@[simp] theorem ty_88 : tyT Tryz.prog 88 = some (1, false) := by kernel_rfl
@[simp] theorem sl_88 : slT Tryz.prog 88 = none := by kernel_rfl
@[simp] theorem zero_88 : zeroT Tryz.prog 88 = some ([.nilFunc]) := by kernel_rfl
@[simp] theorem str_88 : isStrT Tryz.prog 88 = false := by kernel_rfl
@[simp] theorem isint_88 : isIntT Tryz.prog 88 = false := by kernel_rfl
@[simp] theorem ty_89 : tyT Tryz.prog 89 = some (1, false) := by kernel_rfl
@[simp] theorem sl_89 : slT Tryz.prog 89 = none := by kernel_rfl
@[simp] theorem zero_89 : zeroT Tryz.prog 89 = some ([.nilFunc]) := by kernel_rfl
@[simp] theorem str_89 : isStrT Tryz.prog 89 = false := by kernel_rfl
@[simp] theorem isint_89 : isIntT Tryz.prog 89 = false := by kernel_rfl
@[simp] theorem ty_90 : tyT Tryz.prog 90 = some (1, false) := by kernel_rfl
@[simp] theorem sl_90 : slT Tryz.prog 90 = none := by kernel_rfl
@[simp] theorem zero_90 : zeroT Tryz.prog 90 = some ([.nilFunc]) := by kernel_rfl
@[simp] theorem str_90 : isStrT Tryz.prog 90 = false := by kernel_rfl
@[simp] theorem isint_90 : isIntT Tryz.prog 90 = false := by kernel_rfl
@[simp] theorem ty_91 : tyT Tryz.prog 91 = some (1, false) := by kernel_rfl
@[simp] theorem sl_91 : slT Tryz.prog 91 = none := by kernel_rfl
@[simp] theorem zero_91 : zeroT Tryz.prog 91 = some ([.int .u64 0]) := by kernel_rfl
@[simp] theorem int_91 : intT Tryz.prog 91 = some .u64 := by kernel_rfl
@[simp] theorem str_91 : isStrT Tryz.prog 91 = false := by kernel_rfl
@[simp] theorem isint_91 : isIntT Tryz.prog 91 = true := by kernel_rfl
@[simp] theorem ty_92 : tyT Tryz.prog 92 = some (1, false) := by kernel_rfl
@[simp] theorem sl_92 : slT Tryz.prog 92 = none := by kernel_rfl
@[simp] theorem zero_92 : zeroT Tryz.prog 92 = some ([.nilFunc]) := by kernel_rfl
@[simp] theorem str_92 : isStrT Tryz.prog 92 = false := by kernel_rfl
@[simp] theorem isint_92 : isIntT Tryz.prog 92 = false := by kernel_rfl
@[simp] theorem ty_93 : tyT Tryz.prog 93 = some (1, false) := by kernel_rfl
@[simp] theorem sl_93 : slT Tryz.prog 93 = none := by kernel_rfl
@[simp] theorem zero_93 : zeroT Tryz.prog 93 = some ([.nilFunc]) := by kernel_rfl
@[simp] theorem str_93 : isStrT Tryz.prog 93 = false := by kernel_rfl
@[simp] theorem isint_93 : isIntT Tryz.prog 93 = false := by kernel_rfl
@[simp] theorem ty_94 : tyT Tryz.prog 94 = some (1, false) := by kernel_rfl
@[simp] theorem sl_94 : slT Tryz.prog 94 = none := by kernel_rfl
@[simp] theorem zero_94 : zeroT Tryz.prog 94 = some ([.nilFunc]) := by kernel_rfl
@[simp] theorem str_94 : isStrT Tryz.prog 94 = false := by kernel_rfl
@[simp] theorem isint_94 : isIntT Tryz.prog 94 = false := by kernel_rfl
@[simp] theorem ty_95 : tyT Tryz.prog 95 = some (256, true) := by kernel_rfl
@[simp] theorem sl_95 : slT Tryz.prog 95 = none := by kernel_rfl
@[simp] theorem arx_95 : arX Tryz.prog 95 = some (256, 1, false) := by kernel_rfl
@[simp] theorem ar_95 : arT Tryz.prog 95 = some (256, 1) := by kernel_rfl
@[simp] theorem pl_95 : plT Tryz.prog 95 = some fun i => some (i * 1, 1) := by kernel_rfl
@[simp] theorem zero_95 : zeroT Tryz.prog 95 = some (List.replicate 256 (.int .u8 0)) := by kernel_rfl
@[simp] theorem str_95 : isStrT Tryz.prog 95 = false := by kernel_rfl
@[simp] theorem isint_95 : isIntT Tryz.prog 95 = false := by kernel_rfl
@[simp] theorem ty_96 : tyT Tryz.prog 96 = some (2, true) := by kernel_rfl
@[simp] theorem sl_96 : slT Tryz.prog 96 = none := by kernel_rfl
@[simp] theorem fld_96_0 : fldT Tryz.prog 96 0 = some (0, 1, false) := by kernel_rfl
@[simp] theorem fld_96_1 : fldT Tryz.prog 96 1 = some (1, 1, false) := by kernel_rfl
@[simp] theorem pl_96 : plT Tryz.prog 96 = some fun i => [(0, 1), (1, 1)][i]? := by kernel_rfl
@[simp] theorem zero_96 : zeroT Tryz.prog 96 = some ([.int .u8 0, .int .u8 0]) := by kernel_rfl
@[simp] theorem str_96 : isStrT Tryz.prog 96 = false := by kernel_rfl
@[simp] theorem isint_96 : isIntT Tryz.prog 96 = false := by kernel_rfl
@[simp] theorem ty_97 : tyT Tryz.prog 97 = some (2, true) := by kernel_rfl
@[simp] theorem sl_97 : slT Tryz.prog 97 = none := by kernel_rfl
@[simp] theorem fld_97_0 : fldT Tryz.prog 97 0 = some (0, 1, false) := by kernel_rfl
@[simp] theorem fld_97_1 : fldT Tryz.prog 97 1 = some (1, 1, false) := by kernel_rfl
@[simp] theorem pl_97 : plT Tryz.prog 97 = some fun i => [(0, 1), (1, 1)][i]? := by kernel_rfl
@[simp] theorem zero_97 : zeroT Tryz.prog 97 = some ([.int .u8 0, .int .u8 0]) := by kernel_rfl
@[simp] theorem str_97 : isStrT Tryz.prog 97 = false := by kernel_rfl
@[simp] theorem isint_97 : isIntT Tryz.prog 97 = false := by kernel_rfl
@[simp] theorem ty_98 : tyT Tryz.prog 98 = some (32, true) := by kernel_rfl
@[simp] theorem sl_98 : slT Tryz.prog 98 = none := by kernel_rfl
@[simp] theorem arx_98 : arX Tryz.prog 98 = some (16, 2, true) := by kernel_rfl
@[simp] theorem ar_98 : arT Tryz.prog 98 = some (16, 2) := by kernel_rfl
@[simp] theorem pl_98 : plT Tryz.prog 98 = some fun i => some (i * 2, 2) := by kernel_rfl
@[simp] theorem zero_98 : zeroT Tryz.prog 98 = some (List.replicate 32 (.int .u8 0)) := by kernel_rfl
@[simp] theorem str_98 : isStrT Tryz.prog 98 = false := by kernel_rfl
@[simp] theorem isint_98 : isIntT Tryz.prog 98 = false := by kernel_rfl
@[simp] theorem ty_99 : tyT Tryz.prog 99 = some (1, false) := by kernel_rfl
@[simp] theorem sl_99 : slT Tryz.prog 99 = none := by kernel_rfl
@[simp] theorem zero_99 : zeroT Tryz.prog 99 = some ([.nilFunc]) := by kernel_rfl
@[simp] theorem str_99 : isStrT Tryz.prog 99 = false := by kernel_rfl
@[simp] theorem isint_99 : isIntT Tryz.prog 99 = false := by kernel_rfl
@[simp] theorem ty_100 : tyT Tryz.prog 100 = some (1, false) := by kernel_rfl
@[simp] theorem sl_100 : slT Tryz.prog 100 = none := by kernel_rfl
@[simp] theorem zero_100 : zeroT Tryz.prog 100 = some ([.nilFunc]) := by kernel_rfl
@[simp] theorem str_100 : isStrT Tryz.prog 100 = false := by kernel_rfl
@[simp] theorem isint_100 : isIntT Tryz.prog 100 = false := by kernel_rfl
@[simp] theorem ty_101 : tyT Tryz.prog 101 = some (1, false) := by kernel_rfl
@[simp] theorem sl_101 : slT Tryz.prog 101 = none := by kernel_rfl
@[simp] theorem zero_101 : zeroT Tryz.prog 101 = some ([.nilFunc]) := by kernel_rfl
@[simp] theorem str_101 : isStrT Tryz.prog 101 = false := by kernel_rfl
@[simp] theorem isint_101 : isIntT Tryz.prog 101 = false := by kernel_rfl
@[simp] theorem ty_102 : tyT Tryz.prog 102 = some (1, false) := by kernel_rfl
@[simp] theorem sl_102 : slT Tryz.prog 102 = none := by kernel_rfl
@[simp] theorem zero_102 : zeroT Tryz.prog 102 = some ([.nilFunc]) := by kernel_rfl
@[simp] theorem str_102 : isStrT Tryz.prog 102 = false := by kernel_rfl
@[simp] theorem isint_102 : isIntT Tryz.prog 102 = false := by kernel_rfl
@[simp] theorem ty_103 : tyT Tryz.prog 103 = some (1, false) := by kernel_rfl
@[simp] theorem sl_103 : slT Tryz.prog 103 = none := by kernel_rfl
@[simp] theorem zero_103 : zeroT Tryz.prog 103 = some ([.nilFunc]) := by kernel_rfl
@[simp] theorem str_103 : isStrT Tryz.prog 103 = false := by kernel_rfl
@[simp] theorem isint_103 : isIntT Tryz.prog 103 = false := by kernel_rfl
@[simp] theorem ty_104 : tyT Tryz.prog 104 = some (1, false) := by kernel_rfl
@[simp] theorem sl_104 : slT Tryz.prog 104 = none := by kernel_rfl
@[simp] theorem zero_104 : zeroT Tryz.prog 104 = some ([.nilFunc]) := by kernel_rfl
@[simp] theorem str_104 : isStrT Tryz.prog 104 = false := by kernel_rfl
@[simp] theorem isint_104 : isIntT Tryz.prog 104 = false := by kernel_rfl
@[simp] theorem ty_105 : tyT Tryz.prog 105 = some (1, false) := by kernel_rfl
@[simp] theorem sl_105 : slT Tryz.prog 105 = none := by kernel_rfl
@[simp] theorem zero_105 : zeroT Tryz.prog 105 = some ([.int .u64 0]) := by kernel_rfl
@[simp] theorem int_105 : intT Tryz.prog 105 = some .u64 := by kernel_rfl
@[simp] theorem str_105 : isStrT Tryz.prog 105 = false := by kernel_rfl
@[simp] theorem isint_105 : isIntT Tryz.prog 105 = true := by kernel_rfl
@[simp] theorem ty_106 : tyT Tryz.prog 106 = some (2, true) := by kernel_rfl
@[simp] theorem sl_106 : slT Tryz.prog 106 = none := by kernel_rfl
@[simp] theorem fld_106_0 : fldT Tryz.prog 106 0 = some (0, 1, false) := by kernel_rfl
@[simp] theorem fld_106_1 : fldT Tryz.prog 106 1 = some (1, 1, false) := by kernel_rfl
@[simp] theorem pl_106 : plT Tryz.prog 106 = some fun i => [(0, 1), (1, 1)][i]? := by kernel_rfl
@[simp] theorem zero_106 : zeroT Tryz.prog 106 = some ([.int .u64 0, .int .u64 0]) := by kernel_rfl
@[simp] theorem str_106 : isStrT Tryz.prog 106 = false := by kernel_rfl
@[simp] theorem isint_106 : isIntT Tryz.prog 106 = false := by kernel_rfl
@[simp] theorem ty_107 : tyT Tryz.prog 107 = some (2, true) := by kernel_rfl
@[simp] theorem sl_107 : slT Tryz.prog 107 = none := by kernel_rfl
@[simp] theorem fld_107_0 : fldT Tryz.prog 107 0 = some (0, 1, false) := by kernel_rfl
@[simp] theorem fld_107_1 : fldT Tryz.prog 107 1 = some (1, 1, false) := by kernel_rfl
@[simp] theorem pl_107 : plT Tryz.prog 107 = some fun i => [(0, 1), (1, 1)][i]? := by kernel_rfl
@[simp] theorem zero_107 : zeroT Tryz.prog 107 = some ([.int .u64 0, .int .u64 0]) := by kernel_rfl
@[simp] theorem str_107 : isStrT Tryz.prog 107 = false := by kernel_rfl
@[simp] theorem isint_107 : isIntT Tryz.prog 107 = false := by kernel_rfl
@[simp] theorem ty_108 : tyT Tryz.prog 108 = some (1, false) := by kernel_rfl
@[simp] theorem sl_108 : slT Tryz.prog 108 = none := by kernel_rfl
@[simp] theorem zero_108 : zeroT Tryz.prog 108 = some ([.nilFunc]) := by kernel_rfl
@[simp] theorem str_108 : isStrT Tryz.prog 108 = false := by kernel_rfl
@[simp] theorem isint_108 : isIntT Tryz.prog 108 = false := by kernel_rfl
@[simp] theorem ty_109 : tyT Tryz.prog 109 = some (1, false) := by kernel_rfl
@[simp] theorem sl_109 : slT Tryz.prog 109 = none := by kernel_rfl
@[simp] theorem zero_109 : zeroT Tryz.prog 109 = some ([.nilFunc]) := by kernel_rfl
@[simp] theorem str_109 : isStrT Tryz.prog 109 = false := by kernel_rfl
@[simp] theorem isint_109 : isIntT Tryz.prog 109 = false := by kernel_rfl
@[simp] theorem ty_110 : tyT Tryz.prog 110 = some (1, false) := by kernel_rfl
@[simp] theorem sl_110 : slT Tryz.prog 110 = none := by kernel_rfl
@[simp] theorem zero_110 : zeroT Tryz.prog 110 = some ([.nilFunc]) := by kernel_rfl
@[simp] theorem str_110 : isStrT Tryz.prog 110 = false := by kernel_rfl
@[simp] theorem isint_110 : isIntT Tryz.prog 110 = false := by kernel_rfl
@[simp] theorem ty_111 : tyT Tryz.prog 111 = some (1, false) := by kernel_rfl
@[simp] theorem sl_111 : slT Tryz.prog 111 = none := by kernel_rfl
@[simp] theorem zero_111 : zeroT Tryz.prog 111 = some ([.pointer none]) := by kernel_rfl
@[simp] theorem str_111 : isStrT Tryz.prog 111 = false := by kernel_rfl
@[simp] theorem isint_111 : isIntT Tryz.prog 111 = false := by kernel_rfl
@[simp] theorem ptr_111 : isPtrT Tryz.prog 111 = true := by kernel_rfl
@[simp] theorem ty_112 : tyT Tryz.prog 112 = some (2, true) := by kernel_rfl
@[simp] theorem sl_112 : slT Tryz.prog 112 = none := by kernel_rfl
@[simp] theorem fld_112_0 : fldT Tryz.prog 112 0 = some (0, 1, false) := by kernel_rfl
@[simp] theorem fld_112_1 : fldT Tryz.prog 112 1 = some (1, 1, false) := by kernel_rfl
@[simp] theorem pl_112 : plT Tryz.prog 112 = some fun i => [(0, 1), (1, 1)][i]? := by kernel_rfl
@[simp] theorem zero_112 : zeroT Tryz.prog 112 = some ([.pointer none, .slice none 0 0]) := by kernel_rfl
@[simp] theorem str_112 : isStrT Tryz.prog 112 = false := by kernel_rfl
@[simp] theorem isint_112 : isIntT Tryz.prog 112 = false := by kernel_rfl
@[simp] theorem ty_113 : tyT Tryz.prog 113 = some (2, true) := by kernel_rfl
@[simp] theorem sl_113 : slT Tryz.prog 113 = none := by kernel_rfl
@[simp] theorem fld_113_0 : fldT Tryz.prog 113 0 = some (0, 1, false) := by kernel_rfl
@[simp] theorem fld_113_1 : fldT Tryz.prog 113 1 = some (1, 1, false) := by kernel_rfl
@[simp] theorem pl_113 : plT Tryz.prog 113 = some fun i => [(0, 1), (1, 1)][i]? := by kernel_rfl
@[simp] theorem zero_113 : zeroT Tryz.prog 113 = some ([.pointer none, .slice none 0 0]) := by kernel_rfl
@[simp] theorem str_113 : isStrT Tryz.prog 113 = false := by kernel_rfl
@[simp] theorem isint_113 : isIntT Tryz.prog 113 = false := by kernel_rfl
@[simp] theorem ty_114 : tyT Tryz.prog 114 = some (1, false) := by kernel_rfl
@[simp] theorem sl_114 : slT Tryz.prog 114 = none := by kernel_rfl
@[simp] theorem zero_114 : zeroT Tryz.prog 114 = some ([.nilFunc]) := by kernel_rfl
@[simp] theorem str_114 : isStrT Tryz.prog 114 = false := by kernel_rfl
@[simp] theorem isint_114 : isIntT Tryz.prog 114 = false := by kernel_rfl
@[simp] theorem if_115 : ifT Tryz.prog 115 = true := by kernel_rfl
@[simp] theorem if_116 : ifT Tryz.prog 116 = true := by kernel_rfl
@[simp] theorem ty_116 : tyT Tryz.prog 116 = some (1, false) := by kernel_rfl
@[simp] theorem sl_116 : slT Tryz.prog 116 = none := by kernel_rfl
@[simp] theorem str_116 : isStrT Tryz.prog 116 = false := by kernel_rfl
@[simp] theorem isint_116 : isIntT Tryz.prog 116 = false := by kernel_rfl
@[simp] theorem ty_118 : tyT Tryz.prog 118 = some (1, false) := by kernel_rfl
@[simp] theorem sl_118 : slT Tryz.prog 118 = none := by kernel_rfl
@[simp] theorem zero_118 : zeroT Tryz.prog 118 = some ([.nilFunc]) := by kernel_rfl
@[simp] theorem str_118 : isStrT Tryz.prog 118 = false := by kernel_rfl
@[simp] theorem isint_118 : isIntT Tryz.prog 118 = false := by kernel_rfl
@[simp] theorem ty_120 : tyT Tryz.prog 120 = some (1, false) := by kernel_rfl
@[simp] theorem sl_120 : slT Tryz.prog 120 = none := by kernel_rfl
@[simp] theorem zero_120 : zeroT Tryz.prog 120 = some ([.nilFunc]) := by kernel_rfl
@[simp] theorem str_120 : isStrT Tryz.prog 120 = false := by kernel_rfl
@[simp] theorem isint_120 : isIntT Tryz.prog 120 = false := by kernel_rfl
@[simp] theorem ty_121 : tyT Tryz.prog 121 = some (1, false) := by kernel_rfl
@[simp] theorem sl_121 : slT Tryz.prog 121 = none := by kernel_rfl
@[simp] theorem zero_121 : zeroT Tryz.prog 121 = some ([.nilFunc]) := by kernel_rfl
@[simp] theorem str_121 : isStrT Tryz.prog 121 = false := by kernel_rfl
@[simp] theorem isint_121 : isIntT Tryz.prog 121 = false := by kernel_rfl
@[simp] theorem ty_122 : tyT Tryz.prog 122 = some (1, false) := by kernel_rfl
@[simp] theorem sl_122 : slT Tryz.prog 122 = none := by kernel_rfl
@[simp] theorem zero_122 : zeroT Tryz.prog 122 = some ([.nilFunc]) := by kernel_rfl
@[simp] theorem str_122 : isStrT Tryz.prog 122 = false := by kernel_rfl
@[simp] theorem isint_122 : isIntT Tryz.prog 122 = false := by kernel_rfl
@[simp] theorem ty_124 : tyT Tryz.prog 124 = some (1, false) := by kernel_rfl
@[simp] theorem sl_124 : slT Tryz.prog 124 = none := by kernel_rfl
@[simp] theorem zero_124 : zeroT Tryz.prog 124 = some ([.nilFunc]) := by kernel_rfl
@[simp] theorem str_124 : isStrT Tryz.prog 124 = false := by kernel_rfl
@[simp] theorem isint_124 : isIntT Tryz.prog 124 = false := by kernel_rfl
@[simp] theorem ty_125 : tyT Tryz.prog 125 = some (1, false) := by kernel_rfl
@[simp] theorem sl_125 : slT Tryz.prog 125 = none := by kernel_rfl
@[simp] theorem zero_125 : zeroT Tryz.prog 125 = some ([.nilFunc]) := by kernel_rfl
@[simp] theorem str_125 : isStrT Tryz.prog 125 = false := by kernel_rfl
@[simp] theorem isint_125 : isIntT Tryz.prog 125 = false := by kernel_rfl
@[simp] theorem ty_126 : tyT Tryz.prog 126 = some (1, false) := by kernel_rfl
@[simp] theorem sl_126 : slT Tryz.prog 126 = none := by kernel_rfl
@[simp] theorem zero_126 : zeroT Tryz.prog 126 = some ([.nilFunc]) := by kernel_rfl
@[simp] theorem str_126 : isStrT Tryz.prog 126 = false := by kernel_rfl
@[simp] theorem isint_126 : isIntT Tryz.prog 126 = false := by kernel_rfl
@[simp] theorem ty_127 : tyT Tryz.prog 127 = some (1, false) := by kernel_rfl
@[simp] theorem sl_127 : slT Tryz.prog 127 = some (129, 2, 16) := by kernel_rfl
@[simp] theorem zero_127 : zeroT Tryz.prog 127 = some ([.slice none 0 0]) := by kernel_rfl
@[simp] theorem str_127 : isStrT Tryz.prog 127 = false := by kernel_rfl
@[simp] theorem isint_127 : isIntT Tryz.prog 127 = false := by kernel_rfl
@[simp] theorem ty_128 : tyT Tryz.prog 128 = some (2, true) := by kernel_rfl
@[simp] theorem sl_128 : slT Tryz.prog 128 = none := by kernel_rfl
@[simp] theorem fld_128_0 : fldT Tryz.prog 128 0 = some (0, 1, false) := by kernel_rfl
@[simp] theorem fld_128_1 : fldT Tryz.prog 128 1 = some (1, 1, false) := by kernel_rfl
@[simp] theorem pl_128 : plT Tryz.prog 128 = some fun i => [(0, 1), (1, 1)][i]? := by kernel_rfl
@[simp] theorem zero_128 : zeroT Tryz.prog 128 = some ([.int .i64 0, .int .i64 0]) := by kernel_rfl
@[simp] theorem str_128 : isStrT Tryz.prog 128 = false := by kernel_rfl
@[simp] theorem isint_128 : isIntT Tryz.prog 128 = false := by kernel_rfl
@[simp] theorem ty_129 : tyT Tryz.prog 129 = some (2, true) := by kernel_rfl
@[simp] theorem sl_129 : slT Tryz.prog 129 = none := by kernel_rfl
@[simp] theorem fld_129_0 : fldT Tryz.prog 129 0 = some (0, 1, false) := by kernel_rfl
@[simp] theorem fld_129_1 : fldT Tryz.prog 129 1 = some (1, 1, false) := by kernel_rfl
@[simp] theorem pl_129 : plT Tryz.prog 129 = some fun i => [(0, 1), (1, 1)][i]? := by kernel_rfl
@[simp] theorem zero_129 : zeroT Tryz.prog 129 = some ([.int .i64 0, .int .i64 0]) := by kernel_rfl
@[simp] theorem str_129 : isStrT Tryz.prog 129 = false := by kernel_rfl
@[simp] theorem isint_129 : isIntT Tryz.prog 129 = false := by kernel_rfl
@[simp] theorem ty_130 : tyT Tryz.prog 130 = some (1, false) := by kernel_rfl
@[simp] theorem sl_130 : slT Tryz.prog 130 = none := by kernel_rfl
@[simp] theorem zero_130 : zeroT Tryz.prog 130 = some ([.int .u32 0]) := by kernel_rfl
@[simp] theorem int_130 : intT Tryz.prog 130 = some .u32 := by kernel_rfl
@[simp] theorem str_130 : isStrT Tryz.prog 130 = false := by kernel_rfl
@[simp] theorem isint_130 : isIntT Tryz.prog 130 = true := by kernel_rfl
@[simp] theorem ty_131 : tyT Tryz.prog 131 = some (1, false) := by kernel_rfl
@[simp] theorem sl_131 : slT Tryz.prog 131 = none := by kernel_rfl
@[simp] theorem zero_131 : zeroT Tryz.prog 131 = some ([.nilFunc]) := by kernel_rfl
@[simp] theorem str_131 : isStrT Tryz.prog 131 = false := by kernel_rfl
@[simp] theorem isint_131 : isIntT Tryz.prog 131 = false := by kernel_rfl
@[simp] theorem ty_132 : tyT Tryz.prog 132 = some (1, false) := by kernel_rfl
@[simp] theorem sl_132 : slT Tryz.prog 132 = none := by kernel_rfl
@[simp] theorem zero_132 : zeroT Tryz.prog 132 = some ([.pointer none]) := by kernel_rfl
@[simp] theorem str_132 : isStrT Tryz.prog 132 = false := by kernel_rfl
@[simp] theorem isint_132 : isIntT Tryz.prog 132 = false := by kernel_rfl
@[simp] theorem ptr_132 : isPtrT Tryz.prog 132 = true := by kernel_rfl
@[simp] theorem ty_134 : tyT Tryz.prog 134 = some (1, false) := by kernel_rfl
@[simp] theorem sl_134 : slT Tryz.prog 134 = none := by kernel_rfl
@[simp] theorem zero_134 : zeroT Tryz.prog 134 = some ([.nilFunc]) := by kernel_rfl
@[simp] theorem str_134 : isStrT Tryz.prog 134 = false := by kernel_rfl
@[simp] theorem isint_134 : isIntT Tryz.prog 134 = false := by kernel_rfl
@[simp] theorem ty_135 : tyT Tryz.prog 135 = some (1, false) := by kernel_rfl
@[simp] theorem sl_135 : slT Tryz.prog 135 = none := by kernel_rfl
@[simp] theorem zero_135 : zeroT Tryz.prog 135 = some ([.nilFunc]) := by kernel_rfl
@[simp] theorem str_135 : isStrT Tryz.prog 135 = false := by kernel_rfl
@[simp] theorem isint_135 : isIntT Tryz.prog 135 = false := by kernel_rfl
@[simp] theorem ty_136 : tyT Tryz.prog 136 = some (1, false) := by kernel_rfl
@[simp] theorem sl_136 : slT Tryz.prog 136 = none := by kernel_rfl
@[simp] theorem zero_136 : zeroT Tryz.prog 136 = some ([.nilFunc]) := by kernel_rfl
@[simp] theorem str_136 : isStrT Tryz.prog 136 = false := by kernel_rfl
@[simp] theorem isint_136 : isIntT Tryz.prog 136 = false := by kernel_rfl
@[simp] theorem ty_137 : tyT Tryz.prog 137 = some (1, false) := by kernel_rfl
@[simp] theorem sl_137 : slT Tryz.prog 137 = none := by kernel_rfl
@[simp] theorem zero_137 : zeroT Tryz.prog 137 = some ([.nilFunc]) := by kernel_rfl
@[simp] theorem str_137 : isStrT Tryz.prog 137 = false := by kernel_rfl
@[simp] theorem isint_137 : isIntT Tryz.prog 137 = false := by kernel_rfl
@[simp] theorem ty_138 : tyT Tryz.prog 138 = some (1, false) := by kernel_rfl
@[simp] theorem sl_138 : slT Tryz.prog 138 = none := by kernel_rfl
@[simp] theorem zero_138 : zeroT Tryz.prog 138 = some ([.pointer none]) := by kernel_rfl
@[simp] theorem str_138 : isStrT Tryz.prog 138 = false := by kernel_rfl
@[simp] theorem isint_138 : isIntT Tryz.prog 138 = false := by kernel_rfl
@[simp] theorem ptr_138 : isPtrT Tryz.prog 138 = true := by kernel_rfl
@[simp] theorem ty_139 : tyT Tryz.prog 139 = some (1, false) := by kernel_rfl
@[simp] theorem sl_139 : slT Tryz.prog 139 = none := by kernel_rfl
@[simp] theorem zero_139 : zeroT Tryz.prog 139 = some ([.nilFunc]) := by kernel_rfl
@[simp] theorem str_139 : isStrT Tryz.prog 139 = false := by kernel_rfl
@[simp] theorem isint_139 : isIntT Tryz.prog 139 = false := by kernel_rfl
@[simp] theorem ty_140 : tyT Tryz.prog 140 = some (1, false) := by kernel_rfl
@[simp] theorem sl_140 : slT Tryz.prog 140 = none := by kernel_rfl
@[simp] theorem zero_140 : zeroT Tryz.prog 140 = some ([.nilFunc]) := by kernel_rfl
@[simp] theorem str_140 : isStrT Tryz.prog 140 = false := by kernel_rfl
@[simp] theorem isint_140 : isIntT Tryz.prog 140 = false := by kernel_rfl
@[simp] theorem ty_141 : tyT Tryz.prog 141 = some (1, false) := by kernel_rfl
@[simp] theorem sl_141 : slT Tryz.prog 141 = some (147, 3, 6) := by kernel_rfl
@[simp] theorem zero_141 : zeroT Tryz.prog 141 = some ([.slice none 0 0]) := by kernel_rfl
@[simp] theorem str_141 : isStrT Tryz.prog 141 = false := by kernel_rfl
@[simp] theorem isint_141 : isIntT Tryz.prog 141 = false := by kernel_rfl
@[simp] theorem ty_142 : tyT Tryz.prog 142 = some (1, false) := by kernel_rfl
@[simp] theorem sl_142 : slT Tryz.prog 142 = some (150, 3, 12) := by kernel_rfl
@[simp] theorem zero_142 : zeroT Tryz.prog 142 = some ([.slice none 0 0]) := by kernel_rfl
@[simp] theorem str_142 : isStrT Tryz.prog 142 = false := by kernel_rfl
@[simp] theorem isint_142 : isIntT Tryz.prog 142 = false := by kernel_rfl
@[simp] theorem ty_143 : tyT Tryz.prog 143 = some (3, true) := by kernel_rfl
@[simp] theorem sl_143 : slT Tryz.prog 143 = none := by kernel_rfl
@[simp] theorem fld_143_0 : fldT Tryz.prog 143 0 = some (0, 1, false) := by kernel_rfl
@[simp] theorem fld_143_1 : fldT Tryz.prog 143 1 = some (1, 1, false) := by kernel_rfl
@[simp] theorem fld_143_2 : fldT Tryz.prog 143 2 = some (2, 1, false) := by kernel_rfl
@[simp] theorem pl_143 : plT Tryz.prog 143 = some fun i => [(0, 1), (1, 1), (2, 1)][i]? := by kernel_rfl
@[simp] theorem zero_143 : zeroT Tryz.prog 143 = some ([.slice none 0 0, .slice none 0 0, .int .i64 0]) := by kernel_rfl
@[simp] theorem str_143 : isStrT Tryz.prog 143 = false := by kernel_rfl
@[simp] theorem isint_143 : isIntT Tryz.prog 143 = false := by kernel_rfl
@[simp] theorem ty_144 : tyT Tryz.prog 144 = some (3, true) := by kernel_rfl
@[simp] theorem sl_144 : slT Tryz.prog 144 = none := by kernel_rfl
@[simp] theorem fld_144_0 : fldT Tryz.prog 144 0 = some (0, 1, false) := by kernel_rfl
@[simp] theorem fld_144_1 : fldT Tryz.prog 144 1 = some (1, 1, false) := by kernel_rfl
@[simp] theorem fld_144_2 : fldT Tryz.prog 144 2 = some (2, 1, false) := by kernel_rfl
@[simp] theorem pl_144 : plT Tryz.prog 144 = some fun i => [(0, 1), (1, 1), (2, 1)][i]? := by kernel_rfl
@[simp] theorem zero_144 : zeroT Tryz.prog 144 = some ([.slice none 0 0, .slice none 0 0, .int .i64 0]) := by kernel_rfl
@[simp] theorem str_144 : isStrT Tryz.prog 144 = false := by kernel_rfl
@[simp] theorem isint_144 : isIntT Tryz.prog 144 = false := by kernel_rfl
@[simp] theorem ty_145 : tyT Tryz.prog 145 = some (1, false) := by kernel_rfl
@[simp] theorem sl_145 : slT Tryz.prog 145 = none := by kernel_rfl
@[simp] theorem zero_145 : zeroT Tryz.prog 145 = some ([.int .u16 0]) := by kernel_rfl
@[simp] theorem int_145 : intT Tryz.prog 145 = some .u16 := by kernel_rfl
@[simp] theorem str_145 : isStrT Tryz.prog 145 = false := by kernel_rfl
@[simp] theorem isint_145 : isIntT Tryz.prog 145 = true := by kernel_rfl
@[simp] theorem ty_146 : tyT Tryz.prog 146 = some (3, true) := by kernel_rfl
@[simp] theorem sl_146 : slT Tryz.prog 146 = none := by kernel_rfl
@[simp] theorem fld_146_0 : fldT Tryz.prog 146 0 = some (0, 1, false) := by kernel_rfl
@[simp] theorem fld_146_1 : fldT Tryz.prog 146 1 = some (1, 1, false) := by kernel_rfl
@[simp] theorem fld_146_2 : fldT Tryz.prog 146 2 = some (2, 1, false) := by kernel_rfl
@[simp] theorem pl_146 : plT Tryz.prog 146 = some fun i => [(0, 1), (1, 1), (2, 1)][i]? := by kernel_rfl
@[simp] theorem zero_146 : zeroT Tryz.prog 146 = some ([.int .u16 0, .int .u16 0, .int .u16 0]) := by kernel_rfl
@[simp] theorem str_146 : isStrT Tryz.prog 146 = false := by kernel_rfl
@[simp] theorem isint_146 : isIntT Tryz.prog 146 = false := by kernel_rfl
@[simp] theorem ty_147 : tyT Tryz.prog 147 = some (3, true) := by kernel_rfl
@[simp] theorem sl_147 : slT Tryz.prog 147 = none := by kernel_rfl
@[simp] theorem fld_147_0 : fldT Tryz.prog 147 0 = some (0, 1, false) := by kernel_rfl
@[simp] theorem fld_147_1 : fldT Tryz.prog 147 1 = some (1, 1, false) := by kernel_rfl
@[simp] theorem fld_147_2 : fldT Tryz.prog 147 2 = some (2, 1, false) := by kernel_rfl
@[simp] theorem pl_147 : plT Tryz.prog 147 = some fun i => [(0, 1), (1, 1), (2, 1)][i]? := by kernel_rfl
@[simp] theorem zero_147 : zeroT Tryz.prog 147 = some ([.int .u16 0, .int .u16 0, .int .u16 0]) := by kernel_rfl
@[simp] theorem str_147 : isStrT Tryz.prog 147 = false := by kernel_rfl
@[simp] theorem isint_147 : isIntT Tryz.prog 147 = false := by kernel_rfl
@[simp] theorem ty_148 : tyT Tryz.prog 148 = some (1, false) := by kernel_rfl
@[simp] theorem sl_148 : slT Tryz.prog 148 = none := by kernel_rfl
@[simp] theorem zero_148 : zeroT Tryz.prog 148 = some ([.nilFunc]) := by kernel_rfl
@[simp] theorem str_148 : isStrT Tryz.prog 148 = false := by kernel_rfl
@[simp] theorem isint_148 : isIntT Tryz.prog 148 = false := by kernel_rfl
@[simp] theorem ty_149 : tyT Tryz.prog 149 = some (3, true) := by kernel_rfl
@[simp] theorem sl_149 : slT Tryz.prog 149 = none := by kernel_rfl
@[simp] theorem fld_149_0 : fldT Tryz.prog 149 0 = some (0, 1, false) := by kernel_rfl
@[simp] theorem fld_149_1 : fldT Tryz.prog 149 1 = some (1, 1, false) := by kernel_rfl
@[simp] theorem fld_149_2 : fldT Tryz.prog 149 2 = some (2, 1, false) := by kernel_rfl
@[simp] theorem pl_149 : plT Tryz.prog 149 = some fun i => [(0, 1), (1, 1), (2, 1)][i]? := by kernel_rfl
@[simp] theorem zero_149 : zeroT Tryz.prog 149 = some ([.int .u32 0, .int .u32 0, .int .u32 0]) := by kernel_rfl
@[simp] theorem str_149 : isStrT Tryz.prog 149 = false := by kernel_rfl
@[simp] theorem isint_149 : isIntT Tryz.prog 149 = false := by kernel_rfl
@[simp] theorem ty_150 : tyT Tryz.prog 150 = some (3, true) := by kernel_rfl
@[simp] theorem sl_150 : slT Tryz.prog 150 = none := by kernel_rfl
@[simp] theorem fld_150_0 : fldT Tryz.prog 150 0 = some (0, 1, false) := by kernel_rfl
@[simp] theorem fld_150_1 : fldT Tryz.prog 150 1 = some (1, 1, false) := by kernel_rfl
@[simp] theorem fld_150_2 : fldT Tryz.prog 150 2 = some (2, 1, false) := by kernel_rfl
@[simp] theorem pl_150 : plT Tryz.prog 150 = some fun i => [(0, 1), (1, 1), (2, 1)][i]? := by kernel_rfl
@[simp] theorem zero_150 : zeroT Tryz.prog 150 = some ([.int .u32 0, .int .u32 0, .int .u32 0]) := by kernel_rfl
@[simp] theorem str_150 : isStrT Tryz.prog 150 = false := by kernel_rfl
@[simp] theorem isint_150 : isIntT Tryz.prog 150 = false := by kernel_rfl
@[simp] theorem ty_151 : tyT Tryz.prog 151 = some (1, false) := by kernel_rfl
@[simp] theorem sl_151 : slT Tryz.prog 151 = none := by kernel_rfl
@[simp] theorem zero_151 : zeroT Tryz.prog 151 = some ([.nilFunc]) := by kernel_rfl
@[simp] theorem str_151 : isStrT Tryz.prog 151 = false := by kernel_rfl
@[simp] theorem isint_151 : isIntT Tryz.prog 151 = false := by kernel_rfl
@[simp] theorem ty_152 : tyT Tryz.prog 152 = some (24, true) := by kernel_rfl
@[simp] theorem sl_152 : slT Tryz.prog 152 = none := by kernel_rfl
@[simp] theorem arx_152 : arX Tryz.prog 152 = some (24, 1, false) := by kernel_rfl
@[simp] theorem ar_152 : arT Tryz.prog 152 = some (24, 1) := by kernel_rfl
@[simp] theorem pl_152 : plT Tryz.prog 152 = some fun i => some (i * 1, 1) := by kernel_rfl
@[simp] theorem zero_152 : zeroT Tryz.prog 152 = some (List.replicate 24 (.int .u8 0)) := by kernel_rfl
@[simp] theorem str_152 : isStrT Tryz.prog 152 = false := by kernel_rfl
@[simp] theorem isint_152 : isIntT Tryz.prog 152 = false := by kernel_rfl
@[simp] theorem ty_153 : tyT Tryz.prog 153 = some (1, false) := by kernel_rfl
@[simp] theorem sl_153 : slT Tryz.prog 153 = none := by kernel_rfl
@[simp] theorem zero_153 : zeroT Tryz.prog 153 = some ([.nilFunc]) := by kernel_rfl
@[simp] theorem str_153 : isStrT Tryz.prog 153 = false := by kernel_rfl
@[simp] theorem isint_153 : isIntT Tryz.prog 153 = false := by kernel_rfl
@[simp] theorem ty_154 : tyT Tryz.prog 154 = some (1, false) := by kernel_rfl
@[simp] theorem sl_154 : slT Tryz.prog 154 = none := by kernel_rfl
@[simp] theorem zero_154 : zeroT Tryz.prog 154 = some ([.nilFunc]) := by kernel_rfl
@[simp] theorem str_154 : isStrT Tryz.prog 154 = false := by kernel_rfl
@[simp] theorem isint_154 : isIntT Tryz.prog 154 = false := by kernel_rfl
@[simp] theorem ty_156 : tyT Tryz.prog 156 = some (1, false) := by kernel_rfl
@[simp] theorem sl_156 : slT Tryz.prog 156 = none := by kernel_rfl
@[simp] theorem zero_156 : zeroT Tryz.prog 156 = some ([.nilFunc]) := by kernel_rfl
@[simp] theorem str_156 : isStrT Tryz.prog 156 = false := by kernel_rfl
@[simp] theorem isint_156 : isIntT Tryz.prog 156 = false := by kernel_rfl
@[simp] theorem ty_157 : tyT Tryz.prog 157 = some (1, false) := by kernel_rfl
@[simp] theorem sl_157 : slT Tryz.prog 157 = none := by kernel_rfl
@[simp] theorem str_157 : isStrT Tryz.prog 157 = false := by kernel_rfl
@[simp] theorem isint_157 : isIntT Tryz.prog 157 = false := by kernel_rfl
@[simp] theorem ty_158 : tyT Tryz.prog 158 = some (1, false) := by kernel_rfl
@[simp] theorem sl_158 : slT Tryz.prog 158 = none := by kernel_rfl
@[simp] theorem zero_158 : zeroT Tryz.prog 158 = some ([.nilFunc]) := by kernel_rfl
@[simp] theorem str_158 : isStrT Tryz.prog 158 = false := by kernel_rfl
@[simp] theorem isint_158 : isIntT Tryz.prog 158 = false := by kernel_rfl
@[simp] theorem ty_159 : tyT Tryz.prog 159 = some (1, false) := by kernel_rfl
@[simp] theorem sl_159 : slT Tryz.prog 159 = none := by kernel_rfl
@[simp] theorem zero_159 : zeroT Tryz.prog 159 = some ([.nilFunc]) := by kernel_rfl
@[simp] theorem str_159 : isStrT Tryz.prog 159 = false := by kernel_rfl
@[simp] theorem isint_159 : isIntT Tryz.prog 159 = false := by kernel_rfl
@[simp] theorem ty_160 : tyT Tryz.prog 160 = some (1, false) := by kernel_rfl
@[simp] theorem sl_160 : slT Tryz.prog 160 = none := by kernel_rfl
@[simp] theorem zero_160 : zeroT Tryz.prog 160 = some ([.nilFunc]) := by kernel_rfl
@[simp] theorem str_160 : isStrT Tryz.prog 160 = false := by kernel_rfl
@[simp] theorem isint_160 : isIntT Tryz.prog 160 = false := by kernel_rfl
@[simp] theorem ty_161 : tyT Tryz.prog 161 = some (1, false) := by kernel_rfl
@[simp] theorem sl_161 : slT Tryz.prog 161 = none := by kernel_rfl
@[simp] theorem zero_161 : zeroT Tryz.prog 161 = some ([.int .i64 0]) := by kernel_rfl
@[simp] theorem int_161 : intT Tryz.prog 161 = some .i64 := by kernel_rfl
@[simp] theorem str_161 : isStrT Tryz.prog 161 = false := by kernel_rfl
@[simp] theorem isint_161 : isIntT Tryz.prog 161 = true := by kernel_rfl
@[simp] theorem ty_163 : tyT Tryz.prog 163 = some (1, false) := by kernel_rfl
@[simp] theorem sl_163 : slT Tryz.prog 163 = none := by kernel_rfl
@[simp] theorem zero_163 : zeroT Tryz.prog 163 = some ([.nilFunc]) := by kernel_rfl
@[simp] theorem str_163 : isStrT Tryz.prog 163 = false := by kernel_rfl
@[simp] theorem isint_163 : isIntT Tryz.prog 163 = false := by kernel_rfl
@[simp] theorem ty_164 : tyT Tryz.prog 164 = some (1, false) := by kernel_rfl
@[simp] theorem sl_164 : slT Tryz.prog 164 = none := by kernel_rfl
@[simp] theorem zero_164 : zeroT Tryz.prog 164 = some ([.pointer none]) := by kernel_rfl
@[simp] theorem str_164 : isStrT Tryz.prog 164 = false := by kernel_rfl
@[simp] theorem isint_164 : isIntT Tryz.prog 164 = false := by kernel_rfl
@[simp] theorem ptr_164 : isPtrT Tryz.prog 164 = true := by kernel_rfl
@[simp] theorem ty_165 : tyT Tryz.prog 165 = some (1, false) := by kernel_rfl
@[simp] theorem sl_165 : slT Tryz.prog 165 = none := by kernel_rfl
@[simp] theorem zero_165 : zeroT Tryz.prog 165 = some ([.nilFunc]) := by kernel_rfl
@[simp] theorem str_165 : isStrT Tryz.prog 165 = false := by kernel_rfl
@[simp] theorem isint_165 : isIntT Tryz.prog 165 = false := by kernel_rfl
@[simp] theorem ty_166 : tyT Tryz.prog 166 = some (1, false) := by kernel_rfl
@[simp] theorem sl_166 : slT Tryz.prog 166 = none := by kernel_rfl
@[simp] theorem zero_166 : zeroT Tryz.prog 166 = some ([.nilFunc]) := by kernel_rfl
@[simp] theorem str_166 : isStrT Tryz.prog 166 = false := by kernel_rfl
@[simp] theorem isint_166 : isIntT Tryz.prog 166 = false := by kernel_rfl
@[simp] theorem ty_167 : tyT Tryz.prog 167 = some (1, false) := by kernel_rfl
@[simp] theorem sl_167 : slT Tryz.prog 167 = none := by kernel_rfl
@[simp] theorem zero_167 : zeroT Tryz.prog 167 = some ([.pointer none]) := by kernel_rfl
@[simp] theorem str_167 : isStrT Tryz.prog 167 = false := by kernel_rfl
@[simp] theorem isint_167 : isIntT Tryz.prog 167 = false := by kernel_rfl
@[simp] theorem ptr_167 : isPtrT Tryz.prog 167 = true := by kernel_rfl
@[simp] theorem ty_168 : tyT Tryz.prog 168 = some (1, false) := by kernel_rfl
@[simp] theorem sl_168 : slT Tryz.prog 168 = none := by kernel_rfl
@[simp] theorem zero_168 : zeroT Tryz.prog 168 = some ([.pointer none]) := by kernel_rfl
@[simp] theorem str_168 : isStrT Tryz.prog 168 = false := by kernel_rfl
@[simp] theorem isint_168 : isIntT Tryz.prog 168 = false := by kernel_rfl
@[simp] theorem ptr_168 : isPtrT Tryz.prog 168 = true := by kernel_rfl
@[simp] theorem ty_169 : tyT Tryz.prog 169 = some (1, false) := by kernel_rfl
@[simp] theorem sl_169 : slT Tryz.prog 169 = none := by kernel_rfl
@[simp] theorem zero_169 : zeroT Tryz.prog 169 = some ([.nilFunc]) := by kernel_rfl
@[simp] theorem str_169 : isStrT Tryz.prog 169 = false := by kernel_rfl
@[simp] theorem isint_169 : isIntT Tryz.prog 169 = false := by kernel_rfl
@[simp] theorem ty_170 : tyT Tryz.prog 170 = some (20, true) := by kernel_rfl
@[simp] theorem sl_170 : slT Tryz.prog 170 = none := by kernel_rfl
@[simp] theorem arx_170 : arX Tryz.prog 170 = some (20, 1, false) := by kernel_rfl
@[simp] theorem ar_170 : arT Tryz.prog 170 = some (20, 1) := by kernel_rfl
@[simp] theorem pl_170 : plT Tryz.prog 170 = some fun i => some (i * 1, 1) := by kernel_rfl
@[simp] theorem zero_170 : zeroT Tryz.prog 170 = some (List.replicate 20 (.int .u64 0)) := by kernel_rfl
@[simp] theorem str_170 : isStrT Tryz.prog 170 = false := by kernel_rfl
@[simp] theorem isint_170 : isIntT Tryz.prog 170 = false := by kernel_rfl
@[simp] theorem ty_171 : tyT Tryz.prog 171 = some (65, true) := by kernel_rfl
@[simp] theorem sl_171 : slT Tryz.prog 171 = none := by kernel_rfl
@[simp] theorem arx_171 : arX Tryz.prog 171 = some (65, 1, false) := by kernel_rfl
@[simp] theorem ar_171 : arT Tryz.prog 171 = some (65, 1) := by kernel_rfl
@[simp] theorem pl_171 : plT Tryz.prog 171 = some fun i => some (i * 1, 1) := by kernel_rfl
@[simp] theorem zero_171 : zeroT Tryz.prog 171 = some (List.replicate 65 (.int .u8 0)) := by kernel_rfl
@[simp] theorem str_171 : isStrT Tryz.prog 171 = false := by kernel_rfl
@[simp] theorem isint_171 : isIntT Tryz.prog 171 = false := by kernel_rfl
@[simp] theorem ty_172 : tyT Tryz.prog 172 = some (1, false) := by kernel_rfl
@[simp] theorem sl_172 : slT Tryz.prog 172 = none := by kernel_rfl
@[simp] theorem zero_172 : zeroT Tryz.prog 172 = some ([.nilFunc]) := by kernel_rfl
@[simp] theorem str_172 : isStrT Tryz.prog 172 = false := by kernel_rfl
@[simp] theorem isint_172 : isIntT Tryz.prog 172 = false := by kernel_rfl
@[simp] theorem ty_174 : tyT Tryz.prog 174 = some (1, false) := by kernel_rfl
@[simp] theorem sl_174 : slT Tryz.prog 174 = none := by kernel_rfl
@[simp] theorem zero_174 : zeroT Tryz.prog 174 = some ([.nilFunc]) := by kernel_rfl
@[simp] theorem str_174 : isStrT Tryz.prog 174 = false := by kernel_rfl
@[simp] theorem isint_174 : isIntT Tryz.prog 174 = false := by kernel_rfl
@[simp] theorem ty_176 : tyT Tryz.prog 176 = some (1, false) := by kernel_rfl
@[simp] theorem sl_176 : slT Tryz.prog 176 = none := by kernel_rfl
@[simp] theorem zero_176 : zeroT Tryz.prog 176 = some ([.nilFunc]) := by kernel_rfl
@[simp] theorem str_176 : isStrT Tryz.prog 176 = false := by kernel_rfl
@[simp] theorem isint_176 : isIntT Tryz.prog 176 = false := by kernel_rfl
@[simp] theorem ty_177 : tyT Tryz.prog 177 = some (3, true) := by kernel_rfl
@[simp] theorem sl_177 : slT Tryz.prog 177 = none := by kernel_rfl
@[simp] theorem fld_177_0 : fldT Tryz.prog 177 0 = some (0, 1, false) := by kernel_rfl
@[simp] theorem fld_177_1 : fldT Tryz.prog 177 1 = some (1, 1, false) := by kernel_rfl
@[simp] theorem fld_177_2 : fldT Tryz.prog 177 2 = some (2, 1, false) := by kernel_rfl
@[simp] theorem pl_177 : plT Tryz.prog 177 = some fun i => [(0, 1), (1, 1), (2, 1)][i]? := by kernel_rfl
@[simp] theorem str_177 : isStrT Tryz.prog 177 = false := by kernel_rfl
@[simp] theorem isint_177 : isIntT Tryz.prog 177 = false := by kernel_rfl
@[simp] theorem ty_178 : tyT Tryz.prog 178 = some (3, true) := by kernel_rfl
@[simp] theorem sl_178 : slT Tryz.prog 178 = none := by kernel_rfl
@[simp] theorem fld_178_0 : fldT Tryz.prog 178 0 = some (0, 1, false) := by kernel_rfl
@[simp] theorem fld_178_1 : fldT Tryz.prog 178 1 = some (1, 1, false) := by kernel_rfl
@[simp] theorem fld_178_2 : fldT Tryz.prog 178 2 = some (2, 1, false) := by kernel_rfl
@[simp] theorem pl_178 : plT Tryz.prog 178 = some fun i => [(0, 1), (1, 1), (2, 1)][i]? := by kernel_rfl
@[simp] theorem str_178 : isStrT Tryz.prog 178 = false := by kernel_rfl
@[simp] theorem isint_178 : isIntT Tryz.prog 178 = false := by kernel_rfl
@[simp] theorem ty_179 : tyT Tryz.prog 179 = some (1, false) := by kernel_rfl
@[simp] theorem sl_179 : slT Tryz.prog 179 = none := by kernel_rfl
@[simp] theorem zero_179 : zeroT Tryz.prog 179 = some ([.nilFunc]) := by kernel_rfl
@[simp] theorem str_179 : isStrT Tryz.prog 179 = false := by kernel_rfl
@[simp] theorem isint_179 : isIntT Tryz.prog 179 = false := by kernel_rfl
@[simp] theorem ty_180 : tyT Tryz.prog 180 = some (1, false) := by kernel_rfl
@[simp] theorem sl_180 : slT Tryz.prog 180 = none := by kernel_rfl
@[simp] theorem zero_180 : zeroT Tryz.prog 180 = some ([.nilFunc]) := by kernel_rfl
@[simp] theorem str_180 : isStrT Tryz.prog 180 = false := by kernel_rfl
@[simp] theorem isint_180 : isIntT Tryz.prog 180 = false := by kernel_rfl
@[simp] theorem ty_181 : tyT Tryz.prog 181 = some (1, false) := by kernel_rfl
@[simp] theorem sl_181 : slT Tryz.prog 181 = none := by kernel_rfl
@[simp] theorem zero_181 : zeroT Tryz.prog 181 = some ([.nilFunc]) := by kernel_rfl
@[simp] theorem str_181 : isStrT Tryz.prog 181 = false := by kernel_rfl
@[simp] theorem isint_181 : isIntT Tryz.prog 181 = false := by kernel_rfl
@[simp] theorem ty_182 : tyT Tryz.prog 182 = some (1, false) := by kernel_rfl
@[simp] theorem sl_182 : slT Tryz.prog 182 = none := by kernel_rfl
@[simp] theorem zero_182 : zeroT Tryz.prog 182 = some ([.pointer none]) := by kernel_rfl
@[simp] theorem str_182 : isStrT Tryz.prog 182 = false := by kernel_rfl
@[simp] theorem isint_182 : isIntT Tryz.prog 182 = false := by kernel_rfl
@[simp] theorem ptr_182 : isPtrT Tryz.prog 182 = true := by kernel_rfl
@[simp] theorem ty_183 : tyT Tryz.prog 183 = some (1, true) := by kernel_rfl
@[simp] theorem sl_183 : slT Tryz.prog 183 = none := by kernel_rfl
@[simp] theorem fld_183_0 : fldT Tryz.prog 183 0 = some (0, 1, false) := by kernel_rfl
@[simp] theorem pl_183 : plT Tryz.prog 183 = some fun i => [(0, 1)][i]? := by kernel_rfl
@[simp] theorem zero_183 : zeroT Tryz.prog 183 = some ([.string ByteArray.empty]) := by kernel_rfl
@[simp] theorem str_183 : isStrT Tryz.prog 183 = false := by kernel_rfl
@[simp] theorem isint_183 : isIntT Tryz.prog 183 = false := by kernel_rfl
@[simp] theorem ty_184 : tyT Tryz.prog 184 = some (1, true) := by kernel_rfl
@[simp] theorem sl_184 : slT Tryz.prog 184 = none := by kernel_rfl
@[simp] theorem fld_184_0 : fldT Tryz.prog 184 0 = some (0, 1, false) := by kernel_rfl
@[simp] theorem pl_184 : plT Tryz.prog 184 = some fun i => [(0, 1)][i]? := by kernel_rfl
@[simp] theorem zero_184 : zeroT Tryz.prog 184 = some ([.string ByteArray.empty]) := by kernel_rfl
@[simp] theorem str_184 : isStrT Tryz.prog 184 = false := by kernel_rfl
@[simp] theorem isint_184 : isIntT Tryz.prog 184 = false := by kernel_rfl
@[simp] theorem ty_185 : tyT Tryz.prog 185 = some (32, true) := by kernel_rfl
@[simp] theorem sl_185 : slT Tryz.prog 185 = none := by kernel_rfl
@[simp] theorem arx_185 : arX Tryz.prog 185 = some (32, 1, false) := by kernel_rfl
@[simp] theorem ar_185 : arT Tryz.prog 185 = some (32, 1) := by kernel_rfl
@[simp] theorem pl_185 : plT Tryz.prog 185 = some fun i => some (i * 1, 1) := by kernel_rfl
@[simp] theorem zero_185 : zeroT Tryz.prog 185 = some (List.replicate 32 (.int .u8 0)) := by kernel_rfl
@[simp] theorem str_185 : isStrT Tryz.prog 185 = false := by kernel_rfl
@[simp] theorem isint_185 : isIntT Tryz.prog 185 = false := by kernel_rfl
@[simp] theorem ty_186 : tyT Tryz.prog 186 = some (64, true) := by kernel_rfl
@[simp] theorem sl_186 : slT Tryz.prog 186 = none := by kernel_rfl
@[simp] theorem arx_186 : arX Tryz.prog 186 = some (64, 1, false) := by kernel_rfl
@[simp] theorem ar_186 : arT Tryz.prog 186 = some (64, 1) := by kernel_rfl
@[simp] theorem pl_186 : plT Tryz.prog 186 = some fun i => some (i * 1, 1) := by kernel_rfl
@[simp] theorem zero_186 : zeroT Tryz.prog 186 = some (List.replicate 64 (.int .u8 0)) := by kernel_rfl
@[simp] theorem str_186 : isStrT Tryz.prog 186 = false := by kernel_rfl
@[simp] theorem isint_186 : isIntT Tryz.prog 186 = false := by kernel_rfl
@[simp] theorem ty_187 : tyT Tryz.prog 187 = some (4, true) := by kernel_rfl
@[simp] theorem sl_187 : slT Tryz.prog 187 = none := by kernel_rfl
@[simp] theorem fld_187_0 : fldT Tryz.prog 187 0 = some (0, 1, false) := by kernel_rfl
@[simp] theorem fld_187_1 : fldT Tryz.prog 187 1 = some (1, 1, false) := by kernel_rfl
@[simp] theorem fld_187_2 : fldT Tryz.prog 187 2 = some (2, 1, false) := by kernel_rfl
@[simp] theorem fld_187_3 : fldT Tryz.prog 187 3 = some (3, 1, false) := by kernel_rfl
@[simp] theorem pl_187 : plT Tryz.prog 187 = some fun i => [(0, 1), (1, 1), (2, 1), (3, 1)][i]? := by kernel_rfl
@[simp] theorem zero_187 : zeroT Tryz.prog 187 = some ([.pointer none, .pointer none, .pointer none, .string ByteArray.empty]) := by kernel_rfl
@[simp] theorem str_187 : isStrT Tryz.prog 187 = false := by kernel_rfl
@[simp] theorem isint_187 : isIntT Tryz.prog 187 = false := by kernel_rfl
@[simp] theorem ty_189 : tyT Tryz.prog 189 = some (0, true) := by kernel_rfl
@[simp] theorem sl_189 : slT Tryz.prog 189 = none := by kernel_rfl
@[simp] theorem arx_189 : arX Tryz.prog 189 = some (0, 1, false) := by kernel_rfl
@[simp] theorem ar_189 : arT Tryz.prog 189 = some (0, 1) := by kernel_rfl
@[simp] theorem pl_189 : plT Tryz.prog 189 = some fun i => some (i * 1, 1) := by kernel_rfl
@[simp] theorem zero_189 : zeroT Tryz.prog 189 = some ([]) := by kernel_rfl
@[simp] theorem str_189 : isStrT Tryz.prog 189 = false := by kernel_rfl
@[simp] theorem isint_189 : isIntT Tryz.prog 189 = false := by kernel_rfl
@[simp] theorem ty_190 : tyT Tryz.prog 190 = some (0, true) := by kernel_rfl
@[simp] theorem sl_190 : slT Tryz.prog 190 = none := by kernel_rfl
@[simp] theorem pl_190 : plT Tryz.prog 190 = some fun i => [(0, 0)][i]? := by kernel_rfl
@[simp] theorem zero_190 : zeroT Tryz.prog 190 = some ([]) := by kernel_rfl
@[simp] theorem str_190 : isStrT Tryz.prog 190 = false := by kernel_rfl
@[simp] theorem isint_190 : isIntT Tryz.prog 190 = false := by kernel_rfl
@[simp] theorem ty_192 : tyT Tryz.prog 192 = some (1, false) := by kernel_rfl
@[simp] theorem sl_192 : slT Tryz.prog 192 = none := by kernel_rfl
@[simp] theorem zero_192 : zeroT Tryz.prog 192 = some ([.nilFunc]) := by kernel_rfl
@[simp] theorem str_192 : isStrT Tryz.prog 192 = false := by kernel_rfl
@[simp] theorem isint_192 : isIntT Tryz.prog 192 = false := by kernel_rfl
@[simp] theorem ty_195 : tyT Tryz.prog 195 = some (1, false) := by kernel_rfl
@[simp] theorem sl_195 : slT Tryz.prog 195 = none := by kernel_rfl
@[simp] theorem zero_195 : zeroT Tryz.prog 195 = some ([.nilFunc]) := by kernel_rfl
@[simp] theorem str_195 : isStrT Tryz.prog 195 = false := by kernel_rfl
@[simp] theorem isint_195 : isIntT Tryz.prog 195 = false := by kernel_rfl
@[simp] theorem ty_198 : tyT Tryz.prog 198 = some (11, true) := by kernel_rfl
@[simp] theorem sl_198 : slT Tryz.prog 198 = none := by kernel_rfl
@[simp] theorem fld_198_0 : fldT Tryz.prog 198 0 = some (0, 1, false) := by kernel_rfl
@[simp] theorem fld_198_1 : fldT Tryz.prog 198 1 = some (1, 1, false) := by kernel_rfl
@[simp] theorem fld_198_2 : fldT Tryz.prog 198 2 = some (2, 1, false) := by kernel_rfl
@[simp] theorem fld_198_3 : fldT Tryz.prog 198 3 = some (3, 1, false) := by kernel_rfl
@[simp] theorem fld_198_4 : fldT Tryz.prog 198 4 = some (4, 1, false) := by kernel_rfl
@[simp] theorem fld_198_5 : fldT Tryz.prog 198 5 = some (5, 1, false) := by kernel_rfl
@[simp] theorem fld_198_6 : fldT Tryz.prog 198 6 = some (6, 1, false) := by kernel_rfl
@[simp] theorem fld_198_7 : fldT Tryz.prog 198 7 = some (7, 1, false) := by kernel_rfl
@[simp] theorem fld_198_8 : fldT Tryz.prog 198 8 = some (8, 1, false) := by kernel_rfl
@[simp] theorem fld_198_9 : fldT Tryz.prog 198 9 = some (9, 1, false) := by kernel_rfl
@[simp] theorem fld_198_10 : fldT Tryz.prog 198 10 = some (10, 1, false) := by kernel_rfl
@[simp] theorem pl_198 : plT Tryz.prog 198 = some fun i => [(0, 1), (1, 1), (2, 1), (3, 1), (4, 1), (5, 1), (6, 1), (7, 1), (8, 1), (9, 1), (10, 1)][i]? := by kernel_rfl
@[simp] theorem zero_198 : zeroT Tryz.prog 198 = some ([.int .u64 0, .int .u64 0, .int .u32 0, .int .u8 0, .int .u8 0, .int .u8 0, .int .u8 0, .nilFunc, .pointer none, .int .i32 0, .int .i32 0]) := by kernel_rfl
@[simp] theorem str_198 : isStrT Tryz.prog 198 = false := by kernel_rfl
@[simp] theorem isint_198 : isIntT Tryz.prog 198 = false := by kernel_rfl
@[simp] theorem ty_200 : tyT Tryz.prog 200 = some (1, false) := by kernel_rfl
@[simp] theorem sl_200 : slT Tryz.prog 200 = none := by kernel_rfl
@[simp] theorem zero_200 : zeroT Tryz.prog 200 = some ([.nilFunc]) := by kernel_rfl
@[simp] theorem str_200 : isStrT Tryz.prog 200 = false := by kernel_rfl
@[simp] theorem isint_200 : isIntT Tryz.prog 200 = false := by kernel_rfl
@[simp] theorem call_3 : callable Tryz.prog 3 = true := by kernel_rfl
@[simp] theorem ovl_3 : ovlT Tryz.prog 3 = false := by kernel_rfl
@[simp] theorem call_4 : callable Tryz.prog 4 = true := by kernel_rfl
@[simp] theorem ovl_4 : ovlT Tryz.prog 4 = false := by kernel_rfl
@[simp] theorem call_5 : callable Tryz.prog 5 = true := by kernel_rfl
@[simp] theorem ovl_5 : ovlT Tryz.prog 5 = false := by kernel_rfl
@[simp] theorem call_6 : callable Tryz.prog 6 = true := by kernel_rfl
@[simp] theorem ovl_6 : ovlT Tryz.prog 6 = false := by kernel_rfl
@[simp] theorem call_7 : callable Tryz.prog 7 = true := by kernel_rfl
@[simp] theorem ovl_7 : ovlT Tryz.prog 7 = false := by kernel_rfl
@[simp] theorem call_8 : callable Tryz.prog 8 = true := by kernel_rfl
@[simp] theorem ovl_8 : ovlT Tryz.prog 8 = false := by kernel_rfl
@[simp] theorem call_9 : callable Tryz.prog 9 = true := by kernel_rfl
@[simp] theorem ovl_9 : ovlT Tryz.prog 9 = false := by kernel_rfl
@[simp] theorem call_10 : callable Tryz.prog 10 = true := by kernel_rfl
@[simp] theorem ovl_10 : ovlT Tryz.prog 10 = false := by kernel_rfl
@[simp] theorem call_11 : callable Tryz.prog 11 = true := by kernel_rfl
@[simp] theorem ovl_11 : ovlT Tryz.prog 11 = false := by kernel_rfl
@[simp] theorem call_12 : callable Tryz.prog 12 = true := by kernel_rfl
@[simp] theorem ovl_12 : ovlT Tryz.prog 12 = false := by kernel_rfl
@[simp] theorem call_13 : callable Tryz.prog 13 = true := by kernel_rfl
@[simp] theorem ovl_13 : ovlT Tryz.prog 13 = false := by kernel_rfl
@[simp] theorem call_14 : callable Tryz.prog 14 = true := by kernel_rfl
@[simp] theorem ovl_14 : ovlT Tryz.prog 14 = false := by kernel_rfl
@[simp] theorem call_15 : callable Tryz.prog 15 = true := by kernel_rfl
@[simp] theorem ovl_15 : ovlT Tryz.prog 15 = false := by kernel_rfl
@[simp] theorem call_16 : callable Tryz.prog 16 = true := by kernel_rfl
@[simp] theorem ovl_16 : ovlT Tryz.prog 16 = false := by kernel_rfl
@[simp] theorem call_17 : callable Tryz.prog 17 = true := by kernel_rfl
@[simp] theorem ovl_17 : ovlT Tryz.prog 17 = false := by kernel_rfl
@[simp] theorem call_18 : callable Tryz.prog 18 = true := by kernel_rfl
@[simp] theorem ovl_18 : ovlT Tryz.prog 18 = false := by kernel_rfl
@[simp] theorem call_19 : callable Tryz.prog 19 = true := by kernel_rfl
@[simp] theorem ovl_19 : ovlT Tryz.prog 19 = false := by kernel_rfl
@[simp] theorem call_20 : callable Tryz.prog 20 = true := by kernel_rfl
@[simp] theorem ovl_20 : ovlT Tryz.prog 20 = false := by kernel_rfl
@[simp] theorem call_21 : callable Tryz.prog 21 = true := by kernel_rfl
@[simp] theorem ovl_21 : ovlT Tryz.prog 21 = false := by kernel_rfl
@[simp] theorem call_22 : callable Tryz.prog 22 = true := by kernel_rfl
@[simp] theorem ovl_22 : ovlT Tryz.prog 22 = false := by kernel_rfl
@[simp] theorem call_23 : callable Tryz.prog 23 = true := by kernel_rfl
@[simp] theorem ovl_23 : ovlT Tryz.prog 23 = false := by kernel_rfl
@[simp] theorem call_24 : callable Tryz.prog 24 = true := by kernel_rfl
@[simp] theorem ovl_24 : ovlT Tryz.prog 24 = false := by kernel_rfl
@[simp] theorem call_25 : callable Tryz.prog 25 = true := by kernel_rfl
@[simp] theorem ovl_25 : ovlT Tryz.prog 25 = false := by kernel_rfl
@[simp] theorem call_26 : callable Tryz.prog 26 = true := by kernel_rfl
@[simp] theorem ovl_26 : ovlT Tryz.prog 26 = false := by kernel_rfl
@[simp] theorem call_27 : callable Tryz.prog 27 = true := by kernel_rfl
@[simp] theorem ovl_27 : ovlT Tryz.prog 27 = false := by kernel_rfl
@[simp] theorem call_28 : callable Tryz.prog 28 = true := by kernel_rfl
@[simp] theorem ovl_28 : ovlT Tryz.prog 28 = false := by kernel_rfl
@[simp] theorem call_29 : callable Tryz.prog 29 = true := by kernel_rfl
@[simp] theorem ovl_29 : ovlT Tryz.prog 29 = false := by kernel_rfl
@[simp] theorem call_30 : callable Tryz.prog 30 = true := by kernel_rfl
@[simp] theorem ovl_30 : ovlT Tryz.prog 30 = false := by kernel_rfl
@[simp] theorem call_31 : callable Tryz.prog 31 = true := by kernel_rfl
@[simp] theorem ovl_31 : ovlT Tryz.prog 31 = false := by kernel_rfl
@[simp] theorem call_32 : callable Tryz.prog 32 = true := by kernel_rfl
@[simp] theorem ovl_32 : ovlT Tryz.prog 32 = false := by kernel_rfl
@[simp] theorem call_33 : callable Tryz.prog 33 = true := by kernel_rfl
@[simp] theorem ovl_33 : ovlT Tryz.prog 33 = false := by kernel_rfl
@[simp] theorem call_34 : callable Tryz.prog 34 = true := by kernel_rfl
@[simp] theorem ovl_34 : ovlT Tryz.prog 34 = false := by kernel_rfl
@[simp] theorem call_35 : callable Tryz.prog 35 = true := by kernel_rfl
@[simp] theorem ovl_35 : ovlT Tryz.prog 35 = false := by kernel_rfl
@[simp] theorem call_36 : callable Tryz.prog 36 = true := by kernel_rfl
@[simp] theorem ovl_36 : ovlT Tryz.prog 36 = false := by kernel_rfl
@[simp] theorem call_37 : callable Tryz.prog 37 = true := by kernel_rfl
@[simp] theorem ovl_37 : ovlT Tryz.prog 37 = false := by kernel_rfl
@[simp] theorem call_38 : callable Tryz.prog 38 = true := by kernel_rfl
@[simp] theorem ovl_38 : ovlT Tryz.prog 38 = false := by kernel_rfl
@[simp] theorem call_39 : callable Tryz.prog 39 = true := by kernel_rfl
@[simp] theorem ovl_39 : ovlT Tryz.prog 39 = false := by kernel_rfl
@[simp] theorem call_40 : callable Tryz.prog 40 = true := by kernel_rfl
@[simp] theorem ovl_40 : ovlT Tryz.prog 40 = false := by kernel_rfl
@[simp] theorem call_41 : callable Tryz.prog 41 = true := by kernel_rfl
@[simp] theorem ovl_41 : ovlT Tryz.prog 41 = false := by kernel_rfl
@[simp] theorem call_42 : callable Tryz.prog 42 = true := by kernel_rfl
@[simp] theorem ovl_42 : ovlT Tryz.prog 42 = false := by kernel_rfl
@[simp] theorem call_43 : callable Tryz.prog 43 = true := by kernel_rfl
@[simp] theorem ovl_43 : ovlT Tryz.prog 43 = false := by kernel_rfl
@[simp] theorem call_44 : callable Tryz.prog 44 = true := by kernel_rfl
@[simp] theorem ovl_44 : ovlT Tryz.prog 44 = false := by kernel_rfl
@[simp] theorem call_45 : callable Tryz.prog 45 = true := by kernel_rfl
@[simp] theorem ovl_45 : ovlT Tryz.prog 45 = false := by kernel_rfl
@[simp] theorem call_46 : callable Tryz.prog 46 = true := by kernel_rfl
@[simp] theorem ovl_46 : ovlT Tryz.prog 46 = false := by kernel_rfl
@[simp] theorem call_47 : callable Tryz.prog 47 = true := by kernel_rfl
@[simp] theorem ovl_47 : ovlT Tryz.prog 47 = false := by kernel_rfl
@[simp] theorem call_48 : callable Tryz.prog 48 = true := by kernel_rfl
@[simp] theorem ovl_48 : ovlT Tryz.prog 48 = false := by kernel_rfl
@[simp] theorem call_49 : callable Tryz.prog 49 = true := by kernel_rfl
@[simp] theorem ovl_49 : ovlT Tryz.prog 49 = false := by kernel_rfl
@[simp] theorem call_50 : callable Tryz.prog 50 = true := by kernel_rfl
@[simp] theorem ovl_50 : ovlT Tryz.prog 50 = false := by kernel_rfl
@[simp] theorem call_51 : callable Tryz.prog 51 = true := by kernel_rfl
@[simp] theorem ovl_51 : ovlT Tryz.prog 51 = false := by kernel_rfl
@[simp] theorem call_52 : callable Tryz.prog 52 = true := by kernel_rfl
@[simp] theorem ovl_52 : ovlT Tryz.prog 52 = false := by kernel_rfl
@[simp] theorem call_53 : callable Tryz.prog 53 = true := by kernel_rfl
@[simp] theorem ovl_53 : ovlT Tryz.prog 53 = false := by kernel_rfl
@[simp] theorem call_54 : callable Tryz.prog 54 = true := by kernel_rfl
@[simp] theorem ovl_54 : ovlT Tryz.prog 54 = false := by kernel_rfl
@[simp] theorem call_55 : callable Tryz.prog 55 = true := by kernel_rfl
@[simp] theorem ovl_55 : ovlT Tryz.prog 55 = false := by kernel_rfl
@[simp] theorem call_56 : callable Tryz.prog 56 = true := by kernel_rfl
@[simp] theorem ovl_56 : ovlT Tryz.prog 56 = false := by kernel_rfl
@[simp] theorem call_57 : callable Tryz.prog 57 = true := by kernel_rfl
@[simp] theorem ovl_57 : ovlT Tryz.prog 57 = false := by kernel_rfl
@[simp] theorem call_58 : callable Tryz.prog 58 = true := by kernel_rfl
@[simp] theorem ovl_58 : ovlT Tryz.prog 58 = false := by kernel_rfl
@[simp] theorem call_59 : callable Tryz.prog 59 = true := by kernel_rfl
@[simp] theorem ovl_59 : ovlT Tryz.prog 59 = false := by kernel_rfl
@[simp] theorem call_60 : callable Tryz.prog 60 = true := by kernel_rfl
@[simp] theorem ovl_60 : ovlT Tryz.prog 60 = false := by kernel_rfl
@[simp] theorem call_61 : callable Tryz.prog 61 = true := by kernel_rfl
@[simp] theorem ovl_61 : ovlT Tryz.prog 61 = false := by kernel_rfl
@[simp] theorem call_62 : callable Tryz.prog 62 = true := by kernel_rfl
@[simp] theorem ovl_62 : ovlT Tryz.prog 62 = false := by kernel_rfl
@[simp] theorem call_63 : callable Tryz.prog 63 = true := by kernel_rfl
@[simp] theorem ovl_63 : ovlT Tryz.prog 63 = false := by kernel_rfl
@[simp] theorem call_64 : callable Tryz.prog 64 = true := by kernel_rfl
@[simp] theorem ovl_64 : ovlT Tryz.prog 64 = false := by kernel_rfl
@[simp] theorem call_65 : callable Tryz.prog 65 = true := by kernel_rfl
@[simp] theorem ovl_65 : ovlT Tryz.prog 65 = false := by kernel_rfl
@[simp] theorem call_66 : callable Tryz.prog 66 = true := by kernel_rfl
@[simp] theorem ovl_66 : ovlT Tryz.prog 66 = false := by kernel_rfl
@[simp] theorem call_67 : callable Tryz.prog 67 = true := by kernel_rfl
@[simp] theorem ovl_67 : ovlT Tryz.prog 67 = false := by kernel_rfl
@[simp] theorem call_68 : callable Tryz.prog 68 = true := by kernel_rfl
@[simp] theorem ovl_68 : ovlT Tryz.prog 68 = false := by kernel_rfl
@[simp] theorem call_69 : callable Tryz.prog 69 = true := by kernel_rfl
@[simp] theorem ovl_69 : ovlT Tryz.prog 69 = false := by kernel_rfl
@[simp] theorem call_70 : callable Tryz.prog 70 = true := by kernel_rfl
@[simp] theorem ovl_70 : ovlT Tryz.prog 70 = false := by kernel_rfl
@[simp] theorem call_71 : callable Tryz.prog 71 = true := by kernel_rfl
@[simp] theorem ovl_71 : ovlT Tryz.prog 71 = false := by kernel_rfl
@[simp] theorem call_72 : callable Tryz.prog 72 = true := by kernel_rfl
@[simp] theorem ovl_72 : ovlT Tryz.prog 72 = false := by kernel_rfl
@[simp] theorem call_73 : callable Tryz.prog 73 = true := by kernel_rfl
@[simp] theorem ovl_73 : ovlT Tryz.prog 73 = false := by kernel_rfl
@[simp] theorem call_74 : callable Tryz.prog 74 = true := by kernel_rfl
@[simp] theorem ovl_74 : ovlT Tryz.prog 74 = false := by kernel_rfl
@[simp] theorem call_75 : callable Tryz.prog 75 = true := by kernel_rfl
@[simp] theorem ovl_75 : ovlT Tryz.prog 75 = false := by kernel_rfl
@[simp] theorem call_76 : callable Tryz.prog 76 = true := by kernel_rfl
@[simp] theorem ovl_76 : ovlT Tryz.prog 76 = false := by kernel_rfl
@[simp] theorem call_77 : callable Tryz.prog 77 = true := by kernel_rfl
@[simp] theorem ovl_77 : ovlT Tryz.prog 77 = false := by kernel_rfl
@[simp] theorem call_78 : callable Tryz.prog 78 = true := by kernel_rfl
@[simp] theorem ovl_78 : ovlT Tryz.prog 78 = false := by kernel_rfl
@[simp] theorem call_79 : callable Tryz.prog 79 = true := by kernel_rfl
@[simp] theorem ovl_79 : ovlT Tryz.prog 79 = false := by kernel_rfl
@[simp] theorem call_80 : callable Tryz.prog 80 = true := by kernel_rfl
@[simp] theorem ovl_80 : ovlT Tryz.prog 80 = false := by kernel_rfl
@[simp] theorem call_81 : callable Tryz.prog 81 = true := by kernel_rfl
@[simp] theorem ovl_81 : ovlT Tryz.prog 81 = false := by kernel_rfl
@[simp] theorem call_82 : callable Tryz.prog 82 = true := by kernel_rfl
@[simp] theorem ovl_82 : ovlT Tryz.prog 82 = false := by kernel_rfl
@[simp] theorem call_83 : callable Tryz.prog 83 = true := by kernel_rfl
@[simp] theorem ovl_83 : ovlT Tryz.prog 83 = false := by kernel_rfl
@[simp] theorem call_84 : callable Tryz.prog 84 = true := by kernel_rfl
@[simp] theorem ovl_84 : ovlT Tryz.prog 84 = false := by kernel_rfl
@[simp] theorem call_85 : callable Tryz.prog 85 = true := by kernel_rfl
@[simp] theorem ovl_85 : ovlT Tryz.prog 85 = false := by kernel_rfl
@[simp] theorem call_86 : callable Tryz.prog 86 = true := by kernel_rfl
@[simp] theorem ovl_86 : ovlT Tryz.prog 86 = false := by kernel_rfl
@[simp] theorem call_87 : callable Tryz.prog 87 = true := by kernel_rfl
@[simp] theorem ovl_87 : ovlT Tryz.prog 87 = false := by kernel_rfl
@[simp] theorem call_88 : callable Tryz.prog 88 = true := by kernel_rfl
@[simp] theorem ovl_88 : ovlT Tryz.prog 88 = false := by kernel_rfl
@[simp] theorem call_89 : callable Tryz.prog 89 = true := by kernel_rfl
@[simp] theorem ovl_89 : ovlT Tryz.prog 89 = false := by kernel_rfl
@[simp] theorem call_90 : callable Tryz.prog 90 = true := by kernel_rfl
@[simp] theorem ovl_90 : ovlT Tryz.prog 90 = false := by kernel_rfl
@[simp] theorem call_91 : callable Tryz.prog 91 = true := by kernel_rfl
@[simp] theorem ovl_91 : ovlT Tryz.prog 91 = false := by kernel_rfl
@[simp] theorem call_92 : callable Tryz.prog 92 = true := by kernel_rfl
@[simp] theorem ovl_92 : ovlT Tryz.prog 92 = false := by kernel_rfl
@[simp] theorem call_93 : callable Tryz.prog 93 = true := by kernel_rfl
@[simp] theorem ovl_93 : ovlT Tryz.prog 93 = false := by kernel_rfl
@[simp] theorem call_94 : callable Tryz.prog 94 = true := by kernel_rfl
@[simp] theorem ovl_94 : ovlT Tryz.prog 94 = false := by kernel_rfl
@[simp] theorem call_95 : callable Tryz.prog 95 = true := by kernel_rfl
@[simp] theorem ovl_95 : ovlT Tryz.prog 95 = false := by kernel_rfl
@[simp] theorem call_97 : callable Tryz.prog 97 = true := by kernel_rfl
@[simp] theorem ovl_97 : ovlT Tryz.prog 97 = false := by kernel_rfl
@[simp] theorem call_98 : callable Tryz.prog 98 = true := by kernel_rfl
@[simp] theorem ovl_98 : ovlT Tryz.prog 98 = false := by kernel_rfl
@[simp] theorem call_99 : callable Tryz.prog 99 = true := by kernel_rfl
@[simp] theorem ovl_99 : ovlT Tryz.prog 99 = false := by kernel_rfl
@[simp] theorem call_100 : callable Tryz.prog 100 = true := by kernel_rfl
@[simp] theorem ovl_100 : ovlT Tryz.prog 100 = false := by kernel_rfl
@[simp] theorem call_101 : callable Tryz.prog 101 = true := by kernel_rfl
@[simp] theorem ovl_101 : ovlT Tryz.prog 101 = false := by kernel_rfl
@[simp] theorem call_104 : callable Tryz.prog 104 = true := by kernel_rfl
@[simp] theorem ovl_104 : ovlT Tryz.prog 104 = false := by kernel_rfl
@[simp] theorem call_105 : callable Tryz.prog 105 = true := by kernel_rfl
@[simp] theorem ovl_105 : ovlT Tryz.prog 105 = false := by kernel_rfl
@[simp] theorem call_106 : callable Tryz.prog 106 = true := by kernel_rfl
@[simp] theorem ovl_106 : ovlT Tryz.prog 106 = false := by kernel_rfl
@[simp] theorem call_107 : callable Tryz.prog 107 = true := by kernel_rfl
@[simp] theorem ovl_107 : ovlT Tryz.prog 107 = false := by kernel_rfl
@[simp] theorem call_108 : callable Tryz.prog 108 = true := by kernel_rfl
@[simp] theorem ovl_108 : ovlT Tryz.prog 108 = false := by kernel_rfl
@[simp] theorem call_109 : callable Tryz.prog 109 = true := by kernel_rfl
@[simp] theorem ovl_109 : ovlT Tryz.prog 109 = false := by kernel_rfl
@[simp] theorem call_110 : callable Tryz.prog 110 = true := by kernel_rfl
@[simp] theorem ovl_110 : ovlT Tryz.prog 110 = false := by kernel_rfl
@[simp] theorem call_111 : callable Tryz.prog 111 = true := by kernel_rfl
@[simp] theorem ovl_111 : ovlT Tryz.prog 111 = false := by kernel_rfl
@[simp] theorem call_113 : callable Tryz.prog 113 = true := by kernel_rfl
@[simp] theorem ovl_113 : ovlT Tryz.prog 113 = false := by kernel_rfl
@[simp] theorem call_114 : callable Tryz.prog 114 = true := by kernel_rfl
@[simp] theorem ovl_114 : ovlT Tryz.prog 114 = false := by kernel_rfl
@[simp] theorem call_115 : callable Tryz.prog 115 = true := by kernel_rfl
@[simp] theorem ovl_115 : ovlT Tryz.prog 115 = false := by kernel_rfl
@[simp] theorem call_116 : callable Tryz.prog 116 = true := by kernel_rfl
@[simp] theorem ovl_116 : ovlT Tryz.prog 116 = false := by kernel_rfl
@[simp] theorem call_117 : callable Tryz.prog 117 = true := by kernel_rfl
@[simp] theorem ovl_117 : ovlT Tryz.prog 117 = false := by kernel_rfl
@[simp] theorem call_118 : callable Tryz.prog 118 = true := by kernel_rfl
@[simp] theorem ovl_118 : ovlT Tryz.prog 118 = false := by kernel_rfl
@[simp] theorem call_119 : callable Tryz.prog 119 = true := by kernel_rfl
@[simp] theorem ovl_119 : ovlT Tryz.prog 119 = false := by kernel_rfl
@[simp] theorem call_120 : callable Tryz.prog 120 = true := by kernel_rfl
@[simp] theorem ovl_120 : ovlT Tryz.prog 120 = false := by kernel_rfl
@[simp] theorem call_122 : callable Tryz.prog 122 = true := by kernel_rfl
@[simp] theorem ovl_122 : ovlT Tryz.prog 122 = false := by kernel_rfl
@[simp] theorem call_123 : callable Tryz.prog 123 = true := by kernel_rfl
@[simp] theorem ovl_123 : ovlT Tryz.prog 123 = false := by kernel_rfl
@[simp] theorem call_126 : callable Tryz.prog 126 = true := by kernel_rfl
@[simp] theorem ovl_126 : ovlT Tryz.prog 126 = false := by kernel_rfl
@[simp] theorem call_127 : callable Tryz.prog 127 = true := by kernel_rfl
@[simp] theorem ovl_127 : ovlT Tryz.prog 127 = false := by kernel_rfl
@[simp] theorem call_129 : callable Tryz.prog 129 = true := by kernel_rfl
@[simp] theorem ovl_129 : ovlT Tryz.prog 129 = false := by kernel_rfl
@[simp] theorem call_130 : callable Tryz.prog 130 = true := by kernel_rfl
@[simp] theorem ovl_130 : ovlT Tryz.prog 130 = false := by kernel_rfl
@[simp] theorem call_132 : callable Tryz.prog 132 = true := by kernel_rfl
@[simp] theorem ovl_132 : ovlT Tryz.prog 132 = false := by kernel_rfl
@[simp] theorem call_136 : callable Tryz.prog 136 = true := by kernel_rfl
@[simp] theorem ovl_136 : ovlT Tryz.prog 136 = false := by kernel_rfl
@[simp] theorem call_137 : callable Tryz.prog 137 = true := by kernel_rfl
@[simp] theorem ovl_137 : ovlT Tryz.prog 137 = false := by kernel_rfl
@[simp] theorem call_138 : callable Tryz.prog 138 = true := by kernel_rfl
@[simp] theorem ovl_138 : ovlT Tryz.prog 138 = false := by kernel_rfl
@[simp] theorem call_139 : callable Tryz.prog 139 = true := by kernel_rfl
@[simp] theorem ovl_139 : ovlT Tryz.prog 139 = false := by kernel_rfl
@[simp] theorem call_142 : callable Tryz.prog 142 = true := by kernel_rfl
@[simp] theorem ovl_142 : ovlT Tryz.prog 142 = false := by kernel_rfl
@[simp] theorem call_143 : callable Tryz.prog 143 = true := by kernel_rfl
@[simp] theorem ovl_143 : ovlT Tryz.prog 143 = false := by kernel_rfl
@[simp] theorem call_144 : callable Tryz.prog 144 = true := by kernel_rfl
@[simp] theorem ovl_144 : ovlT Tryz.prog 144 = false := by kernel_rfl
@[simp] theorem call_145 : callable Tryz.prog 145 = true := by kernel_rfl
@[simp] theorem ovl_145 : ovlT Tryz.prog 145 = false := by kernel_rfl
@[simp] theorem call_152 : callable Tryz.prog 152 = true := by kernel_rfl
@[simp] theorem ovl_152 : ovlT Tryz.prog 152 = false := by kernel_rfl
@[simp] theorem call_153 : callable Tryz.prog 153 = true := by kernel_rfl
@[simp] theorem ovl_153 : ovlT Tryz.prog 153 = false := by kernel_rfl
@[simp] theorem call_154 : callable Tryz.prog 154 = true := by kernel_rfl
@[simp] theorem ovl_154 : ovlT Tryz.prog 154 = false := by kernel_rfl
@[simp] theorem call_155 : callable Tryz.prog 155 = true := by kernel_rfl
@[simp] theorem ovl_155 : ovlT Tryz.prog 155 = false := by kernel_rfl
@[simp] theorem call_156 : callable Tryz.prog 156 = true := by kernel_rfl
@[simp] theorem ovl_156 : ovlT Tryz.prog 156 = false := by kernel_rfl
@[simp] theorem call_157 : callable Tryz.prog 157 = true := by kernel_rfl
@[simp] theorem ovl_157 : ovlT Tryz.prog 157 = false := by kernel_rfl
@[simp] theorem call_158 : callable Tryz.prog 158 = true := by kernel_rfl
@[simp] theorem ovl_158 : ovlT Tryz.prog 158 = false := by kernel_rfl
@[simp] theorem call_159 : callable Tryz.prog 159 = true := by kernel_rfl
@[simp] theorem ovl_159 : ovlT Tryz.prog 159 = false := by kernel_rfl
@[simp] theorem call_160 : callable Tryz.prog 160 = true := by kernel_rfl
@[simp] theorem ovl_160 : ovlT Tryz.prog 160 = false := by kernel_rfl
@[simp] theorem call_161 : callable Tryz.prog 161 = true := by kernel_rfl
@[simp] theorem ovl_161 : ovlT Tryz.prog 161 = false := by kernel_rfl
@[simp] theorem call_163 : callable Tryz.prog 163 = true := by kernel_rfl
@[simp] theorem ovl_163 : ovlT Tryz.prog 163 = false := by kernel_rfl
@[simp] theorem call_166 : callable Tryz.prog 166 = true := by kernel_rfl
@[simp] theorem ovl_166 : ovlT Tryz.prog 166 = false := by kernel_rfl
@[simp] theorem call_167 : callable Tryz.prog 167 = true := by kernel_rfl
@[simp] theorem ovl_167 : ovlT Tryz.prog 167 = false := by kernel_rfl
@[simp] theorem call_168 : callable Tryz.prog 168 = true := by kernel_rfl
@[simp] theorem ovl_168 : ovlT Tryz.prog 168 = false := by kernel_rfl
@[simp] theorem call_169 : callable Tryz.prog 169 = true := by kernel_rfl
@[simp] theorem ovl_169 : ovlT Tryz.prog 169 = false := by kernel_rfl
theorem mixed : Tryz.prog.follows .mixedOrders = true := by kernel_rfl
end Go.Proofs.YtjgdlocgoiinbaaGreatDoor
