import Derived.Test.YtniifindnnfkaaaDoorRows
import Derived.Test.YtniifindnnfkaaaDoorG4
namespace Go.Proofs.YtniifindnnfkaaaDoor
open Go.RowKit

@[simp] theorem ty_1 : tyT Tryd.prog 1 = some (1, false) := by kernel_rfl
@[simp] theorem sl_1 : slT Tryd.prog 1 = none := by kernel_rfl
@[simp] theorem zero_1 : zeroT Tryd.prog 1 = some ([.nilFunc]) := by kernel_rfl
@[simp] theorem str_1 : isStrT Tryd.prog 1 = false := by kernel_rfl
@[simp] theorem isint_1 : isIntT Tryd.prog 1 = false := by kernel_rfl
@[simp] theorem ty_2 : tyT Tryd.prog 2 = some (1, false) := by kernel_rfl
@[simp] theorem sl_2 : slT Tryd.prog 2 = none := by kernel_rfl
@[simp] theorem zero_2 : zeroT Tryd.prog 2 = some ([.int .i64 0]) := by kernel_rfl
@[simp] theorem int_2 : intT Tryd.prog 2 = some .i64 := by kernel_rfl
@[simp] theorem str_2 : isStrT Tryd.prog 2 = false := by kernel_rfl
@[simp] theorem isint_2 : isIntT Tryd.prog 2 = true := by kernel_rfl
@[simp] theorem ty_3 : tyT Tryd.prog 3 = some (1, false) := by kernel_rfl
@[simp] theorem sl_3 : slT Tryd.prog 3 = none := by kernel_rfl
@[simp] theorem zero_3 : zeroT Tryd.prog 3 = some ([.int .i64 0]) := by kernel_rfl
@[simp] theorem int_3 : intT Tryd.prog 3 = some .i64 := by kernel_rfl
@[simp] theorem str_3 : isStrT Tryd.prog 3 = false := by kernel_rfl
@[simp] theorem isint_3 : isIntT Tryd.prog 3 = true := by kernel_rfl
@[simp] theorem ty_4 : tyT Tryd.prog 4 = some (1, false) := by kernel_rfl
@[simp] theorem sl_4 : slT Tryd.prog 4 = none := by kernel_rfl
@[simp] theorem zero_4 : zeroT Tryd.prog 4 = some ([.bool false]) := by kernel_rfl
@[simp] theorem str_4 : isStrT Tryd.prog 4 = false := by kernel_rfl
@[simp] theorem isint_4 : isIntT Tryd.prog 4 = false := by kernel_rfl
@[simp] theorem bool_4 : isBoolT Tryd.prog 4 = true := by kernel_rfl
@[simp] theorem ty_5 : tyT Tryd.prog 5 = some (1, false) := by kernel_rfl
@[simp] theorem sl_5 : slT Tryd.prog 5 = none := by kernel_rfl
@[simp] theorem zero_5 : zeroT Tryd.prog 5 = some ([.int .u8 0]) := by kernel_rfl
@[simp] theorem int_5 : intT Tryd.prog 5 = some .u8 := by kernel_rfl
@[simp] theorem str_5 : isStrT Tryd.prog 5 = false := by kernel_rfl
@[simp] theorem isint_5 : isIntT Tryd.prog 5 = true := by kernel_rfl
@[simp] theorem ty_7 : tyT Tryd.prog 7 = some (4, true) := by kernel_rfl
@[simp] theorem sl_7 : slT Tryd.prog 7 = none := by kernel_rfl
@[simp] theorem fld_7_0 : fldT Tryd.prog 7 0 = some (0, 1, false) := by kernel_rfl
@[simp] theorem fld_7_1 : fldT Tryd.prog 7 1 = some (1, 1, false) := by kernel_rfl
@[simp] theorem fld_7_2 : fldT Tryd.prog 7 2 = some (2, 1, false) := by kernel_rfl
@[simp] theorem fld_7_3 : fldT Tryd.prog 7 3 = some (3, 1, false) := by kernel_rfl
@[simp] theorem pl_7 : plT Tryd.prog 7 = some fun i => [(0, 1), (1, 1), (2, 1), (3, 1)][i]? := by kernel_rfl
@[simp] theorem zero_7 : zeroT Tryd.prog 7 = some ([.int .i64 0, .int .i64 0, .bool false, .int .u8 0]) := by kernel_rfl
@[simp] theorem str_7 : isStrT Tryd.prog 7 = false := by kernel_rfl
@[simp] theorem isint_7 : isIntT Tryd.prog 7 = false := by kernel_rfl
@[simp] theorem ty_9 : tyT Tryd.prog 9 = some (1, false) := by kernel_rfl
@[simp] theorem sl_9 : slT Tryd.prog 9 = none := by kernel_rfl
@[simp] theorem zero_9 : zeroT Tryd.prog 9 = some ([.string ByteArray.empty]) := by kernel_rfl
@[simp] theorem str_9 : isStrT Tryd.prog 9 = true := by kernel_rfl
@[simp] theorem isint_9 : isIntT Tryd.prog 9 = false := by kernel_rfl
@[simp] theorem ty_12 : tyT Tryd.prog 12 = some (1, false) := by kernel_rfl
@[simp] theorem sl_12 : slT Tryd.prog 12 = none := by kernel_rfl
@[simp] theorem zero_12 : zeroT Tryd.prog 12 = some ([.int .u64 0]) := by kernel_rfl
@[simp] theorem int_12 : intT Tryd.prog 12 = some .u64 := by kernel_rfl
@[simp] theorem str_12 : isStrT Tryd.prog 12 = false := by kernel_rfl
@[simp] theorem isint_12 : isIntT Tryd.prog 12 = true := by kernel_rfl
@[simp] theorem ty_13 : tyT Tryd.prog 13 = some (2, true) := by kernel_rfl
@[simp] theorem sl_13 : slT Tryd.prog 13 = none := by kernel_rfl
@[simp] theorem fld_13_0 : fldT Tryd.prog 13 0 = some (0, 1, false) := by kernel_rfl
@[simp] theorem fld_13_1 : fldT Tryd.prog 13 1 = some (1, 1, false) := by kernel_rfl
@[simp] theorem pl_13 : plT Tryd.prog 13 = some fun i => [(0, 1), (1, 1)][i]? := by kernel_rfl
@[simp] theorem zero_13 : zeroT Tryd.prog 13 = some ([.string ByteArray.empty, .int .u64 0]) := by kernel_rfl
@[simp] theorem str_13 : isStrT Tryd.prog 13 = false := by kernel_rfl
@[simp] theorem isint_13 : isIntT Tryd.prog 13 = false := by kernel_rfl
@[simp] theorem ty_18 : tyT Tryd.prog 18 = some (1, true) := by kernel_rfl
@[simp] theorem sl_18 : slT Tryd.prog 18 = none := by kernel_rfl
@[simp] theorem fld_18_0 : fldT Tryd.prog 18 0 = some (0, 1, false) := by kernel_rfl
@[simp] theorem pl_18 : plT Tryd.prog 18 = some fun i => [(0, 1)][i]? := by kernel_rfl
@[simp] theorem zero_18 : zeroT Tryd.prog 18 = some ([.pointer none]) := by kernel_rfl
@[simp] theorem str_18 : isStrT Tryd.prog 18 = false := by kernel_rfl
@[simp] theorem isint_18 : isIntT Tryd.prog 18 = false := by kernel_rfl
@[simp] theorem ty_19 : tyT Tryd.prog 19 = some (1, true) := by kernel_rfl
@[simp] theorem sl_19 : slT Tryd.prog 19 = none := by kernel_rfl
@[simp] theorem fld_19_0 : fldT Tryd.prog 19 0 = some (0, 1, false) := by kernel_rfl
@[simp] theorem pl_19 : plT Tryd.prog 19 = some fun i => [(0, 1)][i]? := by kernel_rfl
@[simp] theorem zero_19 : zeroT Tryd.prog 19 = some ([.pointer none]) := by kernel_rfl
@[simp] theorem str_19 : isStrT Tryd.prog 19 = false := by kernel_rfl
@[simp] theorem isint_19 : isIntT Tryd.prog 19 = false := by kernel_rfl
@[simp] theorem ty_21 : tyT Tryd.prog 21 = some (1, false) := by kernel_rfl
@[simp] theorem sl_21 : slT Tryd.prog 21 = none := by kernel_rfl
@[simp] theorem zero_21 : zeroT Tryd.prog 21 = some ([.int .i32 0]) := by kernel_rfl
@[simp] theorem int_21 : intT Tryd.prog 21 = some .i32 := by kernel_rfl
@[simp] theorem str_21 : isStrT Tryd.prog 21 = false := by kernel_rfl
@[simp] theorem isint_21 : isIntT Tryd.prog 21 = true := by kernel_rfl
@[simp] theorem ty_22 : tyT Tryd.prog 22 = some (1, false) := by kernel_rfl
@[simp] theorem sl_22 : slT Tryd.prog 22 = some (38, 5, 48) := by kernel_rfl
@[simp] theorem zero_22 : zeroT Tryd.prog 22 = some ([.slice none 0 0]) := by kernel_rfl
@[simp] theorem str_22 : isStrT Tryd.prog 22 = false := by kernel_rfl
@[simp] theorem isint_22 : isIntT Tryd.prog 22 = false := by kernel_rfl
@[simp] theorem ty_23 : tyT Tryd.prog 23 = some (1, false) := by kernel_rfl
@[simp] theorem sl_23 : slT Tryd.prog 23 = none := by kernel_rfl
@[simp] theorem zero_23 : zeroT Tryd.prog 23 = some ([.nilFunc]) := by kernel_rfl
@[simp] theorem str_23 : isStrT Tryd.prog 23 = false := by kernel_rfl
@[simp] theorem isint_23 : isIntT Tryd.prog 23 = false := by kernel_rfl
@[simp] theorem ty_24 : tyT Tryd.prog 24 = some (1, false) := by kernel_rfl
@[simp] theorem sl_24 : slT Tryd.prog 24 = none := by kernel_rfl
@[simp] theorem zero_24 : zeroT Tryd.prog 24 = some ([.nilFunc]) := by kernel_rfl
@[simp] theorem str_24 : isStrT Tryd.prog 24 = false := by kernel_rfl
@[simp] theorem isint_24 : isIntT Tryd.prog 24 = false := by kernel_rfl
@[simp] theorem ty_25 : tyT Tryd.prog 25 = some (1, false) := by kernel_rfl
@[simp] theorem sl_25 : slT Tryd.prog 25 = some (5, 1, 1) := by kernel_rfl
@[simp] theorem zero_25 : zeroT Tryd.prog 25 = some ([.slice none 0 0]) := by kernel_rfl
@[simp] theorem str_25 : isStrT Tryd.prog 25 = false := by kernel_rfl
@[simp] theorem isint_25 : isIntT Tryd.prog 25 = false := by kernel_rfl
@[simp] theorem ty_26 : tyT Tryd.prog 26 = some (1, false) := by kernel_rfl
@[simp] theorem sl_26 : slT Tryd.prog 26 = none := by kernel_rfl
@[simp] theorem zero_26 : zeroT Tryd.prog 26 = some ([.int .i64 0]) := by kernel_rfl
@[simp] theorem int_26 : intT Tryd.prog 26 = some .i64 := by kernel_rfl
@[simp] theorem str_26 : isStrT Tryd.prog 26 = false := by kernel_rfl
@[simp] theorem isint_26 : isIntT Tryd.prog 26 = true := by kernel_rfl
@[simp] theorem ty_28 : tyT Tryd.prog 28 = some (1, false) := by kernel_rfl
@[simp] theorem sl_28 : slT Tryd.prog 28 = none := by kernel_rfl
@[simp] theorem zero_28 : zeroT Tryd.prog 28 = some ([.nilFunc]) := by kernel_rfl
@[simp] theorem str_28 : isStrT Tryd.prog 28 = false := by kernel_rfl
@[simp] theorem isint_28 : isIntT Tryd.prog 28 = false := by kernel_rfl
@[simp] theorem ty_30 : tyT Tryd.prog 30 = some (1, false) := by kernel_rfl
@[simp] theorem sl_30 : slT Tryd.prog 30 = none := by kernel_rfl
@[simp] theorem zero_30 : zeroT Tryd.prog 30 = some ([.nilFunc]) := by kernel_rfl
@[simp] theorem str_30 : isStrT Tryd.prog 30 = false := by kernel_rfl
@[simp] theorem isint_30 : isIntT Tryd.prog 30 = false := by kernel_rfl
@[simp] theorem ty_31 : tyT Tryd.prog 31 = some (1, false) := by kernel_rfl
@[simp] theorem sl_31 : slT Tryd.prog 31 = none := by kernel_rfl
@[simp] theorem zero_31 : zeroT Tryd.prog 31 = some ([.nilFunc]) := by kernel_rfl
@[simp] theorem str_31 : isStrT Tryd.prog 31 = false := by kernel_rfl
@[simp] theorem isint_31 : isIntT Tryd.prog 31 = false := by kernel_rfl
@[simp] theorem ty_32 : tyT Tryd.prog 32 = some (1, false) := by kernel_rfl
@[simp] theorem sl_32 : slT Tryd.prog 32 = none := by kernel_rfl
@[simp] theorem zero_32 : zeroT Tryd.prog 32 = some ([.nilFunc]) := by kernel_rfl
@[simp] theorem str_32 : isStrT Tryd.prog 32 = false := by kernel_rfl
@[simp] theorem isint_32 : isIntT Tryd.prog 32 = false := by kernel_rfl
@[simp] theorem ty_33 : tyT Tryd.prog 33 = some (1, false) := by kernel_rfl
@[simp] theorem sl_33 : slT Tryd.prog 33 = none := by kernel_rfl
@[simp] theorem zero_33 : zeroT Tryd.prog 33 = some ([.nilFunc]) := by kernel_rfl
@[simp] theorem str_33 : isStrT Tryd.prog 33 = false := by kernel_rfl
@[simp] theorem isint_33 : isIntT Tryd.prog 33 = false := by kernel_rfl
@[simp] theorem ty_34 : tyT Tryd.prog 34 = some (1, false) := by kernel_rfl
@[simp] theorem sl_34 : slT Tryd.prog 34 = none := by kernel_rfl
@[simp] theorem zero_34 : zeroT Tryd.prog 34 = some ([.int .i64 0]) := by kernel_rfl
@[simp] theorem int_34 : intT Tryd.prog 34 = some .i64 := by kernel_rfl
@[simp] theorem str_34 : isStrT Tryd.prog 34 = false := by kernel_rfl
@[simp] theorem isint_34 : isIntT Tryd.prog 34 = true := by kernel_rfl
@[simp] theorem ty_35 : tyT Tryd.prog 35 = some (4, true) := by kernel_rfl
@[simp] theorem sl_35 : slT Tryd.prog 35 = none := by kernel_rfl
@[simp] theorem fld_35_0 : fldT Tryd.prog 35 0 = some (0, 1, false) := by kernel_rfl
@[simp] theorem fld_35_1 : fldT Tryd.prog 35 1 = some (1, 1, false) := by kernel_rfl
@[simp] theorem fld_35_2 : fldT Tryd.prog 35 2 = some (2, 1, false) := by kernel_rfl
@[simp] theorem fld_35_3 : fldT Tryd.prog 35 3 = some (3, 1, false) := by kernel_rfl
@[simp] theorem pl_35 : plT Tryd.prog 35 = some fun i => [(0, 1), (1, 1), (2, 1), (3, 1)][i]? := by kernel_rfl
@[simp] theorem zero_35 : zeroT Tryd.prog 35 = some ([.int .i64 0, .int .i64 0, .int .i64 0, .string ByteArray.empty]) := by kernel_rfl
@[simp] theorem str_35 : isStrT Tryd.prog 35 = false := by kernel_rfl
@[simp] theorem isint_35 : isIntT Tryd.prog 35 = false := by kernel_rfl
@[simp] theorem ty_36 : tyT Tryd.prog 36 = some (4, true) := by kernel_rfl
@[simp] theorem sl_36 : slT Tryd.prog 36 = none := by kernel_rfl
@[simp] theorem fld_36_0 : fldT Tryd.prog 36 0 = some (0, 1, false) := by kernel_rfl
@[simp] theorem fld_36_1 : fldT Tryd.prog 36 1 = some (1, 1, false) := by kernel_rfl
@[simp] theorem fld_36_2 : fldT Tryd.prog 36 2 = some (2, 1, false) := by kernel_rfl
@[simp] theorem fld_36_3 : fldT Tryd.prog 36 3 = some (3, 1, false) := by kernel_rfl
@[simp] theorem pl_36 : plT Tryd.prog 36 = some fun i => [(0, 1), (1, 1), (2, 1), (3, 1)][i]? := by kernel_rfl
@[simp] theorem flat_36 : flatT Tryd.prog 36 = some [.i, .i, .i, .s] := by kernel_rfl
@[simp] theorem zero_36 : zeroT Tryd.prog 36 = some ([.int .i64 0, .int .i64 0, .int .i64 0, .string ByteArray.empty]) := by kernel_rfl
@[simp] theorem str_36 : isStrT Tryd.prog 36 = false := by kernel_rfl
@[simp] theorem isint_36 : isIntT Tryd.prog 36 = false := by kernel_rfl
@[simp] theorem ty_37 : tyT Tryd.prog 37 = some (5, true) := by kernel_rfl
@[simp] theorem sl_37 : slT Tryd.prog 37 = none := by kernel_rfl
@[simp] theorem fld_37_0 : fldT Tryd.prog 37 0 = some (0, 1, false) := by kernel_rfl
@[simp] theorem fld_37_1 : fldT Tryd.prog 37 1 = some (1, 4, true) := by kernel_rfl
@[simp] theorem pl_37 : plT Tryd.prog 37 = some fun i => [(0, 1), (1, 4)][i]? := by kernel_rfl
@[simp] theorem zero_37 : zeroT Tryd.prog 37 = some ([.int .i64 0, .int .i64 0, .int .i64 0, .int .i64 0, .string ByteArray.empty]) := by kernel_rfl
@[simp] theorem str_37 : isStrT Tryd.prog 37 = false := by kernel_rfl
@[simp] theorem isint_37 : isIntT Tryd.prog 37 = false := by kernel_rfl
@[simp] theorem ty_38 : tyT Tryd.prog 38 = some (5, true) := by kernel_rfl
@[simp] theorem sl_38 : slT Tryd.prog 38 = none := by kernel_rfl
@[simp] theorem fld_38_0 : fldT Tryd.prog 38 0 = some (0, 1, false) := by kernel_rfl
@[simp] theorem fld_38_1 : fldT Tryd.prog 38 1 = some (1, 4, true) := by kernel_rfl
@[simp] theorem pl_38 : plT Tryd.prog 38 = some fun i => [(0, 1), (1, 4)][i]? := by kernel_rfl
@[simp] theorem flat_38 : flatT Tryd.prog 38 = some [.i, .i, .i, .i, .s] := by kernel_rfl
@[simp] theorem zero_38 : zeroT Tryd.prog 38 = some ([.int .i64 0, .int .i64 0, .int .i64 0, .int .i64 0, .string ByteArray.empty]) := by kernel_rfl
@[simp] theorem str_38 : isStrT Tryd.prog 38 = false := by kernel_rfl
@[simp] theorem isint_38 : isIntT Tryd.prog 38 = false := by kernel_rfl
@[simp] theorem ty_39 : tyT Tryd.prog 39 = some (1, false) := by kernel_rfl
@[simp] theorem sl_39 : slT Tryd.prog 39 = none := by kernel_rfl
@[simp] theorem zero_39 : zeroT Tryd.prog 39 = some ([.nilFunc]) := by kernel_rfl
@[simp] theorem str_39 : isStrT Tryd.prog 39 = false := by kernel_rfl
@[simp] theorem isint_39 : isIntT Tryd.prog 39 = false := by kernel_rfl
@[simp] theorem ty_40 : tyT Tryd.prog 40 = some (1, false) := by kernel_rfl
@[simp] theorem sl_40 : slT Tryd.prog 40 = none := by kernel_rfl
@[simp] theorem zero_40 : zeroT Tryd.prog 40 = some ([.nilFunc]) := by kernel_rfl
@[simp] theorem str_40 : isStrT Tryd.prog 40 = false := by kernel_rfl
@[simp] theorem isint_40 : isIntT Tryd.prog 40 = false := by kernel_rfl
@[simp] theorem ty_41 : tyT Tryd.prog 41 = some (1, false) := by kernel_rfl
@[simp] theorem sl_41 : slT Tryd.prog 41 = some (3, 1, 8) := by kernel_rfl
@[simp] theorem zero_41 : zeroT Tryd.prog 41 = some ([.slice none 0 0]) := by kernel_rfl
@[simp] theorem str_41 : isStrT Tryd.prog 41 = false := by kernel_rfl
@[simp] theorem isint_41 : isIntT Tryd.prog 41 = false := by kernel_rfl
@[simp] theorem ty_42 : tyT Tryd.prog 42 = some (1, false) := by kernel_rfl
@[simp] theorem sl_42 : slT Tryd.prog 42 = none := by kernel_rfl
@[simp] theorem zero_42 : zeroT Tryd.prog 42 = some ([.nilFunc]) := by kernel_rfl
@[simp] theorem str_42 : isStrT Tryd.prog 42 = false := by kernel_rfl
@[simp] theorem isint_42 : isIntT Tryd.prog 42 = false := by kernel_rfl
@[simp] theorem ty_43 : tyT Tryd.prog 43 = some (1, false) := by kernel_rfl
@[simp] theorem sl_43 : slT Tryd.prog 43 = none := by kernel_rfl
@[simp] theorem zero_43 : zeroT Tryd.prog 43 = some ([.nilFunc]) := by kernel_rfl
@[simp] theorem str_43 : isStrT Tryd.prog 43 = false := by kernel_rfl
@[simp] theorem isint_43 : isIntT Tryd.prog 43 = false := by kernel_rfl
@[simp] theorem ty_44 : tyT Tryd.prog 44 = some (1, false) := by kernel_rfl
@[simp] theorem sl_44 : slT Tryd.prog 44 = none := by kernel_rfl
@[simp] theorem zero_44 : zeroT Tryd.prog 44 = some ([.nilFunc]) := by kernel_rfl
@[simp] theorem str_44 : isStrT Tryd.prog 44 = false := by kernel_rfl
@[simp] theorem isint_44 : isIntT Tryd.prog 44 = false := by kernel_rfl
@[simp] theorem ty_45 : tyT Tryd.prog 45 = some (1, false) := by kernel_rfl
@[simp] theorem sl_45 : slT Tryd.prog 45 = none := by kernel_rfl
@[simp] theorem zero_45 : zeroT Tryd.prog 45 = some ([.pointer none]) := by kernel_rfl
@[simp] theorem str_45 : isStrT Tryd.prog 45 = false := by kernel_rfl
@[simp] theorem isint_45 : isIntT Tryd.prog 45 = false := by kernel_rfl
@[simp] theorem ptr_45 : isPtrT Tryd.prog 45 = true := by kernel_rfl
@[simp] theorem ty_46 : tyT Tryd.prog 46 = some (1, true) := by kernel_rfl
@[simp] theorem sl_46 : slT Tryd.prog 46 = none := by kernel_rfl
@[simp] theorem fld_46_0 : fldT Tryd.prog 46 0 = some (0, 1, false) := by kernel_rfl
@[simp] theorem pl_46 : plT Tryd.prog 46 = some fun i => [(0, 1)][i]? := by kernel_rfl
@[simp] theorem zero_46 : zeroT Tryd.prog 46 = some ([.slice none 0 0]) := by kernel_rfl
@[simp] theorem str_46 : isStrT Tryd.prog 46 = false := by kernel_rfl
@[simp] theorem isint_46 : isIntT Tryd.prog 46 = false := by kernel_rfl
@[simp] theorem ty_47 : tyT Tryd.prog 47 = some (1, true) := by kernel_rfl
@[simp] theorem sl_47 : slT Tryd.prog 47 = none := by kernel_rfl
@[simp] theorem fld_47_0 : fldT Tryd.prog 47 0 = some (0, 1, false) := by kernel_rfl
@[simp] theorem pl_47 : plT Tryd.prog 47 = some fun i => [(0, 1)][i]? := by kernel_rfl
@[simp] theorem zero_47 : zeroT Tryd.prog 47 = some ([.slice none 0 0]) := by kernel_rfl
@[simp] theorem str_47 : isStrT Tryd.prog 47 = false := by kernel_rfl
@[simp] theorem isint_47 : isIntT Tryd.prog 47 = false := by kernel_rfl
@[simp] theorem ty_48 : tyT Tryd.prog 48 = some (1, false) := by kernel_rfl
@[simp] theorem sl_48 : slT Tryd.prog 48 = none := by kernel_rfl
@[simp] theorem zero_48 : zeroT Tryd.prog 48 = some ([.nilFunc]) := by kernel_rfl
@[simp] theorem str_48 : isStrT Tryd.prog 48 = false := by kernel_rfl
@[simp] theorem isint_48 : isIntT Tryd.prog 48 = false := by kernel_rfl
@[simp] theorem ty_49 : tyT Tryd.prog 49 = some (1, false) := by kernel_rfl
@[simp] theorem sl_49 : slT Tryd.prog 49 = none := by kernel_rfl
@[simp] theorem zero_49 : zeroT Tryd.prog 49 = some ([.nilFunc]) := by kernel_rfl
@[simp] theorem str_49 : isStrT Tryd.prog 49 = false := by kernel_rfl
@[simp] theorem isint_49 : isIntT Tryd.prog 49 = false := by kernel_rfl
@[simp] theorem ty_50 : tyT Tryd.prog 50 = some (1, false) := by kernel_rfl
@[simp] theorem sl_50 : slT Tryd.prog 50 = none := by kernel_rfl
@[simp] theorem zero_50 : zeroT Tryd.prog 50 = some ([.nilFunc]) := by kernel_rfl
@[simp] theorem str_50 : isStrT Tryd.prog 50 = false := by kernel_rfl
@[simp] theorem isint_50 : isIntT Tryd.prog 50 = false := by kernel_rfl
@[simp] theorem ty_51 : tyT Tryd.prog 51 = some (1, false) := by kernel_rfl
@[simp] theorem sl_51 : slT Tryd.prog 51 = none := by kernel_rfl
@[simp] theorem zero_51 : zeroT Tryd.prog 51 = some ([.nilFunc]) := by kernel_rfl
@[simp] theorem str_51 : isStrT Tryd.prog 51 = false := by kernel_rfl
@[simp] theorem isint_51 : isIntT Tryd.prog 51 = false := by kernel_rfl
@[simp] theorem ty_52 : tyT Tryd.prog 52 = some (1, false) := by kernel_rfl
@[simp] theorem sl_52 : slT Tryd.prog 52 = none := by kernel_rfl
@[simp] theorem zero_52 : zeroT Tryd.prog 52 = some ([.nilFunc]) := by kernel_rfl
@[simp] theorem str_52 : isStrT Tryd.prog 52 = false := by kernel_rfl
@[simp] theorem isint_52 : isIntT Tryd.prog 52 = false := by kernel_rfl
@[simp] theorem ty_53 : tyT Tryd.prog 53 = some (1, false) := by kernel_rfl
@[simp] theorem sl_53 : slT Tryd.prog 53 = none := by kernel_rfl
@[simp] theorem zero_53 : zeroT Tryd.prog 53 = some ([.pointer none]) := by kernel_rfl
@[simp] theorem str_53 : isStrT Tryd.prog 53 = false := by kernel_rfl
@[simp] theorem isint_53 : isIntT Tryd.prog 53 = false := by kernel_rfl
@[simp] theorem ptr_53 : isPtrT Tryd.prog 53 = true := by kernel_rfl
@[simp] theorem ty_54 : tyT Tryd.prog 54 = some (1, false) := by kernel_rfl
@[simp] theorem sl_54 : slT Tryd.prog 54 = none := by kernel_rfl
@[simp] theorem zero_54 : zeroT Tryd.prog 54 = some ([.nilFunc]) := by kernel_rfl
@[simp] theorem str_54 : isStrT Tryd.prog 54 = false := by kernel_rfl
@[simp] theorem isint_54 : isIntT Tryd.prog 54 = false := by kernel_rfl
@[simp] theorem ty_55 : tyT Tryd.prog 55 = some (1, false) := by kernel_rfl
@[simp] theorem sl_55 : slT Tryd.prog 55 = none := by kernel_rfl
@[simp] theorem zero_55 : zeroT Tryd.prog 55 = some ([.nilFunc]) := by kernel_rfl
@[simp] theorem str_55 : isStrT Tryd.prog 55 = false := by kernel_rfl
@[simp] theorem isint_55 : isIntT Tryd.prog 55 = false := by kernel_rfl
@[simp] theorem ty_56 : tyT Tryd.prog 56 = some (1, false) := by kernel_rfl
@[simp] theorem sl_56 : slT Tryd.prog 56 = none := by kernel_rfl
@[simp] theorem zero_56 : zeroT Tryd.prog 56 = some ([.nilFunc]) := by kernel_rfl
@[simp] theorem str_56 : isStrT Tryd.prog 56 = false := by kernel_rfl
@[simp] theorem isint_56 : isIntT Tryd.prog 56 = false := by kernel_rfl
@[simp] theorem ty_57 : tyT Tryd.prog 57 = some (1, false) := by kernel_rfl
@[simp] theorem sl_57 : slT Tryd.prog 57 = none := by kernel_rfl
@[simp] theorem zero_57 : zeroT Tryd.prog 57 = some ([.nilFunc]) := by kernel_rfl
@[simp] theorem str_57 : isStrT Tryd.prog 57 = false := by kernel_rfl
@[simp] theorem isint_57 : isIntT Tryd.prog 57 = false := by kernel_rfl
@[simp] theorem ty_58 : tyT Tryd.prog 58 = some (1, false) := by kernel_rfl
@[simp] theorem sl_58 : slT Tryd.prog 58 = none := by kernel_rfl
@[simp] theorem zero_58 : zeroT Tryd.prog 58 = some ([.nilFunc]) := by kernel_rfl
@[simp] theorem str_58 : isStrT Tryd.prog 58 = false := by kernel_rfl
@[simp] theorem isint_58 : isIntT Tryd.prog 58 = false := by kernel_rfl
@[simp] theorem ty_59 : tyT Tryd.prog 59 = some (1, false) := by kernel_rfl
@[simp] theorem sl_59 : slT Tryd.prog 59 = none := by kernel_rfl
@[simp] theorem zero_59 : zeroT Tryd.prog 59 = some ([.nilFunc]) := by kernel_rfl
@[simp] theorem str_59 : isStrT Tryd.prog 59 = false := by kernel_rfl
@[simp] theorem isint_59 : isIntT Tryd.prog 59 = false := by kernel_rfl
@[simp] theorem ty_61 : tyT Tryd.prog 61 = some (1, false) := by kernel_rfl
@[simp] theorem sl_61 : slT Tryd.prog 61 = none := by kernel_rfl
@[simp] theorem zero_61 : zeroT Tryd.prog 61 = some ([.nilFunc]) := by kernel_rfl
@[simp] theorem str_61 : isStrT Tryd.prog 61 = false := by kernel_rfl
@[simp] theorem isint_61 : isIntT Tryd.prog 61 = false := by kernel_rfl
@[simp] theorem ty_62 : tyT Tryd.prog 62 = some (3, true) := by kernel_rfl
@[simp] theorem sl_62 : slT Tryd.prog 62 = none := by kernel_rfl
@[simp] theorem ar_62 : arT Tryd.prog 62 = some (3, 1) := by kernel_rfl
@[simp] theorem pl_62 : plT Tryd.prog 62 = some fun i => some (i * 1, 1) := by kernel_rfl
@[simp] theorem zero_62 : zeroT Tryd.prog 62 = some ([.int .i64 0, .int .i64 0, .int .i64 0]) := by kernel_rfl
@[simp] theorem str_62 : isStrT Tryd.prog 62 = false := by kernel_rfl
@[simp] theorem isint_62 : isIntT Tryd.prog 62 = false := by kernel_rfl
@[simp] theorem ty_64 : tyT Tryd.prog 64 = some (1, false) := by kernel_rfl
@[simp] theorem sl_64 : slT Tryd.prog 64 = none := by kernel_rfl
@[simp] theorem zero_64 : zeroT Tryd.prog 64 = some ([.nilFunc]) := by kernel_rfl
@[simp] theorem str_64 : isStrT Tryd.prog 64 = false := by kernel_rfl
@[simp] theorem isint_64 : isIntT Tryd.prog 64 = false := by kernel_rfl
@[simp] theorem ty_65 : tyT Tryd.prog 65 = some (1, false) := by kernel_rfl
@[simp] theorem sl_65 : slT Tryd.prog 65 = none := by kernel_rfl
@[simp] theorem zero_65 : zeroT Tryd.prog 65 = some ([.nilFunc]) := by kernel_rfl
@[simp] theorem str_65 : isStrT Tryd.prog 65 = false := by kernel_rfl
@[simp] theorem isint_65 : isIntT Tryd.prog 65 = false := by kernel_rfl
@[simp] theorem ty_67 : tyT Tryd.prog 67 = some (1, false) := by kernel_rfl
@[simp] theorem sl_67 : slT Tryd.prog 67 = none := by kernel_rfl
@[simp] theorem zero_67 : zeroT Tryd.prog 67 = some ([.nilFunc]) := by kernel_rfl
@[simp] theorem str_67 : isStrT Tryd.prog 67 = false := by kernel_rfl
@[simp] theorem isint_67 : isIntT Tryd.prog 67 = false := by kernel_rfl
@[simp] theorem ty_68 : tyT Tryd.prog 68 = some (1, false) := by kernel_rfl
@[simp] theorem sl_68 : slT Tryd.prog 68 = none := by kernel_rfl
@[simp] theorem zero_68 : zeroT Tryd.prog 68 = some ([.nilFunc]) := by kernel_rfl
@[simp] theorem str_68 : isStrT Tryd.prog 68 = false := by kernel_rfl
@[simp] theorem isint_68 : isIntT Tryd.prog 68 = false := by kernel_rfl
@[simp] theorem ty_69 : tyT Tryd.prog 69 = some (1, false) := by kernel_rfl
@[simp] theorem sl_69 : slT Tryd.prog 69 = none := by kernel_rfl
@[simp] theorem zero_69 : zeroT Tryd.prog 69 = some ([.nilFunc]) := by kernel_rfl
@[simp] theorem str_69 : isStrT Tryd.prog 69 = false := by kernel_rfl
@[simp] theorem isint_69 : isIntT Tryd.prog 69 = false := by kernel_rfl
@[simp] theorem ty_70 : tyT Tryd.prog 70 = some (1, false) := by kernel_rfl
@[simp] theorem sl_70 : slT Tryd.prog 70 = none := by kernel_rfl
@[simp] theorem zero_70 : zeroT Tryd.prog 70 = some ([.nilFunc]) := by kernel_rfl
@[simp] theorem str_70 : isStrT Tryd.prog 70 = false := by kernel_rfl
@[simp] theorem isint_70 : isIntT Tryd.prog 70 = false := by kernel_rfl
@[simp] theorem ty_71 : tyT Tryd.prog 71 = some (1, false) := by kernel_rfl
@[simp] theorem sl_71 : slT Tryd.prog 71 = none := by kernel_rfl
@[simp] theorem zero_71 : zeroT Tryd.prog 71 = some ([.nilFunc]) := by kernel_rfl
@[simp] theorem str_71 : isStrT Tryd.prog 71 = false := by kernel_rfl
@[simp] theorem isint_71 : isIntT Tryd.prog 71 = false := by kernel_rfl
@[simp] theorem ty_72 : tyT Tryd.prog 72 = some (1, false) := by kernel_rfl
@[simp] theorem sl_72 : slT Tryd.prog 72 = none := by kernel_rfl
@[simp] theorem zero_72 : zeroT Tryd.prog 72 = some ([.nilFunc]) := by kernel_rfl
@[simp] theorem str_72 : isStrT Tryd.prog 72 = false := by kernel_rfl
@[simp] theorem isint_72 : isIntT Tryd.prog 72 = false := by kernel_rfl
@[simp] theorem ty_73 : tyT Tryd.prog 73 = some (1, false) := by kernel_rfl
@[simp] theorem sl_73 : slT Tryd.prog 73 = none := by kernel_rfl
@[simp] theorem zero_73 : zeroT Tryd.prog 73 = some ([.int .u64 0]) := by kernel_rfl
@[simp] theorem int_73 : intT Tryd.prog 73 = some .u64 := by kernel_rfl
@[simp] theorem str_73 : isStrT Tryd.prog 73 = false := by kernel_rfl
@[simp] theorem isint_73 : isIntT Tryd.prog 73 = true := by kernel_rfl
@[simp] theorem ty_74 : tyT Tryd.prog 74 = some (1, false) := by kernel_rfl
@[simp] theorem sl_74 : slT Tryd.prog 74 = none := by kernel_rfl
@[simp] theorem zero_74 : zeroT Tryd.prog 74 = some ([.int .u64 0]) := by kernel_rfl
@[simp] theorem int_74 : intT Tryd.prog 74 = some .u64 := by kernel_rfl
@[simp] theorem str_74 : isStrT Tryd.prog 74 = false := by kernel_rfl
@[simp] theorem isint_74 : isIntT Tryd.prog 74 = true := by kernel_rfl
@[simp] theorem ty_75 : tyT Tryd.prog 75 = some (1, false) := by kernel_rfl
@[simp] theorem sl_75 : slT Tryd.prog 75 = none := by kernel_rfl
@[simp] theorem zero_75 : zeroT Tryd.prog 75 = some ([.nilFunc]) := by kernel_rfl
@[simp] theorem str_75 : isStrT Tryd.prog 75 = false := by kernel_rfl
@[simp] theorem isint_75 : isIntT Tryd.prog 75 = false := by kernel_rfl
@[simp] theorem ty_76 : tyT Tryd.prog 76 = some (1, false) := by kernel_rfl
@[simp] theorem sl_76 : slT Tryd.prog 76 = none := by kernel_rfl
@[simp] theorem zero_76 : zeroT Tryd.prog 76 = some ([.nilFunc]) := by kernel_rfl
@[simp] theorem str_76 : isStrT Tryd.prog 76 = false := by kernel_rfl
@[simp] theorem isint_76 : isIntT Tryd.prog 76 = false := by kernel_rfl
@[simp] theorem ty_77 : tyT Tryd.prog 77 = some (1, false) := by kernel_rfl
@[simp] theorem sl_77 : slT Tryd.prog 77 = none := by kernel_rfl
@[simp] theorem zero_77 : zeroT Tryd.prog 77 = some ([.nilFunc]) := by kernel_rfl
@[simp] theorem str_77 : isStrT Tryd.prog 77 = false := by kernel_rfl
@[simp] theorem isint_77 : isIntT Tryd.prog 77 = false := by kernel_rfl
@[simp] theorem ty_78 : tyT Tryd.prog 78 = some (1, false) := by kernel_rfl
@[simp] theorem sl_78 : slT Tryd.prog 78 = none := by kernel_rfl
@[simp] theorem zero_78 : zeroT Tryd.prog 78 = some ([.nilFunc]) := by kernel_rfl
@[simp] theorem str_78 : isStrT Tryd.prog 78 = false := by kernel_rfl
@[simp] theorem isint_78 : isIntT Tryd.prog 78 = false := by kernel_rfl
@[simp] theorem ty_79 : tyT Tryd.prog 79 = some (1, false) := by kernel_rfl
@[simp] theorem sl_79 : slT Tryd.prog 79 = none := by kernel_rfl
@[simp] theorem zero_79 : zeroT Tryd.prog 79 = some ([.nilFunc]) := by kernel_rfl
@[simp] theorem str_79 : isStrT Tryd.prog 79 = false := by kernel_rfl
@[simp] theorem isint_79 : isIntT Tryd.prog 79 = false := by kernel_rfl
@[simp] theorem ty_80 : tyT Tryd.prog 80 = some (1, false) := by kernel_rfl
@[simp] theorem sl_80 : slT Tryd.prog 80 = none := by kernel_rfl
@[simp] theorem zero_80 : zeroT Tryd.prog 80 = some ([.nilFunc]) := by kernel_rfl
@[simp] theorem str_80 : isStrT Tryd.prog 80 = false := by kernel_rfl
@[simp] theorem isint_80 : isIntT Tryd.prog 80 = false := by kernel_rfl
@[simp] theorem ty_81 : tyT Tryd.prog 81 = some (2, true) := by kernel_rfl
@[simp] theorem sl_81 : slT Tryd.prog 81 = none := by kernel_rfl
@[simp] theorem fld_81_0 : fldT Tryd.prog 81 0 = some (0, 1, false) := by kernel_rfl
@[simp] theorem fld_81_1 : fldT Tryd.prog 81 1 = some (1, 1, false) := by kernel_rfl
@[simp] theorem pl_81 : plT Tryd.prog 81 = some fun i => [(0, 1), (1, 1)][i]? := by kernel_rfl
@[simp] theorem zero_81 : zeroT Tryd.prog 81 = some ([.slice none 0 0, .bool false]) := by kernel_rfl
@[simp] theorem str_81 : isStrT Tryd.prog 81 = false := by kernel_rfl
@[simp] theorem isint_81 : isIntT Tryd.prog 81 = false := by kernel_rfl
@[simp] theorem ty_82 : tyT Tryd.prog 82 = some (2, true) := by kernel_rfl
@[simp] theorem sl_82 : slT Tryd.prog 82 = none := by kernel_rfl
@[simp] theorem fld_82_0 : fldT Tryd.prog 82 0 = some (0, 1, false) := by kernel_rfl
@[simp] theorem fld_82_1 : fldT Tryd.prog 82 1 = some (1, 1, false) := by kernel_rfl
@[simp] theorem pl_82 : plT Tryd.prog 82 = some fun i => [(0, 1), (1, 1)][i]? := by kernel_rfl
@[simp] theorem zero_82 : zeroT Tryd.prog 82 = some ([.slice none 0 0, .bool false]) := by kernel_rfl
@[simp] theorem str_82 : isStrT Tryd.prog 82 = false := by kernel_rfl
@[simp] theorem isint_82 : isIntT Tryd.prog 82 = false := by kernel_rfl
@[simp] theorem ty_84 : tyT Tryd.prog 84 = some (1, false) := by kernel_rfl
@[simp] theorem sl_84 : slT Tryd.prog 84 = none := by kernel_rfl
@[simp] theorem zero_84 : zeroT Tryd.prog 84 = some ([.nilFunc]) := by kernel_rfl
@[simp] theorem str_84 : isStrT Tryd.prog 84 = false := by kernel_rfl
@[simp] theorem isint_84 : isIntT Tryd.prog 84 = false := by kernel_rfl
@[simp] theorem ty_85 : tyT Tryd.prog 85 = some (1, false) := by kernel_rfl
@[simp] theorem sl_85 : slT Tryd.prog 85 = none := by kernel_rfl
@[simp] theorem zero_85 : zeroT Tryd.prog 85 = some ([.nilFunc]) := by kernel_rfl
@[simp] theorem str_85 : isStrT Tryd.prog 85 = false := by kernel_rfl
@[simp] theorem isint_85 : isIntT Tryd.prog 85 = false := by kernel_rfl
@[simp] theorem ty_86 : tyT Tryd.prog 86 = some (1, false) := by kernel_rfl
@[simp] theorem sl_86 : slT Tryd.prog 86 = none := by kernel_rfl
@[simp] theorem zero_86 : zeroT Tryd.prog 86 = some ([.nilFunc]) := by kernel_rfl
@[simp] theorem str_86 : isStrT Tryd.prog 86 = false := by kernel_rfl
@[simp] theorem isint_86 : isIntT Tryd.prog 86 = false := by kernel_rfl
@[simp] theorem ty_87 : tyT Tryd.prog 87 = some (1, false) := by kernel_rfl
@[simp] theorem sl_87 : slT Tryd.prog 87 = none := by kernel_rfl
@[simp] theorem zero_87 : zeroT Tryd.prog 87 = some ([.nilFunc]) := by kernel_rfl
@[simp] theorem str_87 : isStrT Tryd.prog 87 = false := by kernel_rfl
@[simp] theorem isint_87 : isIntT Tryd.prog 87 = false := by kernel_rfl
@[simp] theorem ty_88 : tyT Tryd.prog 88 = some (1, false) := by kernel_rfl
@[simp] theorem sl_88 : slT Tryd.prog 88 = none := by kernel_rfl
@[simp] theorem zero_88 : zeroT Tryd.prog 88 = some ([.nilFunc]) := by kernel_rfl
@[simp] theorem str_88 : isStrT Tryd.prog 88 = false := by kernel_rfl
@[simp] theorem isint_88 : isIntT Tryd.prog 88 = false := by kernel_rfl
@[simp] theorem ty_89 : tyT Tryd.prog 89 = some (1, false) := by kernel_rfl
@[simp] theorem sl_89 : slT Tryd.prog 89 = none := by kernel_rfl
@[simp] theorem zero_89 : zeroT Tryd.prog 89 = some ([.nilFunc]) := by kernel_rfl
@[simp] theorem str_89 : isStrT Tryd.prog 89 = false := by kernel_rfl
@[simp] theorem isint_89 : isIntT Tryd.prog 89 = false := by kernel_rfl
@[simp] theorem ty_90 : tyT Tryd.prog 90 = some (1, false) := by kernel_rfl
@[simp] theorem sl_90 : slT Tryd.prog 90 = none := by kernel_rfl
@[simp] theorem zero_90 : zeroT Tryd.prog 90 = some ([.nilFunc]) := by kernel_rfl
@[simp] theorem str_90 : isStrT Tryd.prog 90 = false := by kernel_rfl
@[simp] theorem isint_90 : isIntT Tryd.prog 90 = false := by kernel_rfl
@[simp] theorem ty_91 : tyT Tryd.prog 91 = some (1, false) := by kernel_rfl
@[simp] theorem sl_91 : slT Tryd.prog 91 = none := by kernel_rfl
@[simp] theorem zero_91 : zeroT Tryd.prog 91 = some ([.nilFunc]) := by kernel_rfl
@[simp] theorem str_91 : isStrT Tryd.prog 91 = false := by kernel_rfl
@[simp] theorem isint_91 : isIntT Tryd.prog 91 = false := by kernel_rfl
@[simp] theorem ty_92 : tyT Tryd.prog 92 = some (1, false) := by kernel_rfl
@[simp] theorem sl_92 : slT Tryd.prog 92 = none := by kernel_rfl
@[simp] theorem zero_92 : zeroT Tryd.prog 92 = some ([.nilFunc]) := by kernel_rfl
@[simp] theorem str_92 : isStrT Tryd.prog 92 = false := by kernel_rfl
@[simp] theorem isint_92 : isIntT Tryd.prog 92 = false := by kernel_rfl
@[simp] theorem ty_93 : tyT Tryd.prog 93 = some (1, false) := by kernel_rfl
@[simp] theorem sl_93 : slT Tryd.prog 93 = none := by kernel_rfl
@[simp] theorem zero_93 : zeroT Tryd.prog 93 = some ([.nilFunc]) := by kernel_rfl
@[simp] theorem str_93 : isStrT Tryd.prog 93 = false := by kernel_rfl
@[simp] theorem isint_93 : isIntT Tryd.prog 93 = false := by kernel_rfl
@[simp] theorem ty_94 : tyT Tryd.prog 94 = some (256, true) := by kernel_rfl
@[simp] theorem sl_94 : slT Tryd.prog 94 = none := by kernel_rfl
@[simp] theorem ar_94 : arT Tryd.prog 94 = some (256, 1) := by kernel_rfl
@[simp] theorem pl_94 : plT Tryd.prog 94 = some fun i => some (i * 1, 1) := by kernel_rfl
@[simp] theorem zero_94 : zeroT Tryd.prog 94 = some (List.replicate 256 (.int .u8 0)) := by kernel_rfl
@[simp] theorem str_94 : isStrT Tryd.prog 94 = false := by kernel_rfl
@[simp] theorem isint_94 : isIntT Tryd.prog 94 = false := by kernel_rfl
@[simp] theorem ty_95 : tyT Tryd.prog 95 = some (2, true) := by kernel_rfl
@[simp] theorem sl_95 : slT Tryd.prog 95 = none := by kernel_rfl
@[simp] theorem fld_95_0 : fldT Tryd.prog 95 0 = some (0, 1, false) := by kernel_rfl
@[simp] theorem fld_95_1 : fldT Tryd.prog 95 1 = some (1, 1, false) := by kernel_rfl
@[simp] theorem pl_95 : plT Tryd.prog 95 = some fun i => [(0, 1), (1, 1)][i]? := by kernel_rfl
@[simp] theorem zero_95 : zeroT Tryd.prog 95 = some ([.int .u8 0, .int .u8 0]) := by kernel_rfl
@[simp] theorem str_95 : isStrT Tryd.prog 95 = false := by kernel_rfl
@[simp] theorem isint_95 : isIntT Tryd.prog 95 = false := by kernel_rfl
@[simp] theorem ty_96 : tyT Tryd.prog 96 = some (2, true) := by kernel_rfl
@[simp] theorem sl_96 : slT Tryd.prog 96 = none := by kernel_rfl
@[simp] theorem fld_96_0 : fldT Tryd.prog 96 0 = some (0, 1, false) := by kernel_rfl
@[simp] theorem fld_96_1 : fldT Tryd.prog 96 1 = some (1, 1, false) := by kernel_rfl
@[simp] theorem pl_96 : plT Tryd.prog 96 = some fun i => [(0, 1), (1, 1)][i]? := by kernel_rfl
@[simp] theorem zero_96 : zeroT Tryd.prog 96 = some ([.int .u8 0, .int .u8 0]) := by kernel_rfl
@[simp] theorem str_96 : isStrT Tryd.prog 96 = false := by kernel_rfl
@[simp] theorem isint_96 : isIntT Tryd.prog 96 = false := by kernel_rfl
@[simp] theorem ty_97 : tyT Tryd.prog 97 = some (32, true) := by kernel_rfl
@[simp] theorem sl_97 : slT Tryd.prog 97 = none := by kernel_rfl
@[simp] theorem ar_97 : arT Tryd.prog 97 = some (16, 2) := by kernel_rfl
@[simp] theorem pl_97 : plT Tryd.prog 97 = some fun i => some (i * 2, 2) := by kernel_rfl
@[simp] theorem zero_97 : zeroT Tryd.prog 97 = some (List.replicate 32 (.int .u8 0)) := by kernel_rfl
@[simp] theorem str_97 : isStrT Tryd.prog 97 = false := by kernel_rfl
@[simp] theorem isint_97 : isIntT Tryd.prog 97 = false := by kernel_rfl
@[simp] theorem ty_98 : tyT Tryd.prog 98 = some (1, false) := by kernel_rfl
@[simp] theorem sl_98 : slT Tryd.prog 98 = none := by kernel_rfl
@[simp] theorem zero_98 : zeroT Tryd.prog 98 = some ([.nilFunc]) := by kernel_rfl
@[simp] theorem str_98 : isStrT Tryd.prog 98 = false := by kernel_rfl
@[simp] theorem isint_98 : isIntT Tryd.prog 98 = false := by kernel_rfl
@[simp] theorem ty_99 : tyT Tryd.prog 99 = some (4, true) := by kernel_rfl
@[simp] theorem sl_99 : slT Tryd.prog 99 = none := by kernel_rfl
@[simp] theorem fld_99_0 : fldT Tryd.prog 99 0 = some (0, 1, false) := by kernel_rfl
@[simp] theorem fld_99_1 : fldT Tryd.prog 99 1 = some (1, 1, false) := by kernel_rfl
@[simp] theorem fld_99_2 : fldT Tryd.prog 99 2 = some (2, 1, false) := by kernel_rfl
@[simp] theorem fld_99_3 : fldT Tryd.prog 99 3 = some (3, 1, false) := by kernel_rfl
@[simp] theorem pl_99 : plT Tryd.prog 99 = some fun i => [(0, 1), (1, 1), (2, 1), (3, 1)][i]? := by kernel_rfl
@[simp] theorem zero_99 : zeroT Tryd.prog 99 = some ([.pointer none, .pointer none, .pointer none, .string ByteArray.empty]) := by kernel_rfl
@[simp] theorem str_99 : isStrT Tryd.prog 99 = false := by kernel_rfl
@[simp] theorem isint_99 : isIntT Tryd.prog 99 = false := by kernel_rfl
@[simp] theorem ty_101 : tyT Tryd.prog 101 = some (0, true) := by kernel_rfl
@[simp] theorem sl_101 : slT Tryd.prog 101 = none := by kernel_rfl
@[simp] theorem ar_101 : arT Tryd.prog 101 = some (0, 1) := by kernel_rfl
@[simp] theorem pl_101 : plT Tryd.prog 101 = some fun i => some (i * 1, 1) := by kernel_rfl
@[simp] theorem zero_101 : zeroT Tryd.prog 101 = some ([]) := by kernel_rfl
@[simp] theorem str_101 : isStrT Tryd.prog 101 = false := by kernel_rfl
@[simp] theorem isint_101 : isIntT Tryd.prog 101 = false := by kernel_rfl
@[simp] theorem ty_102 : tyT Tryd.prog 102 = some (0, true) := by kernel_rfl
@[simp] theorem sl_102 : slT Tryd.prog 102 = none := by kernel_rfl
@[simp] theorem pl_102 : plT Tryd.prog 102 = some fun i => [(0, 0)][i]? := by kernel_rfl
@[simp] theorem zero_102 : zeroT Tryd.prog 102 = some ([]) := by kernel_rfl
@[simp] theorem str_102 : isStrT Tryd.prog 102 = false := by kernel_rfl
@[simp] theorem isint_102 : isIntT Tryd.prog 102 = false := by kernel_rfl
@[simp] theorem ty_104 : tyT Tryd.prog 104 = some (1, false) := by kernel_rfl
@[simp] theorem sl_104 : slT Tryd.prog 104 = none := by kernel_rfl
@[simp] theorem zero_104 : zeroT Tryd.prog 104 = some ([.int .u32 0]) := by kernel_rfl
@[simp] theorem int_104 : intT Tryd.prog 104 = some .u32 := by kernel_rfl
@[simp] theorem str_104 : isStrT Tryd.prog 104 = false := by kernel_rfl
@[simp] theorem isint_104 : isIntT Tryd.prog 104 = true := by kernel_rfl
@[simp] theorem ty_107 : tyT Tryd.prog 107 = some (1, false) := by kernel_rfl
@[simp] theorem sl_107 : slT Tryd.prog 107 = none := by kernel_rfl
@[simp] theorem zero_107 : zeroT Tryd.prog 107 = some ([.nilFunc]) := by kernel_rfl
@[simp] theorem str_107 : isStrT Tryd.prog 107 = false := by kernel_rfl
@[simp] theorem isint_107 : isIntT Tryd.prog 107 = false := by kernel_rfl
@[simp] theorem ty_108 : tyT Tryd.prog 108 = some (1, false) := by kernel_rfl
@[simp] theorem sl_108 : slT Tryd.prog 108 = none := by kernel_rfl
@[simp] theorem zero_108 : zeroT Tryd.prog 108 = some ([.pointer none]) := by kernel_rfl
@[simp] theorem str_108 : isStrT Tryd.prog 108 = false := by kernel_rfl
@[simp] theorem isint_108 : isIntT Tryd.prog 108 = false := by kernel_rfl
@[simp] theorem ptr_108 : isPtrT Tryd.prog 108 = true := by kernel_rfl
@[simp] theorem ty_111 : tyT Tryd.prog 111 = some (11, true) := by kernel_rfl
@[simp] theorem sl_111 : slT Tryd.prog 111 = none := by kernel_rfl
@[simp] theorem fld_111_0 : fldT Tryd.prog 111 0 = some (0, 1, false) := by kernel_rfl
@[simp] theorem fld_111_1 : fldT Tryd.prog 111 1 = some (1, 1, false) := by kernel_rfl
@[simp] theorem fld_111_2 : fldT Tryd.prog 111 2 = some (2, 1, false) := by kernel_rfl
@[simp] theorem fld_111_3 : fldT Tryd.prog 111 3 = some (3, 1, false) := by kernel_rfl
@[simp] theorem fld_111_4 : fldT Tryd.prog 111 4 = some (4, 1, false) := by kernel_rfl
@[simp] theorem fld_111_5 : fldT Tryd.prog 111 5 = some (5, 1, false) := by kernel_rfl
@[simp] theorem fld_111_6 : fldT Tryd.prog 111 6 = some (6, 1, false) := by kernel_rfl
@[simp] theorem fld_111_7 : fldT Tryd.prog 111 7 = some (7, 1, false) := by kernel_rfl
@[simp] theorem fld_111_8 : fldT Tryd.prog 111 8 = some (8, 1, false) := by kernel_rfl
@[simp] theorem fld_111_9 : fldT Tryd.prog 111 9 = some (9, 1, false) := by kernel_rfl
@[simp] theorem fld_111_10 : fldT Tryd.prog 111 10 = some (10, 1, false) := by kernel_rfl
@[simp] theorem pl_111 : plT Tryd.prog 111 = some fun i => [(0, 1), (1, 1), (2, 1), (3, 1), (4, 1), (5, 1), (6, 1), (7, 1), (8, 1), (9, 1), (10, 1)][i]? := by kernel_rfl
@[simp] theorem zero_111 : zeroT Tryd.prog 111 = some ([.int .u64 0, .int .u64 0, .int .u32 0, .int .u8 0, .int .u8 0, .int .u8 0, .int .u8 0, .nilFunc, .pointer none, .int .i32 0, .int .i32 0]) := by kernel_rfl
@[simp] theorem str_111 : isStrT Tryd.prog 111 = false := by kernel_rfl
@[simp] theorem isint_111 : isIntT Tryd.prog 111 = false := by kernel_rfl
@[simp] theorem ty_113 : tyT Tryd.prog 113 = some (1, false) := by kernel_rfl
@[simp] theorem sl_113 : slT Tryd.prog 113 = none := by kernel_rfl
@[simp] theorem str_113 : isStrT Tryd.prog 113 = false := by kernel_rfl
@[simp] theorem isint_113 : isIntT Tryd.prog 113 = false := by kernel_rfl
@[simp] theorem call_3 : callable Tryd.prog 3 = true := by kernel_rfl
@[simp] theorem ovl_3 : ovlT Tryd.prog 3 = false := by kernel_rfl
@[simp] theorem call_4 : callable Tryd.prog 4 = true := by kernel_rfl
@[simp] theorem ovl_4 : ovlT Tryd.prog 4 = false := by kernel_rfl
@[simp] theorem call_5 : callable Tryd.prog 5 = true := by kernel_rfl
@[simp] theorem ovl_5 : ovlT Tryd.prog 5 = false := by kernel_rfl
@[simp] theorem call_6 : callable Tryd.prog 6 = true := by kernel_rfl
@[simp] theorem ovl_6 : ovlT Tryd.prog 6 = false := by kernel_rfl
@[simp] theorem call_7 : callable Tryd.prog 7 = true := by kernel_rfl
@[simp] theorem ovl_7 : ovlT Tryd.prog 7 = false := by kernel_rfl
@[simp] theorem call_8 : callable Tryd.prog 8 = true := by kernel_rfl
@[simp] theorem ovl_8 : ovlT Tryd.prog 8 = false := by kernel_rfl
@[simp] theorem call_9 : callable Tryd.prog 9 = true := by kernel_rfl
@[simp] theorem ovl_9 : ovlT Tryd.prog 9 = false := by kernel_rfl
@[simp] theorem call_10 : callable Tryd.prog 10 = true := by kernel_rfl
@[simp] theorem ovl_10 : ovlT Tryd.prog 10 = false := by kernel_rfl
@[simp] theorem call_11 : callable Tryd.prog 11 = true := by kernel_rfl
@[simp] theorem ovl_11 : ovlT Tryd.prog 11 = false := by kernel_rfl
@[simp] theorem call_12 : callable Tryd.prog 12 = true := by kernel_rfl
@[simp] theorem ovl_12 : ovlT Tryd.prog 12 = false := by kernel_rfl
@[simp] theorem call_13 : callable Tryd.prog 13 = true := by kernel_rfl
@[simp] theorem ovl_13 : ovlT Tryd.prog 13 = false := by kernel_rfl
@[simp] theorem call_14 : callable Tryd.prog 14 = true := by kernel_rfl
@[simp] theorem ovl_14 : ovlT Tryd.prog 14 = false := by kernel_rfl
@[simp] theorem call_15 : callable Tryd.prog 15 = true := by kernel_rfl
@[simp] theorem ovl_15 : ovlT Tryd.prog 15 = false := by kernel_rfl
@[simp] theorem call_16 : callable Tryd.prog 16 = true := by kernel_rfl
@[simp] theorem ovl_16 : ovlT Tryd.prog 16 = false := by kernel_rfl
@[simp] theorem call_17 : callable Tryd.prog 17 = true := by kernel_rfl
@[simp] theorem ovl_17 : ovlT Tryd.prog 17 = false := by kernel_rfl
@[simp] theorem call_18 : callable Tryd.prog 18 = true := by kernel_rfl
@[simp] theorem ovl_18 : ovlT Tryd.prog 18 = false := by kernel_rfl
@[simp] theorem call_19 : callable Tryd.prog 19 = true := by kernel_rfl
@[simp] theorem ovl_19 : ovlT Tryd.prog 19 = false := by kernel_rfl
@[simp] theorem call_20 : callable Tryd.prog 20 = true := by kernel_rfl
@[simp] theorem ovl_20 : ovlT Tryd.prog 20 = false := by kernel_rfl
@[simp] theorem call_21 : callable Tryd.prog 21 = true := by kernel_rfl
@[simp] theorem ovl_21 : ovlT Tryd.prog 21 = false := by kernel_rfl
@[simp] theorem call_22 : callable Tryd.prog 22 = true := by kernel_rfl
@[simp] theorem ovl_22 : ovlT Tryd.prog 22 = false := by kernel_rfl
@[simp] theorem call_23 : callable Tryd.prog 23 = true := by kernel_rfl
@[simp] theorem ovl_23 : ovlT Tryd.prog 23 = false := by kernel_rfl
@[simp] theorem call_24 : callable Tryd.prog 24 = true := by kernel_rfl
@[simp] theorem ovl_24 : ovlT Tryd.prog 24 = false := by kernel_rfl
@[simp] theorem call_25 : callable Tryd.prog 25 = true := by kernel_rfl
@[simp] theorem ovl_25 : ovlT Tryd.prog 25 = false := by kernel_rfl
@[simp] theorem call_26 : callable Tryd.prog 26 = true := by kernel_rfl
@[simp] theorem ovl_26 : ovlT Tryd.prog 26 = false := by kernel_rfl
@[simp] theorem call_27 : callable Tryd.prog 27 = true := by kernel_rfl
@[simp] theorem ovl_27 : ovlT Tryd.prog 27 = false := by kernel_rfl
@[simp] theorem call_28 : callable Tryd.prog 28 = true := by kernel_rfl
@[simp] theorem ovl_28 : ovlT Tryd.prog 28 = false := by kernel_rfl
@[simp] theorem call_29 : callable Tryd.prog 29 = true := by kernel_rfl
@[simp] theorem ovl_29 : ovlT Tryd.prog 29 = false := by kernel_rfl
@[simp] theorem call_30 : callable Tryd.prog 30 = true := by kernel_rfl
@[simp] theorem ovl_30 : ovlT Tryd.prog 30 = false := by kernel_rfl
@[simp] theorem call_31 : callable Tryd.prog 31 = true := by kernel_rfl
@[simp] theorem ovl_31 : ovlT Tryd.prog 31 = false := by kernel_rfl
@[simp] theorem call_32 : callable Tryd.prog 32 = true := by kernel_rfl
@[simp] theorem ovl_32 : ovlT Tryd.prog 32 = false := by kernel_rfl
@[simp] theorem call_33 : callable Tryd.prog 33 = true := by kernel_rfl
@[simp] theorem ovl_33 : ovlT Tryd.prog 33 = false := by kernel_rfl
@[simp] theorem call_34 : callable Tryd.prog 34 = true := by kernel_rfl
@[simp] theorem ovl_34 : ovlT Tryd.prog 34 = false := by kernel_rfl
@[simp] theorem call_35 : callable Tryd.prog 35 = true := by kernel_rfl
@[simp] theorem ovl_35 : ovlT Tryd.prog 35 = false := by kernel_rfl
@[simp] theorem call_36 : callable Tryd.prog 36 = true := by kernel_rfl
@[simp] theorem ovl_36 : ovlT Tryd.prog 36 = false := by kernel_rfl
@[simp] theorem call_37 : callable Tryd.prog 37 = true := by kernel_rfl
@[simp] theorem ovl_37 : ovlT Tryd.prog 37 = false := by kernel_rfl
@[simp] theorem call_38 : callable Tryd.prog 38 = true := by kernel_rfl
@[simp] theorem ovl_38 : ovlT Tryd.prog 38 = false := by kernel_rfl
@[simp] theorem call_39 : callable Tryd.prog 39 = true := by kernel_rfl
@[simp] theorem ovl_39 : ovlT Tryd.prog 39 = false := by kernel_rfl
@[simp] theorem call_40 : callable Tryd.prog 40 = true := by kernel_rfl
@[simp] theorem ovl_40 : ovlT Tryd.prog 40 = false := by kernel_rfl
@[simp] theorem call_41 : callable Tryd.prog 41 = true := by kernel_rfl
@[simp] theorem ovl_41 : ovlT Tryd.prog 41 = false := by kernel_rfl
@[simp] theorem call_42 : callable Tryd.prog 42 = true := by kernel_rfl
@[simp] theorem ovl_42 : ovlT Tryd.prog 42 = false := by kernel_rfl
@[simp] theorem call_43 : callable Tryd.prog 43 = true := by kernel_rfl
@[simp] theorem ovl_43 : ovlT Tryd.prog 43 = false := by kernel_rfl
@[simp] theorem call_44 : callable Tryd.prog 44 = true := by kernel_rfl
@[simp] theorem ovl_44 : ovlT Tryd.prog 44 = false := by kernel_rfl
@[simp] theorem call_45 : callable Tryd.prog 45 = true := by kernel_rfl
@[simp] theorem ovl_45 : ovlT Tryd.prog 45 = false := by kernel_rfl
@[simp] theorem call_46 : callable Tryd.prog 46 = true := by kernel_rfl
@[simp] theorem ovl_46 : ovlT Tryd.prog 46 = false := by kernel_rfl
@[simp] theorem call_47 : callable Tryd.prog 47 = true := by kernel_rfl
@[simp] theorem ovl_47 : ovlT Tryd.prog 47 = false := by kernel_rfl
@[simp] theorem call_48 : callable Tryd.prog 48 = true := by kernel_rfl
@[simp] theorem ovl_48 : ovlT Tryd.prog 48 = false := by kernel_rfl
@[simp] theorem call_49 : callable Tryd.prog 49 = true := by kernel_rfl
@[simp] theorem ovl_49 : ovlT Tryd.prog 49 = false := by kernel_rfl
@[simp] theorem call_50 : callable Tryd.prog 50 = true := by kernel_rfl
@[simp] theorem ovl_50 : ovlT Tryd.prog 50 = false := by kernel_rfl
@[simp] theorem call_51 : callable Tryd.prog 51 = true := by kernel_rfl
@[simp] theorem ovl_51 : ovlT Tryd.prog 51 = false := by kernel_rfl
@[simp] theorem call_52 : callable Tryd.prog 52 = true := by kernel_rfl
@[simp] theorem ovl_52 : ovlT Tryd.prog 52 = false := by kernel_rfl
@[simp] theorem call_53 : callable Tryd.prog 53 = true := by kernel_rfl
@[simp] theorem ovl_53 : ovlT Tryd.prog 53 = false := by kernel_rfl
@[simp] theorem call_54 : callable Tryd.prog 54 = true := by kernel_rfl
@[simp] theorem ovl_54 : ovlT Tryd.prog 54 = false := by kernel_rfl
@[simp] theorem call_55 : callable Tryd.prog 55 = true := by kernel_rfl
@[simp] theorem ovl_55 : ovlT Tryd.prog 55 = false := by kernel_rfl
@[simp] theorem call_56 : callable Tryd.prog 56 = true := by kernel_rfl
@[simp] theorem ovl_56 : ovlT Tryd.prog 56 = false := by kernel_rfl
@[simp] theorem call_57 : callable Tryd.prog 57 = true := by kernel_rfl
@[simp] theorem ovl_57 : ovlT Tryd.prog 57 = false := by kernel_rfl
@[simp] theorem call_58 : callable Tryd.prog 58 = true := by kernel_rfl
@[simp] theorem ovl_58 : ovlT Tryd.prog 58 = false := by kernel_rfl
@[simp] theorem call_59 : callable Tryd.prog 59 = true := by kernel_rfl
@[simp] theorem ovl_59 : ovlT Tryd.prog 59 = false := by kernel_rfl
@[simp] theorem call_60 : callable Tryd.prog 60 = true := by kernel_rfl
@[simp] theorem ovl_60 : ovlT Tryd.prog 60 = false := by kernel_rfl
@[simp] theorem call_61 : callable Tryd.prog 61 = true := by kernel_rfl
@[simp] theorem ovl_61 : ovlT Tryd.prog 61 = false := by kernel_rfl
@[simp] theorem call_62 : callable Tryd.prog 62 = true := by kernel_rfl
@[simp] theorem ovl_62 : ovlT Tryd.prog 62 = false := by kernel_rfl
@[simp] theorem call_63 : callable Tryd.prog 63 = true := by kernel_rfl
@[simp] theorem ovl_63 : ovlT Tryd.prog 63 = false := by kernel_rfl
@[simp] theorem call_65 : callable Tryd.prog 65 = true := by kernel_rfl
@[simp] theorem ovl_65 : ovlT Tryd.prog 65 = false := by kernel_rfl
@[simp] theorem call_66 : callable Tryd.prog 66 = true := by kernel_rfl
@[simp] theorem ovl_66 : ovlT Tryd.prog 66 = false := by kernel_rfl
@[simp] theorem call_67 : callable Tryd.prog 67 = true := by kernel_rfl
@[simp] theorem ovl_67 : ovlT Tryd.prog 67 = false := by kernel_rfl
@[simp] theorem call_68 : callable Tryd.prog 68 = true := by kernel_rfl
@[simp] theorem ovl_68 : ovlT Tryd.prog 68 = false := by kernel_rfl
@[simp] theorem call_69 : callable Tryd.prog 69 = true := by kernel_rfl
@[simp] theorem ovl_69 : ovlT Tryd.prog 69 = false := by kernel_rfl
@[simp] theorem call_70 : callable Tryd.prog 70 = true := by kernel_rfl
@[simp] theorem ovl_70 : ovlT Tryd.prog 70 = false := by kernel_rfl
@[simp] theorem call_71 : callable Tryd.prog 71 = true := by kernel_rfl
@[simp] theorem ovl_71 : ovlT Tryd.prog 71 = false := by kernel_rfl
@[simp] theorem call_72 : callable Tryd.prog 72 = true := by kernel_rfl
@[simp] theorem ovl_72 : ovlT Tryd.prog 72 = false := by kernel_rfl
@[simp] theorem ovl_64 : ovlT Tryd.prog 64 = true := by kernel_rfl
theorem mixed : Tryd.prog.follows .mixedOrders = true := by kernel_rfl
end Go.Proofs.YtniifindnnfkaaaDoor
