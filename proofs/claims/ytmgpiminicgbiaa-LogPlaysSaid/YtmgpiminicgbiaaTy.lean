import Derived.Test.YtmgpiminicgbiaaRows
import Derived.Test.YtmgpiminicgbiaaG4
namespace Go.Proofs.Ytmgpiminicgbiaa
open Go.RowKit

@[simp] theorem ty_1 : tyT Try.prog 1 = some (1, false) := by kernel_rfl
@[simp] theorem sl_1 : slT Try.prog 1 = none := by kernel_rfl
@[simp] theorem zero_1 : zeroT Try.prog 1 = some ([.nilFunc]) := by kernel_rfl
@[simp] theorem str_1 : isStrT Try.prog 1 = false := by kernel_rfl
@[simp] theorem isint_1 : isIntT Try.prog 1 = false := by kernel_rfl
@[simp] theorem ty_2 : tyT Try.prog 2 = some (1, false) := by kernel_rfl
@[simp] theorem sl_2 : slT Try.prog 2 = none := by kernel_rfl
@[simp] theorem zero_2 : zeroT Try.prog 2 = some ([.int .i64 0]) := by kernel_rfl
@[simp] theorem int_2 : intT Try.prog 2 = some .i64 := by kernel_rfl
@[simp] theorem str_2 : isStrT Try.prog 2 = false := by kernel_rfl
@[simp] theorem isint_2 : isIntT Try.prog 2 = true := by kernel_rfl
@[simp] theorem ty_3 : tyT Try.prog 3 = some (1, false) := by kernel_rfl
@[simp] theorem sl_3 : slT Try.prog 3 = none := by kernel_rfl
@[simp] theorem zero_3 : zeroT Try.prog 3 = some ([.int .i64 0]) := by kernel_rfl
@[simp] theorem int_3 : intT Try.prog 3 = some .i64 := by kernel_rfl
@[simp] theorem str_3 : isStrT Try.prog 3 = false := by kernel_rfl
@[simp] theorem isint_3 : isIntT Try.prog 3 = true := by kernel_rfl
@[simp] theorem ty_4 : tyT Try.prog 4 = some (1, false) := by kernel_rfl
@[simp] theorem sl_4 : slT Try.prog 4 = none := by kernel_rfl
@[simp] theorem zero_4 : zeroT Try.prog 4 = some ([.bool false]) := by kernel_rfl
@[simp] theorem str_4 : isStrT Try.prog 4 = false := by kernel_rfl
@[simp] theorem isint_4 : isIntT Try.prog 4 = false := by kernel_rfl
@[simp] theorem bool_4 : isBoolT Try.prog 4 = true := by kernel_rfl
@[simp] theorem ty_5 : tyT Try.prog 5 = some (1, false) := by kernel_rfl
@[simp] theorem sl_5 : slT Try.prog 5 = none := by kernel_rfl
@[simp] theorem zero_5 : zeroT Try.prog 5 = some ([.int .u8 0]) := by kernel_rfl
@[simp] theorem int_5 : intT Try.prog 5 = some .u8 := by kernel_rfl
@[simp] theorem str_5 : isStrT Try.prog 5 = false := by kernel_rfl
@[simp] theorem isint_5 : isIntT Try.prog 5 = true := by kernel_rfl
@[simp] theorem ty_7 : tyT Try.prog 7 = some (4, true) := by kernel_rfl
@[simp] theorem sl_7 : slT Try.prog 7 = none := by kernel_rfl
@[simp] theorem fld_7_0 : fldT Try.prog 7 0 = some (0, 1, false) := by kernel_rfl
@[simp] theorem fld_7_1 : fldT Try.prog 7 1 = some (1, 1, false) := by kernel_rfl
@[simp] theorem fld_7_2 : fldT Try.prog 7 2 = some (2, 1, false) := by kernel_rfl
@[simp] theorem fld_7_3 : fldT Try.prog 7 3 = some (3, 1, false) := by kernel_rfl
@[simp] theorem pl_7 : plT Try.prog 7 = some fun i => [(0, 1), (1, 1), (2, 1), (3, 1)][i]? := by kernel_rfl
@[simp] theorem zero_7 : zeroT Try.prog 7 = some ([.int .i64 0, .int .i64 0, .bool false, .int .u8 0]) := by kernel_rfl
@[simp] theorem str_7 : isStrT Try.prog 7 = false := by kernel_rfl
@[simp] theorem isint_7 : isIntT Try.prog 7 = false := by kernel_rfl
@[simp] theorem ty_9 : tyT Try.prog 9 = some (1, false) := by kernel_rfl
@[simp] theorem sl_9 : slT Try.prog 9 = none := by kernel_rfl
@[simp] theorem zero_9 : zeroT Try.prog 9 = some ([.string ByteArray.empty]) := by kernel_rfl
@[simp] theorem str_9 : isStrT Try.prog 9 = true := by kernel_rfl
@[simp] theorem isint_9 : isIntT Try.prog 9 = false := by kernel_rfl
@[simp] theorem ty_12 : tyT Try.prog 12 = some (1, false) := by kernel_rfl
@[simp] theorem sl_12 : slT Try.prog 12 = none := by kernel_rfl
@[simp] theorem zero_12 : zeroT Try.prog 12 = some ([.int .u64 0]) := by kernel_rfl
@[simp] theorem int_12 : intT Try.prog 12 = some .u64 := by kernel_rfl
@[simp] theorem str_12 : isStrT Try.prog 12 = false := by kernel_rfl
@[simp] theorem isint_12 : isIntT Try.prog 12 = true := by kernel_rfl
@[simp] theorem ty_13 : tyT Try.prog 13 = some (2, true) := by kernel_rfl
@[simp] theorem sl_13 : slT Try.prog 13 = none := by kernel_rfl
@[simp] theorem fld_13_0 : fldT Try.prog 13 0 = some (0, 1, false) := by kernel_rfl
@[simp] theorem fld_13_1 : fldT Try.prog 13 1 = some (1, 1, false) := by kernel_rfl
@[simp] theorem pl_13 : plT Try.prog 13 = some fun i => [(0, 1), (1, 1)][i]? := by kernel_rfl
@[simp] theorem zero_13 : zeroT Try.prog 13 = some ([.string ByteArray.empty, .int .u64 0]) := by kernel_rfl
@[simp] theorem str_13 : isStrT Try.prog 13 = false := by kernel_rfl
@[simp] theorem isint_13 : isIntT Try.prog 13 = false := by kernel_rfl
@[simp] theorem ty_18 : tyT Try.prog 18 = some (1, true) := by kernel_rfl
@[simp] theorem sl_18 : slT Try.prog 18 = none := by kernel_rfl
@[simp] theorem fld_18_0 : fldT Try.prog 18 0 = some (0, 1, false) := by kernel_rfl
@[simp] theorem pl_18 : plT Try.prog 18 = some fun i => [(0, 1)][i]? := by kernel_rfl
@[simp] theorem zero_18 : zeroT Try.prog 18 = some ([.pointer none]) := by kernel_rfl
@[simp] theorem str_18 : isStrT Try.prog 18 = false := by kernel_rfl
@[simp] theorem isint_18 : isIntT Try.prog 18 = false := by kernel_rfl
@[simp] theorem ty_19 : tyT Try.prog 19 = some (1, true) := by kernel_rfl
@[simp] theorem sl_19 : slT Try.prog 19 = none := by kernel_rfl
@[simp] theorem fld_19_0 : fldT Try.prog 19 0 = some (0, 1, false) := by kernel_rfl
@[simp] theorem pl_19 : plT Try.prog 19 = some fun i => [(0, 1)][i]? := by kernel_rfl
@[simp] theorem zero_19 : zeroT Try.prog 19 = some ([.pointer none]) := by kernel_rfl
@[simp] theorem str_19 : isStrT Try.prog 19 = false := by kernel_rfl
@[simp] theorem isint_19 : isIntT Try.prog 19 = false := by kernel_rfl
@[simp] theorem if_20 : ifT Try.prog 20 = true := by kernel_rfl
@[simp] theorem ty_21 : tyT Try.prog 21 = some (1, false) := by kernel_rfl
@[simp] theorem sl_21 : slT Try.prog 21 = none := by kernel_rfl
@[simp] theorem zero_21 : zeroT Try.prog 21 = some ([.int .i32 0]) := by kernel_rfl
@[simp] theorem int_21 : intT Try.prog 21 = some .i32 := by kernel_rfl
@[simp] theorem str_21 : isStrT Try.prog 21 = false := by kernel_rfl
@[simp] theorem isint_21 : isIntT Try.prog 21 = true := by kernel_rfl
@[simp] theorem ty_22 : tyT Try.prog 22 = some (1, false) := by kernel_rfl
@[simp] theorem sl_22 : slT Try.prog 22 = some (35, 4, 64) := by kernel_rfl
@[simp] theorem zero_22 : zeroT Try.prog 22 = some ([.slice none 0 0]) := by kernel_rfl
@[simp] theorem str_22 : isStrT Try.prog 22 = false := by kernel_rfl
@[simp] theorem isint_22 : isIntT Try.prog 22 = false := by kernel_rfl
@[simp] theorem ty_23 : tyT Try.prog 23 = some (1, false) := by kernel_rfl
@[simp] theorem sl_23 : slT Try.prog 23 = some (3, 1, 8) := by kernel_rfl
@[simp] theorem zero_23 : zeroT Try.prog 23 = some ([.slice none 0 0]) := by kernel_rfl
@[simp] theorem str_23 : isStrT Try.prog 23 = false := by kernel_rfl
@[simp] theorem isint_23 : isIntT Try.prog 23 = false := by kernel_rfl
@[simp] theorem ty_24 : tyT Try.prog 24 = some (1, false) := by kernel_rfl
@[simp] theorem sl_24 : slT Try.prog 24 = none := by kernel_rfl
@[simp] theorem zero_24 : zeroT Try.prog 24 = some ([.nilFunc]) := by kernel_rfl
@[simp] theorem str_24 : isStrT Try.prog 24 = false := by kernel_rfl
@[simp] theorem isint_24 : isIntT Try.prog 24 = false := by kernel_rfl
@[simp] theorem ty_25 : tyT Try.prog 25 = some (1, false) := by kernel_rfl
@[simp] theorem sl_25 : slT Try.prog 25 = none := by kernel_rfl
@[simp] theorem zero_25 : zeroT Try.prog 25 = some ([.pointer none]) := by kernel_rfl
@[simp] theorem str_25 : isStrT Try.prog 25 = false := by kernel_rfl
@[simp] theorem isint_25 : isIntT Try.prog 25 = false := by kernel_rfl
@[simp] theorem ptr_25 : isPtrT Try.prog 25 = true := by kernel_rfl
@[simp] theorem ty_26 : tyT Try.prog 26 = some (1, false) := by kernel_rfl
@[simp] theorem sl_26 : slT Try.prog 26 = none := by kernel_rfl
@[simp] theorem zero_26 : zeroT Try.prog 26 = some ([.int .i64 0]) := by kernel_rfl
@[simp] theorem int_26 : intT Try.prog 26 = some .i64 := by kernel_rfl
@[simp] theorem str_26 : isStrT Try.prog 26 = false := by kernel_rfl
@[simp] theorem isint_26 : isIntT Try.prog 26 = true := by kernel_rfl
@[simp] theorem ty_28 : tyT Try.prog 28 = some (1, false) := by kernel_rfl
@[simp] theorem sl_28 : slT Try.prog 28 = none := by kernel_rfl
@[simp] theorem zero_28 : zeroT Try.prog 28 = some ([.nilFunc]) := by kernel_rfl
@[simp] theorem str_28 : isStrT Try.prog 28 = false := by kernel_rfl
@[simp] theorem isint_28 : isIntT Try.prog 28 = false := by kernel_rfl
@[simp] theorem ty_29 : tyT Try.prog 29 = some (1, false) := by kernel_rfl
@[simp] theorem sl_29 : slT Try.prog 29 = none := by kernel_rfl
@[simp] theorem zero_29 : zeroT Try.prog 29 = some ([.pointer none]) := by kernel_rfl
@[simp] theorem str_29 : isStrT Try.prog 29 = false := by kernel_rfl
@[simp] theorem isint_29 : isIntT Try.prog 29 = false := by kernel_rfl
@[simp] theorem ptr_29 : isPtrT Try.prog 29 = true := by kernel_rfl
@[simp] theorem ty_31 : tyT Try.prog 31 = some (1, false) := by kernel_rfl
@[simp] theorem sl_31 : slT Try.prog 31 = none := by kernel_rfl
@[simp] theorem zero_31 : zeroT Try.prog 31 = some ([.nilFunc]) := by kernel_rfl
@[simp] theorem str_31 : isStrT Try.prog 31 = false := by kernel_rfl
@[simp] theorem isint_31 : isIntT Try.prog 31 = false := by kernel_rfl
@[simp] theorem ty_32 : tyT Try.prog 32 = some (1, false) := by kernel_rfl
@[simp] theorem sl_32 : slT Try.prog 32 = some (9, 1, 16) := by kernel_rfl
@[simp] theorem zero_32 : zeroT Try.prog 32 = some ([.slice none 0 0]) := by kernel_rfl
@[simp] theorem str_32 : isStrT Try.prog 32 = false := by kernel_rfl
@[simp] theorem isint_32 : isIntT Try.prog 32 = false := by kernel_rfl
@[simp] theorem ty_33 : tyT Try.prog 33 = some (1, false) := by kernel_rfl
@[simp] theorem sl_33 : slT Try.prog 33 = some (5, 1, 1) := by kernel_rfl
@[simp] theorem zero_33 : zeroT Try.prog 33 = some ([.slice none 0 0]) := by kernel_rfl
@[simp] theorem str_33 : isStrT Try.prog 33 = false := by kernel_rfl
@[simp] theorem isint_33 : isIntT Try.prog 33 = false := by kernel_rfl
@[simp] theorem ty_34 : tyT Try.prog 34 = some (4, true) := by kernel_rfl
@[simp] theorem sl_34 : slT Try.prog 34 = none := by kernel_rfl
@[simp] theorem fld_34_0 : fldT Try.prog 34 0 = some (0, 1, false) := by kernel_rfl
@[simp] theorem fld_34_1 : fldT Try.prog 34 1 = some (1, 1, false) := by kernel_rfl
@[simp] theorem fld_34_2 : fldT Try.prog 34 2 = some (2, 1, false) := by kernel_rfl
@[simp] theorem fld_34_3 : fldT Try.prog 34 3 = some (3, 1, false) := by kernel_rfl
@[simp] theorem pl_34 : plT Try.prog 34 = some fun i => [(0, 1), (1, 1), (2, 1), (3, 1)][i]? := by kernel_rfl
@[simp] theorem zero_34 : zeroT Try.prog 34 = some ([.int .i64 0, .int .i64 0, .slice none 0 0, .slice none 0 0]) := by kernel_rfl
@[simp] theorem str_34 : isStrT Try.prog 34 = false := by kernel_rfl
@[simp] theorem isint_34 : isIntT Try.prog 34 = false := by kernel_rfl
@[simp] theorem ty_35 : tyT Try.prog 35 = some (4, true) := by kernel_rfl
@[simp] theorem sl_35 : slT Try.prog 35 = none := by kernel_rfl
@[simp] theorem fld_35_0 : fldT Try.prog 35 0 = some (0, 1, false) := by kernel_rfl
@[simp] theorem fld_35_1 : fldT Try.prog 35 1 = some (1, 1, false) := by kernel_rfl
@[simp] theorem fld_35_2 : fldT Try.prog 35 2 = some (2, 1, false) := by kernel_rfl
@[simp] theorem fld_35_3 : fldT Try.prog 35 3 = some (3, 1, false) := by kernel_rfl
@[simp] theorem pl_35 : plT Try.prog 35 = some fun i => [(0, 1), (1, 1), (2, 1), (3, 1)][i]? := by kernel_rfl
@[simp] theorem zero_35 : zeroT Try.prog 35 = some ([.int .i64 0, .int .i64 0, .slice none 0 0, .slice none 0 0]) := by kernel_rfl
@[simp] theorem str_35 : isStrT Try.prog 35 = false := by kernel_rfl
@[simp] theorem isint_35 : isIntT Try.prog 35 = false := by kernel_rfl
@[simp] theorem ty_36 : tyT Try.prog 36 = some (1, false) := by kernel_rfl
@[simp] theorem sl_36 : slT Try.prog 36 = none := by kernel_rfl
@[simp] theorem zero_36 : zeroT Try.prog 36 = some ([.nilFunc]) := by kernel_rfl
@[simp] theorem str_36 : isStrT Try.prog 36 = false := by kernel_rfl
@[simp] theorem isint_36 : isIntT Try.prog 36 = false := by kernel_rfl
@[simp] theorem ty_37 : tyT Try.prog 37 = some (1, false) := by kernel_rfl
@[simp] theorem sl_37 : slT Try.prog 37 = none := by kernel_rfl
@[simp] theorem zero_37 : zeroT Try.prog 37 = some ([.nilFunc]) := by kernel_rfl
@[simp] theorem str_37 : isStrT Try.prog 37 = false := by kernel_rfl
@[simp] theorem isint_37 : isIntT Try.prog 37 = false := by kernel_rfl
@[simp] theorem ty_38 : tyT Try.prog 38 = some (1, false) := by kernel_rfl
@[simp] theorem sl_38 : slT Try.prog 38 = none := by kernel_rfl
@[simp] theorem zero_38 : zeroT Try.prog 38 = some ([.int .u64 0]) := by kernel_rfl
@[simp] theorem int_38 : intT Try.prog 38 = some .u64 := by kernel_rfl
@[simp] theorem str_38 : isStrT Try.prog 38 = false := by kernel_rfl
@[simp] theorem isint_38 : isIntT Try.prog 38 = true := by kernel_rfl
@[simp] theorem ty_39 : tyT Try.prog 39 = some (1, false) := by kernel_rfl
@[simp] theorem sl_39 : slT Try.prog 39 = none := by kernel_rfl
@[simp] theorem zero_39 : zeroT Try.prog 39 = some ([.nilFunc]) := by kernel_rfl
@[simp] theorem str_39 : isStrT Try.prog 39 = false := by kernel_rfl
@[simp] theorem isint_39 : isIntT Try.prog 39 = false := by kernel_rfl
@[simp] theorem ty_40 : tyT Try.prog 40 = some (1, false) := by kernel_rfl
@[simp] theorem sl_40 : slT Try.prog 40 = none := by kernel_rfl
@[simp] theorem zero_40 : zeroT Try.prog 40 = some ([.nilFunc]) := by kernel_rfl
@[simp] theorem str_40 : isStrT Try.prog 40 = false := by kernel_rfl
@[simp] theorem isint_40 : isIntT Try.prog 40 = false := by kernel_rfl
@[simp] theorem ty_41 : tyT Try.prog 41 = some (1, false) := by kernel_rfl
@[simp] theorem sl_41 : slT Try.prog 41 = none := by kernel_rfl
@[simp] theorem zero_41 : zeroT Try.prog 41 = some ([.nilFunc]) := by kernel_rfl
@[simp] theorem str_41 : isStrT Try.prog 41 = false := by kernel_rfl
@[simp] theorem isint_41 : isIntT Try.prog 41 = false := by kernel_rfl
@[simp] theorem ty_42 : tyT Try.prog 42 = some (1, false) := by kernel_rfl
@[simp] theorem sl_42 : slT Try.prog 42 = some (33, 1, 24) := by kernel_rfl
@[simp] theorem zero_42 : zeroT Try.prog 42 = some ([.slice none 0 0]) := by kernel_rfl
@[simp] theorem str_42 : isStrT Try.prog 42 = false := by kernel_rfl
@[simp] theorem isint_42 : isIntT Try.prog 42 = false := by kernel_rfl
@[simp] theorem ty_43 : tyT Try.prog 43 = some (1, false) := by kernel_rfl
@[simp] theorem sl_43 : slT Try.prog 43 = none := by kernel_rfl
@[simp] theorem zero_43 : zeroT Try.prog 43 = some ([.nilFunc]) := by kernel_rfl
@[simp] theorem str_43 : isStrT Try.prog 43 = false := by kernel_rfl
@[simp] theorem isint_43 : isIntT Try.prog 43 = false := by kernel_rfl
@[simp] theorem ty_44 : tyT Try.prog 44 = some (1, false) := by kernel_rfl
@[simp] theorem sl_44 : slT Try.prog 44 = none := by kernel_rfl
@[simp] theorem zero_44 : zeroT Try.prog 44 = some ([.nilFunc]) := by kernel_rfl
@[simp] theorem str_44 : isStrT Try.prog 44 = false := by kernel_rfl
@[simp] theorem isint_44 : isIntT Try.prog 44 = false := by kernel_rfl
@[simp] theorem ty_45 : tyT Try.prog 45 = some (1, false) := by kernel_rfl
@[simp] theorem sl_45 : slT Try.prog 45 = none := by kernel_rfl
@[simp] theorem zero_45 : zeroT Try.prog 45 = some ([.nilFunc]) := by kernel_rfl
@[simp] theorem str_45 : isStrT Try.prog 45 = false := by kernel_rfl
@[simp] theorem isint_45 : isIntT Try.prog 45 = false := by kernel_rfl
@[simp] theorem ty_46 : tyT Try.prog 46 = some (1, false) := by kernel_rfl
@[simp] theorem sl_46 : slT Try.prog 46 = none := by kernel_rfl
@[simp] theorem zero_46 : zeroT Try.prog 46 = some ([.nilFunc]) := by kernel_rfl
@[simp] theorem str_46 : isStrT Try.prog 46 = false := by kernel_rfl
@[simp] theorem isint_46 : isIntT Try.prog 46 = false := by kernel_rfl
@[simp] theorem ty_47 : tyT Try.prog 47 = some (1, false) := by kernel_rfl
@[simp] theorem sl_47 : slT Try.prog 47 = some (48, 1, 2) := by kernel_rfl
@[simp] theorem zero_47 : zeroT Try.prog 47 = some ([.slice none 0 0]) := by kernel_rfl
@[simp] theorem str_47 : isStrT Try.prog 47 = false := by kernel_rfl
@[simp] theorem isint_47 : isIntT Try.prog 47 = false := by kernel_rfl
@[simp] theorem ty_48 : tyT Try.prog 48 = some (1, false) := by kernel_rfl
@[simp] theorem sl_48 : slT Try.prog 48 = none := by kernel_rfl
@[simp] theorem zero_48 : zeroT Try.prog 48 = some ([.int .u16 0]) := by kernel_rfl
@[simp] theorem int_48 : intT Try.prog 48 = some .u16 := by kernel_rfl
@[simp] theorem str_48 : isStrT Try.prog 48 = false := by kernel_rfl
@[simp] theorem isint_48 : isIntT Try.prog 48 = true := by kernel_rfl
@[simp] theorem ty_49 : tyT Try.prog 49 = some (1, false) := by kernel_rfl
@[simp] theorem sl_49 : slT Try.prog 49 = none := by kernel_rfl
@[simp] theorem zero_49 : zeroT Try.prog 49 = some ([.nilFunc]) := by kernel_rfl
@[simp] theorem str_49 : isStrT Try.prog 49 = false := by kernel_rfl
@[simp] theorem isint_49 : isIntT Try.prog 49 = false := by kernel_rfl
@[simp] theorem ty_50 : tyT Try.prog 50 = some (1, false) := by kernel_rfl
@[simp] theorem sl_50 : slT Try.prog 50 = none := by kernel_rfl
@[simp] theorem zero_50 : zeroT Try.prog 50 = some ([.nilFunc]) := by kernel_rfl
@[simp] theorem str_50 : isStrT Try.prog 50 = false := by kernel_rfl
@[simp] theorem isint_50 : isIntT Try.prog 50 = false := by kernel_rfl
@[simp] theorem ty_51 : tyT Try.prog 51 = some (1, false) := by kernel_rfl
@[simp] theorem sl_51 : slT Try.prog 51 = none := by kernel_rfl
@[simp] theorem zero_51 : zeroT Try.prog 51 = some ([.nilFunc]) := by kernel_rfl
@[simp] theorem str_51 : isStrT Try.prog 51 = false := by kernel_rfl
@[simp] theorem isint_51 : isIntT Try.prog 51 = false := by kernel_rfl
@[simp] theorem ty_52 : tyT Try.prog 52 = some (2, true) := by kernel_rfl
@[simp] theorem sl_52 : slT Try.prog 52 = none := by kernel_rfl
@[simp] theorem arx_52 : arX Try.prog 52 = some (2, 1, false) := by kernel_rfl
@[simp] theorem ar_52 : arT Try.prog 52 = some (2, 1) := by kernel_rfl
@[simp] theorem pl_52 : plT Try.prog 52 = some fun i => some (i * 1, 1) := by kernel_rfl
@[simp] theorem zero_52 : zeroT Try.prog 52 = some ([.int .i64 0, .int .i64 0]) := by kernel_rfl
@[simp] theorem str_52 : isStrT Try.prog 52 = false := by kernel_rfl
@[simp] theorem isint_52 : isIntT Try.prog 52 = false := by kernel_rfl
@[simp] theorem ty_53 : tyT Try.prog 53 = some (1, false) := by kernel_rfl
@[simp] theorem sl_53 : slT Try.prog 53 = none := by kernel_rfl
@[simp] theorem zero_53 : zeroT Try.prog 53 = some ([.pointer none]) := by kernel_rfl
@[simp] theorem str_53 : isStrT Try.prog 53 = false := by kernel_rfl
@[simp] theorem isint_53 : isIntT Try.prog 53 = false := by kernel_rfl
@[simp] theorem ptr_53 : isPtrT Try.prog 53 = true := by kernel_rfl
@[simp] theorem ty_54 : tyT Try.prog 54 = some (1, false) := by kernel_rfl
@[simp] theorem sl_54 : slT Try.prog 54 = none := by kernel_rfl
@[simp] theorem zero_54 : zeroT Try.prog 54 = some ([.nilFunc]) := by kernel_rfl
@[simp] theorem str_54 : isStrT Try.prog 54 = false := by kernel_rfl
@[simp] theorem isint_54 : isIntT Try.prog 54 = false := by kernel_rfl
@[simp] theorem ty_55 : tyT Try.prog 55 = some (1, false) := by kernel_rfl
@[simp] theorem sl_55 : slT Try.prog 55 = none := by kernel_rfl
@[simp] theorem zero_55 : zeroT Try.prog 55 = some ([.pointer none]) := by kernel_rfl
@[simp] theorem str_55 : isStrT Try.prog 55 = false := by kernel_rfl
@[simp] theorem isint_55 : isIntT Try.prog 55 = false := by kernel_rfl
@[simp] theorem ptr_55 : isPtrT Try.prog 55 = true := by kernel_rfl
@[simp] theorem ty_57 : tyT Try.prog 57 = some (1, false) := by kernel_rfl
@[simp] theorem sl_57 : slT Try.prog 57 = none := by kernel_rfl
@[simp] theorem zero_57 : zeroT Try.prog 57 = some ([.nilFunc]) := by kernel_rfl
@[simp] theorem str_57 : isStrT Try.prog 57 = false := by kernel_rfl
@[simp] theorem isint_57 : isIntT Try.prog 57 = false := by kernel_rfl
@[simp] theorem ty_58 : tyT Try.prog 58 = some (1, false) := by kernel_rfl
@[simp] theorem sl_58 : slT Try.prog 58 = none := by kernel_rfl
@[simp] theorem zero_58 : zeroT Try.prog 58 = some ([.nilFunc]) := by kernel_rfl
@[simp] theorem str_58 : isStrT Try.prog 58 = false := by kernel_rfl
@[simp] theorem isint_58 : isIntT Try.prog 58 = false := by kernel_rfl
@[simp] theorem ty_59 : tyT Try.prog 59 = some (1, false) := by kernel_rfl
@[simp] theorem sl_59 : slT Try.prog 59 = none := by kernel_rfl
@[simp] theorem zero_59 : zeroT Try.prog 59 = some ([.nilFunc]) := by kernel_rfl
@[simp] theorem str_59 : isStrT Try.prog 59 = false := by kernel_rfl
@[simp] theorem isint_59 : isIntT Try.prog 59 = false := by kernel_rfl
@[simp] theorem ty_60 : tyT Try.prog 60 = some (1, false) := by kernel_rfl
@[simp] theorem sl_60 : slT Try.prog 60 = none := by kernel_rfl
@[simp] theorem zero_60 : zeroT Try.prog 60 = some ([.nilFunc]) := by kernel_rfl
@[simp] theorem str_60 : isStrT Try.prog 60 = false := by kernel_rfl
@[simp] theorem isint_60 : isIntT Try.prog 60 = false := by kernel_rfl
@[simp] theorem ty_61 : tyT Try.prog 61 = some (1, false) := by kernel_rfl
@[simp] theorem sl_61 : slT Try.prog 61 = none := by kernel_rfl
@[simp] theorem zero_61 : zeroT Try.prog 61 = some ([.nilFunc]) := by kernel_rfl
@[simp] theorem str_61 : isStrT Try.prog 61 = false := by kernel_rfl
@[simp] theorem isint_61 : isIntT Try.prog 61 = false := by kernel_rfl
@[simp] theorem ty_62 : tyT Try.prog 62 = some (4, true) := by kernel_rfl
@[simp] theorem sl_62 : slT Try.prog 62 = none := by kernel_rfl
@[simp] theorem fld_62_0 : fldT Try.prog 62 0 = some (0, 1, false) := by kernel_rfl
@[simp] theorem fld_62_1 : fldT Try.prog 62 1 = some (1, 1, false) := by kernel_rfl
@[simp] theorem fld_62_2 : fldT Try.prog 62 2 = some (2, 1, false) := by kernel_rfl
@[simp] theorem fld_62_3 : fldT Try.prog 62 3 = some (3, 1, false) := by kernel_rfl
@[simp] theorem pl_62 : plT Try.prog 62 = some fun i => [(0, 1), (1, 1), (2, 1), (3, 1)][i]? := by kernel_rfl
@[simp] theorem zero_62 : zeroT Try.prog 62 = some ([.int .i64 0, .int .i64 0, .int .i64 0, .string ByteArray.empty]) := by kernel_rfl
@[simp] theorem str_62 : isStrT Try.prog 62 = false := by kernel_rfl
@[simp] theorem isint_62 : isIntT Try.prog 62 = false := by kernel_rfl
@[simp] theorem ty_63 : tyT Try.prog 63 = some (4, true) := by kernel_rfl
@[simp] theorem sl_63 : slT Try.prog 63 = none := by kernel_rfl
@[simp] theorem fld_63_0 : fldT Try.prog 63 0 = some (0, 1, false) := by kernel_rfl
@[simp] theorem fld_63_1 : fldT Try.prog 63 1 = some (1, 1, false) := by kernel_rfl
@[simp] theorem fld_63_2 : fldT Try.prog 63 2 = some (2, 1, false) := by kernel_rfl
@[simp] theorem fld_63_3 : fldT Try.prog 63 3 = some (3, 1, false) := by kernel_rfl
@[simp] theorem pl_63 : plT Try.prog 63 = some fun i => [(0, 1), (1, 1), (2, 1), (3, 1)][i]? := by kernel_rfl
@[simp] theorem flat_63 : flatT Try.prog 63 = some [.i, .i, .i, .s] := by kernel_rfl
@[simp] theorem zero_63 : zeroT Try.prog 63 = some ([.int .i64 0, .int .i64 0, .int .i64 0, .string ByteArray.empty]) := by kernel_rfl
@[simp] theorem str_63 : isStrT Try.prog 63 = false := by kernel_rfl
@[simp] theorem isint_63 : isIntT Try.prog 63 = false := by kernel_rfl
@[simp] theorem ty_64 : tyT Try.prog 64 = some (9, true) := by kernel_rfl
@[simp] theorem sl_64 : slT Try.prog 64 = none := by kernel_rfl
@[simp] theorem fld_64_0 : fldT Try.prog 64 0 = some (0, 1, false) := by kernel_rfl
@[simp] theorem fld_64_1 : fldT Try.prog 64 1 = some (1, 1, false) := by kernel_rfl
@[simp] theorem fld_64_2 : fldT Try.prog 64 2 = some (2, 4, true) := by kernel_rfl
@[simp] theorem fld_64_3 : fldT Try.prog 64 3 = some (6, 1, false) := by kernel_rfl
@[simp] theorem fld_64_4 : fldT Try.prog 64 4 = some (7, 1, false) := by kernel_rfl
@[simp] theorem fld_64_5 : fldT Try.prog 64 5 = some (8, 1, false) := by kernel_rfl
@[simp] theorem pl_64 : plT Try.prog 64 = some fun i => [(0, 1), (1, 1), (2, 4), (6, 1), (7, 1), (8, 1)][i]? := by kernel_rfl
@[simp] theorem zero_64 : zeroT Try.prog 64 = some ([.pointer none, .int .i64 0, .int .i64 0, .int .i64 0, .int .i64 0, .string ByteArray.empty, .slice none 0 0, .int .i64 0, .bool false]) := by kernel_rfl
@[simp] theorem str_64 : isStrT Try.prog 64 = false := by kernel_rfl
@[simp] theorem isint_64 : isIntT Try.prog 64 = false := by kernel_rfl
@[simp] theorem ty_65 : tyT Try.prog 65 = some (9, true) := by kernel_rfl
@[simp] theorem sl_65 : slT Try.prog 65 = none := by kernel_rfl
@[simp] theorem fld_65_0 : fldT Try.prog 65 0 = some (0, 1, false) := by kernel_rfl
@[simp] theorem fld_65_1 : fldT Try.prog 65 1 = some (1, 1, false) := by kernel_rfl
@[simp] theorem fld_65_2 : fldT Try.prog 65 2 = some (2, 4, true) := by kernel_rfl
@[simp] theorem fld_65_3 : fldT Try.prog 65 3 = some (6, 1, false) := by kernel_rfl
@[simp] theorem fld_65_4 : fldT Try.prog 65 4 = some (7, 1, false) := by kernel_rfl
@[simp] theorem fld_65_5 : fldT Try.prog 65 5 = some (8, 1, false) := by kernel_rfl
@[simp] theorem pl_65 : plT Try.prog 65 = some fun i => [(0, 1), (1, 1), (2, 4), (6, 1), (7, 1), (8, 1)][i]? := by kernel_rfl
@[simp] theorem zero_65 : zeroT Try.prog 65 = some ([.pointer none, .int .i64 0, .int .i64 0, .int .i64 0, .int .i64 0, .string ByteArray.empty, .slice none 0 0, .int .i64 0, .bool false]) := by kernel_rfl
@[simp] theorem str_65 : isStrT Try.prog 65 = false := by kernel_rfl
@[simp] theorem isint_65 : isIntT Try.prog 65 = false := by kernel_rfl
@[simp] theorem ty_66 : tyT Try.prog 66 = some (1, false) := by kernel_rfl
@[simp] theorem sl_66 : slT Try.prog 66 = some (101, 2, 24) := by kernel_rfl
@[simp] theorem zero_66 : zeroT Try.prog 66 = some ([.slice none 0 0]) := by kernel_rfl
@[simp] theorem str_66 : isStrT Try.prog 66 = false := by kernel_rfl
@[simp] theorem isint_66 : isIntT Try.prog 66 = false := by kernel_rfl
@[simp] theorem ty_67 : tyT Try.prog 67 = some (4, true) := by kernel_rfl
@[simp] theorem sl_67 : slT Try.prog 67 = none := by kernel_rfl
@[simp] theorem fld_67_0 : fldT Try.prog 67 0 = some (0, 1, false) := by kernel_rfl
@[simp] theorem fld_67_1 : fldT Try.prog 67 1 = some (1, 1, false) := by kernel_rfl
@[simp] theorem fld_67_2 : fldT Try.prog 67 2 = some (2, 1, false) := by kernel_rfl
@[simp] theorem fld_67_3 : fldT Try.prog 67 3 = some (3, 1, false) := by kernel_rfl
@[simp] theorem pl_67 : plT Try.prog 67 = some fun i => [(0, 1), (1, 1), (2, 1), (3, 1)][i]? := by kernel_rfl
@[simp] theorem zero_67 : zeroT Try.prog 67 = some ([.slice none 0 0, .slice none 0 0, .int .i64 0, .int .i64 0]) := by kernel_rfl
@[simp] theorem str_67 : isStrT Try.prog 67 = false := by kernel_rfl
@[simp] theorem isint_67 : isIntT Try.prog 67 = false := by kernel_rfl
@[simp] theorem ty_68 : tyT Try.prog 68 = some (4, true) := by kernel_rfl
@[simp] theorem sl_68 : slT Try.prog 68 = none := by kernel_rfl
@[simp] theorem fld_68_0 : fldT Try.prog 68 0 = some (0, 1, false) := by kernel_rfl
@[simp] theorem fld_68_1 : fldT Try.prog 68 1 = some (1, 1, false) := by kernel_rfl
@[simp] theorem fld_68_2 : fldT Try.prog 68 2 = some (2, 1, false) := by kernel_rfl
@[simp] theorem fld_68_3 : fldT Try.prog 68 3 = some (3, 1, false) := by kernel_rfl
@[simp] theorem pl_68 : plT Try.prog 68 = some fun i => [(0, 1), (1, 1), (2, 1), (3, 1)][i]? := by kernel_rfl
@[simp] theorem zero_68 : zeroT Try.prog 68 = some ([.slice none 0 0, .slice none 0 0, .int .i64 0, .int .i64 0]) := by kernel_rfl
@[simp] theorem str_68 : isStrT Try.prog 68 = false := by kernel_rfl
@[simp] theorem isint_68 : isIntT Try.prog 68 = false := by kernel_rfl
@[simp] theorem ty_70 : tyT Try.prog 70 = some (1, false) := by kernel_rfl
@[simp] theorem sl_70 : slT Try.prog 70 = none := by kernel_rfl
@[simp] theorem zero_70 : zeroT Try.prog 70 = some ([.nilFunc]) := by kernel_rfl
@[simp] theorem str_70 : isStrT Try.prog 70 = false := by kernel_rfl
@[simp] theorem isint_70 : isIntT Try.prog 70 = false := by kernel_rfl
@[simp] theorem ty_72 : tyT Try.prog 72 = some (1, false) := by kernel_rfl
@[simp] theorem sl_72 : slT Try.prog 72 = none := by kernel_rfl
@[simp] theorem zero_72 : zeroT Try.prog 72 = some ([.nilFunc]) := by kernel_rfl
@[simp] theorem str_72 : isStrT Try.prog 72 = false := by kernel_rfl
@[simp] theorem isint_72 : isIntT Try.prog 72 = false := by kernel_rfl
@[simp] theorem ty_73 : tyT Try.prog 73 = some (1, false) := by kernel_rfl
@[simp] theorem sl_73 : slT Try.prog 73 = none := by kernel_rfl
@[simp] theorem zero_73 : zeroT Try.prog 73 = some ([.nilFunc]) := by kernel_rfl
@[simp] theorem str_73 : isStrT Try.prog 73 = false := by kernel_rfl
@[simp] theorem isint_73 : isIntT Try.prog 73 = false := by kernel_rfl
@[simp] theorem ty_74 : tyT Try.prog 74 = some (1, false) := by kernel_rfl
@[simp] theorem sl_74 : slT Try.prog 74 = some (93, 64, 64) := by kernel_rfl
@[simp] theorem zero_74 : zeroT Try.prog 74 = some ([.slice none 0 0]) := by kernel_rfl
@[simp] theorem str_74 : isStrT Try.prog 74 = false := by kernel_rfl
@[simp] theorem isint_74 : isIntT Try.prog 74 = false := by kernel_rfl
@[simp] theorem ty_75 : tyT Try.prog 75 = some (1, false) := by kernel_rfl
@[simp] theorem sl_75 : slT Try.prog 75 = some (95, 65, 72) := by kernel_rfl
@[simp] theorem zero_75 : zeroT Try.prog 75 = some ([.slice none 0 0]) := by kernel_rfl
@[simp] theorem str_75 : isStrT Try.prog 75 = false := by kernel_rfl
@[simp] theorem isint_75 : isIntT Try.prog 75 = false := by kernel_rfl
@[simp] theorem ty_76 : tyT Try.prog 76 = some (5, true) := by kernel_rfl
@[simp] theorem sl_76 : slT Try.prog 76 = none := by kernel_rfl
@[simp] theorem fld_76_0 : fldT Try.prog 76 0 = some (0, 1, false) := by kernel_rfl
@[simp] theorem fld_76_1 : fldT Try.prog 76 1 = some (1, 1, false) := by kernel_rfl
@[simp] theorem fld_76_2 : fldT Try.prog 76 2 = some (2, 1, false) := by kernel_rfl
@[simp] theorem fld_76_3 : fldT Try.prog 76 3 = some (3, 1, false) := by kernel_rfl
@[simp] theorem fld_76_4 : fldT Try.prog 76 4 = some (4, 1, false) := by kernel_rfl
@[simp] theorem pl_76 : plT Try.prog 76 = some fun i => [(0, 1), (1, 1), (2, 1), (3, 1), (4, 1)][i]? := by kernel_rfl
@[simp] theorem zero_76 : zeroT Try.prog 76 = some ([.slice none 0 0, .slice none 0 0, .bool false, .int .i64 0, .int .i64 0]) := by kernel_rfl
@[simp] theorem str_76 : isStrT Try.prog 76 = false := by kernel_rfl
@[simp] theorem isint_76 : isIntT Try.prog 76 = false := by kernel_rfl
@[simp] theorem ty_77 : tyT Try.prog 77 = some (5, true) := by kernel_rfl
@[simp] theorem sl_77 : slT Try.prog 77 = none := by kernel_rfl
@[simp] theorem fld_77_0 : fldT Try.prog 77 0 = some (0, 1, false) := by kernel_rfl
@[simp] theorem fld_77_1 : fldT Try.prog 77 1 = some (1, 1, false) := by kernel_rfl
@[simp] theorem fld_77_2 : fldT Try.prog 77 2 = some (2, 1, false) := by kernel_rfl
@[simp] theorem fld_77_3 : fldT Try.prog 77 3 = some (3, 1, false) := by kernel_rfl
@[simp] theorem fld_77_4 : fldT Try.prog 77 4 = some (4, 1, false) := by kernel_rfl
@[simp] theorem pl_77 : plT Try.prog 77 = some fun i => [(0, 1), (1, 1), (2, 1), (3, 1), (4, 1)][i]? := by kernel_rfl
@[simp] theorem zero_77 : zeroT Try.prog 77 = some ([.slice none 0 0, .slice none 0 0, .bool false, .int .i64 0, .int .i64 0]) := by kernel_rfl
@[simp] theorem str_77 : isStrT Try.prog 77 = false := by kernel_rfl
@[simp] theorem isint_77 : isIntT Try.prog 77 = false := by kernel_rfl
@[simp] theorem ty_78 : tyT Try.prog 78 = some (4, true) := by kernel_rfl
@[simp] theorem sl_78 : slT Try.prog 78 = none := by kernel_rfl
@[simp] theorem fld_78_0 : fldT Try.prog 78 0 = some (0, 1, false) := by kernel_rfl
@[simp] theorem fld_78_1 : fldT Try.prog 78 1 = some (1, 1, false) := by kernel_rfl
@[simp] theorem fld_78_2 : fldT Try.prog 78 2 = some (2, 1, false) := by kernel_rfl
@[simp] theorem fld_78_3 : fldT Try.prog 78 3 = some (3, 1, false) := by kernel_rfl
@[simp] theorem pl_78 : plT Try.prog 78 = some fun i => [(0, 1), (1, 1), (2, 1), (3, 1)][i]? := by kernel_rfl
@[simp] theorem zero_78 : zeroT Try.prog 78 = some ([.int .i64 0, .int .i64 0, .int .i64 0, .slice none 0 0]) := by kernel_rfl
@[simp] theorem str_78 : isStrT Try.prog 78 = false := by kernel_rfl
@[simp] theorem isint_78 : isIntT Try.prog 78 = false := by kernel_rfl
@[simp] theorem ty_79 : tyT Try.prog 79 = some (4, true) := by kernel_rfl
@[simp] theorem sl_79 : slT Try.prog 79 = none := by kernel_rfl
@[simp] theorem fld_79_0 : fldT Try.prog 79 0 = some (0, 1, false) := by kernel_rfl
@[simp] theorem fld_79_1 : fldT Try.prog 79 1 = some (1, 1, false) := by kernel_rfl
@[simp] theorem fld_79_2 : fldT Try.prog 79 2 = some (2, 1, false) := by kernel_rfl
@[simp] theorem fld_79_3 : fldT Try.prog 79 3 = some (3, 1, false) := by kernel_rfl
@[simp] theorem pl_79 : plT Try.prog 79 = some fun i => [(0, 1), (1, 1), (2, 1), (3, 1)][i]? := by kernel_rfl
@[simp] theorem zero_79 : zeroT Try.prog 79 = some ([.int .i64 0, .int .i64 0, .int .i64 0, .slice none 0 0]) := by kernel_rfl
@[simp] theorem str_79 : isStrT Try.prog 79 = false := by kernel_rfl
@[simp] theorem isint_79 : isIntT Try.prog 79 = false := by kernel_rfl
@[simp] theorem ty_80 : tyT Try.prog 80 = some (9, true) := by kernel_rfl
@[simp] theorem sl_80 : slT Try.prog 80 = none := by kernel_rfl
@[simp] theorem fld_80_0 : fldT Try.prog 80 0 = some (0, 1, false) := by kernel_rfl
@[simp] theorem fld_80_1 : fldT Try.prog 80 1 = some (1, 1, false) := by kernel_rfl
@[simp] theorem fld_80_2 : fldT Try.prog 80 2 = some (2, 4, true) := by kernel_rfl
@[simp] theorem fld_80_3 : fldT Try.prog 80 3 = some (6, 1, false) := by kernel_rfl
@[simp] theorem fld_80_4 : fldT Try.prog 80 4 = some (7, 1, false) := by kernel_rfl
@[simp] theorem fld_80_5 : fldT Try.prog 80 5 = some (8, 1, false) := by kernel_rfl
@[simp] theorem pl_80 : plT Try.prog 80 = some fun i => [(0, 1), (1, 1), (2, 4), (6, 1), (7, 1), (8, 1)][i]? := by kernel_rfl
@[simp] theorem zero_80 : zeroT Try.prog 80 = some ([.pointer none, .int .i64 0, .int .i64 0, .int .i64 0, .int .i64 0, .slice none 0 0, .int .i64 0, .slice none 0 0, .bool false]) := by kernel_rfl
@[simp] theorem str_80 : isStrT Try.prog 80 = false := by kernel_rfl
@[simp] theorem isint_80 : isIntT Try.prog 80 = false := by kernel_rfl
@[simp] theorem ty_81 : tyT Try.prog 81 = some (9, true) := by kernel_rfl
@[simp] theorem sl_81 : slT Try.prog 81 = none := by kernel_rfl
@[simp] theorem fld_81_0 : fldT Try.prog 81 0 = some (0, 1, false) := by kernel_rfl
@[simp] theorem fld_81_1 : fldT Try.prog 81 1 = some (1, 1, false) := by kernel_rfl
@[simp] theorem fld_81_2 : fldT Try.prog 81 2 = some (2, 4, true) := by kernel_rfl
@[simp] theorem fld_81_3 : fldT Try.prog 81 3 = some (6, 1, false) := by kernel_rfl
@[simp] theorem fld_81_4 : fldT Try.prog 81 4 = some (7, 1, false) := by kernel_rfl
@[simp] theorem fld_81_5 : fldT Try.prog 81 5 = some (8, 1, false) := by kernel_rfl
@[simp] theorem pl_81 : plT Try.prog 81 = some fun i => [(0, 1), (1, 1), (2, 4), (6, 1), (7, 1), (8, 1)][i]? := by kernel_rfl
@[simp] theorem zero_81 : zeroT Try.prog 81 = some ([.pointer none, .int .i64 0, .int .i64 0, .int .i64 0, .int .i64 0, .slice none 0 0, .int .i64 0, .slice none 0 0, .bool false]) := by kernel_rfl
@[simp] theorem str_81 : isStrT Try.prog 81 = false := by kernel_rfl
@[simp] theorem isint_81 : isIntT Try.prog 81 = false := by kernel_rfl
@[simp] theorem ty_82 : tyT Try.prog 82 = some (1, false) := by kernel_rfl
@[simp] theorem sl_82 : slT Try.prog 82 = none := by kernel_rfl
@[simp] theorem zero_82 : zeroT Try.prog 82 = some ([.nilFunc]) := by kernel_rfl
@[simp] theorem str_82 : isStrT Try.prog 82 = false := by kernel_rfl
@[simp] theorem isint_82 : isIntT Try.prog 82 = false := by kernel_rfl
@[simp] theorem ty_83 : tyT Try.prog 83 = some (1, false) := by kernel_rfl
@[simp] theorem sl_83 : slT Try.prog 83 = none := by kernel_rfl
@[simp] theorem zero_83 : zeroT Try.prog 83 = some ([.nilFunc]) := by kernel_rfl
@[simp] theorem str_83 : isStrT Try.prog 83 = false := by kernel_rfl
@[simp] theorem isint_83 : isIntT Try.prog 83 = false := by kernel_rfl
@[simp] theorem ty_84 : tyT Try.prog 84 = some (1, false) := by kernel_rfl
@[simp] theorem sl_84 : slT Try.prog 84 = none := by kernel_rfl
@[simp] theorem zero_84 : zeroT Try.prog 84 = some ([.nilFunc]) := by kernel_rfl
@[simp] theorem str_84 : isStrT Try.prog 84 = false := by kernel_rfl
@[simp] theorem isint_84 : isIntT Try.prog 84 = false := by kernel_rfl
@[simp] theorem ty_85 : tyT Try.prog 85 = some (1, false) := by kernel_rfl
@[simp] theorem sl_85 : slT Try.prog 85 = some (90, 4, 48) := by kernel_rfl
@[simp] theorem zero_85 : zeroT Try.prog 85 = some ([.slice none 0 0]) := by kernel_rfl
@[simp] theorem str_85 : isStrT Try.prog 85 = false := by kernel_rfl
@[simp] theorem isint_85 : isIntT Try.prog 85 = false := by kernel_rfl
@[simp] theorem ty_86 : tyT Try.prog 86 = some (1, false) := by kernel_rfl
@[simp] theorem sl_86 : slT Try.prog 86 = none := by kernel_rfl
@[simp] theorem zero_86 : zeroT Try.prog 86 = some ([.nilFunc]) := by kernel_rfl
@[simp] theorem str_86 : isStrT Try.prog 86 = false := by kernel_rfl
@[simp] theorem isint_86 : isIntT Try.prog 86 = false := by kernel_rfl
@[simp] theorem ty_87 : tyT Try.prog 87 = some (1, false) := by kernel_rfl
@[simp] theorem sl_87 : slT Try.prog 87 = none := by kernel_rfl
@[simp] theorem zero_87 : zeroT Try.prog 87 = some ([.nilFunc]) := by kernel_rfl
@[simp] theorem str_87 : isStrT Try.prog 87 = false := by kernel_rfl
@[simp] theorem isint_87 : isIntT Try.prog 87 = false := by kernel_rfl
@[simp] theorem ty_88 : tyT Try.prog 88 = some (1, false) := by kernel_rfl
@[simp] theorem sl_88 : slT Try.prog 88 = none := by kernel_rfl
@[simp] theorem zero_88 : zeroT Try.prog 88 = some ([.nilFunc]) := by kernel_rfl
@[simp] theorem str_88 : isStrT Try.prog 88 = false := by kernel_rfl
@[simp] theorem isint_88 : isIntT Try.prog 88 = false := by kernel_rfl
@[simp] theorem ty_89 : tyT Try.prog 89 = some (4, true) := by kernel_rfl
@[simp] theorem sl_89 : slT Try.prog 89 = none := by kernel_rfl
@[simp] theorem fld_89_0 : fldT Try.prog 89 0 = some (0, 1, false) := by kernel_rfl
@[simp] theorem fld_89_1 : fldT Try.prog 89 1 = some (1, 1, false) := by kernel_rfl
@[simp] theorem fld_89_2 : fldT Try.prog 89 2 = some (2, 1, false) := by kernel_rfl
@[simp] theorem fld_89_3 : fldT Try.prog 89 3 = some (3, 1, false) := by kernel_rfl
@[simp] theorem pl_89 : plT Try.prog 89 = some fun i => [(0, 1), (1, 1), (2, 1), (3, 1)][i]? := by kernel_rfl
@[simp] theorem zero_89 : zeroT Try.prog 89 = some ([.int .i64 0, .int .i64 0, .bool false, .slice none 0 0]) := by kernel_rfl
@[simp] theorem str_89 : isStrT Try.prog 89 = false := by kernel_rfl
@[simp] theorem isint_89 : isIntT Try.prog 89 = false := by kernel_rfl
@[simp] theorem ty_90 : tyT Try.prog 90 = some (4, true) := by kernel_rfl
@[simp] theorem sl_90 : slT Try.prog 90 = none := by kernel_rfl
@[simp] theorem fld_90_0 : fldT Try.prog 90 0 = some (0, 1, false) := by kernel_rfl
@[simp] theorem fld_90_1 : fldT Try.prog 90 1 = some (1, 1, false) := by kernel_rfl
@[simp] theorem fld_90_2 : fldT Try.prog 90 2 = some (2, 1, false) := by kernel_rfl
@[simp] theorem fld_90_3 : fldT Try.prog 90 3 = some (3, 1, false) := by kernel_rfl
@[simp] theorem pl_90 : plT Try.prog 90 = some fun i => [(0, 1), (1, 1), (2, 1), (3, 1)][i]? := by kernel_rfl
@[simp] theorem zero_90 : zeroT Try.prog 90 = some ([.int .i64 0, .int .i64 0, .bool false, .slice none 0 0]) := by kernel_rfl
@[simp] theorem str_90 : isStrT Try.prog 90 = false := by kernel_rfl
@[simp] theorem isint_90 : isIntT Try.prog 90 = false := by kernel_rfl
@[simp] theorem ty_91 : tyT Try.prog 91 = some (1, false) := by kernel_rfl
@[simp] theorem sl_91 : slT Try.prog 91 = none := by kernel_rfl
@[simp] theorem zero_91 : zeroT Try.prog 91 = some ([.nilFunc]) := by kernel_rfl
@[simp] theorem str_91 : isStrT Try.prog 91 = false := by kernel_rfl
@[simp] theorem isint_91 : isIntT Try.prog 91 = false := by kernel_rfl
@[simp] theorem ty_92 : tyT Try.prog 92 = some (64, true) := by kernel_rfl
@[simp] theorem sl_92 : slT Try.prog 92 = none := by kernel_rfl
@[simp] theorem arx_92 : arX Try.prog 92 = some (64, 1, false) := by kernel_rfl
@[simp] theorem ar_92 : arT Try.prog 92 = some (64, 1) := by kernel_rfl
@[simp] theorem pl_92 : plT Try.prog 92 = some fun i => some (i * 1, 1) := by kernel_rfl
@[simp] theorem zero_92 : zeroT Try.prog 92 = some (List.replicate 64 (.int .u8 0)) := by kernel_rfl
@[simp] theorem str_92 : isStrT Try.prog 92 = false := by kernel_rfl
@[simp] theorem isint_92 : isIntT Try.prog 92 = false := by kernel_rfl
@[simp] theorem ty_93 : tyT Try.prog 93 = some (64, true) := by kernel_rfl
@[simp] theorem sl_93 : slT Try.prog 93 = none := by kernel_rfl
@[simp] theorem arx_93 : arX Try.prog 93 = some (64, 1, false) := by kernel_rfl
@[simp] theorem ar_93 : arT Try.prog 93 = some (64, 1) := by kernel_rfl
@[simp] theorem pl_93 : plT Try.prog 93 = some fun i => some (i * 1, 1) := by kernel_rfl
@[simp] theorem zero_93 : zeroT Try.prog 93 = some (List.replicate 64 (.int .u8 0)) := by kernel_rfl
@[simp] theorem str_93 : isStrT Try.prog 93 = false := by kernel_rfl
@[simp] theorem isint_93 : isIntT Try.prog 93 = false := by kernel_rfl
@[simp] theorem ty_94 : tyT Try.prog 94 = some (65, true) := by kernel_rfl
@[simp] theorem sl_94 : slT Try.prog 94 = none := by kernel_rfl
@[simp] theorem fld_94_0 : fldT Try.prog 94 0 = some (0, 1, false) := by kernel_rfl
@[simp] theorem fld_94_1 : fldT Try.prog 94 1 = some (1, 64, true) := by kernel_rfl
@[simp] theorem pl_94 : plT Try.prog 94 = some fun i => [(0, 1), (1, 64)][i]? := by kernel_rfl
@[simp] theorem zero_94 : zeroT Try.prog 94 = some ([.int .i64 0] ++ List.replicate 64 (.int .u8 0)) := by kernel_rfl
@[simp] theorem str_94 : isStrT Try.prog 94 = false := by kernel_rfl
@[simp] theorem isint_94 : isIntT Try.prog 94 = false := by kernel_rfl
@[simp] theorem ty_95 : tyT Try.prog 95 = some (65, true) := by kernel_rfl
@[simp] theorem sl_95 : slT Try.prog 95 = none := by kernel_rfl
@[simp] theorem fld_95_0 : fldT Try.prog 95 0 = some (0, 1, false) := by kernel_rfl
@[simp] theorem fld_95_1 : fldT Try.prog 95 1 = some (1, 64, true) := by kernel_rfl
@[simp] theorem pl_95 : plT Try.prog 95 = some fun i => [(0, 1), (1, 64)][i]? := by kernel_rfl
@[simp] theorem zero_95 : zeroT Try.prog 95 = some ([.int .i64 0] ++ List.replicate 64 (.int .u8 0)) := by kernel_rfl
@[simp] theorem str_95 : isStrT Try.prog 95 = false := by kernel_rfl
@[simp] theorem isint_95 : isIntT Try.prog 95 = false := by kernel_rfl
@[simp] theorem ty_96 : tyT Try.prog 96 = some (1, false) := by kernel_rfl
@[simp] theorem sl_96 : slT Try.prog 96 = none := by kernel_rfl
@[simp] theorem zero_96 : zeroT Try.prog 96 = some ([.nilFunc]) := by kernel_rfl
@[simp] theorem str_96 : isStrT Try.prog 96 = false := by kernel_rfl
@[simp] theorem isint_96 : isIntT Try.prog 96 = false := by kernel_rfl
@[simp] theorem ty_98 : tyT Try.prog 98 = some (1, false) := by kernel_rfl
@[simp] theorem sl_98 : slT Try.prog 98 = none := by kernel_rfl
@[simp] theorem zero_98 : zeroT Try.prog 98 = some ([.nilFunc]) := by kernel_rfl
@[simp] theorem str_98 : isStrT Try.prog 98 = false := by kernel_rfl
@[simp] theorem isint_98 : isIntT Try.prog 98 = false := by kernel_rfl
@[simp] theorem ty_99 : tyT Try.prog 99 = some (1, false) := by kernel_rfl
@[simp] theorem sl_99 : slT Try.prog 99 = none := by kernel_rfl
@[simp] theorem zero_99 : zeroT Try.prog 99 = some ([.nilFunc]) := by kernel_rfl
@[simp] theorem str_99 : isStrT Try.prog 99 = false := by kernel_rfl
@[simp] theorem isint_99 : isIntT Try.prog 99 = false := by kernel_rfl
@[simp] theorem ty_100 : tyT Try.prog 100 = some (2, true) := by kernel_rfl
@[simp] theorem sl_100 : slT Try.prog 100 = none := by kernel_rfl
@[simp] theorem fld_100_0 : fldT Try.prog 100 0 = some (0, 1, false) := by kernel_rfl
@[simp] theorem fld_100_1 : fldT Try.prog 100 1 = some (1, 1, false) := by kernel_rfl
@[simp] theorem pl_100 : plT Try.prog 100 = some fun i => [(0, 1), (1, 1)][i]? := by kernel_rfl
@[simp] theorem zero_100 : zeroT Try.prog 100 = some ([.int .i64 0, .string ByteArray.empty]) := by kernel_rfl
@[simp] theorem str_100 : isStrT Try.prog 100 = false := by kernel_rfl
@[simp] theorem isint_100 : isIntT Try.prog 100 = false := by kernel_rfl
@[simp] theorem ty_101 : tyT Try.prog 101 = some (2, true) := by kernel_rfl
@[simp] theorem sl_101 : slT Try.prog 101 = none := by kernel_rfl
@[simp] theorem fld_101_0 : fldT Try.prog 101 0 = some (0, 1, false) := by kernel_rfl
@[simp] theorem fld_101_1 : fldT Try.prog 101 1 = some (1, 1, false) := by kernel_rfl
@[simp] theorem pl_101 : plT Try.prog 101 = some fun i => [(0, 1), (1, 1)][i]? := by kernel_rfl
@[simp] theorem flat_101 : flatT Try.prog 101 = some [.i, .s] := by kernel_rfl
@[simp] theorem zero_101 : zeroT Try.prog 101 = some ([.int .i64 0, .string ByteArray.empty]) := by kernel_rfl
@[simp] theorem str_101 : isStrT Try.prog 101 = false := by kernel_rfl
@[simp] theorem isint_101 : isIntT Try.prog 101 = false := by kernel_rfl
@[simp] theorem ty_102 : tyT Try.prog 102 = some (1, false) := by kernel_rfl
@[simp] theorem sl_102 : slT Try.prog 102 = none := by kernel_rfl
@[simp] theorem zero_102 : zeroT Try.prog 102 = some ([.nilFunc]) := by kernel_rfl
@[simp] theorem str_102 : isStrT Try.prog 102 = false := by kernel_rfl
@[simp] theorem isint_102 : isIntT Try.prog 102 = false := by kernel_rfl
@[simp] theorem ty_103 : tyT Try.prog 103 = some (1, false) := by kernel_rfl
@[simp] theorem sl_103 : slT Try.prog 103 = none := by kernel_rfl
@[simp] theorem zero_103 : zeroT Try.prog 103 = some ([.nilFunc]) := by kernel_rfl
@[simp] theorem str_103 : isStrT Try.prog 103 = false := by kernel_rfl
@[simp] theorem isint_103 : isIntT Try.prog 103 = false := by kernel_rfl
@[simp] theorem ty_104 : tyT Try.prog 104 = some (1, false) := by kernel_rfl
@[simp] theorem sl_104 : slT Try.prog 104 = none := by kernel_rfl
@[simp] theorem zero_104 : zeroT Try.prog 104 = some ([.nilFunc]) := by kernel_rfl
@[simp] theorem str_104 : isStrT Try.prog 104 = false := by kernel_rfl
@[simp] theorem isint_104 : isIntT Try.prog 104 = false := by kernel_rfl
@[simp] theorem ty_106 : tyT Try.prog 106 = some (1, false) := by kernel_rfl
@[simp] theorem sl_106 : slT Try.prog 106 = none := by kernel_rfl
@[simp] theorem zero_106 : zeroT Try.prog 106 = some ([.nilFunc]) := by kernel_rfl
@[simp] theorem str_106 : isStrT Try.prog 106 = false := by kernel_rfl
@[simp] theorem isint_106 : isIntT Try.prog 106 = false := by kernel_rfl
@[simp] theorem ty_108 : tyT Try.prog 108 = some (1, false) := by kernel_rfl
@[simp] theorem sl_108 : slT Try.prog 108 = none := by kernel_rfl
@[simp] theorem zero_108 : zeroT Try.prog 108 = some ([.nilFunc]) := by kernel_rfl
@[simp] theorem str_108 : isStrT Try.prog 108 = false := by kernel_rfl
@[simp] theorem isint_108 : isIntT Try.prog 108 = false := by kernel_rfl
@[simp] theorem ty_109 : tyT Try.prog 109 = some (1, false) := by kernel_rfl
@[simp] theorem sl_109 : slT Try.prog 109 = none := by kernel_rfl
@[simp] theorem zero_109 : zeroT Try.prog 109 = some ([.nilFunc]) := by kernel_rfl
@[simp] theorem str_109 : isStrT Try.prog 109 = false := by kernel_rfl
@[simp] theorem isint_109 : isIntT Try.prog 109 = false := by kernel_rfl
@[simp] theorem ty_110 : tyT Try.prog 110 = some (1, false) := by kernel_rfl
@[simp] theorem sl_110 : slT Try.prog 110 = none := by kernel_rfl
@[simp] theorem zero_110 : zeroT Try.prog 110 = some ([.nilFunc]) := by kernel_rfl
@[simp] theorem str_110 : isStrT Try.prog 110 = false := by kernel_rfl
@[simp] theorem isint_110 : isIntT Try.prog 110 = false := by kernel_rfl
@[simp] theorem ty_111 : tyT Try.prog 111 = some (1, false) := by kernel_rfl
@[simp] theorem sl_111 : slT Try.prog 111 = none := by kernel_rfl
@[simp] theorem zero_111 : zeroT Try.prog 111 = some ([.nilFunc]) := by kernel_rfl
@[simp] theorem str_111 : isStrT Try.prog 111 = false := by kernel_rfl
@[simp] theorem isint_111 : isIntT Try.prog 111 = false := by kernel_rfl
@[simp] theorem ty_112 : tyT Try.prog 112 = some (1, false) := by kernel_rfl
@[simp] theorem sl_112 : slT Try.prog 112 = none := by kernel_rfl
@[simp] theorem zero_112 : zeroT Try.prog 112 = some ([.nilFunc]) := by kernel_rfl
@[simp] theorem str_112 : isStrT Try.prog 112 = false := by kernel_rfl
@[simp] theorem isint_112 : isIntT Try.prog 112 = false := by kernel_rfl
@[simp] theorem ty_113 : tyT Try.prog 113 = some (1, false) := by kernel_rfl
@[simp] theorem sl_113 : slT Try.prog 113 = none := by kernel_rfl
@[simp] theorem zero_113 : zeroT Try.prog 113 = some ([.nilFunc]) := by kernel_rfl
@[simp] theorem str_113 : isStrT Try.prog 113 = false := by kernel_rfl
@[simp] theorem isint_113 : isIntT Try.prog 113 = false := by kernel_rfl
@[simp] theorem ty_114 : tyT Try.prog 114 = some (1, false) := by kernel_rfl
@[simp] theorem sl_114 : slT Try.prog 114 = none := by kernel_rfl
@[simp] theorem zero_114 : zeroT Try.prog 114 = some ([.nilFunc]) := by kernel_rfl
@[simp] theorem str_114 : isStrT Try.prog 114 = false := by kernel_rfl
@[simp] theorem isint_114 : isIntT Try.prog 114 = false := by kernel_rfl
@[simp] theorem ty_115 : tyT Try.prog 115 = some (1, false) := by kernel_rfl
@[simp] theorem sl_115 : slT Try.prog 115 = none := by kernel_rfl
@[simp] theorem zero_115 : zeroT Try.prog 115 = some ([.nilFunc]) := by kernel_rfl
@[simp] theorem str_115 : isStrT Try.prog 115 = false := by kernel_rfl
@[simp] theorem isint_115 : isIntT Try.prog 115 = false := by kernel_rfl
@[simp] theorem ty_116 : tyT Try.prog 116 = some (1, false) := by kernel_rfl
@[simp] theorem sl_116 : slT Try.prog 116 = none := by kernel_rfl
@[simp] theorem zero_116 : zeroT Try.prog 116 = some ([.nilFunc]) := by kernel_rfl
@[simp] theorem str_116 : isStrT Try.prog 116 = false := by kernel_rfl
@[simp] theorem isint_116 : isIntT Try.prog 116 = false := by kernel_rfl
@[simp] theorem ty_117 : tyT Try.prog 117 = some (1, false) := by kernel_rfl
@[simp] theorem sl_117 : slT Try.prog 117 = none := by kernel_rfl
@[simp] theorem zero_117 : zeroT Try.prog 117 = some ([.int .u64 0]) := by kernel_rfl
@[simp] theorem int_117 : intT Try.prog 117 = some .u64 := by kernel_rfl
@[simp] theorem str_117 : isStrT Try.prog 117 = false := by kernel_rfl
@[simp] theorem isint_117 : isIntT Try.prog 117 = true := by kernel_rfl
@[simp] theorem ty_118 : tyT Try.prog 118 = some (4, true) := by kernel_rfl
@[simp] theorem sl_118 : slT Try.prog 118 = none := by kernel_rfl
@[simp] theorem fld_118_0 : fldT Try.prog 118 0 = some (0, 1, false) := by kernel_rfl
@[simp] theorem fld_118_1 : fldT Try.prog 118 1 = some (1, 1, false) := by kernel_rfl
@[simp] theorem fld_118_2 : fldT Try.prog 118 2 = some (2, 1, false) := by kernel_rfl
@[simp] theorem fld_118_3 : fldT Try.prog 118 3 = some (3, 1, false) := by kernel_rfl
@[simp] theorem pl_118 : plT Try.prog 118 = some fun i => [(0, 1), (1, 1), (2, 1), (3, 1)][i]? := by kernel_rfl
@[simp] theorem zero_118 : zeroT Try.prog 118 = some ([.pointer none, .pointer none, .pointer none, .string ByteArray.empty]) := by kernel_rfl
@[simp] theorem str_118 : isStrT Try.prog 118 = false := by kernel_rfl
@[simp] theorem isint_118 : isIntT Try.prog 118 = false := by kernel_rfl
@[simp] theorem ty_120 : tyT Try.prog 120 = some (0, true) := by kernel_rfl
@[simp] theorem sl_120 : slT Try.prog 120 = none := by kernel_rfl
@[simp] theorem arx_120 : arX Try.prog 120 = some (0, 1, false) := by kernel_rfl
@[simp] theorem ar_120 : arT Try.prog 120 = some (0, 1) := by kernel_rfl
@[simp] theorem pl_120 : plT Try.prog 120 = some fun i => some (i * 1, 1) := by kernel_rfl
@[simp] theorem zero_120 : zeroT Try.prog 120 = some ([]) := by kernel_rfl
@[simp] theorem str_120 : isStrT Try.prog 120 = false := by kernel_rfl
@[simp] theorem isint_120 : isIntT Try.prog 120 = false := by kernel_rfl
@[simp] theorem ty_121 : tyT Try.prog 121 = some (0, true) := by kernel_rfl
@[simp] theorem sl_121 : slT Try.prog 121 = none := by kernel_rfl
@[simp] theorem pl_121 : plT Try.prog 121 = some fun i => [(0, 0)][i]? := by kernel_rfl
@[simp] theorem zero_121 : zeroT Try.prog 121 = some ([]) := by kernel_rfl
@[simp] theorem str_121 : isStrT Try.prog 121 = false := by kernel_rfl
@[simp] theorem isint_121 : isIntT Try.prog 121 = false := by kernel_rfl
@[simp] theorem ty_123 : tyT Try.prog 123 = some (1, false) := by kernel_rfl
@[simp] theorem sl_123 : slT Try.prog 123 = none := by kernel_rfl
@[simp] theorem zero_123 : zeroT Try.prog 123 = some ([.int .u32 0]) := by kernel_rfl
@[simp] theorem int_123 : intT Try.prog 123 = some .u32 := by kernel_rfl
@[simp] theorem str_123 : isStrT Try.prog 123 = false := by kernel_rfl
@[simp] theorem isint_123 : isIntT Try.prog 123 = true := by kernel_rfl
@[simp] theorem ty_126 : tyT Try.prog 126 = some (1, false) := by kernel_rfl
@[simp] theorem sl_126 : slT Try.prog 126 = none := by kernel_rfl
@[simp] theorem zero_126 : zeroT Try.prog 126 = some ([.nilFunc]) := by kernel_rfl
@[simp] theorem str_126 : isStrT Try.prog 126 = false := by kernel_rfl
@[simp] theorem isint_126 : isIntT Try.prog 126 = false := by kernel_rfl
@[simp] theorem ty_127 : tyT Try.prog 127 = some (1, false) := by kernel_rfl
@[simp] theorem sl_127 : slT Try.prog 127 = none := by kernel_rfl
@[simp] theorem zero_127 : zeroT Try.prog 127 = some ([.pointer none]) := by kernel_rfl
@[simp] theorem str_127 : isStrT Try.prog 127 = false := by kernel_rfl
@[simp] theorem isint_127 : isIntT Try.prog 127 = false := by kernel_rfl
@[simp] theorem ptr_127 : isPtrT Try.prog 127 = true := by kernel_rfl
@[simp] theorem ty_130 : tyT Try.prog 130 = some (11, true) := by kernel_rfl
@[simp] theorem sl_130 : slT Try.prog 130 = none := by kernel_rfl
@[simp] theorem fld_130_0 : fldT Try.prog 130 0 = some (0, 1, false) := by kernel_rfl
@[simp] theorem fld_130_1 : fldT Try.prog 130 1 = some (1, 1, false) := by kernel_rfl
@[simp] theorem fld_130_2 : fldT Try.prog 130 2 = some (2, 1, false) := by kernel_rfl
@[simp] theorem fld_130_3 : fldT Try.prog 130 3 = some (3, 1, false) := by kernel_rfl
@[simp] theorem fld_130_4 : fldT Try.prog 130 4 = some (4, 1, false) := by kernel_rfl
@[simp] theorem fld_130_5 : fldT Try.prog 130 5 = some (5, 1, false) := by kernel_rfl
@[simp] theorem fld_130_6 : fldT Try.prog 130 6 = some (6, 1, false) := by kernel_rfl
@[simp] theorem fld_130_7 : fldT Try.prog 130 7 = some (7, 1, false) := by kernel_rfl
@[simp] theorem fld_130_8 : fldT Try.prog 130 8 = some (8, 1, false) := by kernel_rfl
@[simp] theorem fld_130_9 : fldT Try.prog 130 9 = some (9, 1, false) := by kernel_rfl
@[simp] theorem fld_130_10 : fldT Try.prog 130 10 = some (10, 1, false) := by kernel_rfl
@[simp] theorem pl_130 : plT Try.prog 130 = some fun i => [(0, 1), (1, 1), (2, 1), (3, 1), (4, 1), (5, 1), (6, 1), (7, 1), (8, 1), (9, 1), (10, 1)][i]? := by kernel_rfl
@[simp] theorem zero_130 : zeroT Try.prog 130 = some ([.int .u64 0, .int .u64 0, .int .u32 0, .int .u8 0, .int .u8 0, .int .u8 0, .int .u8 0, .nilFunc, .pointer none, .int .i32 0, .int .i32 0]) := by kernel_rfl
@[simp] theorem str_130 : isStrT Try.prog 130 = false := by kernel_rfl
@[simp] theorem isint_130 : isIntT Try.prog 130 = false := by kernel_rfl
@[simp] theorem ty_132 : tyT Try.prog 132 = some (1, false) := by kernel_rfl
@[simp] theorem sl_132 : slT Try.prog 132 = none := by kernel_rfl
@[simp] theorem str_132 : isStrT Try.prog 132 = false := by kernel_rfl
@[simp] theorem isint_132 : isIntT Try.prog 132 = false := by kernel_rfl
@[simp] theorem call_3 : callable Try.prog 3 = true := by kernel_rfl
@[simp] theorem ovl_3 : ovlT Try.prog 3 = false := by kernel_rfl
@[simp] theorem call_4 : callable Try.prog 4 = true := by kernel_rfl
@[simp] theorem ovl_4 : ovlT Try.prog 4 = false := by kernel_rfl
@[simp] theorem call_5 : callable Try.prog 5 = true := by kernel_rfl
@[simp] theorem ovl_5 : ovlT Try.prog 5 = false := by kernel_rfl
@[simp] theorem call_6 : callable Try.prog 6 = true := by kernel_rfl
@[simp] theorem ovl_6 : ovlT Try.prog 6 = false := by kernel_rfl
@[simp] theorem call_7 : callable Try.prog 7 = true := by kernel_rfl
@[simp] theorem ovl_7 : ovlT Try.prog 7 = false := by kernel_rfl
@[simp] theorem call_8 : callable Try.prog 8 = true := by kernel_rfl
@[simp] theorem ovl_8 : ovlT Try.prog 8 = false := by kernel_rfl
@[simp] theorem call_9 : callable Try.prog 9 = true := by kernel_rfl
@[simp] theorem ovl_9 : ovlT Try.prog 9 = false := by kernel_rfl
@[simp] theorem call_10 : callable Try.prog 10 = true := by kernel_rfl
@[simp] theorem ovl_10 : ovlT Try.prog 10 = false := by kernel_rfl
@[simp] theorem call_11 : callable Try.prog 11 = true := by kernel_rfl
@[simp] theorem ovl_11 : ovlT Try.prog 11 = false := by kernel_rfl
@[simp] theorem call_12 : callable Try.prog 12 = true := by kernel_rfl
@[simp] theorem ovl_12 : ovlT Try.prog 12 = false := by kernel_rfl
@[simp] theorem call_13 : callable Try.prog 13 = true := by kernel_rfl
@[simp] theorem ovl_13 : ovlT Try.prog 13 = false := by kernel_rfl
@[simp] theorem call_14 : callable Try.prog 14 = true := by kernel_rfl
@[simp] theorem ovl_14 : ovlT Try.prog 14 = false := by kernel_rfl
@[simp] theorem call_15 : callable Try.prog 15 = true := by kernel_rfl
@[simp] theorem ovl_15 : ovlT Try.prog 15 = false := by kernel_rfl
@[simp] theorem call_16 : callable Try.prog 16 = true := by kernel_rfl
@[simp] theorem ovl_16 : ovlT Try.prog 16 = false := by kernel_rfl
@[simp] theorem call_17 : callable Try.prog 17 = true := by kernel_rfl
@[simp] theorem ovl_17 : ovlT Try.prog 17 = false := by kernel_rfl
@[simp] theorem call_18 : callable Try.prog 18 = true := by kernel_rfl
@[simp] theorem ovl_18 : ovlT Try.prog 18 = false := by kernel_rfl
@[simp] theorem call_19 : callable Try.prog 19 = true := by kernel_rfl
@[simp] theorem ovl_19 : ovlT Try.prog 19 = false := by kernel_rfl
@[simp] theorem call_20 : callable Try.prog 20 = true := by kernel_rfl
@[simp] theorem ovl_20 : ovlT Try.prog 20 = false := by kernel_rfl
@[simp] theorem call_21 : callable Try.prog 21 = true := by kernel_rfl
@[simp] theorem ovl_21 : ovlT Try.prog 21 = false := by kernel_rfl
@[simp] theorem call_22 : callable Try.prog 22 = true := by kernel_rfl
@[simp] theorem ovl_22 : ovlT Try.prog 22 = false := by kernel_rfl
@[simp] theorem call_23 : callable Try.prog 23 = true := by kernel_rfl
@[simp] theorem ovl_23 : ovlT Try.prog 23 = false := by kernel_rfl
@[simp] theorem call_24 : callable Try.prog 24 = true := by kernel_rfl
@[simp] theorem ovl_24 : ovlT Try.prog 24 = false := by kernel_rfl
@[simp] theorem call_25 : callable Try.prog 25 = true := by kernel_rfl
@[simp] theorem ovl_25 : ovlT Try.prog 25 = false := by kernel_rfl
@[simp] theorem call_26 : callable Try.prog 26 = true := by kernel_rfl
@[simp] theorem ovl_26 : ovlT Try.prog 26 = false := by kernel_rfl
@[simp] theorem call_27 : callable Try.prog 27 = true := by kernel_rfl
@[simp] theorem ovl_27 : ovlT Try.prog 27 = false := by kernel_rfl
@[simp] theorem call_28 : callable Try.prog 28 = true := by kernel_rfl
@[simp] theorem ovl_28 : ovlT Try.prog 28 = false := by kernel_rfl
@[simp] theorem call_29 : callable Try.prog 29 = true := by kernel_rfl
@[simp] theorem ovl_29 : ovlT Try.prog 29 = false := by kernel_rfl
@[simp] theorem call_30 : callable Try.prog 30 = true := by kernel_rfl
@[simp] theorem ovl_30 : ovlT Try.prog 30 = false := by kernel_rfl
@[simp] theorem call_31 : callable Try.prog 31 = true := by kernel_rfl
@[simp] theorem ovl_31 : ovlT Try.prog 31 = false := by kernel_rfl
@[simp] theorem call_32 : callable Try.prog 32 = true := by kernel_rfl
@[simp] theorem ovl_32 : ovlT Try.prog 32 = false := by kernel_rfl
@[simp] theorem call_33 : callable Try.prog 33 = true := by kernel_rfl
@[simp] theorem ovl_33 : ovlT Try.prog 33 = false := by kernel_rfl
@[simp] theorem call_34 : callable Try.prog 34 = true := by kernel_rfl
@[simp] theorem ovl_34 : ovlT Try.prog 34 = false := by kernel_rfl
@[simp] theorem call_35 : callable Try.prog 35 = true := by kernel_rfl
@[simp] theorem ovl_35 : ovlT Try.prog 35 = false := by kernel_rfl
@[simp] theorem call_36 : callable Try.prog 36 = true := by kernel_rfl
@[simp] theorem ovl_36 : ovlT Try.prog 36 = false := by kernel_rfl
@[simp] theorem call_37 : callable Try.prog 37 = true := by kernel_rfl
@[simp] theorem ovl_37 : ovlT Try.prog 37 = false := by kernel_rfl
@[simp] theorem call_38 : callable Try.prog 38 = true := by kernel_rfl
@[simp] theorem ovl_38 : ovlT Try.prog 38 = false := by kernel_rfl
@[simp] theorem call_39 : callable Try.prog 39 = true := by kernel_rfl
@[simp] theorem ovl_39 : ovlT Try.prog 39 = false := by kernel_rfl
@[simp] theorem call_40 : callable Try.prog 40 = true := by kernel_rfl
@[simp] theorem ovl_40 : ovlT Try.prog 40 = false := by kernel_rfl
@[simp] theorem call_41 : callable Try.prog 41 = true := by kernel_rfl
@[simp] theorem ovl_41 : ovlT Try.prog 41 = false := by kernel_rfl
@[simp] theorem call_42 : callable Try.prog 42 = true := by kernel_rfl
@[simp] theorem ovl_42 : ovlT Try.prog 42 = false := by kernel_rfl
@[simp] theorem call_43 : callable Try.prog 43 = true := by kernel_rfl
@[simp] theorem ovl_43 : ovlT Try.prog 43 = false := by kernel_rfl
@[simp] theorem call_44 : callable Try.prog 44 = true := by kernel_rfl
@[simp] theorem ovl_44 : ovlT Try.prog 44 = false := by kernel_rfl
@[simp] theorem call_45 : callable Try.prog 45 = true := by kernel_rfl
@[simp] theorem ovl_45 : ovlT Try.prog 45 = false := by kernel_rfl
@[simp] theorem call_46 : callable Try.prog 46 = true := by kernel_rfl
@[simp] theorem ovl_46 : ovlT Try.prog 46 = false := by kernel_rfl
@[simp] theorem call_47 : callable Try.prog 47 = true := by kernel_rfl
@[simp] theorem ovl_47 : ovlT Try.prog 47 = false := by kernel_rfl
@[simp] theorem call_48 : callable Try.prog 48 = true := by kernel_rfl
@[simp] theorem ovl_48 : ovlT Try.prog 48 = false := by kernel_rfl
@[simp] theorem call_49 : callable Try.prog 49 = true := by kernel_rfl
@[simp] theorem ovl_49 : ovlT Try.prog 49 = false := by kernel_rfl
@[simp] theorem call_50 : callable Try.prog 50 = true := by kernel_rfl
@[simp] theorem ovl_50 : ovlT Try.prog 50 = false := by kernel_rfl
@[simp] theorem call_51 : callable Try.prog 51 = true := by kernel_rfl
@[simp] theorem ovl_51 : ovlT Try.prog 51 = false := by kernel_rfl
@[simp] theorem call_52 : callable Try.prog 52 = true := by kernel_rfl
@[simp] theorem ovl_52 : ovlT Try.prog 52 = false := by kernel_rfl
@[simp] theorem call_53 : callable Try.prog 53 = true := by kernel_rfl
@[simp] theorem ovl_53 : ovlT Try.prog 53 = false := by kernel_rfl
@[simp] theorem call_54 : callable Try.prog 54 = true := by kernel_rfl
@[simp] theorem ovl_54 : ovlT Try.prog 54 = false := by kernel_rfl
@[simp] theorem call_55 : callable Try.prog 55 = true := by kernel_rfl
@[simp] theorem ovl_55 : ovlT Try.prog 55 = false := by kernel_rfl
@[simp] theorem call_56 : callable Try.prog 56 = true := by kernel_rfl
@[simp] theorem ovl_56 : ovlT Try.prog 56 = false := by kernel_rfl
@[simp] theorem call_57 : callable Try.prog 57 = true := by kernel_rfl
@[simp] theorem ovl_57 : ovlT Try.prog 57 = false := by kernel_rfl
@[simp] theorem call_58 : callable Try.prog 58 = true := by kernel_rfl
@[simp] theorem ovl_58 : ovlT Try.prog 58 = false := by kernel_rfl
@[simp] theorem call_59 : callable Try.prog 59 = true := by kernel_rfl
@[simp] theorem ovl_59 : ovlT Try.prog 59 = false := by kernel_rfl
@[simp] theorem call_60 : callable Try.prog 60 = true := by kernel_rfl
@[simp] theorem ovl_60 : ovlT Try.prog 60 = false := by kernel_rfl
@[simp] theorem call_61 : callable Try.prog 61 = true := by kernel_rfl
@[simp] theorem ovl_61 : ovlT Try.prog 61 = false := by kernel_rfl
@[simp] theorem call_62 : callable Try.prog 62 = true := by kernel_rfl
@[simp] theorem ovl_62 : ovlT Try.prog 62 = false := by kernel_rfl
@[simp] theorem call_63 : callable Try.prog 63 = true := by kernel_rfl
@[simp] theorem ovl_63 : ovlT Try.prog 63 = false := by kernel_rfl
theorem mixed : Try.prog.follows .mixedOrders = true := by kernel_rfl
end Go.Proofs.Ytmgpiminicgbiaa
