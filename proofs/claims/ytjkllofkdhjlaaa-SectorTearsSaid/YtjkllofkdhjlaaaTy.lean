import Derived.Test.YtjkllofkdhjlaaaRows
import Derived.Test.YtjkllofkdhjlaaaEq
namespace Go.Proofs.Ytjkllofkdhjlaaa
open Go.RowKit

@[simp] theorem ty_1 : tyT Try.prog 1 = some (1, false) := by kernel_rfl
@[simp] theorem sl_1 : slT Try.prog 1 = none := by kernel_rfl
@[simp] theorem zero_1 : zeroT Try.prog 1 = some ([.nilFunc]) := by kernel_rfl
@[simp] theorem str_1 : isStrT Try.prog 1 = false := by kernel_rfl
@[simp] theorem ty_2 : tyT Try.prog 2 = some (1, false) := by kernel_rfl
@[simp] theorem sl_2 : slT Try.prog 2 = none := by kernel_rfl
@[simp] theorem zero_2 : zeroT Try.prog 2 = some ([.int .i64 0]) := by kernel_rfl
@[simp] theorem int_2 : intT Try.prog 2 = some .i64 := by kernel_rfl
@[simp] theorem str_2 : isStrT Try.prog 2 = false := by kernel_rfl
@[simp] theorem ty_3 : tyT Try.prog 3 = some (1, false) := by kernel_rfl
@[simp] theorem sl_3 : slT Try.prog 3 = none := by kernel_rfl
@[simp] theorem zero_3 : zeroT Try.prog 3 = some ([.int .i64 0]) := by kernel_rfl
@[simp] theorem int_3 : intT Try.prog 3 = some .i64 := by kernel_rfl
@[simp] theorem str_3 : isStrT Try.prog 3 = false := by kernel_rfl
@[simp] theorem ty_4 : tyT Try.prog 4 = some (1, false) := by kernel_rfl
@[simp] theorem sl_4 : slT Try.prog 4 = none := by kernel_rfl
@[simp] theorem zero_4 : zeroT Try.prog 4 = some ([.bool false]) := by kernel_rfl
@[simp] theorem str_4 : isStrT Try.prog 4 = false := by kernel_rfl
@[simp] theorem bool_4 : isBoolT Try.prog 4 = true := by kernel_rfl
@[simp] theorem ty_5 : tyT Try.prog 5 = some (1, false) := by kernel_rfl
@[simp] theorem sl_5 : slT Try.prog 5 = none := by kernel_rfl
@[simp] theorem zero_5 : zeroT Try.prog 5 = some ([.int .u8 0]) := by kernel_rfl
@[simp] theorem int_5 : intT Try.prog 5 = some .u8 := by kernel_rfl
@[simp] theorem str_5 : isStrT Try.prog 5 = false := by kernel_rfl
@[simp] theorem ty_7 : tyT Try.prog 7 = some (4, true) := by kernel_rfl
@[simp] theorem sl_7 : slT Try.prog 7 = none := by kernel_rfl
@[simp] theorem fld_7_0 : fldT Try.prog 7 0 = some (0, 1, false) := by kernel_rfl
@[simp] theorem fld_7_1 : fldT Try.prog 7 1 = some (1, 1, false) := by kernel_rfl
@[simp] theorem fld_7_2 : fldT Try.prog 7 2 = some (2, 1, false) := by kernel_rfl
@[simp] theorem fld_7_3 : fldT Try.prog 7 3 = some (3, 1, false) := by kernel_rfl
@[simp] theorem pl_7 : plT Try.prog 7 = some fun i => [(0, 1), (1, 1), (2, 1), (3, 1)][i]? := by kernel_rfl
@[simp] theorem zero_7 : zeroT Try.prog 7 = some ([.int .i64 0, .int .i64 0, .bool false, .int .u8 0]) := by kernel_rfl
@[simp] theorem str_7 : isStrT Try.prog 7 = false := by kernel_rfl
@[simp] theorem ty_9 : tyT Try.prog 9 = some (1, false) := by kernel_rfl
@[simp] theorem sl_9 : slT Try.prog 9 = none := by kernel_rfl
@[simp] theorem zero_9 : zeroT Try.prog 9 = some ([.string ByteArray.empty]) := by kernel_rfl
@[simp] theorem str_9 : isStrT Try.prog 9 = true := by kernel_rfl
@[simp] theorem ty_12 : tyT Try.prog 12 = some (1, false) := by kernel_rfl
@[simp] theorem sl_12 : slT Try.prog 12 = none := by kernel_rfl
@[simp] theorem zero_12 : zeroT Try.prog 12 = some ([.int .u64 0]) := by kernel_rfl
@[simp] theorem int_12 : intT Try.prog 12 = some .u64 := by kernel_rfl
@[simp] theorem str_12 : isStrT Try.prog 12 = false := by kernel_rfl
@[simp] theorem ty_13 : tyT Try.prog 13 = some (2, true) := by kernel_rfl
@[simp] theorem sl_13 : slT Try.prog 13 = none := by kernel_rfl
@[simp] theorem fld_13_0 : fldT Try.prog 13 0 = some (0, 1, false) := by kernel_rfl
@[simp] theorem fld_13_1 : fldT Try.prog 13 1 = some (1, 1, false) := by kernel_rfl
@[simp] theorem pl_13 : plT Try.prog 13 = some fun i => [(0, 1), (1, 1)][i]? := by kernel_rfl
@[simp] theorem zero_13 : zeroT Try.prog 13 = some ([.string ByteArray.empty, .int .u64 0]) := by kernel_rfl
@[simp] theorem str_13 : isStrT Try.prog 13 = false := by kernel_rfl
@[simp] theorem ty_18 : tyT Try.prog 18 = some (1, true) := by kernel_rfl
@[simp] theorem sl_18 : slT Try.prog 18 = none := by kernel_rfl
@[simp] theorem fld_18_0 : fldT Try.prog 18 0 = some (0, 1, false) := by kernel_rfl
@[simp] theorem pl_18 : plT Try.prog 18 = some fun i => [(0, 1)][i]? := by kernel_rfl
@[simp] theorem zero_18 : zeroT Try.prog 18 = some ([.pointer none]) := by kernel_rfl
@[simp] theorem str_18 : isStrT Try.prog 18 = false := by kernel_rfl
@[simp] theorem ty_19 : tyT Try.prog 19 = some (1, true) := by kernel_rfl
@[simp] theorem sl_19 : slT Try.prog 19 = none := by kernel_rfl
@[simp] theorem fld_19_0 : fldT Try.prog 19 0 = some (0, 1, false) := by kernel_rfl
@[simp] theorem pl_19 : plT Try.prog 19 = some fun i => [(0, 1)][i]? := by kernel_rfl
@[simp] theorem zero_19 : zeroT Try.prog 19 = some ([.pointer none]) := by kernel_rfl
@[simp] theorem str_19 : isStrT Try.prog 19 = false := by kernel_rfl
@[simp] theorem ty_21 : tyT Try.prog 21 = some (1, false) := by kernel_rfl
@[simp] theorem sl_21 : slT Try.prog 21 = none := by kernel_rfl
@[simp] theorem zero_21 : zeroT Try.prog 21 = some ([.int .i32 0]) := by kernel_rfl
@[simp] theorem int_21 : intT Try.prog 21 = some .i32 := by kernel_rfl
@[simp] theorem str_21 : isStrT Try.prog 21 = false := by kernel_rfl
@[simp] theorem ty_22 : tyT Try.prog 22 = some (1, false) := by kernel_rfl
@[simp] theorem sl_22 : slT Try.prog 22 = some (34, 4, 64) := by kernel_rfl
@[simp] theorem zero_22 : zeroT Try.prog 22 = some ([.slice none 0 0]) := by kernel_rfl
@[simp] theorem str_22 : isStrT Try.prog 22 = false := by kernel_rfl
@[simp] theorem ty_23 : tyT Try.prog 23 = some (1, false) := by kernel_rfl
@[simp] theorem sl_23 : slT Try.prog 23 = none := by kernel_rfl
@[simp] theorem zero_23 : zeroT Try.prog 23 = some ([.nilFunc]) := by kernel_rfl
@[simp] theorem str_23 : isStrT Try.prog 23 = false := by kernel_rfl
@[simp] theorem ty_24 : tyT Try.prog 24 = some (1, false) := by kernel_rfl
@[simp] theorem sl_24 : slT Try.prog 24 = none := by kernel_rfl
@[simp] theorem zero_24 : zeroT Try.prog 24 = some ([.int .u64 0]) := by kernel_rfl
@[simp] theorem int_24 : intT Try.prog 24 = some .u64 := by kernel_rfl
@[simp] theorem str_24 : isStrT Try.prog 24 = false := by kernel_rfl
@[simp] theorem ty_25 : tyT Try.prog 25 = some (1, false) := by kernel_rfl
@[simp] theorem sl_25 : slT Try.prog 25 = none := by kernel_rfl
@[simp] theorem zero_25 : zeroT Try.prog 25 = some ([.pointer none]) := by kernel_rfl
@[simp] theorem str_25 : isStrT Try.prog 25 = false := by kernel_rfl
@[simp] theorem ptr_25 : isPtrT Try.prog 25 = true := by kernel_rfl
@[simp] theorem ty_26 : tyT Try.prog 26 = some (1, false) := by kernel_rfl
@[simp] theorem sl_26 : slT Try.prog 26 = none := by kernel_rfl
@[simp] theorem zero_26 : zeroT Try.prog 26 = some ([.int .i64 0]) := by kernel_rfl
@[simp] theorem int_26 : intT Try.prog 26 = some .i64 := by kernel_rfl
@[simp] theorem str_26 : isStrT Try.prog 26 = false := by kernel_rfl
@[simp] theorem ty_28 : tyT Try.prog 28 = some (1, false) := by kernel_rfl
@[simp] theorem sl_28 : slT Try.prog 28 = none := by kernel_rfl
@[simp] theorem zero_28 : zeroT Try.prog 28 = some ([.nilFunc]) := by kernel_rfl
@[simp] theorem str_28 : isStrT Try.prog 28 = false := by kernel_rfl
@[simp] theorem ty_29 : tyT Try.prog 29 = some (1, false) := by kernel_rfl
@[simp] theorem sl_29 : slT Try.prog 29 = none := by kernel_rfl
@[simp] theorem zero_29 : zeroT Try.prog 29 = some ([.pointer none]) := by kernel_rfl
@[simp] theorem str_29 : isStrT Try.prog 29 = false := by kernel_rfl
@[simp] theorem ptr_29 : isPtrT Try.prog 29 = true := by kernel_rfl
@[simp] theorem ty_30 : tyT Try.prog 30 = some (1, false) := by kernel_rfl
@[simp] theorem sl_30 : slT Try.prog 30 = none := by kernel_rfl
@[simp] theorem zero_30 : zeroT Try.prog 30 = some ([.nilFunc]) := by kernel_rfl
@[simp] theorem str_30 : isStrT Try.prog 30 = false := by kernel_rfl
@[simp] theorem ty_31 : tyT Try.prog 31 = some (1, false) := by kernel_rfl
@[simp] theorem sl_31 : slT Try.prog 31 = some (5, 1, 1) := by kernel_rfl
@[simp] theorem zero_31 : zeroT Try.prog 31 = some ([.slice none 0 0]) := by kernel_rfl
@[simp] theorem str_31 : isStrT Try.prog 31 = false := by kernel_rfl
@[simp] theorem ty_32 : tyT Try.prog 32 = some (1, false) := by kernel_rfl
@[simp] theorem sl_32 : slT Try.prog 32 = some (3, 1, 8) := by kernel_rfl
@[simp] theorem zero_32 : zeroT Try.prog 32 = some ([.slice none 0 0]) := by kernel_rfl
@[simp] theorem str_32 : isStrT Try.prog 32 = false := by kernel_rfl
@[simp] theorem ty_33 : tyT Try.prog 33 = some (4, true) := by kernel_rfl
@[simp] theorem sl_33 : slT Try.prog 33 = none := by kernel_rfl
@[simp] theorem fld_33_0 : fldT Try.prog 33 0 = some (0, 1, false) := by kernel_rfl
@[simp] theorem fld_33_1 : fldT Try.prog 33 1 = some (1, 1, false) := by kernel_rfl
@[simp] theorem fld_33_2 : fldT Try.prog 33 2 = some (2, 1, false) := by kernel_rfl
@[simp] theorem fld_33_3 : fldT Try.prog 33 3 = some (3, 1, false) := by kernel_rfl
@[simp] theorem pl_33 : plT Try.prog 33 = some fun i => [(0, 1), (1, 1), (2, 1), (3, 1)][i]? := by kernel_rfl
@[simp] theorem zero_33 : zeroT Try.prog 33 = some ([.int .i64 0, .int .i64 0, .slice none 0 0, .slice none 0 0]) := by kernel_rfl
@[simp] theorem str_33 : isStrT Try.prog 33 = false := by kernel_rfl
@[simp] theorem ty_34 : tyT Try.prog 34 = some (4, true) := by kernel_rfl
@[simp] theorem sl_34 : slT Try.prog 34 = none := by kernel_rfl
@[simp] theorem fld_34_0 : fldT Try.prog 34 0 = some (0, 1, false) := by kernel_rfl
@[simp] theorem fld_34_1 : fldT Try.prog 34 1 = some (1, 1, false) := by kernel_rfl
@[simp] theorem fld_34_2 : fldT Try.prog 34 2 = some (2, 1, false) := by kernel_rfl
@[simp] theorem fld_34_3 : fldT Try.prog 34 3 = some (3, 1, false) := by kernel_rfl
@[simp] theorem pl_34 : plT Try.prog 34 = some fun i => [(0, 1), (1, 1), (2, 1), (3, 1)][i]? := by kernel_rfl
@[simp] theorem zero_34 : zeroT Try.prog 34 = some ([.int .i64 0, .int .i64 0, .slice none 0 0, .slice none 0 0]) := by kernel_rfl
@[simp] theorem str_34 : isStrT Try.prog 34 = false := by kernel_rfl
@[simp] theorem ty_35 : tyT Try.prog 35 = some (1, false) := by kernel_rfl
@[simp] theorem sl_35 : slT Try.prog 35 = none := by kernel_rfl
@[simp] theorem zero_35 : zeroT Try.prog 35 = some ([.nilFunc]) := by kernel_rfl
@[simp] theorem str_35 : isStrT Try.prog 35 = false := by kernel_rfl
@[simp] theorem ty_36 : tyT Try.prog 36 = some (1, false) := by kernel_rfl
@[simp] theorem sl_36 : slT Try.prog 36 = none := by kernel_rfl
@[simp] theorem zero_36 : zeroT Try.prog 36 = some ([.nilFunc]) := by kernel_rfl
@[simp] theorem str_36 : isStrT Try.prog 36 = false := by kernel_rfl
@[simp] theorem ty_37 : tyT Try.prog 37 = some (1, false) := by kernel_rfl
@[simp] theorem sl_37 : slT Try.prog 37 = none := by kernel_rfl
@[simp] theorem zero_37 : zeroT Try.prog 37 = some ([.nilFunc]) := by kernel_rfl
@[simp] theorem str_37 : isStrT Try.prog 37 = false := by kernel_rfl
@[simp] theorem ty_38 : tyT Try.prog 38 = some (1, false) := by kernel_rfl
@[simp] theorem sl_38 : slT Try.prog 38 = none := by kernel_rfl
@[simp] theorem zero_38 : zeroT Try.prog 38 = some ([.nilFunc]) := by kernel_rfl
@[simp] theorem str_38 : isStrT Try.prog 38 = false := by kernel_rfl
@[simp] theorem ty_39 : tyT Try.prog 39 = some (1, false) := by kernel_rfl
@[simp] theorem sl_39 : slT Try.prog 39 = none := by kernel_rfl
@[simp] theorem zero_39 : zeroT Try.prog 39 = some ([.nilFunc]) := by kernel_rfl
@[simp] theorem str_39 : isStrT Try.prog 39 = false := by kernel_rfl
@[simp] theorem ty_40 : tyT Try.prog 40 = some (1, false) := by kernel_rfl
@[simp] theorem sl_40 : slT Try.prog 40 = none := by kernel_rfl
@[simp] theorem zero_40 : zeroT Try.prog 40 = some ([.nilFunc]) := by kernel_rfl
@[simp] theorem str_40 : isStrT Try.prog 40 = false := by kernel_rfl
@[simp] theorem ty_41 : tyT Try.prog 41 = some (1, false) := by kernel_rfl
@[simp] theorem sl_41 : slT Try.prog 41 = none := by kernel_rfl
@[simp] theorem zero_41 : zeroT Try.prog 41 = some ([.nilFunc]) := by kernel_rfl
@[simp] theorem str_41 : isStrT Try.prog 41 = false := by kernel_rfl
@[simp] theorem ty_42 : tyT Try.prog 42 = some (1, false) := by kernel_rfl
@[simp] theorem sl_42 : slT Try.prog 42 = some (9, 1, 16) := by kernel_rfl
@[simp] theorem zero_42 : zeroT Try.prog 42 = some ([.slice none 0 0]) := by kernel_rfl
@[simp] theorem str_42 : isStrT Try.prog 42 = false := by kernel_rfl
@[simp] theorem ty_43 : tyT Try.prog 43 = some (1, false) := by kernel_rfl
@[simp] theorem sl_43 : slT Try.prog 43 = some (65, 2, 24) := by kernel_rfl
@[simp] theorem zero_43 : zeroT Try.prog 43 = some ([.slice none 0 0]) := by kernel_rfl
@[simp] theorem str_43 : isStrT Try.prog 43 = false := by kernel_rfl
@[simp] theorem ty_44 : tyT Try.prog 44 = some (4, true) := by kernel_rfl
@[simp] theorem sl_44 : slT Try.prog 44 = none := by kernel_rfl
@[simp] theorem fld_44_0 : fldT Try.prog 44 0 = some (0, 1, false) := by kernel_rfl
@[simp] theorem fld_44_1 : fldT Try.prog 44 1 = some (1, 1, false) := by kernel_rfl
@[simp] theorem fld_44_2 : fldT Try.prog 44 2 = some (2, 1, false) := by kernel_rfl
@[simp] theorem fld_44_3 : fldT Try.prog 44 3 = some (3, 1, false) := by kernel_rfl
@[simp] theorem pl_44 : plT Try.prog 44 = some fun i => [(0, 1), (1, 1), (2, 1), (3, 1)][i]? := by kernel_rfl
@[simp] theorem zero_44 : zeroT Try.prog 44 = some ([.slice none 0 0, .slice none 0 0, .int .i64 0, .int .i64 0]) := by kernel_rfl
@[simp] theorem str_44 : isStrT Try.prog 44 = false := by kernel_rfl
@[simp] theorem ty_45 : tyT Try.prog 45 = some (4, true) := by kernel_rfl
@[simp] theorem sl_45 : slT Try.prog 45 = none := by kernel_rfl
@[simp] theorem fld_45_0 : fldT Try.prog 45 0 = some (0, 1, false) := by kernel_rfl
@[simp] theorem fld_45_1 : fldT Try.prog 45 1 = some (1, 1, false) := by kernel_rfl
@[simp] theorem fld_45_2 : fldT Try.prog 45 2 = some (2, 1, false) := by kernel_rfl
@[simp] theorem fld_45_3 : fldT Try.prog 45 3 = some (3, 1, false) := by kernel_rfl
@[simp] theorem pl_45 : plT Try.prog 45 = some fun i => [(0, 1), (1, 1), (2, 1), (3, 1)][i]? := by kernel_rfl
@[simp] theorem zero_45 : zeroT Try.prog 45 = some ([.slice none 0 0, .slice none 0 0, .int .i64 0, .int .i64 0]) := by kernel_rfl
@[simp] theorem str_45 : isStrT Try.prog 45 = false := by kernel_rfl
@[simp] theorem ty_47 : tyT Try.prog 47 = some (1, false) := by kernel_rfl
@[simp] theorem sl_47 : slT Try.prog 47 = none := by kernel_rfl
@[simp] theorem zero_47 : zeroT Try.prog 47 = some ([.nilFunc]) := by kernel_rfl
@[simp] theorem str_47 : isStrT Try.prog 47 = false := by kernel_rfl
@[simp] theorem ty_49 : tyT Try.prog 49 = some (1, false) := by kernel_rfl
@[simp] theorem sl_49 : slT Try.prog 49 = none := by kernel_rfl
@[simp] theorem zero_49 : zeroT Try.prog 49 = some ([.nilFunc]) := by kernel_rfl
@[simp] theorem str_49 : isStrT Try.prog 49 = false := by kernel_rfl
@[simp] theorem ty_50 : tyT Try.prog 50 = some (1, false) := by kernel_rfl
@[simp] theorem sl_50 : slT Try.prog 50 = none := by kernel_rfl
@[simp] theorem zero_50 : zeroT Try.prog 50 = some ([.nilFunc]) := by kernel_rfl
@[simp] theorem str_50 : isStrT Try.prog 50 = false := by kernel_rfl
@[simp] theorem ty_51 : tyT Try.prog 51 = some (1, false) := by kernel_rfl
@[simp] theorem sl_51 : slT Try.prog 51 = none := by kernel_rfl
@[simp] theorem zero_51 : zeroT Try.prog 51 = some ([.nilFunc]) := by kernel_rfl
@[simp] theorem str_51 : isStrT Try.prog 51 = false := by kernel_rfl
@[simp] theorem ty_52 : tyT Try.prog 52 = some (1, false) := by kernel_rfl
@[simp] theorem sl_52 : slT Try.prog 52 = none := by kernel_rfl
@[simp] theorem zero_52 : zeroT Try.prog 52 = some ([.nilFunc]) := by kernel_rfl
@[simp] theorem str_52 : isStrT Try.prog 52 = false := by kernel_rfl
@[simp] theorem ty_53 : tyT Try.prog 53 = some (64, true) := by kernel_rfl
@[simp] theorem sl_53 : slT Try.prog 53 = none := by kernel_rfl
@[simp] theorem ar_53 : arT Try.prog 53 = some (64, 1) := by kernel_rfl
@[simp] theorem pl_53 : plT Try.prog 53 = some fun i => some (i * 1, 1) := by kernel_rfl
@[simp] theorem zero_53 : zeroT Try.prog 53 = some (List.replicate 64 (.slice none 0 0)) := by kernel_rfl
@[simp] theorem str_53 : isStrT Try.prog 53 = false := by kernel_rfl
@[simp] theorem ty_54 : tyT Try.prog 54 = some (1, false) := by kernel_rfl
@[simp] theorem sl_54 : slT Try.prog 54 = none := by kernel_rfl
@[simp] theorem zero_54 : zeroT Try.prog 54 = some ([.nilFunc]) := by kernel_rfl
@[simp] theorem str_54 : isStrT Try.prog 54 = false := by kernel_rfl
@[simp] theorem ty_55 : tyT Try.prog 55 = some (1, false) := by kernel_rfl
@[simp] theorem sl_55 : slT Try.prog 55 = none := by kernel_rfl
@[simp] theorem zero_55 : zeroT Try.prog 55 = some ([.nilFunc]) := by kernel_rfl
@[simp] theorem str_55 : isStrT Try.prog 55 = false := by kernel_rfl
@[simp] theorem ty_56 : tyT Try.prog 56 = some (1, false) := by kernel_rfl
@[simp] theorem sl_56 : slT Try.prog 56 = some (61, 64, 64) := by kernel_rfl
@[simp] theorem zero_56 : zeroT Try.prog 56 = some ([.slice none 0 0]) := by kernel_rfl
@[simp] theorem str_56 : isStrT Try.prog 56 = false := by kernel_rfl
@[simp] theorem ty_57 : tyT Try.prog 57 = some (1, false) := by kernel_rfl
@[simp] theorem sl_57 : slT Try.prog 57 = some (63, 65, 72) := by kernel_rfl
@[simp] theorem zero_57 : zeroT Try.prog 57 = some ([.slice none 0 0]) := by kernel_rfl
@[simp] theorem str_57 : isStrT Try.prog 57 = false := by kernel_rfl
@[simp] theorem ty_58 : tyT Try.prog 58 = some (5, true) := by kernel_rfl
@[simp] theorem sl_58 : slT Try.prog 58 = none := by kernel_rfl
@[simp] theorem fld_58_0 : fldT Try.prog 58 0 = some (0, 1, false) := by kernel_rfl
@[simp] theorem fld_58_1 : fldT Try.prog 58 1 = some (1, 1, false) := by kernel_rfl
@[simp] theorem fld_58_2 : fldT Try.prog 58 2 = some (2, 1, false) := by kernel_rfl
@[simp] theorem fld_58_3 : fldT Try.prog 58 3 = some (3, 1, false) := by kernel_rfl
@[simp] theorem fld_58_4 : fldT Try.prog 58 4 = some (4, 1, false) := by kernel_rfl
@[simp] theorem pl_58 : plT Try.prog 58 = some fun i => [(0, 1), (1, 1), (2, 1), (3, 1), (4, 1)][i]? := by kernel_rfl
@[simp] theorem zero_58 : zeroT Try.prog 58 = some ([.slice none 0 0, .slice none 0 0, .bool false, .int .i64 0, .int .i64 0]) := by kernel_rfl
@[simp] theorem str_58 : isStrT Try.prog 58 = false := by kernel_rfl
@[simp] theorem ty_59 : tyT Try.prog 59 = some (5, true) := by kernel_rfl
@[simp] theorem sl_59 : slT Try.prog 59 = none := by kernel_rfl
@[simp] theorem fld_59_0 : fldT Try.prog 59 0 = some (0, 1, false) := by kernel_rfl
@[simp] theorem fld_59_1 : fldT Try.prog 59 1 = some (1, 1, false) := by kernel_rfl
@[simp] theorem fld_59_2 : fldT Try.prog 59 2 = some (2, 1, false) := by kernel_rfl
@[simp] theorem fld_59_3 : fldT Try.prog 59 3 = some (3, 1, false) := by kernel_rfl
@[simp] theorem fld_59_4 : fldT Try.prog 59 4 = some (4, 1, false) := by kernel_rfl
@[simp] theorem pl_59 : plT Try.prog 59 = some fun i => [(0, 1), (1, 1), (2, 1), (3, 1), (4, 1)][i]? := by kernel_rfl
@[simp] theorem zero_59 : zeroT Try.prog 59 = some ([.slice none 0 0, .slice none 0 0, .bool false, .int .i64 0, .int .i64 0]) := by kernel_rfl
@[simp] theorem str_59 : isStrT Try.prog 59 = false := by kernel_rfl
@[simp] theorem ty_60 : tyT Try.prog 60 = some (64, true) := by kernel_rfl
@[simp] theorem sl_60 : slT Try.prog 60 = none := by kernel_rfl
@[simp] theorem ar_60 : arT Try.prog 60 = some (64, 1) := by kernel_rfl
@[simp] theorem pl_60 : plT Try.prog 60 = some fun i => some (i * 1, 1) := by kernel_rfl
@[simp] theorem zero_60 : zeroT Try.prog 60 = some (List.replicate 64 (.int .u8 0)) := by kernel_rfl
@[simp] theorem str_60 : isStrT Try.prog 60 = false := by kernel_rfl
@[simp] theorem ty_61 : tyT Try.prog 61 = some (64, true) := by kernel_rfl
@[simp] theorem sl_61 : slT Try.prog 61 = none := by kernel_rfl
@[simp] theorem ar_61 : arT Try.prog 61 = some (64, 1) := by kernel_rfl
@[simp] theorem pl_61 : plT Try.prog 61 = some fun i => some (i * 1, 1) := by kernel_rfl
@[simp] theorem zero_61 : zeroT Try.prog 61 = some (List.replicate 64 (.int .u8 0)) := by kernel_rfl
@[simp] theorem str_61 : isStrT Try.prog 61 = false := by kernel_rfl
@[simp] theorem ty_62 : tyT Try.prog 62 = some (65, true) := by kernel_rfl
@[simp] theorem sl_62 : slT Try.prog 62 = none := by kernel_rfl
@[simp] theorem fld_62_0 : fldT Try.prog 62 0 = some (0, 1, false) := by kernel_rfl
@[simp] theorem fld_62_1 : fldT Try.prog 62 1 = some (1, 64, true) := by kernel_rfl
@[simp] theorem pl_62 : plT Try.prog 62 = some fun i => [(0, 1), (1, 64)][i]? := by kernel_rfl
@[simp] theorem zero_62 : zeroT Try.prog 62 = some ([.int .i64 0] ++ List.replicate 64 (.int .u8 0)) := by kernel_rfl
@[simp] theorem str_62 : isStrT Try.prog 62 = false := by kernel_rfl
@[simp] theorem ty_63 : tyT Try.prog 63 = some (65, true) := by kernel_rfl
@[simp] theorem sl_63 : slT Try.prog 63 = none := by kernel_rfl
@[simp] theorem fld_63_0 : fldT Try.prog 63 0 = some (0, 1, false) := by kernel_rfl
@[simp] theorem fld_63_1 : fldT Try.prog 63 1 = some (1, 64, true) := by kernel_rfl
@[simp] theorem pl_63 : plT Try.prog 63 = some fun i => [(0, 1), (1, 64)][i]? := by kernel_rfl
@[simp] theorem zero_63 : zeroT Try.prog 63 = some ([.int .i64 0] ++ List.replicate 64 (.int .u8 0)) := by kernel_rfl
@[simp] theorem str_63 : isStrT Try.prog 63 = false := by kernel_rfl
@[simp] theorem ty_64 : tyT Try.prog 64 = some (2, true) := by kernel_rfl
@[simp] theorem sl_64 : slT Try.prog 64 = none := by kernel_rfl
@[simp] theorem fld_64_0 : fldT Try.prog 64 0 = some (0, 1, false) := by kernel_rfl
@[simp] theorem fld_64_1 : fldT Try.prog 64 1 = some (1, 1, false) := by kernel_rfl
@[simp] theorem pl_64 : plT Try.prog 64 = some fun i => [(0, 1), (1, 1)][i]? := by kernel_rfl
@[simp] theorem zero_64 : zeroT Try.prog 64 = some ([.int .i64 0, .string ByteArray.empty]) := by kernel_rfl
@[simp] theorem str_64 : isStrT Try.prog 64 = false := by kernel_rfl
@[simp] theorem ty_65 : tyT Try.prog 65 = some (2, true) := by kernel_rfl
@[simp] theorem sl_65 : slT Try.prog 65 = none := by kernel_rfl
@[simp] theorem fld_65_0 : fldT Try.prog 65 0 = some (0, 1, false) := by kernel_rfl
@[simp] theorem fld_65_1 : fldT Try.prog 65 1 = some (1, 1, false) := by kernel_rfl
@[simp] theorem pl_65 : plT Try.prog 65 = some fun i => [(0, 1), (1, 1)][i]? := by kernel_rfl
@[simp] theorem zero_65 : zeroT Try.prog 65 = some ([.int .i64 0, .string ByteArray.empty]) := by kernel_rfl
@[simp] theorem str_65 : isStrT Try.prog 65 = false := by kernel_rfl
@[simp] theorem ty_66 : tyT Try.prog 66 = some (1, false) := by kernel_rfl
@[simp] theorem sl_66 : slT Try.prog 66 = none := by kernel_rfl
@[simp] theorem zero_66 : zeroT Try.prog 66 = some ([.nilFunc]) := by kernel_rfl
@[simp] theorem str_66 : isStrT Try.prog 66 = false := by kernel_rfl
@[simp] theorem ty_67 : tyT Try.prog 67 = some (1, false) := by kernel_rfl
@[simp] theorem sl_67 : slT Try.prog 67 = none := by kernel_rfl
@[simp] theorem zero_67 : zeroT Try.prog 67 = some ([.nilFunc]) := by kernel_rfl
@[simp] theorem str_67 : isStrT Try.prog 67 = false := by kernel_rfl
@[simp] theorem ty_68 : tyT Try.prog 68 = some (1, false) := by kernel_rfl
@[simp] theorem sl_68 : slT Try.prog 68 = none := by kernel_rfl
@[simp] theorem zero_68 : zeroT Try.prog 68 = some ([.nilFunc]) := by kernel_rfl
@[simp] theorem str_68 : isStrT Try.prog 68 = false := by kernel_rfl
@[simp] theorem ty_69 : tyT Try.prog 69 = some (1, false) := by kernel_rfl
@[simp] theorem sl_69 : slT Try.prog 69 = none := by kernel_rfl
@[simp] theorem zero_69 : zeroT Try.prog 69 = some ([.nilFunc]) := by kernel_rfl
@[simp] theorem str_69 : isStrT Try.prog 69 = false := by kernel_rfl
@[simp] theorem ty_70 : tyT Try.prog 70 = some (1, false) := by kernel_rfl
@[simp] theorem sl_70 : slT Try.prog 70 = none := by kernel_rfl
@[simp] theorem zero_70 : zeroT Try.prog 70 = some ([.nilFunc]) := by kernel_rfl
@[simp] theorem str_70 : isStrT Try.prog 70 = false := by kernel_rfl
@[simp] theorem ty_71 : tyT Try.prog 71 = some (1, false) := by kernel_rfl
@[simp] theorem sl_71 : slT Try.prog 71 = none := by kernel_rfl
@[simp] theorem zero_71 : zeroT Try.prog 71 = some ([.nilFunc]) := by kernel_rfl
@[simp] theorem str_71 : isStrT Try.prog 71 = false := by kernel_rfl
@[simp] theorem ty_72 : tyT Try.prog 72 = some (4, true) := by kernel_rfl
@[simp] theorem sl_72 : slT Try.prog 72 = none := by kernel_rfl
@[simp] theorem fld_72_0 : fldT Try.prog 72 0 = some (0, 1, false) := by kernel_rfl
@[simp] theorem fld_72_1 : fldT Try.prog 72 1 = some (1, 1, false) := by kernel_rfl
@[simp] theorem fld_72_2 : fldT Try.prog 72 2 = some (2, 1, false) := by kernel_rfl
@[simp] theorem fld_72_3 : fldT Try.prog 72 3 = some (3, 1, false) := by kernel_rfl
@[simp] theorem pl_72 : plT Try.prog 72 = some fun i => [(0, 1), (1, 1), (2, 1), (3, 1)][i]? := by kernel_rfl
@[simp] theorem zero_72 : zeroT Try.prog 72 = some ([.pointer none, .pointer none, .pointer none, .string ByteArray.empty]) := by kernel_rfl
@[simp] theorem str_72 : isStrT Try.prog 72 = false := by kernel_rfl
@[simp] theorem ty_74 : tyT Try.prog 74 = some (0, true) := by kernel_rfl
@[simp] theorem sl_74 : slT Try.prog 74 = none := by kernel_rfl
@[simp] theorem ar_74 : arT Try.prog 74 = some (0, 1) := by kernel_rfl
@[simp] theorem pl_74 : plT Try.prog 74 = some fun i => some (i * 1, 1) := by kernel_rfl
@[simp] theorem zero_74 : zeroT Try.prog 74 = some ([]) := by kernel_rfl
@[simp] theorem str_74 : isStrT Try.prog 74 = false := by kernel_rfl
@[simp] theorem ty_75 : tyT Try.prog 75 = some (0, true) := by kernel_rfl
@[simp] theorem sl_75 : slT Try.prog 75 = none := by kernel_rfl
@[simp] theorem pl_75 : plT Try.prog 75 = some fun i => [(0, 0)][i]? := by kernel_rfl
@[simp] theorem zero_75 : zeroT Try.prog 75 = some ([]) := by kernel_rfl
@[simp] theorem str_75 : isStrT Try.prog 75 = false := by kernel_rfl
@[simp] theorem ty_77 : tyT Try.prog 77 = some (1, false) := by kernel_rfl
@[simp] theorem sl_77 : slT Try.prog 77 = none := by kernel_rfl
@[simp] theorem zero_77 : zeroT Try.prog 77 = some ([.int .u32 0]) := by kernel_rfl
@[simp] theorem int_77 : intT Try.prog 77 = some .u32 := by kernel_rfl
@[simp] theorem str_77 : isStrT Try.prog 77 = false := by kernel_rfl
@[simp] theorem ty_80 : tyT Try.prog 80 = some (1, false) := by kernel_rfl
@[simp] theorem sl_80 : slT Try.prog 80 = none := by kernel_rfl
@[simp] theorem zero_80 : zeroT Try.prog 80 = some ([.nilFunc]) := by kernel_rfl
@[simp] theorem str_80 : isStrT Try.prog 80 = false := by kernel_rfl
@[simp] theorem ty_81 : tyT Try.prog 81 = some (1, false) := by kernel_rfl
@[simp] theorem sl_81 : slT Try.prog 81 = none := by kernel_rfl
@[simp] theorem zero_81 : zeroT Try.prog 81 = some ([.pointer none]) := by kernel_rfl
@[simp] theorem str_81 : isStrT Try.prog 81 = false := by kernel_rfl
@[simp] theorem ptr_81 : isPtrT Try.prog 81 = true := by kernel_rfl
@[simp] theorem ty_84 : tyT Try.prog 84 = some (11, true) := by kernel_rfl
@[simp] theorem sl_84 : slT Try.prog 84 = none := by kernel_rfl
@[simp] theorem fld_84_0 : fldT Try.prog 84 0 = some (0, 1, false) := by kernel_rfl
@[simp] theorem fld_84_1 : fldT Try.prog 84 1 = some (1, 1, false) := by kernel_rfl
@[simp] theorem fld_84_2 : fldT Try.prog 84 2 = some (2, 1, false) := by kernel_rfl
@[simp] theorem fld_84_3 : fldT Try.prog 84 3 = some (3, 1, false) := by kernel_rfl
@[simp] theorem fld_84_4 : fldT Try.prog 84 4 = some (4, 1, false) := by kernel_rfl
@[simp] theorem fld_84_5 : fldT Try.prog 84 5 = some (5, 1, false) := by kernel_rfl
@[simp] theorem fld_84_6 : fldT Try.prog 84 6 = some (6, 1, false) := by kernel_rfl
@[simp] theorem fld_84_7 : fldT Try.prog 84 7 = some (7, 1, false) := by kernel_rfl
@[simp] theorem fld_84_8 : fldT Try.prog 84 8 = some (8, 1, false) := by kernel_rfl
@[simp] theorem fld_84_9 : fldT Try.prog 84 9 = some (9, 1, false) := by kernel_rfl
@[simp] theorem fld_84_10 : fldT Try.prog 84 10 = some (10, 1, false) := by kernel_rfl
@[simp] theorem pl_84 : plT Try.prog 84 = some fun i => [(0, 1), (1, 1), (2, 1), (3, 1), (4, 1), (5, 1), (6, 1), (7, 1), (8, 1), (9, 1), (10, 1)][i]? := by kernel_rfl
@[simp] theorem zero_84 : zeroT Try.prog 84 = some ([.int .u64 0, .int .u64 0, .int .u32 0, .int .u8 0, .int .u8 0, .int .u8 0, .int .u8 0, .nilFunc, .pointer none, .int .i32 0, .int .i32 0]) := by kernel_rfl
@[simp] theorem str_84 : isStrT Try.prog 84 = false := by kernel_rfl
@[simp] theorem ty_86 : tyT Try.prog 86 = some (1, false) := by kernel_rfl
@[simp] theorem sl_86 : slT Try.prog 86 = none := by kernel_rfl
@[simp] theorem str_86 : isStrT Try.prog 86 = false := by kernel_rfl
@[simp] theorem call_3 : callable Try.prog 3 = true := by kernel_rfl
@[simp] theorem call_4 : callable Try.prog 4 = true := by kernel_rfl
@[simp] theorem call_5 : callable Try.prog 5 = true := by kernel_rfl
@[simp] theorem call_6 : callable Try.prog 6 = true := by kernel_rfl
@[simp] theorem call_7 : callable Try.prog 7 = true := by kernel_rfl
@[simp] theorem call_8 : callable Try.prog 8 = true := by kernel_rfl
@[simp] theorem call_9 : callable Try.prog 9 = true := by kernel_rfl
@[simp] theorem call_10 : callable Try.prog 10 = true := by kernel_rfl
@[simp] theorem call_11 : callable Try.prog 11 = true := by kernel_rfl
@[simp] theorem call_12 : callable Try.prog 12 = true := by kernel_rfl
@[simp] theorem call_13 : callable Try.prog 13 = true := by kernel_rfl
@[simp] theorem call_14 : callable Try.prog 14 = true := by kernel_rfl
@[simp] theorem call_15 : callable Try.prog 15 = true := by kernel_rfl
@[simp] theorem call_16 : callable Try.prog 16 = true := by kernel_rfl
@[simp] theorem call_17 : callable Try.prog 17 = true := by kernel_rfl
@[simp] theorem call_18 : callable Try.prog 18 = true := by kernel_rfl
@[simp] theorem call_19 : callable Try.prog 19 = true := by kernel_rfl
@[simp] theorem call_20 : callable Try.prog 20 = true := by kernel_rfl
@[simp] theorem call_21 : callable Try.prog 21 = true := by kernel_rfl
@[simp] theorem call_22 : callable Try.prog 22 = true := by kernel_rfl
@[simp] theorem call_23 : callable Try.prog 23 = true := by kernel_rfl
@[simp] theorem call_24 : callable Try.prog 24 = true := by kernel_rfl
@[simp] theorem call_25 : callable Try.prog 25 = true := by kernel_rfl
@[simp] theorem call_26 : callable Try.prog 26 = true := by kernel_rfl
@[simp] theorem call_27 : callable Try.prog 27 = true := by kernel_rfl
@[simp] theorem call_28 : callable Try.prog 28 = true := by kernel_rfl
@[simp] theorem call_29 : callable Try.prog 29 = true := by kernel_rfl
@[simp] theorem call_30 : callable Try.prog 30 = true := by kernel_rfl
theorem mixed : Try.prog.follows .mixedOrders = true := by kernel_rfl
end Go.Proofs.Ytjkllofkdhjlaaa
