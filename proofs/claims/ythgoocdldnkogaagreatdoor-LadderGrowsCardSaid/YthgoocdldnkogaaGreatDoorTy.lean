import Derived.Test.YthgoocdldnkogaaGreatDoorRows
import Derived.Test.YthgoocdldnkogaaGreatDoorG4
namespace Go.Proofs.YthgoocdldnkogaaGreatDoor
open Go.RowKit

@[simp] theorem ty_2 : tyT Tryz.prog 2 = some (1, false) := by kernel_rfl
@[simp] theorem sl_2 : slT Tryz.prog 2 = none := by kernel_rfl
@[simp] theorem zero_2 : zeroT Tryz.prog 2 = some ([.int .i64 0]) := by kernel_rfl
@[simp] theorem int_2 : intT Tryz.prog 2 = some .i64 := by kernel_rfl
@[simp] theorem str_2 : isStrT Tryz.prog 2 = false := by kernel_rfl
@[simp] theorem isint_2 : isIntT Tryz.prog 2 = true := by kernel_rfl
@[simp] theorem ty_3 : tyT Tryz.prog 3 = some (1, false) := by kernel_rfl
@[simp] theorem sl_3 : slT Tryz.prog 3 = none := by kernel_rfl
@[simp] theorem zero_3 : zeroT Tryz.prog 3 = some ([.int .i64 0]) := by kernel_rfl
@[simp] theorem int_3 : intT Tryz.prog 3 = some .i64 := by kernel_rfl
@[simp] theorem str_3 : isStrT Tryz.prog 3 = false := by kernel_rfl
@[simp] theorem isint_3 : isIntT Tryz.prog 3 = true := by kernel_rfl
@[simp] theorem ty_4 : tyT Tryz.prog 4 = some (1, false) := by kernel_rfl
@[simp] theorem sl_4 : slT Tryz.prog 4 = none := by kernel_rfl
@[simp] theorem zero_4 : zeroT Tryz.prog 4 = some ([.bool false]) := by kernel_rfl
@[simp] theorem str_4 : isStrT Tryz.prog 4 = false := by kernel_rfl
@[simp] theorem isint_4 : isIntT Tryz.prog 4 = false := by kernel_rfl
@[simp] theorem bool_4 : isBoolT Tryz.prog 4 = true := by kernel_rfl
@[simp] theorem ty_5 : tyT Tryz.prog 5 = some (1, false) := by kernel_rfl
@[simp] theorem sl_5 : slT Tryz.prog 5 = none := by kernel_rfl
@[simp] theorem zero_5 : zeroT Tryz.prog 5 = some ([.int .u8 0]) := by kernel_rfl
@[simp] theorem int_5 : intT Tryz.prog 5 = some .u8 := by kernel_rfl
@[simp] theorem str_5 : isStrT Tryz.prog 5 = false := by kernel_rfl
@[simp] theorem isint_5 : isIntT Tryz.prog 5 = true := by kernel_rfl
@[simp] theorem ty_9 : tyT Tryz.prog 9 = some (1, false) := by kernel_rfl
@[simp] theorem sl_9 : slT Tryz.prog 9 = none := by kernel_rfl
@[simp] theorem zero_9 : zeroT Tryz.prog 9 = some ([.string ByteArray.empty]) := by kernel_rfl
@[simp] theorem str_9 : isStrT Tryz.prog 9 = true := by kernel_rfl
@[simp] theorem isint_9 : isIntT Tryz.prog 9 = false := by kernel_rfl
@[simp] theorem ty_12 : tyT Tryz.prog 12 = some (1, false) := by kernel_rfl
@[simp] theorem sl_12 : slT Tryz.prog 12 = none := by kernel_rfl
@[simp] theorem zero_12 : zeroT Tryz.prog 12 = some ([.int .u64 0]) := by kernel_rfl
@[simp] theorem int_12 : intT Tryz.prog 12 = some .u64 := by kernel_rfl
@[simp] theorem str_12 : isStrT Tryz.prog 12 = false := by kernel_rfl
@[simp] theorem isint_12 : isIntT Tryz.prog 12 = true := by kernel_rfl
@[simp] theorem ty_21 : tyT Tryz.prog 21 = some (1, false) := by kernel_rfl
@[simp] theorem sl_21 : slT Tryz.prog 21 = none := by kernel_rfl
@[simp] theorem zero_21 : zeroT Tryz.prog 21 = some ([.int .i32 0]) := by kernel_rfl
@[simp] theorem int_21 : intT Tryz.prog 21 = some .i32 := by kernel_rfl
@[simp] theorem str_21 : isStrT Tryz.prog 21 = false := by kernel_rfl
@[simp] theorem isint_21 : isIntT Tryz.prog 21 = true := by kernel_rfl
@[simp] theorem ty_22 : tyT Tryz.prog 22 = some (1, false) := by kernel_rfl
@[simp] theorem sl_22 : slT Tryz.prog 22 = some (28, 4, 72) := by kernel_rfl
@[simp] theorem zero_22 : zeroT Tryz.prog 22 = some ([.slice none 0 0]) := by kernel_rfl
@[simp] theorem str_22 : isStrT Tryz.prog 22 = false := by kernel_rfl
@[simp] theorem isint_22 : isIntT Tryz.prog 22 = false := by kernel_rfl
@[simp] theorem ty_24 : tyT Tryz.prog 24 = some (3, true) := by kernel_rfl
@[simp] theorem sl_24 : slT Tryz.prog 24 = none := by kernel_rfl
@[simp] theorem fld_24_0 : fldT Tryz.prog 24 0 = some (0, 1, false) := by kernel_rfl
@[simp] theorem fld_24_1 : fldT Tryz.prog 24 1 = some (1, 1, false) := by kernel_rfl
@[simp] theorem fld_24_2 : fldT Tryz.prog 24 2 = some (2, 1, false) := by kernel_rfl
@[simp] theorem pl_24 : plT Tryz.prog 24 = some fun i => [(0, 1), (1, 1), (2, 1)][i]? := by kernel_rfl
@[simp] theorem zero_24 : zeroT Tryz.prog 24 = some ([.int .i64 0, .int .i64 0, .slice none 0 0]) := by kernel_rfl
@[simp] theorem str_24 : isStrT Tryz.prog 24 = false := by kernel_rfl
@[simp] theorem isint_24 : isIntT Tryz.prog 24 = false := by kernel_rfl
@[simp] theorem ty_25 : tyT Tryz.prog 25 = some (1, false) := by kernel_rfl
@[simp] theorem sl_25 : slT Tryz.prog 25 = some (44, 10, 96) := by kernel_rfl
@[simp] theorem zero_25 : zeroT Tryz.prog 25 = some ([.slice none 0 0]) := by kernel_rfl
@[simp] theorem str_25 : isStrT Tryz.prog 25 = false := by kernel_rfl
@[simp] theorem isint_25 : isIntT Tryz.prog 25 = false := by kernel_rfl
@[simp] theorem ty_26 : tyT Tryz.prog 26 = some (1, false) := by kernel_rfl
@[simp] theorem sl_26 : slT Tryz.prog 26 = some (49, 5, 64) := by kernel_rfl
@[simp] theorem zero_26 : zeroT Tryz.prog 26 = some ([.slice none 0 0]) := by kernel_rfl
@[simp] theorem str_26 : isStrT Tryz.prog 26 = false := by kernel_rfl
@[simp] theorem isint_26 : isIntT Tryz.prog 26 = false := by kernel_rfl
@[simp] theorem ty_28 : tyT Tryz.prog 28 = some (4, true) := by kernel_rfl
@[simp] theorem sl_28 : slT Tryz.prog 28 = none := by kernel_rfl
@[simp] theorem fld_28_0 : fldT Tryz.prog 28 0 = some (0, 1, false) := by kernel_rfl
@[simp] theorem fld_28_1 : fldT Tryz.prog 28 1 = some (1, 1, false) := by kernel_rfl
@[simp] theorem fld_28_2 : fldT Tryz.prog 28 2 = some (2, 1, false) := by kernel_rfl
@[simp] theorem fld_28_3 : fldT Tryz.prog 28 3 = some (3, 1, false) := by kernel_rfl
@[simp] theorem pl_28 : plT Tryz.prog 28 = some fun i => [(0, 1), (1, 1), (2, 1), (3, 1)][i]? := by kernel_rfl
@[simp] theorem zero_28 : zeroT Tryz.prog 28 = some ([.int .i64 0, .string ByteArray.empty, .slice none 0 0, .slice none 0 0]) := by kernel_rfl
@[simp] theorem str_28 : isStrT Tryz.prog 28 = false := by kernel_rfl
@[simp] theorem isint_28 : isIntT Tryz.prog 28 = false := by kernel_rfl
@[simp] theorem ty_31 : tyT Tryz.prog 31 = some (1, false) := by kernel_rfl
@[simp] theorem sl_31 : slT Tryz.prog 31 = none := by kernel_rfl
@[simp] theorem zero_31 : zeroT Tryz.prog 31 = some ([.int .i64 0]) := by kernel_rfl
@[simp] theorem int_31 : intT Tryz.prog 31 = some .i64 := by kernel_rfl
@[simp] theorem str_31 : isStrT Tryz.prog 31 = false := by kernel_rfl
@[simp] theorem isint_31 : isIntT Tryz.prog 31 = true := by kernel_rfl
@[simp] theorem ty_37 : tyT Tryz.prog 37 = some (1, false) := by kernel_rfl
@[simp] theorem sl_37 : slT Tryz.prog 37 = none := by kernel_rfl
@[simp] theorem zero_37 : zeroT Tryz.prog 37 = some ([.int .i64 0]) := by kernel_rfl
@[simp] theorem int_37 : intT Tryz.prog 37 = some .i64 := by kernel_rfl
@[simp] theorem str_37 : isStrT Tryz.prog 37 = false := by kernel_rfl
@[simp] theorem isint_37 : isIntT Tryz.prog 37 = true := by kernel_rfl
@[simp] theorem ty_39 : tyT Tryz.prog 39 = some (2, true) := by kernel_rfl
@[simp] theorem sl_39 : slT Tryz.prog 39 = none := by kernel_rfl
@[simp] theorem fld_39_0 : fldT Tryz.prog 39 0 = some (0, 1, false) := by kernel_rfl
@[simp] theorem fld_39_1 : fldT Tryz.prog 39 1 = some (1, 1, false) := by kernel_rfl
@[simp] theorem pl_39 : plT Tryz.prog 39 = some fun i => [(0, 1), (1, 1)][i]? := by kernel_rfl
@[simp] theorem flat_39 : flatT Tryz.prog 39 = some [.i, .i] := by kernel_rfl
@[simp] theorem zero_39 : zeroT Tryz.prog 39 = some ([.int .i64 0, .int .i64 0]) := by kernel_rfl
@[simp] theorem str_39 : isStrT Tryz.prog 39 = false := by kernel_rfl
@[simp] theorem isint_39 : isIntT Tryz.prog 39 = false := by kernel_rfl
@[simp] theorem ty_41 : tyT Tryz.prog 41 = some (4, true) := by kernel_rfl
@[simp] theorem sl_41 : slT Tryz.prog 41 = none := by kernel_rfl
@[simp] theorem fld_41_0 : fldT Tryz.prog 41 0 = some (0, 1, false) := by kernel_rfl
@[simp] theorem fld_41_1 : fldT Tryz.prog 41 1 = some (1, 1, false) := by kernel_rfl
@[simp] theorem fld_41_2 : fldT Tryz.prog 41 2 = some (2, 1, false) := by kernel_rfl
@[simp] theorem fld_41_3 : fldT Tryz.prog 41 3 = some (3, 1, false) := by kernel_rfl
@[simp] theorem pl_41 : plT Tryz.prog 41 = some fun i => [(0, 1), (1, 1), (2, 1), (3, 1)][i]? := by kernel_rfl
@[simp] theorem flat_41 : flatT Tryz.prog 41 = some [.i, .i, .i, .s] := by kernel_rfl
@[simp] theorem zero_41 : zeroT Tryz.prog 41 = some ([.int .i64 0, .int .i64 0, .int .i64 0, .string ByteArray.empty]) := by kernel_rfl
@[simp] theorem str_41 : isStrT Tryz.prog 41 = false := by kernel_rfl
@[simp] theorem isint_41 : isIntT Tryz.prog 41 = false := by kernel_rfl
@[simp] theorem ty_42 : tyT Tryz.prog 42 = some (1, false) := by kernel_rfl
@[simp] theorem sl_42 : slT Tryz.prog 42 = none := by kernel_rfl
@[simp] theorem zero_42 : zeroT Tryz.prog 42 = some ([.int .i64 0]) := by kernel_rfl
@[simp] theorem int_42 : intT Tryz.prog 42 = some .i64 := by kernel_rfl
@[simp] theorem str_42 : isStrT Tryz.prog 42 = false := by kernel_rfl
@[simp] theorem isint_42 : isIntT Tryz.prog 42 = true := by kernel_rfl
@[simp] theorem ty_44 : tyT Tryz.prog 44 = some (10, true) := by kernel_rfl
@[simp] theorem sl_44 : slT Tryz.prog 44 = none := by kernel_rfl
@[simp] theorem fld_44_0 : fldT Tryz.prog 44 0 = some (0, 1, false) := by kernel_rfl
@[simp] theorem fld_44_1 : fldT Tryz.prog 44 1 = some (1, 1, false) := by kernel_rfl
@[simp] theorem fld_44_2 : fldT Tryz.prog 44 2 = some (2, 2, true) := by kernel_rfl
@[simp] theorem fld_44_3 : fldT Tryz.prog 44 3 = some (4, 1, false) := by kernel_rfl
@[simp] theorem fld_44_4 : fldT Tryz.prog 44 4 = some (5, 4, true) := by kernel_rfl
@[simp] theorem fld_44_5 : fldT Tryz.prog 44 5 = some (9, 1, false) := by kernel_rfl
@[simp] theorem pl_44 : plT Tryz.prog 44 = some fun i => [(0, 1), (1, 1), (2, 2), (4, 1), (5, 4), (9, 1)][i]? := by kernel_rfl
@[simp] theorem flat_44 : flatT Tryz.prog 44 = some [.i, .s, .i, .i, .b, .i, .i, .i, .s, .i] := by kernel_rfl
@[simp] theorem zero_44 : zeroT Tryz.prog 44 = some ([.int .i64 0, .string ByteArray.empty, .int .i64 0, .int .i64 0, .bool false, .int .i64 0, .int .i64 0, .int .i64 0, .string ByteArray.empty, .int .i64 0]) := by kernel_rfl
@[simp] theorem str_44 : isStrT Tryz.prog 44 = false := by kernel_rfl
@[simp] theorem isint_44 : isIntT Tryz.prog 44 = false := by kernel_rfl
@[simp] theorem ty_47 : tyT Tryz.prog 47 = some (1, false) := by kernel_rfl
@[simp] theorem sl_47 : slT Tryz.prog 47 = some (3, 1, 8) := by kernel_rfl
@[simp] theorem zero_47 : zeroT Tryz.prog 47 = some ([.slice none 0 0]) := by kernel_rfl
@[simp] theorem str_47 : isStrT Tryz.prog 47 = false := by kernel_rfl
@[simp] theorem isint_47 : isIntT Tryz.prog 47 = false := by kernel_rfl
@[simp] theorem ty_49 : tyT Tryz.prog 49 = some (5, true) := by kernel_rfl
@[simp] theorem sl_49 : slT Tryz.prog 49 = none := by kernel_rfl
@[simp] theorem fld_49_0 : fldT Tryz.prog 49 0 = some (0, 1, false) := by kernel_rfl
@[simp] theorem fld_49_1 : fldT Tryz.prog 49 1 = some (1, 1, false) := by kernel_rfl
@[simp] theorem fld_49_2 : fldT Tryz.prog 49 2 = some (2, 1, false) := by kernel_rfl
@[simp] theorem fld_49_3 : fldT Tryz.prog 49 3 = some (3, 1, false) := by kernel_rfl
@[simp] theorem fld_49_4 : fldT Tryz.prog 49 4 = some (4, 1, false) := by kernel_rfl
@[simp] theorem pl_49 : plT Tryz.prog 49 = some fun i => [(0, 1), (1, 1), (2, 1), (3, 1), (4, 1)][i]? := by kernel_rfl
@[simp] theorem zero_49 : zeroT Tryz.prog 49 = some ([.int .i64 0, .string ByteArray.empty, .slice none 0 0, .bool false, .int .i64 0]) := by kernel_rfl
@[simp] theorem str_49 : isStrT Tryz.prog 49 = false := by kernel_rfl
@[simp] theorem isint_49 : isIntT Tryz.prog 49 = false := by kernel_rfl
@[simp] theorem ty_53 : tyT Tryz.prog 53 = some (1, false) := by kernel_rfl
@[simp] theorem sl_53 : slT Tryz.prog 53 = some (55, 4, 32) := by kernel_rfl
@[simp] theorem zero_53 : zeroT Tryz.prog 53 = some ([.slice none 0 0]) := by kernel_rfl
@[simp] theorem str_53 : isStrT Tryz.prog 53 = false := by kernel_rfl
@[simp] theorem isint_53 : isIntT Tryz.prog 53 = false := by kernel_rfl
@[simp] theorem ty_55 : tyT Tryz.prog 55 = some (4, true) := by kernel_rfl
@[simp] theorem sl_55 : slT Tryz.prog 55 = none := by kernel_rfl
@[simp] theorem fld_55_0 : fldT Tryz.prog 55 0 = some (0, 1, false) := by kernel_rfl
@[simp] theorem fld_55_1 : fldT Tryz.prog 55 1 = some (1, 1, false) := by kernel_rfl
@[simp] theorem fld_55_2 : fldT Tryz.prog 55 2 = some (2, 1, false) := by kernel_rfl
@[simp] theorem fld_55_3 : fldT Tryz.prog 55 3 = some (3, 1, false) := by kernel_rfl
@[simp] theorem pl_55 : plT Tryz.prog 55 = some fun i => [(0, 1), (1, 1), (2, 1), (3, 1)][i]? := by kernel_rfl
@[simp] theorem flat_55 : flatT Tryz.prog 55 = some [.i, .b, .i, .i] := by kernel_rfl
@[simp] theorem zero_55 : zeroT Tryz.prog 55 = some ([.int .i64 0, .bool false, .int .i64 0, .int .i64 0]) := by kernel_rfl
@[simp] theorem str_55 : isStrT Tryz.prog 55 = false := by kernel_rfl
@[simp] theorem isint_55 : isIntT Tryz.prog 55 = false := by kernel_rfl
@[simp] theorem ty_76 : tyT Tryz.prog 76 = some (1, false) := by kernel_rfl
@[simp] theorem sl_76 : slT Tryz.prog 76 = none := by kernel_rfl
@[simp] theorem zero_76 : zeroT Tryz.prog 76 = some ([.pointer none]) := by kernel_rfl
@[simp] theorem str_76 : isStrT Tryz.prog 76 = false := by kernel_rfl
@[simp] theorem isint_76 : isIntT Tryz.prog 76 = false := by kernel_rfl
@[simp] theorem ptr_76 : isPtrT Tryz.prog 76 = true := by kernel_rfl
@[simp] theorem ty_82 : tyT Tryz.prog 82 = some (1, false) := by kernel_rfl
@[simp] theorem sl_82 : slT Tryz.prog 82 = none := by kernel_rfl
@[simp] theorem map_82 : mapT Tryz.prog 82 = some (55, 4) := by kernel_rfl
@[simp] theorem zero1_4 : zero1 Tryz.prog 4 = some (.bool false) := by kernel_rfl
@[simp] theorem zero_82 : zeroT Tryz.prog 82 = some ([.map none]) := by kernel_rfl
@[simp] theorem str_82 : isStrT Tryz.prog 82 = false := by kernel_rfl
@[simp] theorem isint_82 : isIntT Tryz.prog 82 = false := by kernel_rfl
@[simp] theorem ty_95 : tyT Tryz.prog 95 = some (1, false) := by kernel_rfl
@[simp] theorem sl_95 : slT Tryz.prog 95 = none := by kernel_rfl
@[simp] theorem zero_95 : zeroT Tryz.prog 95 = some ([.nilFunc]) := by kernel_rfl
@[simp] theorem str_95 : isStrT Tryz.prog 95 = false := by kernel_rfl
@[simp] theorem isint_95 : isIntT Tryz.prog 95 = false := by kernel_rfl
@[simp] theorem ty_108 : tyT Tryz.prog 108 = some (1, false) := by kernel_rfl
@[simp] theorem sl_108 : slT Tryz.prog 108 = none := by kernel_rfl
@[simp] theorem zero_108 : zeroT Tryz.prog 108 = some ([.nilFunc]) := by kernel_rfl
@[simp] theorem str_108 : isStrT Tryz.prog 108 = false := by kernel_rfl
@[simp] theorem isint_108 : isIntT Tryz.prog 108 = false := by kernel_rfl
@[simp] theorem ty_110 : tyT Tryz.prog 110 = some (1, false) := by kernel_rfl
@[simp] theorem sl_110 : slT Tryz.prog 110 = none := by kernel_rfl
@[simp] theorem zero_110 : zeroT Tryz.prog 110 = some ([.nilFunc]) := by kernel_rfl
@[simp] theorem str_110 : isStrT Tryz.prog 110 = false := by kernel_rfl
@[simp] theorem isint_110 : isIntT Tryz.prog 110 = false := by kernel_rfl
@[simp] theorem ty_112 : tyT Tryz.prog 112 = some (1, false) := by kernel_rfl
@[simp] theorem sl_112 : slT Tryz.prog 112 = none := by kernel_rfl
@[simp] theorem zero_112 : zeroT Tryz.prog 112 = some ([.nilFunc]) := by kernel_rfl
@[simp] theorem str_112 : isStrT Tryz.prog 112 = false := by kernel_rfl
@[simp] theorem isint_112 : isIntT Tryz.prog 112 = false := by kernel_rfl
@[simp] theorem ty_115 : tyT Tryz.prog 115 = some (1, false) := by kernel_rfl
@[simp] theorem sl_115 : slT Tryz.prog 115 = none := by kernel_rfl
@[simp] theorem zero_115 : zeroT Tryz.prog 115 = some ([.nilFunc]) := by kernel_rfl
@[simp] theorem str_115 : isStrT Tryz.prog 115 = false := by kernel_rfl
@[simp] theorem isint_115 : isIntT Tryz.prog 115 = false := by kernel_rfl
@[simp] theorem ty_144 : tyT Tryz.prog 144 = some (1, false) := by kernel_rfl
@[simp] theorem sl_144 : slT Tryz.prog 144 = none := by kernel_rfl
@[simp] theorem zero_144 : zeroT Tryz.prog 144 = some ([.nilFunc]) := by kernel_rfl
@[simp] theorem str_144 : isStrT Tryz.prog 144 = false := by kernel_rfl
@[simp] theorem isint_144 : isIntT Tryz.prog 144 = false := by kernel_rfl
@[simp] theorem ty_147 : tyT Tryz.prog 147 = some (1, false) := by kernel_rfl
@[simp] theorem sl_147 : slT Tryz.prog 147 = none := by kernel_rfl
@[simp] theorem zero_147 : zeroT Tryz.prog 147 = some ([.nilFunc]) := by kernel_rfl
@[simp] theorem str_147 : isStrT Tryz.prog 147 = false := by kernel_rfl
@[simp] theorem isint_147 : isIntT Tryz.prog 147 = false := by kernel_rfl
@[simp] theorem ty_160 : tyT Tryz.prog 160 = some (1, false) := by kernel_rfl
@[simp] theorem sl_160 : slT Tryz.prog 160 = none := by kernel_rfl
@[simp] theorem map_160 : mapT Tryz.prog 160 = some (9, 4) := by kernel_rfl
@[simp] theorem zero_160 : zeroT Tryz.prog 160 = some ([.map none]) := by kernel_rfl
@[simp] theorem str_160 : isStrT Tryz.prog 160 = false := by kernel_rfl
@[simp] theorem isint_160 : isIntT Tryz.prog 160 = false := by kernel_rfl
@[simp] theorem ty_163 : tyT Tryz.prog 163 = some (1, false) := by kernel_rfl
@[simp] theorem sl_163 : slT Tryz.prog 163 = none := by kernel_rfl
@[simp] theorem zero_163 : zeroT Tryz.prog 163 = some ([.nilFunc]) := by kernel_rfl
@[simp] theorem str_163 : isStrT Tryz.prog 163 = false := by kernel_rfl
@[simp] theorem isint_163 : isIntT Tryz.prog 163 = false := by kernel_rfl
@[simp] theorem ty_165 : tyT Tryz.prog 165 = some (1, false) := by kernel_rfl
@[simp] theorem sl_165 : slT Tryz.prog 165 = none := by kernel_rfl
@[simp] theorem zero_165 : zeroT Tryz.prog 165 = some ([.nilFunc]) := by kernel_rfl
@[simp] theorem str_165 : isStrT Tryz.prog 165 = false := by kernel_rfl
@[simp] theorem isint_165 : isIntT Tryz.prog 165 = false := by kernel_rfl
@[simp] theorem ty_167 : tyT Tryz.prog 167 = some (1, false) := by kernel_rfl
@[simp] theorem sl_167 : slT Tryz.prog 167 = none := by kernel_rfl
@[simp] theorem zero_167 : zeroT Tryz.prog 167 = some ([.nilFunc]) := by kernel_rfl
@[simp] theorem str_167 : isStrT Tryz.prog 167 = false := by kernel_rfl
@[simp] theorem isint_167 : isIntT Tryz.prog 167 = false := by kernel_rfl
@[simp] theorem ty_169 : tyT Tryz.prog 169 = some (1, false) := by kernel_rfl
@[simp] theorem sl_169 : slT Tryz.prog 169 = none := by kernel_rfl
@[simp] theorem zero_169 : zeroT Tryz.prog 169 = some ([.nilFunc]) := by kernel_rfl
@[simp] theorem str_169 : isStrT Tryz.prog 169 = false := by kernel_rfl
@[simp] theorem isint_169 : isIntT Tryz.prog 169 = false := by kernel_rfl
@[simp] theorem ty_173 : tyT Tryz.prog 173 = some (1, false) := by kernel_rfl
@[simp] theorem sl_173 : slT Tryz.prog 173 = none := by kernel_rfl
@[simp] theorem zero_173 : zeroT Tryz.prog 173 = some ([.int .u64 0]) := by kernel_rfl
@[simp] theorem int_173 : intT Tryz.prog 173 = some .u64 := by kernel_rfl
@[simp] theorem str_173 : isStrT Tryz.prog 173 = false := by kernel_rfl
@[simp] theorem isint_173 : isIntT Tryz.prog 173 = true := by kernel_rfl
@[simp] theorem ty_216 : tyT Tryz.prog 216 = some (256, true) := by kernel_rfl
@[simp] theorem sl_216 : slT Tryz.prog 216 = none := by kernel_rfl
@[simp] theorem arx_216 : arX Tryz.prog 216 = some (256, 1, false) := by kernel_rfl
@[simp] theorem ar_216 : arT Tryz.prog 216 = some (256, 1) := by kernel_rfl
@[simp] theorem pl_216 : plT Tryz.prog 216 = some fun i => some (i * 1, 1) := by kernel_rfl
@[simp] theorem zero_216 : zeroT Tryz.prog 216 = some (List.replicate 256 (.int .u8 0)) := by kernel_rfl
@[simp] theorem str_216 : isStrT Tryz.prog 216 = false := by kernel_rfl
@[simp] theorem isint_216 : isIntT Tryz.prog 216 = false := by kernel_rfl
@[simp] theorem ty_218 : tyT Tryz.prog 218 = some (2, true) := by kernel_rfl
@[simp] theorem sl_218 : slT Tryz.prog 218 = none := by kernel_rfl
@[simp] theorem fld_218_0 : fldT Tryz.prog 218 0 = some (0, 1, false) := by kernel_rfl
@[simp] theorem fld_218_1 : fldT Tryz.prog 218 1 = some (1, 1, false) := by kernel_rfl
@[simp] theorem pl_218 : plT Tryz.prog 218 = some fun i => [(0, 1), (1, 1)][i]? := by kernel_rfl
@[simp] theorem zero_218 : zeroT Tryz.prog 218 = some ([.int .u8 0, .int .u8 0]) := by kernel_rfl
@[simp] theorem str_218 : isStrT Tryz.prog 218 = false := by kernel_rfl
@[simp] theorem isint_218 : isIntT Tryz.prog 218 = false := by kernel_rfl
@[simp] theorem ty_219 : tyT Tryz.prog 219 = some (32, true) := by kernel_rfl
@[simp] theorem sl_219 : slT Tryz.prog 219 = none := by kernel_rfl
@[simp] theorem arx_219 : arX Tryz.prog 219 = some (16, 2, true) := by kernel_rfl
@[simp] theorem ar_219 : arT Tryz.prog 219 = some (16, 2) := by kernel_rfl
@[simp] theorem pl_219 : plT Tryz.prog 219 = some fun i => some (i * 2, 2) := by kernel_rfl
@[simp] theorem zero_219 : zeroT Tryz.prog 219 = some (List.replicate 32 (.int .u8 0)) := by kernel_rfl
@[simp] theorem str_219 : isStrT Tryz.prog 219 = false := by kernel_rfl
@[simp] theorem isint_219 : isIntT Tryz.prog 219 = false := by kernel_rfl
@[simp] theorem call_3 : callable Tryz.prog 3 = true := by kernel_rfl
@[simp] theorem ovl_3 : ovlT Tryz.prog 3 = false := by kernel_rfl
@[simp] theorem call_4 : callable Tryz.prog 4 = true := by kernel_rfl
@[simp] theorem ovl_4 : ovlT Tryz.prog 4 = false := by kernel_rfl
@[simp] theorem call_5 : callable Tryz.prog 5 = true := by kernel_rfl
@[simp] theorem ovl_5 : ovlT Tryz.prog 5 = false := by kernel_rfl
@[simp] theorem call_9 : callable Tryz.prog 9 = true := by kernel_rfl
@[simp] theorem ovl_9 : ovlT Tryz.prog 9 = false := by kernel_rfl
@[simp] theorem call_10 : callable Tryz.prog 10 = true := by kernel_rfl
@[simp] theorem ovl_10 : ovlT Tryz.prog 10 = false := by kernel_rfl
@[simp] theorem call_11 : callable Tryz.prog 11 = true := by kernel_rfl
@[simp] theorem ovl_11 : ovlT Tryz.prog 11 = false := by kernel_rfl
@[simp] theorem call_12 : callable Tryz.prog 12 = true := by kernel_rfl
@[simp] theorem ovl_12 : ovlT Tryz.prog 12 = false := by kernel_rfl
@[simp] theorem call_13 : callable Tryz.prog 13 = true := by kernel_rfl
@[simp] theorem ovl_13 : ovlT Tryz.prog 13 = false := by kernel_rfl
@[simp] theorem call_14 : callable Tryz.prog 14 = true := by kernel_rfl
@[simp] theorem ovl_14 : ovlT Tryz.prog 14 = false := by kernel_rfl
@[simp] theorem call_15 : callable Tryz.prog 15 = true := by kernel_rfl
@[simp] theorem ovl_15 : ovlT Tryz.prog 15 = false := by kernel_rfl
@[simp] theorem call_16 : callable Tryz.prog 16 = true := by kernel_rfl
@[simp] theorem ovl_16 : ovlT Tryz.prog 16 = false := by kernel_rfl
@[simp] theorem call_17 : callable Tryz.prog 17 = true := by kernel_rfl
@[simp] theorem ovl_17 : ovlT Tryz.prog 17 = false := by kernel_rfl
@[simp] theorem call_18 : callable Tryz.prog 18 = true := by kernel_rfl
@[simp] theorem ovl_18 : ovlT Tryz.prog 18 = false := by kernel_rfl
@[simp] theorem call_19 : callable Tryz.prog 19 = true := by kernel_rfl
@[simp] theorem ovl_19 : ovlT Tryz.prog 19 = false := by kernel_rfl
@[simp] theorem call_20 : callable Tryz.prog 20 = true := by kernel_rfl
@[simp] theorem ovl_20 : ovlT Tryz.prog 20 = false := by kernel_rfl
@[simp] theorem call_21 : callable Tryz.prog 21 = true := by kernel_rfl
@[simp] theorem ovl_21 : ovlT Tryz.prog 21 = false := by kernel_rfl
@[simp] theorem call_23 : callable Tryz.prog 23 = true := by kernel_rfl
@[simp] theorem ovl_23 : ovlT Tryz.prog 23 = false := by kernel_rfl
@[simp] theorem call_24 : callable Tryz.prog 24 = true := by kernel_rfl
@[simp] theorem ovl_24 : ovlT Tryz.prog 24 = false := by kernel_rfl
@[simp] theorem call_25 : callable Tryz.prog 25 = true := by kernel_rfl
@[simp] theorem ovl_25 : ovlT Tryz.prog 25 = false := by kernel_rfl
@[simp] theorem call_28 : callable Tryz.prog 28 = true := by kernel_rfl
@[simp] theorem ovl_28 : ovlT Tryz.prog 28 = false := by kernel_rfl
@[simp] theorem call_32 : callable Tryz.prog 32 = true := by kernel_rfl
@[simp] theorem ovl_32 : ovlT Tryz.prog 32 = false := by kernel_rfl
@[simp] theorem call_33 : callable Tryz.prog 33 = true := by kernel_rfl
@[simp] theorem ovl_33 : ovlT Tryz.prog 33 = false := by kernel_rfl
@[simp] theorem call_34 : callable Tryz.prog 34 = true := by kernel_rfl
@[simp] theorem ovl_34 : ovlT Tryz.prog 34 = false := by kernel_rfl
@[simp] theorem call_35 : callable Tryz.prog 35 = true := by kernel_rfl
@[simp] theorem ovl_35 : ovlT Tryz.prog 35 = false := by kernel_rfl
@[simp] theorem call_36 : callable Tryz.prog 36 = true := by kernel_rfl
@[simp] theorem ovl_36 : ovlT Tryz.prog 36 = false := by kernel_rfl
@[simp] theorem call_37 : callable Tryz.prog 37 = true := by kernel_rfl
@[simp] theorem ovl_37 : ovlT Tryz.prog 37 = false := by kernel_rfl
@[simp] theorem call_38 : callable Tryz.prog 38 = true := by kernel_rfl
@[simp] theorem ovl_38 : ovlT Tryz.prog 38 = false := by kernel_rfl
@[simp] theorem call_39 : callable Tryz.prog 39 = true := by kernel_rfl
@[simp] theorem ovl_39 : ovlT Tryz.prog 39 = false := by kernel_rfl
@[simp] theorem call_40 : callable Tryz.prog 40 = true := by kernel_rfl
@[simp] theorem ovl_40 : ovlT Tryz.prog 40 = false := by kernel_rfl
@[simp] theorem call_41 : callable Tryz.prog 41 = true := by kernel_rfl
@[simp] theorem ovl_41 : ovlT Tryz.prog 41 = false := by kernel_rfl
@[simp] theorem call_42 : callable Tryz.prog 42 = true := by kernel_rfl
@[simp] theorem ovl_42 : ovlT Tryz.prog 42 = false := by kernel_rfl
@[simp] theorem call_43 : callable Tryz.prog 43 = true := by kernel_rfl
@[simp] theorem ovl_43 : ovlT Tryz.prog 43 = false := by kernel_rfl
@[simp] theorem call_44 : callable Tryz.prog 44 = true := by kernel_rfl
@[simp] theorem ovl_44 : ovlT Tryz.prog 44 = false := by kernel_rfl
@[simp] theorem call_45 : callable Tryz.prog 45 = true := by kernel_rfl
@[simp] theorem ovl_45 : ovlT Tryz.prog 45 = false := by kernel_rfl
@[simp] theorem call_46 : callable Tryz.prog 46 = true := by kernel_rfl
@[simp] theorem ovl_46 : ovlT Tryz.prog 46 = false := by kernel_rfl
@[simp] theorem call_47 : callable Tryz.prog 47 = true := by kernel_rfl
@[simp] theorem ovl_47 : ovlT Tryz.prog 47 = false := by kernel_rfl
@[simp] theorem call_48 : callable Tryz.prog 48 = true := by kernel_rfl
@[simp] theorem ovl_48 : ovlT Tryz.prog 48 = false := by kernel_rfl
@[simp] theorem call_49 : callable Tryz.prog 49 = true := by kernel_rfl
@[simp] theorem ovl_49 : ovlT Tryz.prog 49 = false := by kernel_rfl
@[simp] theorem call_50 : callable Tryz.prog 50 = true := by kernel_rfl
@[simp] theorem ovl_50 : ovlT Tryz.prog 50 = false := by kernel_rfl
@[simp] theorem call_51 : callable Tryz.prog 51 = true := by kernel_rfl
@[simp] theorem ovl_51 : ovlT Tryz.prog 51 = false := by kernel_rfl
@[simp] theorem call_55 : callable Tryz.prog 55 = true := by kernel_rfl
@[simp] theorem ovl_55 : ovlT Tryz.prog 55 = false := by kernel_rfl
@[simp] theorem call_56 : callable Tryz.prog 56 = true := by kernel_rfl
@[simp] theorem ovl_56 : ovlT Tryz.prog 56 = false := by kernel_rfl
@[simp] theorem call_57 : callable Tryz.prog 57 = true := by kernel_rfl
@[simp] theorem ovl_57 : ovlT Tryz.prog 57 = false := by kernel_rfl
@[simp] theorem call_58 : callable Tryz.prog 58 = true := by kernel_rfl
@[simp] theorem ovl_58 : ovlT Tryz.prog 58 = false := by kernel_rfl
@[simp] theorem call_59 : callable Tryz.prog 59 = true := by kernel_rfl
@[simp] theorem ovl_59 : ovlT Tryz.prog 59 = false := by kernel_rfl
@[simp] theorem call_62 : callable Tryz.prog 62 = true := by kernel_rfl
@[simp] theorem ovl_62 : ovlT Tryz.prog 62 = false := by kernel_rfl
@[simp] theorem call_69 : callable Tryz.prog 69 = true := by kernel_rfl
@[simp] theorem ovl_69 : ovlT Tryz.prog 69 = false := by kernel_rfl
@[simp] theorem call_70 : callable Tryz.prog 70 = true := by kernel_rfl
@[simp] theorem ovl_70 : ovlT Tryz.prog 70 = false := by kernel_rfl
@[simp] theorem call_71 : callable Tryz.prog 71 = true := by kernel_rfl
@[simp] theorem ovl_71 : ovlT Tryz.prog 71 = false := by kernel_rfl
@[simp] theorem call_72 : callable Tryz.prog 72 = true := by kernel_rfl
@[simp] theorem ovl_72 : ovlT Tryz.prog 72 = false := by kernel_rfl
@[simp] theorem call_73 : callable Tryz.prog 73 = true := by kernel_rfl
@[simp] theorem ovl_73 : ovlT Tryz.prog 73 = false := by kernel_rfl
@[simp] theorem call_74 : callable Tryz.prog 74 = true := by kernel_rfl
@[simp] theorem ovl_74 : ovlT Tryz.prog 74 = false := by kernel_rfl
@[simp] theorem call_75 : callable Tryz.prog 75 = true := by kernel_rfl
@[simp] theorem ovl_75 : ovlT Tryz.prog 75 = false := by kernel_rfl
@[simp] theorem call_76 : callable Tryz.prog 76 = true := by kernel_rfl
@[simp] theorem ovl_76 : ovlT Tryz.prog 76 = false := by kernel_rfl
@[simp] theorem call_77 : callable Tryz.prog 77 = true := by kernel_rfl
@[simp] theorem ovl_77 : ovlT Tryz.prog 77 = false := by kernel_rfl
@[simp] theorem call_78 : callable Tryz.prog 78 = true := by kernel_rfl
@[simp] theorem ovl_78 : ovlT Tryz.prog 78 = false := by kernel_rfl
@[simp] theorem call_79 : callable Tryz.prog 79 = true := by kernel_rfl
@[simp] theorem ovl_79 : ovlT Tryz.prog 79 = false := by kernel_rfl
@[simp] theorem call_80 : callable Tryz.prog 80 = true := by kernel_rfl
@[simp] theorem ovl_80 : ovlT Tryz.prog 80 = false := by kernel_rfl
@[simp] theorem call_81 : callable Tryz.prog 81 = true := by kernel_rfl
@[simp] theorem ovl_81 : ovlT Tryz.prog 81 = false := by kernel_rfl
@[simp] theorem call_82 : callable Tryz.prog 82 = true := by kernel_rfl
@[simp] theorem ovl_82 : ovlT Tryz.prog 82 = false := by kernel_rfl
@[simp] theorem call_83 : callable Tryz.prog 83 = true := by kernel_rfl
@[simp] theorem ovl_83 : ovlT Tryz.prog 83 = false := by kernel_rfl
@[simp] theorem call_84 : callable Tryz.prog 84 = true := by kernel_rfl
@[simp] theorem ovl_84 : ovlT Tryz.prog 84 = false := by kernel_rfl
@[simp] theorem call_85 : callable Tryz.prog 85 = true := by kernel_rfl
@[simp] theorem ovl_85 : ovlT Tryz.prog 85 = false := by kernel_rfl
@[simp] theorem call_86 : callable Tryz.prog 86 = true := by kernel_rfl
@[simp] theorem ovl_86 : ovlT Tryz.prog 86 = false := by kernel_rfl
@[simp] theorem call_87 : callable Tryz.prog 87 = true := by kernel_rfl
@[simp] theorem ovl_87 : ovlT Tryz.prog 87 = false := by kernel_rfl
@[simp] theorem call_88 : callable Tryz.prog 88 = true := by kernel_rfl
@[simp] theorem ovl_88 : ovlT Tryz.prog 88 = false := by kernel_rfl
@[simp] theorem call_105 : callable Tryz.prog 105 = true := by kernel_rfl
@[simp] theorem ovl_105 : ovlT Tryz.prog 105 = false := by kernel_rfl
@[simp] theorem call_107 : callable Tryz.prog 107 = true := by kernel_rfl
@[simp] theorem ovl_107 : ovlT Tryz.prog 107 = false := by kernel_rfl
@[simp] theorem call_108 : callable Tryz.prog 108 = true := by kernel_rfl
@[simp] theorem ovl_108 : ovlT Tryz.prog 108 = false := by kernel_rfl
@[simp] theorem call_109 : callable Tryz.prog 109 = true := by kernel_rfl
@[simp] theorem ovl_109 : ovlT Tryz.prog 109 = false := by kernel_rfl
@[simp] theorem call_118 : callable Tryz.prog 118 = true := by kernel_rfl
@[simp] theorem ovl_118 : ovlT Tryz.prog 118 = false := by kernel_rfl
@[simp] theorem call_119 : callable Tryz.prog 119 = true := by kernel_rfl
@[simp] theorem ovl_119 : ovlT Tryz.prog 119 = false := by kernel_rfl
@[simp] theorem call_120 : callable Tryz.prog 120 = true := by kernel_rfl
@[simp] theorem ovl_120 : ovlT Tryz.prog 120 = false := by kernel_rfl
@[simp] theorem call_121 : callable Tryz.prog 121 = true := by kernel_rfl
@[simp] theorem ovl_121 : ovlT Tryz.prog 121 = false := by kernel_rfl
@[simp] theorem call_127 : callable Tryz.prog 127 = true := by kernel_rfl
@[simp] theorem ovl_127 : ovlT Tryz.prog 127 = false := by kernel_rfl
@[simp] theorem call_128 : callable Tryz.prog 128 = true := by kernel_rfl
@[simp] theorem ovl_128 : ovlT Tryz.prog 128 = false := by kernel_rfl
@[simp] theorem call_129 : callable Tryz.prog 129 = true := by kernel_rfl
@[simp] theorem ovl_129 : ovlT Tryz.prog 129 = false := by kernel_rfl
@[simp] theorem call_130 : callable Tryz.prog 130 = true := by kernel_rfl
@[simp] theorem ovl_130 : ovlT Tryz.prog 130 = false := by kernel_rfl
@[simp] theorem call_131 : callable Tryz.prog 131 = true := by kernel_rfl
@[simp] theorem ovl_131 : ovlT Tryz.prog 131 = false := by kernel_rfl
@[simp] theorem call_132 : callable Tryz.prog 132 = true := by kernel_rfl
@[simp] theorem ovl_132 : ovlT Tryz.prog 132 = false := by kernel_rfl
@[simp] theorem call_133 : callable Tryz.prog 133 = true := by kernel_rfl
@[simp] theorem ovl_133 : ovlT Tryz.prog 133 = false := by kernel_rfl
@[simp] theorem call_134 : callable Tryz.prog 134 = true := by kernel_rfl
@[simp] theorem ovl_134 : ovlT Tryz.prog 134 = false := by kernel_rfl
@[simp] theorem call_135 : callable Tryz.prog 135 = true := by kernel_rfl
@[simp] theorem ovl_135 : ovlT Tryz.prog 135 = false := by kernel_rfl
@[simp] theorem call_136 : callable Tryz.prog 136 = true := by kernel_rfl
@[simp] theorem ovl_136 : ovlT Tryz.prog 136 = false := by kernel_rfl
@[simp] theorem call_137 : callable Tryz.prog 137 = true := by kernel_rfl
@[simp] theorem ovl_137 : ovlT Tryz.prog 137 = false := by kernel_rfl
@[simp] theorem call_138 : callable Tryz.prog 138 = true := by kernel_rfl
@[simp] theorem ovl_138 : ovlT Tryz.prog 138 = false := by kernel_rfl
@[simp] theorem call_139 : callable Tryz.prog 139 = true := by kernel_rfl
@[simp] theorem ovl_139 : ovlT Tryz.prog 139 = false := by kernel_rfl
@[simp] theorem call_140 : callable Tryz.prog 140 = true := by kernel_rfl
@[simp] theorem ovl_140 : ovlT Tryz.prog 140 = false := by kernel_rfl
@[simp] theorem call_141 : callable Tryz.prog 141 = true := by kernel_rfl
@[simp] theorem ovl_141 : ovlT Tryz.prog 141 = false := by kernel_rfl
@[simp] theorem call_142 : callable Tryz.prog 142 = true := by kernel_rfl
@[simp] theorem ovl_142 : ovlT Tryz.prog 142 = false := by kernel_rfl
@[simp] theorem call_143 : callable Tryz.prog 143 = true := by kernel_rfl
@[simp] theorem ovl_143 : ovlT Tryz.prog 143 = false := by kernel_rfl
@[simp] theorem call_154 : callable Tryz.prog 154 = true := by kernel_rfl
@[simp] theorem ovl_154 : ovlT Tryz.prog 154 = false := by kernel_rfl
@[simp] theorem call_168 : callable Tryz.prog 168 = true := by kernel_rfl
@[simp] theorem ovl_168 : ovlT Tryz.prog 168 = false := by kernel_rfl
@[simp] theorem call_169 : callable Tryz.prog 169 = true := by kernel_rfl
@[simp] theorem ovl_169 : ovlT Tryz.prog 169 = false := by kernel_rfl
@[simp] theorem call_170 : callable Tryz.prog 170 = true := by kernel_rfl
@[simp] theorem ovl_170 : ovlT Tryz.prog 170 = false := by kernel_rfl
@[simp] theorem call_171 : callable Tryz.prog 171 = true := by kernel_rfl
@[simp] theorem ovl_171 : ovlT Tryz.prog 171 = false := by kernel_rfl
@[simp] theorem call_172 : callable Tryz.prog 172 = true := by kernel_rfl
@[simp] theorem ovl_172 : ovlT Tryz.prog 172 = false := by kernel_rfl
@[simp] theorem call_173 : callable Tryz.prog 173 = true := by kernel_rfl
@[simp] theorem ovl_173 : ovlT Tryz.prog 173 = false := by kernel_rfl
@[simp] theorem call_174 : callable Tryz.prog 174 = true := by kernel_rfl
@[simp] theorem ovl_174 : ovlT Tryz.prog 174 = false := by kernel_rfl
@[simp] theorem call_175 : callable Tryz.prog 175 = true := by kernel_rfl
@[simp] theorem ovl_175 : ovlT Tryz.prog 175 = false := by kernel_rfl
@[simp] theorem call_180 : callable Tryz.prog 180 = true := by kernel_rfl
@[simp] theorem ovl_180 : ovlT Tryz.prog 180 = false := by kernel_rfl
@[simp] theorem call_186 : callable Tryz.prog 186 = true := by kernel_rfl
@[simp] theorem ovl_186 : ovlT Tryz.prog 186 = false := by kernel_rfl
@[simp] theorem call_187 : callable Tryz.prog 187 = true := by kernel_rfl
@[simp] theorem ovl_187 : ovlT Tryz.prog 187 = false := by kernel_rfl
@[simp] theorem call_188 : callable Tryz.prog 188 = true := by kernel_rfl
@[simp] theorem ovl_188 : ovlT Tryz.prog 188 = false := by kernel_rfl
@[simp] theorem call_190 : callable Tryz.prog 190 = true := by kernel_rfl
@[simp] theorem ovl_190 : ovlT Tryz.prog 190 = false := by kernel_rfl
@[simp] theorem call_193 : callable Tryz.prog 193 = true := by kernel_rfl
@[simp] theorem ovl_193 : ovlT Tryz.prog 193 = false := by kernel_rfl
theorem mixed : Tryz.prog.follows .mixedOrders = true := by kernel_rfl
end Go.Proofs.YthgoocdldnkogaaGreatDoor
