/- Lemmas for the statements of this seat: VmTy R1 R2 R3 R4 R5 R6 R7 R8 R9 NumL R10 R11. -/
import Derived.Test.YtcohdlochpjnjaaB1
import Derived.Test.YtcohdlochpjnjaaProg
set_option linter.all false
section
open Go Go.Vm
namespace Go.Proofs.Ytcohdlochpjnjaa
@[simp] theorem tSize_2 : tSize Try.prog 2 = some 1 := by kernel_rfl
@[simp] theorem tAgg_2 : tAgg Try.prog 2 = some false := by kernel_rfl
@[simp] theorem isTy_2 : isTy Try.prog 2 = 7 := by kernel_rfl
@[simp] theorem tBytes_2 : tBytes Try.prog 2 = some 8 := by kernel_rfl
@[simp] theorem iKind_2 : iKind Try.prog 2 = some .i64 := by kernel_rfl
@[simp] theorem tZero_2 : tZero Try.prog 2 = some [.int .i64 0] := by kernel_rfl
@[simp] theorem tSize_3 : tSize Try.prog 3 = some 1 := by kernel_rfl
@[simp] theorem tAgg_3 : tAgg Try.prog 3 = some false := by kernel_rfl
@[simp] theorem isTy_3 : isTy Try.prog 3 = 7 := by kernel_rfl
@[simp] theorem tBytes_3 : tBytes Try.prog 3 = some 8 := by kernel_rfl
@[simp] theorem iKind_3 : iKind Try.prog 3 = some .i64 := by kernel_rfl
@[simp] theorem tZero_3 : tZero Try.prog 3 = some [.int .i64 0] := by kernel_rfl
@[simp] theorem tSize_4 : tSize Try.prog 4 = some 1 := by kernel_rfl
@[simp] theorem tAgg_4 : tAgg Try.prog 4 = some false := by kernel_rfl
@[simp] theorem isTy_4 : isTy Try.prog 4 = 1 := by kernel_rfl
@[simp] theorem tBytes_4 : tBytes Try.prog 4 = some 1 := by kernel_rfl
@[simp] theorem tZero_4 : tZero Try.prog 4 = some [.bool false] := by kernel_rfl
@[simp] theorem tSize_5 : tSize Try.prog 5 = some 1 := by kernel_rfl
@[simp] theorem tAgg_5 : tAgg Try.prog 5 = some false := by kernel_rfl
@[simp] theorem isTy_5 : isTy Try.prog 5 = 5 := by kernel_rfl
@[simp] theorem tBytes_5 : tBytes Try.prog 5 = some 1 := by kernel_rfl
@[simp] theorem iKind_5 : iKind Try.prog 5 = some .u8 := by kernel_rfl
@[simp] theorem tZero_5 : tZero Try.prog 5 = some [.int .u8 0] := by kernel_rfl
@[simp] theorem tSize_6 : tSize Try.prog 6 = some 1 := by kernel_rfl
@[simp] theorem tAgg_6 : tAgg Try.prog 6 = some false := by kernel_rfl
@[simp] theorem isTy_6 : isTy Try.prog 6 = 5 := by kernel_rfl
@[simp] theorem tBytes_6 : tBytes Try.prog 6 = some 1 := by kernel_rfl
@[simp] theorem iKind_6 : iKind Try.prog 6 = some .u8 := by kernel_rfl
@[simp] theorem tZero_6 : tZero Try.prog 6 = some [.int .u8 0] := by kernel_rfl
@[simp] theorem tSize_7 : tSize Try.prog 7 = some 4 := by kernel_rfl
@[simp] theorem tAgg_7 : tAgg Try.prog 7 = some true := by kernel_rfl
@[simp] theorem isTy_7 : isTy Try.prog 7 = 3 := by kernel_rfl
@[simp] theorem tBytes_7 : tBytes Try.prog 7 = some 24 := by kernel_rfl
@[simp] theorem fOff_7_0 : fOff Try.prog 7 0 = some 0 := by kernel_rfl
@[simp] theorem fOff_7_1 : fOff Try.prog 7 1 = some 1 := by kernel_rfl
@[simp] theorem fOff_7_2 : fOff Try.prog 7 2 = some 2 := by kernel_rfl
@[simp] theorem fOff_7_3 : fOff Try.prog 7 3 = some 3 := by kernel_rfl
@[simp] theorem tPlaces_7 : tPlaces Try.prog 7 = some [(0, 1), (1, 1), (2, 1), (3, 1)] := by kernel_rfl
@[simp] theorem tZero_7 : tZero Try.prog 7 = some [.int .i64 0, .int .i64 0, .bool false, .int .u8 0] := by kernel_rfl
@[simp] theorem tSize_8 : tSize Try.prog 8 = some 4 := by kernel_rfl
@[simp] theorem tAgg_8 : tAgg Try.prog 8 = some true := by kernel_rfl
@[simp] theorem isTy_8 : isTy Try.prog 8 = 3 := by kernel_rfl
@[simp] theorem tBytes_8 : tBytes Try.prog 8 = some 24 := by kernel_rfl
@[simp] theorem fOff_8_0 : fOff Try.prog 8 0 = some 0 := by kernel_rfl
@[simp] theorem fOff_8_1 : fOff Try.prog 8 1 = some 1 := by kernel_rfl
@[simp] theorem fOff_8_2 : fOff Try.prog 8 2 = some 2 := by kernel_rfl
@[simp] theorem fOff_8_3 : fOff Try.prog 8 3 = some 3 := by kernel_rfl
@[simp] theorem tPlaces_8 : tPlaces Try.prog 8 = some [(0, 1), (1, 1), (2, 1), (3, 1)] := by kernel_rfl
@[simp] theorem tZero_8 : tZero Try.prog 8 = some [.int .i64 0, .int .i64 0, .bool false, .int .u8 0] := by kernel_rfl
@[simp] theorem tSize_9 : tSize Try.prog 9 = some 1 := by kernel_rfl
@[simp] theorem tAgg_9 : tAgg Try.prog 9 = some false := by kernel_rfl
@[simp] theorem isTy_9 : isTy Try.prog 9 = 6 := by kernel_rfl
@[simp] theorem tBytes_9 : tBytes Try.prog 9 = some 16 := by kernel_rfl
@[simp] theorem tZero_9 : tZero Try.prog 9 = some [.str ⟨#[]⟩] := by kernel_rfl
@[simp] theorem tSize_10 : tSize Try.prog 10 = some 1 := by kernel_rfl
@[simp] theorem tAgg_10 : tAgg Try.prog 10 = some false := by kernel_rfl
@[simp] theorem isTy_10 : isTy Try.prog 10 = 6 := by kernel_rfl
@[simp] theorem tBytes_10 : tBytes Try.prog 10 = some 16 := by kernel_rfl
@[simp] theorem tZero_10 : tZero Try.prog 10 = some [.str ⟨#[]⟩] := by kernel_rfl
@[simp] theorem tSize_11 : tSize Try.prog 11 = some 1 := by kernel_rfl
@[simp] theorem tAgg_11 : tAgg Try.prog 11 = some false := by kernel_rfl
@[simp] theorem isTy_11 : isTy Try.prog 11 = 6 := by kernel_rfl
@[simp] theorem tBytes_11 : tBytes Try.prog 11 = some 16 := by kernel_rfl
@[simp] theorem tZero_11 : tZero Try.prog 11 = some [.str ⟨#[]⟩] := by kernel_rfl
@[simp] theorem tSize_12 : tSize Try.prog 12 = some 1 := by kernel_rfl
@[simp] theorem tAgg_12 : tAgg Try.prog 12 = some false := by kernel_rfl
@[simp] theorem isTy_12 : isTy Try.prog 12 = 8 := by kernel_rfl
@[simp] theorem tBytes_12 : tBytes Try.prog 12 = some 8 := by kernel_rfl
@[simp] theorem iKind_12 : iKind Try.prog 12 = some .u64 := by kernel_rfl
@[simp] theorem tZero_12 : tZero Try.prog 12 = some [.int .u64 0] := by kernel_rfl
@[simp] theorem tSize_13 : tSize Try.prog 13 = some 2 := by kernel_rfl
@[simp] theorem tAgg_13 : tAgg Try.prog 13 = some true := by kernel_rfl
@[simp] theorem isTy_13 : isTy Try.prog 13 = 3 := by kernel_rfl
@[simp] theorem tBytes_13 : tBytes Try.prog 13 = some 24 := by kernel_rfl
@[simp] theorem fOff_13_0 : fOff Try.prog 13 0 = some 0 := by kernel_rfl
@[simp] theorem fOff_13_1 : fOff Try.prog 13 1 = some 1 := by kernel_rfl
@[simp] theorem tPlaces_13 : tPlaces Try.prog 13 = some [(0, 1), (1, 1)] := by kernel_rfl
@[simp] theorem tZero_13 : tZero Try.prog 13 = some [.str ⟨#[]⟩, .int .u64 0] := by kernel_rfl
@[simp] theorem tSize_14 : tSize Try.prog 14 = some 2 := by kernel_rfl
@[simp] theorem tAgg_14 : tAgg Try.prog 14 = some true := by kernel_rfl
@[simp] theorem isTy_14 : isTy Try.prog 14 = 3 := by kernel_rfl
@[simp] theorem tBytes_14 : tBytes Try.prog 14 = some 24 := by kernel_rfl
@[simp] theorem fOff_14_0 : fOff Try.prog 14 0 = some 0 := by kernel_rfl
@[simp] theorem fOff_14_1 : fOff Try.prog 14 1 = some 1 := by kernel_rfl
@[simp] theorem tPlaces_14 : tPlaces Try.prog 14 = some [(0, 1), (1, 1)] := by kernel_rfl
@[simp] theorem tZero_14 : tZero Try.prog 14 = some [.str ⟨#[]⟩, .int .u64 0] := by kernel_rfl
@[simp] theorem tSize_15 : tSize Try.prog 15 = some 1 := by kernel_rfl
@[simp] theorem tAgg_15 : tAgg Try.prog 15 = some false := by kernel_rfl
@[simp] theorem isTy_15 : isTy Try.prog 15 = 0 := by kernel_rfl
@[simp] theorem tBytes_15 : tBytes Try.prog 15 = some 8 := by kernel_rfl
@[simp] theorem tZero_15 : tZero Try.prog 15 = some [.nilp] := by kernel_rfl
@[simp] theorem tSize_16 : tSize Try.prog 16 = some 1 := by kernel_rfl
@[simp] theorem tAgg_16 : tAgg Try.prog 16 = some false := by kernel_rfl
@[simp] theorem isTy_16 : isTy Try.prog 16 = 0 := by kernel_rfl
@[simp] theorem tBytes_16 : tBytes Try.prog 16 = some 8 := by kernel_rfl
@[simp] theorem tZero_16 : tZero Try.prog 16 = some [.nilp] := by kernel_rfl
@[simp] theorem tSize_17 : tSize Try.prog 17 = some 1 := by kernel_rfl
@[simp] theorem tAgg_17 : tAgg Try.prog 17 = some false := by kernel_rfl
@[simp] theorem isTy_17 : isTy Try.prog 17 = 0 := by kernel_rfl
@[simp] theorem tBytes_17 : tBytes Try.prog 17 = some 8 := by kernel_rfl
@[simp] theorem tZero_17 : tZero Try.prog 17 = some [.nilp] := by kernel_rfl
@[simp] theorem tSize_18 : tSize Try.prog 18 = some 1 := by kernel_rfl
@[simp] theorem tAgg_18 : tAgg Try.prog 18 = some true := by kernel_rfl
@[simp] theorem isTy_18 : isTy Try.prog 18 = 3 := by kernel_rfl
@[simp] theorem tBytes_18 : tBytes Try.prog 18 = some 8 := by kernel_rfl
@[simp] theorem fOff_18_0 : fOff Try.prog 18 0 = some 0 := by kernel_rfl
@[simp] theorem tPlaces_18 : tPlaces Try.prog 18 = some [(0, 1)] := by kernel_rfl
@[simp] theorem tZero_18 : tZero Try.prog 18 = some [.nilp] := by kernel_rfl
@[simp] theorem tSize_19 : tSize Try.prog 19 = some 1 := by kernel_rfl
@[simp] theorem tAgg_19 : tAgg Try.prog 19 = some true := by kernel_rfl
@[simp] theorem isTy_19 : isTy Try.prog 19 = 3 := by kernel_rfl
@[simp] theorem tBytes_19 : tBytes Try.prog 19 = some 8 := by kernel_rfl
@[simp] theorem fOff_19_0 : fOff Try.prog 19 0 = some 0 := by kernel_rfl
@[simp] theorem tPlaces_19 : tPlaces Try.prog 19 = some [(0, 1)] := by kernel_rfl
@[simp] theorem tZero_19 : tZero Try.prog 19 = some [.nilp] := by kernel_rfl
@[simp] theorem tSize_21 : tSize Try.prog 21 = some 1 := by kernel_rfl
@[simp] theorem tAgg_21 : tAgg Try.prog 21 = some false := by kernel_rfl
@[simp] theorem isTy_21 : isTy Try.prog 21 = 8 := by kernel_rfl
@[simp] theorem tBytes_21 : tBytes Try.prog 21 = some 4 := by kernel_rfl
@[simp] theorem iKind_21 : iKind Try.prog 21 = some .i32 := by kernel_rfl
@[simp] theorem tZero_21 : tZero Try.prog 21 = some [.int .i32 0] := by kernel_rfl
@[simp] theorem tSize_23 : tSize Try.prog 23 = some 1 := by kernel_rfl
@[simp] theorem tAgg_23 : tAgg Try.prog 23 = some false := by kernel_rfl
@[simp] theorem isTy_23 : isTy Try.prog 23 = 2 := by kernel_rfl
@[simp] theorem tBytes_23 : tBytes Try.prog 23 = some 24 := by kernel_rfl
@[simp] theorem sElem_23 : sElem Try.prog 23 = some (45, 8) := by kernel_rfl
@[simp] theorem tZero_23 : tZero Try.prog 23 = some [.sl true 0 none []] := by kernel_rfl
@[simp] theorem tSize_24 : tSize Try.prog 24 = some 1 := by kernel_rfl
@[simp] theorem tAgg_24 : tAgg Try.prog 24 = some false := by kernel_rfl
@[simp] theorem isTy_24 : isTy Try.prog 24 = 2 := by kernel_rfl
@[simp] theorem tBytes_24 : tBytes Try.prog 24 = some 24 := by kernel_rfl
@[simp] theorem sElem_24 : sElem Try.prog 24 = some (62, 3) := by kernel_rfl
@[simp] theorem tZero_24 : tZero Try.prog 24 = some [.sl true 0 none []] := by kernel_rfl
@[simp] theorem tSize_25 : tSize Try.prog 25 = some 2 := by kernel_rfl
@[simp] theorem tAgg_25 : tAgg Try.prog 25 = some true := by kernel_rfl
@[simp] theorem isTy_25 : isTy Try.prog 25 = 3 := by kernel_rfl
@[simp] theorem tBytes_25 : tBytes Try.prog 25 = some 48 := by kernel_rfl
@[simp] theorem fOff_25_0 : fOff Try.prog 25 0 = some 0 := by kernel_rfl
@[simp] theorem fOff_25_1 : fOff Try.prog 25 1 = some 1 := by kernel_rfl
@[simp] theorem tPlaces_25 : tPlaces Try.prog 25 = some [(0, 1), (1, 1)] := by kernel_rfl
@[simp] theorem tZero_25 : tZero Try.prog 25 = some [.sl true 0 none [], .sl true 0 none []] := by kernel_rfl
@[simp] theorem tSize_26 : tSize Try.prog 26 = some 2 := by kernel_rfl
@[simp] theorem tAgg_26 : tAgg Try.prog 26 = some true := by kernel_rfl
@[simp] theorem isTy_26 : isTy Try.prog 26 = 3 := by kernel_rfl
@[simp] theorem tBytes_26 : tBytes Try.prog 26 = some 48 := by kernel_rfl
@[simp] theorem fOff_26_0 : fOff Try.prog 26 0 = some 0 := by kernel_rfl
@[simp] theorem fOff_26_1 : fOff Try.prog 26 1 = some 1 := by kernel_rfl
@[simp] theorem tPlaces_26 : tPlaces Try.prog 26 = some [(0, 1), (1, 1)] := by kernel_rfl
@[simp] theorem tZero_26 : tZero Try.prog 26 = some [.sl true 0 none [], .sl true 0 none []] := by kernel_rfl
@[simp] theorem tSize_27 : tSize Try.prog 27 = some 3 := by kernel_rfl
@[simp] theorem tAgg_27 : tAgg Try.prog 27 = some true := by kernel_rfl
@[simp] theorem isTy_27 : isTy Try.prog 27 = 3 := by kernel_rfl
@[simp] theorem tBytes_27 : tBytes Try.prog 27 = some 56 := by kernel_rfl
@[simp] theorem fOff_27_0 : fOff Try.prog 27 0 = some 0 := by kernel_rfl
@[simp] theorem fOff_27_1 : fOff Try.prog 27 1 = some 1 := by kernel_rfl
@[simp] theorem tPlaces_27 : tPlaces Try.prog 27 = some [(0, 1), (1, 2)] := by kernel_rfl
@[simp] theorem tZero_27 : tZero Try.prog 27 = some [.int .i64 0, .sl true 0 none [], .sl true 0 none []] := by kernel_rfl
@[simp] theorem tSize_28 : tSize Try.prog 28 = some 3 := by kernel_rfl
@[simp] theorem tAgg_28 : tAgg Try.prog 28 = some true := by kernel_rfl
@[simp] theorem isTy_28 : isTy Try.prog 28 = 3 := by kernel_rfl
@[simp] theorem tBytes_28 : tBytes Try.prog 28 = some 56 := by kernel_rfl
@[simp] theorem fOff_28_0 : fOff Try.prog 28 0 = some 0 := by kernel_rfl
@[simp] theorem fOff_28_1 : fOff Try.prog 28 1 = some 1 := by kernel_rfl
@[simp] theorem tPlaces_28 : tPlaces Try.prog 28 = some [(0, 1), (1, 2)] := by kernel_rfl
@[simp] theorem tZero_28 : tZero Try.prog 28 = some [.int .i64 0, .sl true 0 none [], .sl true 0 none []] := by kernel_rfl
@[simp] theorem tSize_29 : tSize Try.prog 29 = some 1 := by kernel_rfl
@[simp] theorem tAgg_29 : tAgg Try.prog 29 = some false := by kernel_rfl
@[simp] theorem isTy_29 : isTy Try.prog 29 = 7 := by kernel_rfl
@[simp] theorem tBytes_29 : tBytes Try.prog 29 = some 8 := by kernel_rfl
@[simp] theorem iKind_29 : iKind Try.prog 29 = some .i64 := by kernel_rfl
@[simp] theorem tZero_29 : tZero Try.prog 29 = some [.int .i64 0] := by kernel_rfl
@[simp] theorem tSize_39 : tSize Try.prog 39 = some 1 := by kernel_rfl
@[simp] theorem tAgg_39 : tAgg Try.prog 39 = some false := by kernel_rfl
@[simp] theorem isTy_39 : isTy Try.prog 39 = 8 := by kernel_rfl
@[simp] theorem tBytes_39 : tBytes Try.prog 39 = some 2 := by kernel_rfl
@[simp] theorem iKind_39 : iKind Try.prog 39 = some .u16 := by kernel_rfl
@[simp] theorem tZero_39 : tZero Try.prog 39 = some [.int .u16 0] := by kernel_rfl
@[simp] theorem tSize_42 : tSize Try.prog 42 = some 5 := by kernel_rfl
@[simp] theorem tAgg_42 : tAgg Try.prog 42 = some true := by kernel_rfl
@[simp] theorem isTy_42 : isTy Try.prog 42 = 3 := by kernel_rfl
@[simp] theorem tBytes_42 : tBytes Try.prog 42 = some 40 := by kernel_rfl
@[simp] theorem fOff_42_0 : fOff Try.prog 42 0 = some 0 := by kernel_rfl
@[simp] theorem fOff_42_1 : fOff Try.prog 42 1 = some 1 := by kernel_rfl
@[simp] theorem fOff_42_2 : fOff Try.prog 42 2 = some 2 := by kernel_rfl
@[simp] theorem fOff_42_3 : fOff Try.prog 42 3 = some 3 := by kernel_rfl
@[simp] theorem fOff_42_4 : fOff Try.prog 42 4 = some 4 := by kernel_rfl
@[simp] theorem tPlaces_42 : tPlaces Try.prog 42 = some [(0, 1), (1, 1), (2, 1), (3, 1), (4, 1)] := by kernel_rfl
@[simp] theorem eqT_42 : eqT Try.prog 42 = some [0, 1, 2, 3, 4] := by kernel_rfl
@[simp] theorem tZero_42 : tZero Try.prog 42 = some [.int .i64 0, .int .i64 0, .int .i64 0, .int .i64 0, .int .i64 0] := by kernel_rfl
@[simp] theorem tSize_43 : tSize Try.prog 43 = some 5 := by kernel_rfl
@[simp] theorem tAgg_43 : tAgg Try.prog 43 = some true := by kernel_rfl
@[simp] theorem isTy_43 : isTy Try.prog 43 = 3 := by kernel_rfl
@[simp] theorem tBytes_43 : tBytes Try.prog 43 = some 40 := by kernel_rfl
@[simp] theorem fOff_43_0 : fOff Try.prog 43 0 = some 0 := by kernel_rfl
@[simp] theorem fOff_43_1 : fOff Try.prog 43 1 = some 1 := by kernel_rfl
@[simp] theorem fOff_43_2 : fOff Try.prog 43 2 = some 2 := by kernel_rfl
@[simp] theorem fOff_43_3 : fOff Try.prog 43 3 = some 3 := by kernel_rfl
@[simp] theorem fOff_43_4 : fOff Try.prog 43 4 = some 4 := by kernel_rfl
@[simp] theorem tPlaces_43 : tPlaces Try.prog 43 = some [(0, 1), (1, 1), (2, 1), (3, 1), (4, 1)] := by kernel_rfl
@[simp] theorem eqT_43 : eqT Try.prog 43 = some [0, 1, 2, 3, 4] := by kernel_rfl
@[simp] theorem tZero_43 : tZero Try.prog 43 = some [.int .i64 0, .int .i64 0, .int .i64 0, .int .i64 0, .int .i64 0] := by kernel_rfl
@[simp] theorem tSize_44 : tSize Try.prog 44 = some 8 := by kernel_rfl
@[simp] theorem tAgg_44 : tAgg Try.prog 44 = some true := by kernel_rfl
@[simp] theorem isTy_44 : isTy Try.prog 44 = 3 := by kernel_rfl
@[simp] theorem tBytes_44 : tBytes Try.prog 44 = some 64 := by kernel_rfl
@[simp] theorem fOff_44_0 : fOff Try.prog 44 0 = some 0 := by kernel_rfl
@[simp] theorem fOff_44_1 : fOff Try.prog 44 1 = some 1 := by kernel_rfl
@[simp] theorem fOff_44_2 : fOff Try.prog 44 2 = some 2 := by kernel_rfl
@[simp] theorem fOff_44_3 : fOff Try.prog 44 3 = some 7 := by kernel_rfl
@[simp] theorem tPlaces_44 : tPlaces Try.prog 44 = some [(0, 1), (1, 1), (2, 5), (7, 1)] := by kernel_rfl
@[simp] theorem eqT_44 : eqT Try.prog 44 = some [0, 1, 2, 3, 4, 5, 6, 7] := by kernel_rfl
@[simp] theorem tZero_44 : tZero Try.prog 44 = some [.int .i64 0, .int .i64 0, .int .i64 0, .int .i64 0, .int .i64 0, .int .i64 0, .int .i64 0, .int .i64 0] := by kernel_rfl
@[simp] theorem tSize_45 : tSize Try.prog 45 = some 8 := by kernel_rfl
@[simp] theorem tAgg_45 : tAgg Try.prog 45 = some true := by kernel_rfl
@[simp] theorem isTy_45 : isTy Try.prog 45 = 3 := by kernel_rfl
@[simp] theorem tBytes_45 : tBytes Try.prog 45 = some 64 := by kernel_rfl
@[simp] theorem fOff_45_0 : fOff Try.prog 45 0 = some 0 := by kernel_rfl
@[simp] theorem fOff_45_1 : fOff Try.prog 45 1 = some 1 := by kernel_rfl
@[simp] theorem fOff_45_2 : fOff Try.prog 45 2 = some 2 := by kernel_rfl
@[simp] theorem fOff_45_3 : fOff Try.prog 45 3 = some 7 := by kernel_rfl
@[simp] theorem tPlaces_45 : tPlaces Try.prog 45 = some [(0, 1), (1, 1), (2, 5), (7, 1)] := by kernel_rfl
@[simp] theorem eqT_45 : eqT Try.prog 45 = some [0, 1, 2, 3, 4, 5, 6, 7] := by kernel_rfl
@[simp] theorem tZero_45 : tZero Try.prog 45 = some [.int .i64 0, .int .i64 0, .int .i64 0, .int .i64 0, .int .i64 0, .int .i64 0, .int .i64 0, .int .i64 0] := by kernel_rfl
@[simp] theorem tSize_46 : tSize Try.prog 46 = some 1 := by kernel_rfl
@[simp] theorem tAgg_46 : tAgg Try.prog 46 = some false := by kernel_rfl
@[simp] theorem isTy_46 : isTy Try.prog 46 = 2 := by kernel_rfl
@[simp] theorem tBytes_46 : tBytes Try.prog 46 = some 24 := by kernel_rfl
@[simp] theorem sElem_46 : sElem Try.prog 46 = some (48, 1) := by kernel_rfl
@[simp] theorem tZero_46 : tZero Try.prog 46 = some [.sl true 0 none []] := by kernel_rfl
@[simp] theorem tSize_48 : tSize Try.prog 48 = some 1 := by kernel_rfl
@[simp] theorem tAgg_48 : tAgg Try.prog 48 = some false := by kernel_rfl
@[simp] theorem isTy_48 : isTy Try.prog 48 = 2 := by kernel_rfl
@[simp] theorem tBytes_48 : tBytes Try.prog 48 = some 24 := by kernel_rfl
@[simp] theorem sElem_48 : sElem Try.prog 48 = some (3, 1) := by kernel_rfl
@[simp] theorem tZero_48 : tZero Try.prog 48 = some [.sl true 0 none []] := by kernel_rfl
@[simp] theorem tSize_53 : tSize Try.prog 53 = some 5 := by kernel_rfl
@[simp] theorem tAgg_53 : tAgg Try.prog 53 = some true := by kernel_rfl
@[simp] theorem isTy_53 : isTy Try.prog 53 = 4 := by kernel_rfl
@[simp] theorem tBytes_53 : tBytes Try.prog 53 = some 40 := by kernel_rfl
@[simp] theorem aInfo_53 : aInfo Try.prog 53 = some (5, 3, 1) := by kernel_rfl
@[simp] theorem tPlaces_53 : tPlaces Try.prog 53 = some [(0, 1), (1, 1), (2, 1), (3, 1), (4, 1)] := by kernel_rfl
@[simp] theorem eqT_53 : eqT Try.prog 53 = some [0, 1, 2, 3, 4] := by kernel_rfl
@[simp] theorem tZero_53 : tZero Try.prog 53 = some [.int .i64 0, .int .i64 0, .int .i64 0, .int .i64 0, .int .i64 0] := by kernel_rfl
@[simp] theorem tSize_61 : tSize Try.prog 61 = some 3 := by kernel_rfl
@[simp] theorem tAgg_61 : tAgg Try.prog 61 = some true := by kernel_rfl
@[simp] theorem isTy_61 : isTy Try.prog 61 = 3 := by kernel_rfl
@[simp] theorem tBytes_61 : tBytes Try.prog 61 = some 24 := by kernel_rfl
@[simp] theorem fOff_61_0 : fOff Try.prog 61 0 = some 0 := by kernel_rfl
@[simp] theorem fOff_61_1 : fOff Try.prog 61 1 = some 1 := by kernel_rfl
@[simp] theorem fOff_61_2 : fOff Try.prog 61 2 = some 2 := by kernel_rfl
@[simp] theorem tPlaces_61 : tPlaces Try.prog 61 = some [(0, 1), (1, 1), (2, 1)] := by kernel_rfl
@[simp] theorem eqT_61 : eqT Try.prog 61 = some [0, 1, 2] := by kernel_rfl
@[simp] theorem tZero_61 : tZero Try.prog 61 = some [.int .i64 0, .int .i64 0, .int .i64 0] := by kernel_rfl
@[simp] theorem tSize_62 : tSize Try.prog 62 = some 3 := by kernel_rfl
@[simp] theorem tAgg_62 : tAgg Try.prog 62 = some true := by kernel_rfl
@[simp] theorem isTy_62 : isTy Try.prog 62 = 3 := by kernel_rfl
@[simp] theorem tBytes_62 : tBytes Try.prog 62 = some 24 := by kernel_rfl
@[simp] theorem fOff_62_0 : fOff Try.prog 62 0 = some 0 := by kernel_rfl
@[simp] theorem fOff_62_1 : fOff Try.prog 62 1 = some 1 := by kernel_rfl
@[simp] theorem fOff_62_2 : fOff Try.prog 62 2 = some 2 := by kernel_rfl
@[simp] theorem tPlaces_62 : tPlaces Try.prog 62 = some [(0, 1), (1, 1), (2, 1)] := by kernel_rfl
@[simp] theorem eqT_62 : eqT Try.prog 62 = some [0, 1, 2] := by kernel_rfl
@[simp] theorem tZero_62 : tZero Try.prog 62 = some [.int .i64 0, .int .i64 0, .int .i64 0] := by kernel_rfl
@[simp] theorem tSize_65 : tSize Try.prog 65 = some 1 := by kernel_rfl
@[simp] theorem tAgg_65 : tAgg Try.prog 65 = some false := by kernel_rfl
@[simp] theorem isTy_65 : isTy Try.prog 65 = 0 := by kernel_rfl
@[simp] theorem tBytes_65 : tBytes Try.prog 65 = some 8 := by kernel_rfl
@[simp] theorem tZero_65 : tZero Try.prog 65 = some [.nilp] := by kernel_rfl
@[simp] theorem tSize_66 : tSize Try.prog 66 = some 2 := by kernel_rfl
@[simp] theorem tAgg_66 : tAgg Try.prog 66 = some true := by kernel_rfl
@[simp] theorem isTy_66 : isTy Try.prog 66 = 3 := by kernel_rfl
@[simp] theorem tBytes_66 : tBytes Try.prog 66 = some 24 := by kernel_rfl
@[simp] theorem fOff_66_0 : fOff Try.prog 66 0 = some 0 := by kernel_rfl
@[simp] theorem fOff_66_1 : fOff Try.prog 66 1 = some 1 := by kernel_rfl
@[simp] theorem tPlaces_66 : tPlaces Try.prog 66 = some [(0, 1), (1, 1)] := by kernel_rfl
@[simp] theorem tZero_66 : tZero Try.prog 66 = some [.str ⟨#[]⟩, .bool false] := by kernel_rfl
@[simp] theorem tSize_67 : tSize Try.prog 67 = some 2 := by kernel_rfl
@[simp] theorem tAgg_67 : tAgg Try.prog 67 = some true := by kernel_rfl
@[simp] theorem isTy_67 : isTy Try.prog 67 = 3 := by kernel_rfl
@[simp] theorem tBytes_67 : tBytes Try.prog 67 = some 24 := by kernel_rfl
@[simp] theorem fOff_67_0 : fOff Try.prog 67 0 = some 0 := by kernel_rfl
@[simp] theorem fOff_67_1 : fOff Try.prog 67 1 = some 1 := by kernel_rfl
@[simp] theorem tPlaces_67 : tPlaces Try.prog 67 = some [(0, 1), (1, 1)] := by kernel_rfl
@[simp] theorem tZero_67 : tZero Try.prog 67 = some [.str ⟨#[]⟩, .bool false] := by kernel_rfl
@[simp] theorem tSize_69 : tSize Try.prog 69 = some 1 := by kernel_rfl
@[simp] theorem tAgg_69 : tAgg Try.prog 69 = some false := by kernel_rfl
@[simp] theorem isTy_69 : isTy Try.prog 69 = 0 := by kernel_rfl
@[simp] theorem tBytes_69 : tBytes Try.prog 69 = some 8 := by kernel_rfl
@[simp] theorem tZero_69 : tZero Try.prog 69 = some [.nilp] := by kernel_rfl
@[simp] theorem tSize_70 : tSize Try.prog 70 = some 1 := by kernel_rfl
@[simp] theorem tAgg_70 : tAgg Try.prog 70 = some false := by kernel_rfl
@[simp] theorem isTy_70 : isTy Try.prog 70 = 0 := by kernel_rfl
@[simp] theorem tBytes_70 : tBytes Try.prog 70 = some 8 := by kernel_rfl
@[simp] theorem tZero_70 : tZero Try.prog 70 = some [.nilp] := by kernel_rfl
@[simp] theorem tSize_71 : tSize Try.prog 71 = some 2 := by kernel_rfl
@[simp] theorem tAgg_71 : tAgg Try.prog 71 = some true := by kernel_rfl
@[simp] theorem isTy_71 : isTy Try.prog 71 = 3 := by kernel_rfl
@[simp] theorem tBytes_71 : tBytes Try.prog 71 = some 24 := by kernel_rfl
@[simp] theorem fOff_71_0 : fOff Try.prog 71 0 = some 0 := by kernel_rfl
@[simp] theorem fOff_71_1 : fOff Try.prog 71 1 = some 1 := by kernel_rfl
@[simp] theorem tPlaces_71 : tPlaces Try.prog 71 = some [(0, 1), (1, 1)] := by kernel_rfl
@[simp] theorem tZero_71 : tZero Try.prog 71 = some [.str ⟨#[]⟩, .bool false] := by kernel_rfl
@[simp] theorem tSize_72 : tSize Try.prog 72 = some 2 := by kernel_rfl
@[simp] theorem tAgg_72 : tAgg Try.prog 72 = some true := by kernel_rfl
@[simp] theorem isTy_72 : isTy Try.prog 72 = 3 := by kernel_rfl
@[simp] theorem tBytes_72 : tBytes Try.prog 72 = some 24 := by kernel_rfl
@[simp] theorem fOff_72_0 : fOff Try.prog 72 0 = some 0 := by kernel_rfl
@[simp] theorem fOff_72_1 : fOff Try.prog 72 1 = some 1 := by kernel_rfl
@[simp] theorem tPlaces_72 : tPlaces Try.prog 72 = some [(0, 1), (1, 1)] := by kernel_rfl
@[simp] theorem tZero_72 : tZero Try.prog 72 = some [.str ⟨#[]⟩, .bool false] := by kernel_rfl
@[simp] theorem tSize_74 : tSize Try.prog 74 = some 1 := by kernel_rfl
@[simp] theorem tAgg_74 : tAgg Try.prog 74 = some false := by kernel_rfl
@[simp] theorem isTy_74 : isTy Try.prog 74 = 2 := by kernel_rfl
@[simp] theorem tBytes_74 : tBytes Try.prog 74 = some 24 := by kernel_rfl
@[simp] theorem sElem_74 : sElem Try.prog 74 = some (5, 1) := by kernel_rfl
@[simp] theorem tZero_74 : tZero Try.prog 74 = some [.sl true 0 none []] := by kernel_rfl
@[simp] theorem tSize_92 : tSize Try.prog 92 = some 1 := by kernel_rfl
@[simp] theorem tAgg_92 : tAgg Try.prog 92 = some false := by kernel_rfl
@[simp] theorem isTy_92 : isTy Try.prog 92 = 2 := by kernel_rfl
@[simp] theorem tBytes_92 : tBytes Try.prog 92 = some 24 := by kernel_rfl
@[simp] theorem sElem_92 : sElem Try.prog 92 = some (69, 1) := by kernel_rfl
@[simp] theorem tZero_92 : tZero Try.prog 92 = some [.sl true 0 none []] := by kernel_rfl
@[simp] theorem tSize_93 : tSize Try.prog 93 = some 1 := by kernel_rfl
@[simp] theorem tAgg_93 : tAgg Try.prog 93 = some false := by kernel_rfl
@[simp] theorem isTy_93 : isTy Try.prog 93 = 8 := by kernel_rfl
@[simp] theorem tBytes_93 : tBytes Try.prog 93 = some 8 := by kernel_rfl
@[simp] theorem iKind_93 : iKind Try.prog 93 = some .u64 := by kernel_rfl
@[simp] theorem tZero_93 : tZero Try.prog 93 = some [.int .u64 0] := by kernel_rfl
@[simp] theorem tSize_94 : tSize Try.prog 94 = some 1 := by kernel_rfl
@[simp] theorem tAgg_94 : tAgg Try.prog 94 = some false := by kernel_rfl
@[simp] theorem isTy_94 : isTy Try.prog 94 = 8 := by kernel_rfl
@[simp] theorem tBytes_94 : tBytes Try.prog 94 = some 4 := by kernel_rfl
@[simp] theorem iKind_94 : iKind Try.prog 94 = some .u32 := by kernel_rfl
@[simp] theorem tZero_94 : tZero Try.prog 94 = some [.int .u32 0] := by kernel_rfl
@[simp] theorem tSize_98 : tSize Try.prog 98 = some 6 := by kernel_rfl
@[simp] theorem tAgg_98 : tAgg Try.prog 98 = some true := by kernel_rfl
@[simp] theorem isTy_98 : isTy Try.prog 98 = 4 := by kernel_rfl
@[simp] theorem tBytes_98 : tBytes Try.prog 98 = some 48 := by kernel_rfl
@[simp] theorem aInfo_98 : aInfo Try.prog 98 = some (6, 3, 1) := by kernel_rfl
@[simp] theorem tPlaces_98 : tPlaces Try.prog 98 = some [(0, 1), (1, 1), (2, 1), (3, 1), (4, 1), (5, 1)] := by kernel_rfl
@[simp] theorem eqT_98 : eqT Try.prog 98 = some [0, 1, 2, 3, 4, 5] := by kernel_rfl
@[simp] theorem tZero_98 : tZero Try.prog 98 = some [.int .i64 0, .int .i64 0, .int .i64 0, .int .i64 0, .int .i64 0, .int .i64 0] := by kernel_rfl
@[simp] theorem tSize_100 : tSize Try.prog 100 = some 1 := by kernel_rfl
@[simp] theorem tAgg_100 : tAgg Try.prog 100 = some false := by kernel_rfl
@[simp] theorem isTy_100 : isTy Try.prog 100 = 2 := by kernel_rfl
@[simp] theorem tBytes_100 : tBytes Try.prog 100 = some 24 := by kernel_rfl
@[simp] theorem sElem_100 : sElem Try.prog 100 = some (23, 1) := by kernel_rfl
@[simp] theorem tZero_100 : tZero Try.prog 100 = some [.sl true 0 none []] := by kernel_rfl
@[simp] theorem tSize_102 : tSize Try.prog 102 = some 1 := by kernel_rfl
@[simp] theorem tAgg_102 : tAgg Try.prog 102 = some false := by kernel_rfl
@[simp] theorem isTy_102 : isTy Try.prog 102 = 2 := by kernel_rfl
@[simp] theorem tBytes_102 : tBytes Try.prog 102 = some 24 := by kernel_rfl
@[simp] theorem sElem_102 : sElem Try.prog 102 = some (24, 1) := by kernel_rfl
@[simp] theorem tZero_102 : tZero Try.prog 102 = some [.sl true 0 none []] := by kernel_rfl
@[simp] theorem tSize_105 : tSize Try.prog 105 = some 4 := by kernel_rfl
@[simp] theorem tAgg_105 : tAgg Try.prog 105 = some true := by kernel_rfl
@[simp] theorem isTy_105 : isTy Try.prog 105 = 3 := by kernel_rfl
@[simp] theorem tBytes_105 : tBytes Try.prog 105 = some 40 := by kernel_rfl
@[simp] theorem fOff_105_0 : fOff Try.prog 105 0 = some 0 := by kernel_rfl
@[simp] theorem fOff_105_1 : fOff Try.prog 105 1 = some 1 := by kernel_rfl
@[simp] theorem fOff_105_2 : fOff Try.prog 105 2 = some 2 := by kernel_rfl
@[simp] theorem fOff_105_3 : fOff Try.prog 105 3 = some 3 := by kernel_rfl
@[simp] theorem tPlaces_105 : tPlaces Try.prog 105 = some [(0, 1), (1, 1), (2, 1), (3, 1)] := by kernel_rfl
@[simp] theorem tZero_105 : tZero Try.prog 105 = some [.nilp, .nilp, .nilp, .str ⟨#[]⟩] := by kernel_rfl
@[simp] theorem tSize_106 : tSize Try.prog 106 = some 4 := by kernel_rfl
@[simp] theorem tAgg_106 : tAgg Try.prog 106 = some true := by kernel_rfl
@[simp] theorem isTy_106 : isTy Try.prog 106 = 3 := by kernel_rfl
@[simp] theorem tBytes_106 : tBytes Try.prog 106 = some 40 := by kernel_rfl
@[simp] theorem fOff_106_0 : fOff Try.prog 106 0 = some 0 := by kernel_rfl
@[simp] theorem fOff_106_1 : fOff Try.prog 106 1 = some 1 := by kernel_rfl
@[simp] theorem fOff_106_2 : fOff Try.prog 106 2 = some 2 := by kernel_rfl
@[simp] theorem fOff_106_3 : fOff Try.prog 106 3 = some 3 := by kernel_rfl
@[simp] theorem tPlaces_106 : tPlaces Try.prog 106 = some [(0, 1), (1, 1), (2, 1), (3, 1)] := by kernel_rfl
@[simp] theorem tZero_106 : tZero Try.prog 106 = some [.nilp, .nilp, .nilp, .str ⟨#[]⟩] := by kernel_rfl
@[simp] theorem tSize_107 : tSize Try.prog 107 = some 0 := by kernel_rfl
@[simp] theorem tAgg_107 : tAgg Try.prog 107 = some true := by kernel_rfl
@[simp] theorem isTy_107 : isTy Try.prog 107 = 4 := by kernel_rfl
@[simp] theorem tBytes_107 : tBytes Try.prog 107 = some 0 := by kernel_rfl
@[simp] theorem aInfo_107 : aInfo Try.prog 107 = some (0, 16, 1) := by kernel_rfl
@[simp] theorem tPlaces_107 : tPlaces Try.prog 107 = some [] := by kernel_rfl
@[simp] theorem tZero_107 : tZero Try.prog 107 = some [] := by kernel_rfl
@[simp] theorem tSize_108 : tSize Try.prog 108 = some 0 := by kernel_rfl
@[simp] theorem tAgg_108 : tAgg Try.prog 108 = some true := by kernel_rfl
@[simp] theorem isTy_108 : isTy Try.prog 108 = 3 := by kernel_rfl
@[simp] theorem tBytes_108 : tBytes Try.prog 108 = some 0 := by kernel_rfl
@[simp] theorem tPlaces_108 : tPlaces Try.prog 108 = some [(0, 0)] := by kernel_rfl
@[simp] theorem tZero_108 : tZero Try.prog 108 = some [] := by kernel_rfl
@[simp] theorem tSize_109 : tSize Try.prog 109 = some 0 := by kernel_rfl
@[simp] theorem tAgg_109 : tAgg Try.prog 109 = some true := by kernel_rfl
@[simp] theorem isTy_109 : isTy Try.prog 109 = 3 := by kernel_rfl
@[simp] theorem tBytes_109 : tBytes Try.prog 109 = some 0 := by kernel_rfl
@[simp] theorem tPlaces_109 : tPlaces Try.prog 109 = some [(0, 0)] := by kernel_rfl
@[simp] theorem tZero_109 : tZero Try.prog 109 = some [] := by kernel_rfl
@[simp] theorem tSize_110 : tSize Try.prog 110 = some 1 := by kernel_rfl
@[simp] theorem tAgg_110 : tAgg Try.prog 110 = some false := by kernel_rfl
@[simp] theorem isTy_110 : isTy Try.prog 110 = 5 := by kernel_rfl
@[simp] theorem tBytes_110 : tBytes Try.prog 110 = some 1 := by kernel_rfl
@[simp] theorem iKind_110 : iKind Try.prog 110 = some .u8 := by kernel_rfl
@[simp] theorem tZero_110 : tZero Try.prog 110 = some [.int .u8 0] := by kernel_rfl
@[simp] theorem tSize_111 : tSize Try.prog 111 = some 1 := by kernel_rfl
@[simp] theorem tAgg_111 : tAgg Try.prog 111 = some false := by kernel_rfl
@[simp] theorem isTy_111 : isTy Try.prog 111 = 5 := by kernel_rfl
@[simp] theorem tBytes_111 : tBytes Try.prog 111 = some 1 := by kernel_rfl
@[simp] theorem iKind_111 : iKind Try.prog 111 = some .u8 := by kernel_rfl
@[simp] theorem tZero_111 : tZero Try.prog 111 = some [.int .u8 0] := by kernel_rfl
@[simp] theorem tSize_113 : tSize Try.prog 113 = some 1 := by kernel_rfl
@[simp] theorem tAgg_113 : tAgg Try.prog 113 = some false := by kernel_rfl
@[simp] theorem isTy_113 : isTy Try.prog 113 = 0 := by kernel_rfl
@[simp] theorem tBytes_113 : tBytes Try.prog 113 = some 8 := by kernel_rfl
@[simp] theorem tZero_113 : tZero Try.prog 113 = some [.nilp] := by kernel_rfl
@[simp] theorem tSize_114 : tSize Try.prog 114 = some 1 := by kernel_rfl
@[simp] theorem tAgg_114 : tAgg Try.prog 114 = some false := by kernel_rfl
@[simp] theorem isTy_114 : isTy Try.prog 114 = 8 := by kernel_rfl
@[simp] theorem tBytes_114 : tBytes Try.prog 114 = some 4 := by kernel_rfl
@[simp] theorem iKind_114 : iKind Try.prog 114 = some .i32 := by kernel_rfl
@[simp] theorem tZero_114 : tZero Try.prog 114 = some [.int .i32 0] := by kernel_rfl
@[simp] theorem tSize_115 : tSize Try.prog 115 = some 1 := by kernel_rfl
@[simp] theorem tAgg_115 : tAgg Try.prog 115 = some false := by kernel_rfl
@[simp] theorem isTy_115 : isTy Try.prog 115 = 8 := by kernel_rfl
@[simp] theorem tBytes_115 : tBytes Try.prog 115 = some 4 := by kernel_rfl
@[simp] theorem iKind_115 : iKind Try.prog 115 = some .i32 := by kernel_rfl
@[simp] theorem tZero_115 : tZero Try.prog 115 = some [.int .i32 0] := by kernel_rfl
@[simp] theorem tSize_116 : tSize Try.prog 116 = some 11 := by kernel_rfl
@[simp] theorem tAgg_116 : tAgg Try.prog 116 = some true := by kernel_rfl
@[simp] theorem isTy_116 : isTy Try.prog 116 = 3 := by kernel_rfl
@[simp] theorem tBytes_116 : tBytes Try.prog 116 = some 48 := by kernel_rfl
@[simp] theorem fOff_116_0 : fOff Try.prog 116 0 = some 0 := by kernel_rfl
@[simp] theorem fOff_116_1 : fOff Try.prog 116 1 = some 1 := by kernel_rfl
@[simp] theorem fOff_116_2 : fOff Try.prog 116 2 = some 2 := by kernel_rfl
@[simp] theorem fOff_116_3 : fOff Try.prog 116 3 = some 3 := by kernel_rfl
@[simp] theorem fOff_116_4 : fOff Try.prog 116 4 = some 4 := by kernel_rfl
@[simp] theorem fOff_116_5 : fOff Try.prog 116 5 = some 5 := by kernel_rfl
@[simp] theorem fOff_116_6 : fOff Try.prog 116 6 = some 6 := by kernel_rfl
@[simp] theorem fOff_116_7 : fOff Try.prog 116 7 = some 7 := by kernel_rfl
@[simp] theorem fOff_116_8 : fOff Try.prog 116 8 = some 8 := by kernel_rfl
@[simp] theorem fOff_116_9 : fOff Try.prog 116 9 = some 9 := by kernel_rfl
@[simp] theorem fOff_116_10 : fOff Try.prog 116 10 = some 10 := by kernel_rfl
@[simp] theorem tPlaces_116 : tPlaces Try.prog 116 = some [(0, 1), (1, 1), (2, 1), (3, 1), (4, 1), (5, 1), (6, 1), (7, 1), (8, 1), (9, 1), (10, 1)] := by kernel_rfl
@[simp] theorem tZero_116 : tZero Try.prog 116 = some [.int .u64 0, .int .u64 0, .int .u32 0, .int .u8 0, .int .u8 0, .int .u8 0, .int .u8 0, .nilf, .nilp, .int .i32 0, .int .i32 0] := by kernel_rfl
@[simp] theorem tSize_117 : tSize Try.prog 117 = some 11 := by kernel_rfl
@[simp] theorem tAgg_117 : tAgg Try.prog 117 = some true := by kernel_rfl
@[simp] theorem isTy_117 : isTy Try.prog 117 = 3 := by kernel_rfl
@[simp] theorem tBytes_117 : tBytes Try.prog 117 = some 48 := by kernel_rfl
@[simp] theorem fOff_117_0 : fOff Try.prog 117 0 = some 0 := by kernel_rfl
@[simp] theorem fOff_117_1 : fOff Try.prog 117 1 = some 1 := by kernel_rfl
@[simp] theorem fOff_117_2 : fOff Try.prog 117 2 = some 2 := by kernel_rfl
@[simp] theorem fOff_117_3 : fOff Try.prog 117 3 = some 3 := by kernel_rfl
@[simp] theorem fOff_117_4 : fOff Try.prog 117 4 = some 4 := by kernel_rfl
@[simp] theorem fOff_117_5 : fOff Try.prog 117 5 = some 5 := by kernel_rfl
@[simp] theorem fOff_117_6 : fOff Try.prog 117 6 = some 6 := by kernel_rfl
@[simp] theorem fOff_117_7 : fOff Try.prog 117 7 = some 7 := by kernel_rfl
@[simp] theorem fOff_117_8 : fOff Try.prog 117 8 = some 8 := by kernel_rfl
@[simp] theorem fOff_117_9 : fOff Try.prog 117 9 = some 9 := by kernel_rfl
@[simp] theorem fOff_117_10 : fOff Try.prog 117 10 = some 10 := by kernel_rfl
@[simp] theorem tPlaces_117 : tPlaces Try.prog 117 = some [(0, 1), (1, 1), (2, 1), (3, 1), (4, 1), (5, 1), (6, 1), (7, 1), (8, 1), (9, 1), (10, 1)] := by kernel_rfl
@[simp] theorem tZero_117 : tZero Try.prog 117 = some [.int .u64 0, .int .u64 0, .int .u32 0, .int .u8 0, .int .u8 0, .int .u8 0, .int .u8 0, .nilf, .nilp, .int .i32 0, .int .i32 0] := by kernel_rfl
end Go.Proofs.Ytcohdlochpjnjaa
end
section
open Go Go.Vm
namespace Go.Proofs.Ytcohdlochpjnjaa
set_option maxRecDepth 100000
set_option linter.unusedSimpArgs false
attribute [local irreducible] Tri Does DoesB
structure Att where
  slot : Int
  frame : Int
  cslot : Int
  off : Int
  frm : Int
  to : Int
  flow : Int
  out : Int
structure Del where
  flow : Int
  frame : Int
  slot : Int
structure Rec where
  slots : Int
  an : Bool
  atts : List Att
  dn : Bool
  dels : List Del
@[simp] def attC (a : Att) : List C := [.int .i64 a.slot, .int .i64 a.frame, .int .i64 a.cslot, .int .i64 a.off, .int .i64 a.frm, .int .i64 a.to, .int .i64 a.flow, .int .i64 a.out]
@[simp] def delC (d : Del) : List C := [.int .i64 d.flow, .int .i64 d.frame, .int .i64 d.slot]
def recC (r : Rec) : List C := [.int .i64 r.slots, .sl r.an 8 none (r.atts.map attC), .sl r.dn 3 none (r.dels.map delC)]

theorem attempts_does (r : Rec) (flow frame : Int) (hl : r.atts.length ≤ 1099511627776) :
    Does Try.prog 20 [.agg (recC r), .c (.int .i64 flow), .c (.int .i64 frame)]
      (.c (.sl (r.atts.filter fun a => a.flow == flow && a.frame == frame).isEmpty 8 none ((r.atts.filter fun a => a.flow == flow && a.frame == frame).map attC))) := by
  refine Does.of_body Try.func20 rfl (by kernel_rfl) rfl rfl (by simp) ?_
  intro E
  refine Tri.seq fun K hK => Tri.region ?_
  simp [recC]
  intro b1
  apply hK; clear hK K
  refine Tri.seq fun K hK => Tri.region ?_
  simp
  apply hK; clear hK K
  refine Tri.seq fun K hK => ?_
  refine Tri.seq fun K1 hK1 => Tri.region ?_
  simp
  apply hK1; clear hK1 K1
  refine Tri.range 14 13 15 33 35 rfl rfl r.atts.length (fun k st => st.sl 12 = .c (.sl r.an 8 none (r.atts.map attC)) ∧ st.sl 1 = .c (.int .i64 flow) ∧ st.sl 2 = .c (.int .i64 frame) ∧
    Grows st (st.sl 7) 32 45 8 (((r.atts.take k).filter fun a => a.flow == flow && a.frame == frame).map attC)) (by simp) (by omega) ?_ rfl (by simp [upd]) (by simp [upd]) (by simp [upd, Grows]) ?_ ?_
  · rintro k st t v ht ⟨a1, a2, a3, a4⟩
    rcases ht with rfl | rfl | rfl <;> (simp [upd, a1, a2, a3]; simpa [Grows] using a4)
  · rintro k st hk ⟨h12, h1, h2, h7⟩ hn h14 h13
    generalize ho : (r.atts.take k).filter (fun a => a.flow == flow && a.frame == frame) = o at h7
    have htk : (r.atts.take (k + 1)).filter (fun a => a.flow == flow && a.frame == frame) = o ++ (if (r.atts[k].flow == flow && r.atts[k].frame == frame) = true then [r.atts[k]] else []) := by
      rw [List.take_succ_eq_append_getElem hk, List.filter_append, ho]
      cases h1 : (r.atts[k].flow == flow && r.atts[k].frame == frame) <;> simp only [List.filter_cons, h1] <;> rfl
    have hol : o.length ≤ k := by rw [← ho]; exact Nat.le_trans (List.length_filter_le ..) (List.length_take_le ..)
    refine Tri.seq fun K2 hK2 => Tri.region ?_
    simp [hn, upd, h12, h14, hk]
    intro b
    apply hK2; clear hK2 K2
    refine Tri.seq fun K2 hK2 => Tri.region ?_
    cases e1 : (r.atts[k].flow == flow) <;> cases e2 : (r.atts[k].frame == frame) <;> simp only [e1, e2, Bool.and_self, Bool.and_true, Bool.and_false, if_true, Bool.false_eq_true, if_false, List.append_nil] at htk
    case true.true =>
      simp [upd, h1, h2, e1, e2]
      apply hK2; clear hK2 K2
      refine Tri.cond (t := true) (by simp [upd]) (fun _ => ?_) (fun h => by cases h)
      refine Tri.region ?_
      rw [htk]
      rcases h7 with ⟨hnil, n', own, h7⟩ | ⟨hne, b', h7, hrw⟩
      · simp at hnil
        subst hnil
        simp [upd, h7, h12, h1, h2, h14, h13, Grows]
      · simp [upd, h7, hrw, show (o.length + 1) * 64 ≤ 140737488355328 by omega, h12, h1, h2, h14, h13, Grows]
    all_goals
      simp [upd, h1, h2, e1, e2]
      apply hK2; clear hK2 K2
      refine Tri.cond (t := false) (by simp [upd]) (fun h => by cases h) (fun _ => ?_)
      refine Tri.skip ?_
      rw [htk]
      simp [upd, h12, h1, h2, h14, h13]
      simpa [Grows] using h7
  · rintro st ⟨h12, h1, h2, h7⟩ hn
    apply hK
    refine Tri.seq fun K2 hK2 => Tri.region ?_
    simp [upd, hn]
    apply hK2
    refine Tri.ret ?_
    rw [List.take_length] at h7
    exact ⟨_, rfl, by simpa [upd] using h7.wk⟩
end Go.Proofs.Ytcohdlochpjnjaa
end
section
open Go Go.Vm
namespace Go.Proofs.Ytcohdlochpjnjaa
set_option maxRecDepth 100000
set_option linter.unusedSimpArgs false
attribute [local irreducible] Tri Does DoesB
def belowB (n e : Int) : Bool := decide (0 ≤ n ∧ n < e)
theorem below_does (n e : Int) : Does Try.prog 45 [.c (.int .i64 n), .c (.int .i64 e)] (.c (.bool (belowB n e))) := by
  refine Does.of_body Try.func45 rfl (by kernel_rfl) rfl rfl (by simp) ?_
  intro E
  refine Tri.seq fun K hK => Tri.region ?_
  simp
  apply hK; clear hK K
  refine Tri.seq fun K hK => Tri.region ?_
  cases h1 : decide (0 ≤ n) <;> cases h2 : decide (n < e) <;> simp only [decide_eq_true_eq, decide_eq_false_iff_not] at h1 h2
  all_goals
    simp [upd, h1, h2]
    apply hK; clear hK K
    refine Tri.ret ⟨_, rfl, ?_⟩
    simp [upd, belowB, h1, h2]
    exact Wk.refl _
theorem isNaN_does (n : Int) : Does Try.prog 63 [.c (.int .i64 n)] (.c (.bool false)) := by
  refine Does.of_body Try.func63 rfl (by kernel_rfl) rfl rfl (by simp) ?_
  intro E
  repeat (first
    | (refine Tri.seq fun K hK => ?_)
    | (refine Tri.region ?_; simp [upd])
    | (refine Tri.draw (by kernel_rfl) (by decide +kernel) ?_; simp [upd])
    | (refine Tri.cond_true ?_ ?_; (focus simp [upd]; done))
    | (refine Tri.cond_false ?_ ?_; (focus simp [upd]; done))
    | (refine Tri.skip ?_; simp only [thenS, blockS])
    | (refine Tri.block_seq ?_)
    | (refine Tri.block_region ?_)
    | (refine Tri.block_cond ?_)
    | (refine Tri.exit ?_; simp [upd]; first | (rename ∀ st, Tri _ _ _ st _ → _ => hK; first | (apply hK; clear hK) | (clear hK; rename ∀ st, Tri _ _ _ st _ → _ => hK; first | (apply hK; clear hK) | (clear hK; rename ∀ st, Tri _ _ _ st _ → _ => hK; first | (apply hK; clear hK) | (clear hK; rename ∀ st, Tri _ _ _ st _ → _ => hK; first | (apply hK; clear hK) | (clear hK; rename ∀ st, Tri _ _ _ st _ → _ => hK; first | (apply hK; clear hK) | (clear hK; rename ∀ st, Tri _ _ _ st _ → _ => hK; apply hK; clear hK)))))) | skip)
    | (intro β)
    | (rename ∀ st, Tri _ _ _ st _ → _ => hK; apply hK; clear hK))
  refine Tri.ret ⟨_, rfl, ?_⟩
  simp [upd]
  exact Wk.refl _
def cmpI (x y : Int) : Int := if x < y then -1 else if y < x then 1 else 0
theorem compare_does (x y : Int) : Does Try.prog 47 [.c (.int .i64 x), .c (.int .i64 y)] (.c (.int .i64 (cmpI x y))) := by
  refine Does.of_body Try.func47 rfl (by kernel_rfl) rfl rfl (by simp) ?_
  intro E
  unfold cmpI
  by_cases h1 : x < y
  · rw [if_pos h1]
    repeat (first
      | (refine Tri.seq fun K hK => ?_)
      | (refine Tri.region ?_; simp [upd, h1])
      | (refine Tri.draw (by kernel_rfl) (by decide +kernel) ?_; simp [upd, h1])
      | (refine Tri.cond_true ?_ ?_; (focus simp [upd, h1]; done))
      | (refine Tri.cond_false ?_ ?_; (focus simp [upd, h1]; done))
      | (refine Tri.skip ?_; simp only [thenS, blockS])
      | (refine Tri.block_seq ?_)
      | (refine Tri.block_region ?_)
      | (refine Tri.block_cond ?_)
      | ((with_reducible refine CallK.pure (isNaN_does _) (Wks.refl _) ?_); simp [upd, h1])
      | (refine Tri.exit ?_; simp [upd, h1]; first | (rename ∀ st, Tri _ _ _ st _ → _ => hK; first | (apply hK; clear hK) | (clear hK; rename ∀ st, Tri _ _ _ st _ → _ => hK; first | (apply hK; clear hK) | (clear hK; rename ∀ st, Tri _ _ _ st _ → _ => hK; first | (apply hK; clear hK) | (clear hK; rename ∀ st, Tri _ _ _ st _ → _ => hK; first | (apply hK; clear hK) | (clear hK; rename ∀ st, Tri _ _ _ st _ → _ => hK; first | (apply hK; clear hK) | (clear hK; rename ∀ st, Tri _ _ _ st _ → _ => hK; apply hK; clear hK)))))) | skip)
      | (intro β)
      | (rename ∀ st, Tri _ _ _ st _ → _ => hK; apply hK; clear hK))
    refine Tri.ret ⟨_, rfl, ?_⟩
    simp [upd]
    exact Wk.refl _
  · rw [if_neg h1]
    by_cases h2 : y < x
    · rw [if_pos h2]
      repeat (first
        | (refine Tri.seq fun K hK => ?_)
        | (refine Tri.region ?_; simp [upd, h1, h2])
        | (refine Tri.draw (by kernel_rfl) (by decide +kernel) ?_; simp [upd, h1, h2])
        | (refine Tri.cond_true ?_ ?_; (focus simp [upd, h1, h2]; done))
        | (refine Tri.cond_false ?_ ?_; (focus simp [upd, h1, h2]; done))
        | (refine Tri.skip ?_; simp only [thenS, blockS])
        | (refine Tri.block_seq ?_)
        | (refine Tri.block_region ?_)
        | (refine Tri.block_cond ?_)
        | ((with_reducible refine CallK.pure (isNaN_does _) (Wks.refl _) ?_); simp [upd, h1, h2])
        | (refine Tri.exit ?_; simp [upd, h1, h2]; first | (rename ∀ st, Tri _ _ _ st _ → _ => hK; first | (apply hK; clear hK) | (clear hK; rename ∀ st, Tri _ _ _ st _ → _ => hK; first | (apply hK; clear hK) | (clear hK; rename ∀ st, Tri _ _ _ st _ → _ => hK; first | (apply hK; clear hK) | (clear hK; rename ∀ st, Tri _ _ _ st _ → _ => hK; first | (apply hK; clear hK) | (clear hK; rename ∀ st, Tri _ _ _ st _ → _ => hK; first | (apply hK; clear hK) | (clear hK; rename ∀ st, Tri _ _ _ st _ → _ => hK; apply hK; clear hK)))))) | skip)
        | (intro β)
        | (rename ∀ st, Tri _ _ _ st _ → _ => hK; apply hK; clear hK))
      refine Tri.ret ⟨_, rfl, ?_⟩
      simp [upd]
      exact Wk.refl _
    · rw [if_neg h2]
      repeat (first
        | (refine Tri.seq fun K hK => ?_)
        | (refine Tri.region ?_; simp [upd, h1, h2])
        | (refine Tri.draw (by kernel_rfl) (by decide +kernel) ?_; simp [upd, h1, h2])
        | (refine Tri.cond_true ?_ ?_; (focus simp [upd, h1, h2]; done))
        | (refine Tri.cond_false ?_ ?_; (focus simp [upd, h1, h2]; done))
        | (refine Tri.skip ?_; simp only [thenS, blockS])
        | (refine Tri.block_seq ?_)
        | (refine Tri.block_region ?_)
        | (refine Tri.block_cond ?_)
        | ((with_reducible refine CallK.pure (isNaN_does _) (Wks.refl _) ?_); simp [upd, h1, h2])
        | (refine Tri.exit ?_; simp [upd, h1, h2]; first | (rename ∀ st, Tri _ _ _ st _ → _ => hK; first | (apply hK; clear hK) | (clear hK; rename ∀ st, Tri _ _ _ st _ → _ => hK; first | (apply hK; clear hK) | (clear hK; rename ∀ st, Tri _ _ _ st _ → _ => hK; first | (apply hK; clear hK) | (clear hK; rename ∀ st, Tri _ _ _ st _ → _ => hK; first | (apply hK; clear hK) | (clear hK; rename ∀ st, Tri _ _ _ st _ → _ => hK; first | (apply hK; clear hK) | (clear hK; rename ∀ st, Tri _ _ _ st _ → _ => hK; apply hK; clear hK)))))) | skip)
        | (intro β)
        | (rename ∀ st, Tri _ _ _ st _ → _ => hK; apply hK; clear hK))
      refine Tri.ret ⟨_, rfl, ?_⟩
      simp [upd]
      exact Wk.refl _
def orI : List Int → Int
  | [] => 0
  | x :: r => if x = 0 then orI r else x
theorem or_does (l : List Int) (nl : Bool) (hl : l.length ≤ 1099511627776) : Does Try.prog 46 [.c (.sl nl 1 none (l.map fun x => [.int .i64 x]))] (.c (.int .i64 (orI l))) := by
  refine Does.of_body Try.func46 rfl (by kernel_rfl) rfl rfl (by simp) ?_
  intro E
  refine Tri.seq fun K hK => Tri.region ?_
  simp
  apply hK; clear hK K
  refine Tri.seq fun K hK => Tri.region ?_
  simp [upd]
  apply hK; clear hK K
  refine Tri.seq fun K hK => ?_
  refine Tri.seq fun K1 hK1 => Tri.region ?_
  simp [upd]
  apply hK1; clear hK1 K1
  refine Tri.range 8 7 9 16 18 rfl rfl l.length (fun k st => st.sl 6 = .c (.sl nl 1 none (l.map fun x => [.int .i64 x])) ∧ st.sl 3 = .c (.int .i64 0) ∧ orI l = orI (l.drop k)) (by simp) (by omega) ?_ rfl (by simp [upd]) (by simp [upd]) (by simp [upd]) ?_ ?_
  · rintro k st t v ht ⟨a1, a2, a3⟩
    rcases ht with rfl | rfl | rfl <;> simp [upd, a1, a2, a3]
  · rintro k st hk ⟨h6, h3, hor⟩ hn h8 h7
    have hd : l.drop k = l[k] :: l.drop (k + 1) := List.drop_eq_getElem_cons hk
    rw [hd, orI] at hor
    by_cases h0 : l[k] = 0
    · rw [if_pos h0] at hor
      repeat (first
        | (refine Tri.seq fun K hK => ?_)
        | (refine Tri.region ?_; simp [upd, hn, h6, h3, h8, h7, hk, h0])
        | (refine Tri.draw (by kernel_rfl) (by decide +kernel) ?_; simp [upd, hn, h6, h3, h8, h7, hk, h0])
        | (refine Tri.cond_true ?_ ?_; (focus simp [upd, hn, h6, h3, h8, h7, hk, h0]; done))
        | (refine Tri.cond_false ?_ ?_; (focus simp [upd, hn, h6, h3, h8, h7, hk, h0]; done))
        | (refine Tri.skip ?_; simp only [thenS, blockS])
        | (refine Tri.block_seq ?_)
        | (refine Tri.block_region ?_)
        | (refine Tri.block_cond ?_)
        | (refine Tri.exit ?_; simp [upd, hn, h6, h3, h8, h7, hk, h0]; first | (rename ∀ st, Tri _ _ _ st _ → _ => hK; first | (apply hK; clear hK) | (clear hK; rename ∀ st, Tri _ _ _ st _ → _ => hK; first | (apply hK; clear hK) | (clear hK; rename ∀ st, Tri _ _ _ st _ → _ => hK; first | (apply hK; clear hK) | (clear hK; rename ∀ st, Tri _ _ _ st _ → _ => hK; first | (apply hK; clear hK) | (clear hK; rename ∀ st, Tri _ _ _ st _ → _ => hK; first | (apply hK; clear hK) | (clear hK; rename ∀ st, Tri _ _ _ st _ → _ => hK; apply hK; clear hK)))))) | skip)
        | (intro β)
        | (rename ∀ st, Tri _ _ _ st _ → _ => hK; apply hK; clear hK))
      simp [upd, h6, h3, h8, h7, hor]
    · rw [if_neg h0] at hor
      repeat (first
        | (refine Tri.seq fun K hK => ?_)
        | (refine Tri.region ?_; simp [upd, hn, h6, h3, h8, h7, hk, h0])
        | (refine Tri.draw (by kernel_rfl) (by decide +kernel) ?_; simp [upd, hn, h6, h3, h8, h7, hk, h0])
        | (refine Tri.cond_true ?_ ?_; (focus simp [upd, hn, h6, h3, h8, h7, hk, h0]; done))
        | (refine Tri.cond_false ?_ ?_; (focus simp [upd, hn, h6, h3, h8, h7, hk, h0]; done))
        | (refine Tri.skip ?_; simp only [thenS, blockS])
        | (refine Tri.block_seq ?_)
        | (refine Tri.block_region ?_)
        | (refine Tri.block_cond ?_)
        | (refine Tri.exit ?_; simp [upd, hn, h6, h3, h8, h7, hk, h0]; first | (rename ∀ st, Tri _ _ _ st _ → _ => hK; first | (apply hK; clear hK) | (clear hK; rename ∀ st, Tri _ _ _ st _ → _ => hK; first | (apply hK; clear hK) | (clear hK; rename ∀ st, Tri _ _ _ st _ → _ => hK; first | (apply hK; clear hK) | (clear hK; rename ∀ st, Tri _ _ _ st _ → _ => hK; first | (apply hK; clear hK) | (clear hK; rename ∀ st, Tri _ _ _ st _ → _ => hK; first | (apply hK; clear hK) | (clear hK; rename ∀ st, Tri _ _ _ st _ → _ => hK; apply hK; clear hK)))))) | skip)
        | (intro β)
        | (rename ∀ st, Tri _ _ _ st _ → _ => hK; apply hK; clear hK))
      exact Tri.ret ⟨_, rfl, by simp [upd, hor]; exact Wk.refl _⟩
  · rintro st ⟨h6, h3, hor⟩ hn
    rw [List.drop_length] at hor
    apply hK
    repeat (first
      | (refine Tri.seq fun K hK => ?_)
      | (refine Tri.region ?_; simp [upd, hn, h3])
      | (refine Tri.draw (by kernel_rfl) (by decide +kernel) ?_; simp [upd, hn, h3])
      | (refine Tri.cond_true ?_ ?_; (focus simp [upd, hn, h3]; done))
      | (refine Tri.cond_false ?_ ?_; (focus simp [upd, hn, h3]; done))
      | (refine Tri.skip ?_; simp only [thenS, blockS])
      | (refine Tri.block_seq ?_)
      | (refine Tri.block_region ?_)
      | (refine Tri.block_cond ?_)
      | (refine Tri.exit ?_; simp [upd, hn, h3]; first | (rename ∀ st, Tri _ _ _ st _ → _ => hK; first | (apply hK; clear hK) | (clear hK; rename ∀ st, Tri _ _ _ st _ → _ => hK; first | (apply hK; clear hK) | (clear hK; rename ∀ st, Tri _ _ _ st _ → _ => hK; first | (apply hK; clear hK) | (clear hK; rename ∀ st, Tri _ _ _ st _ → _ => hK; first | (apply hK; clear hK) | (clear hK; rename ∀ st, Tri _ _ _ st _ → _ => hK; first | (apply hK; clear hK) | (clear hK; rename ∀ st, Tri _ _ _ st _ → _ => hK; apply hK; clear hK)))))) | skip)
      | (intro β)
      | (rename ∀ st, Tri _ _ _ st _ → _ => hK; apply hK; clear hK))
    exact Tri.ret ⟨_, rfl, by simp [upd, hor, orI]; exact Wk.refl _⟩
end Go.Proofs.Ytcohdlochpjnjaa
end
section
open Go Go.Vm
namespace Go.Proofs.Ytcohdlochpjnjaa
set_option maxRecDepth 100000
set_option linter.unusedSimpArgs false
attribute [local irreducible] Tri Does DoesB
def cmpA (a b : Att) : Int := orI [cmpI a.slot b.slot, cmpI a.cslot b.cslot, cmpI a.off b.off, cmpI a.frm b.frm, cmpI a.to b.to, cmpI a.flow b.flow]
theorem cmpA_does (a b : Att) : Does Try.prog 62 [.agg (attC a), .agg (attC b)] (.c (.int .i64 (cmpA a b))) := by
  refine Does.of_body Try.func62 rfl (by kernel_rfl) rfl rfl (by simp) ?_
  intro E
  have hor := or_does [cmpI a.slot b.slot, cmpI a.cslot b.cslot, cmpI a.off b.off, cmpI a.frm b.frm, cmpI a.to b.to, cmpI a.flow b.flow] false (by simp)
  simp only [List.map] at hor
  repeat (first
    | (refine Tri.seq fun K hK => ?_)
    | (refine Tri.region ?_; simp [upd])
    | (refine Tri.draw (by kernel_rfl) (by decide +kernel) ?_; simp [upd])
    | (refine Tri.draw2 [5, 6] [0, 1, 2, 3] [4, 5, 6, 7] [] (by kernel_rfl) (by kernel_rfl) (by decide) (by rfl) (by decide +kernel) ?_; simp [upd])
    | (refine Tri.cond_true ?_ ?_; (focus simp [upd]; done))
    | (refine Tri.cond_false ?_ ?_; (focus simp [upd]; done))
    | (refine Tri.skip ?_; simp only [thenS, blockS])
    | (refine Tri.block_seq ?_)
    | (refine Tri.block_region ?_)
    | (refine Tri.block_cond ?_)
    | ((with_reducible refine CallK.pure (compare_does _ _) (Wks.refl _) ?_); simp [upd])
    | ((with_reducible refine CallK.pure (hor) (Wks.refl _) ?_); simp [upd])
    | (refine Tri.exit ?_; simp [upd]; first | (rename ∀ st, Tri _ _ _ st _ → _ => hK; first | (apply hK; clear hK) | (clear hK; rename ∀ st, Tri _ _ _ st _ → _ => hK; first | (apply hK; clear hK) | (clear hK; rename ∀ st, Tri _ _ _ st _ → _ => hK; first | (apply hK; clear hK) | (clear hK; rename ∀ st, Tri _ _ _ st _ → _ => hK; first | (apply hK; clear hK) | (clear hK; rename ∀ st, Tri _ _ _ st _ → _ => hK; first | (apply hK; clear hK) | (clear hK; rename ∀ st, Tri _ _ _ st _ → _ => hK; apply hK; clear hK)))))) | skip)
    | (intro β)
    | (rename ∀ st, Tri _ _ _ st _ → _ => hK; apply hK; clear hK))
  refine Tri.ret ⟨_, rfl, ?_⟩
  simp [upd]
  exact Wk.refl _
def attOk (a : Att) (slots : Int) : Bool := belowB a.slot slots && (belowB a.frame 1048576 && (belowB a.cslot 512 && (belowB a.off 16 && (belowB a.frm 32 && (belowB a.to 32 && (!(a.frm == a.to) && (belowB a.flow 256 && (decide (1 ≤ a.out) && decide (a.out ≤ 4)))))))))
theorem attOk_does (a : Att) (s : Int) : Does Try.prog 61 [.agg (attC a), .c (.int .i64 s)] (.c (.bool (attOk a s))) := by
  refine Does.of_body Try.func61 rfl (by kernel_rfl) rfl rfl (by simp) ?_
  intro E
  unfold attOk
  cases h1 : belowB a.slot s
  case false =>
    repeat (first
      | (refine Tri.seq fun K hK => ?_)
      | (refine Tri.region ?_; simp [upd, h1])
      | (refine Tri.draw (by kernel_rfl) (by decide +kernel) ?_; simp [upd, h1])
      | (refine Tri.cond_true ?_ ?_; (focus simp [upd, h1]; done))
      | (refine Tri.cond_false ?_ ?_; (focus simp [upd, h1]; done))
      | (refine Tri.skip ?_; simp only [thenS, blockS])
      | (refine Tri.block_seq ?_)
      | (refine Tri.block_region ?_)
      | (refine Tri.block_cond ?_)
      | ((with_reducible refine CallK.pure (below_does _ _) (Wks.refl _) ?_); simp [upd, h1])
      | (refine Tri.exit ?_; simp [upd, h1]; first | (rename ∀ st, Tri _ _ _ st _ → _ => hK; first | (apply hK; clear hK) | (clear hK; rename ∀ st, Tri _ _ _ st _ → _ => hK; first | (apply hK; clear hK) | (clear hK; rename ∀ st, Tri _ _ _ st _ → _ => hK; first | (apply hK; clear hK) | (clear hK; rename ∀ st, Tri _ _ _ st _ → _ => hK; first | (apply hK; clear hK) | (clear hK; rename ∀ st, Tri _ _ _ st _ → _ => hK; first | (apply hK; clear hK) | (clear hK; rename ∀ st, Tri _ _ _ st _ → _ => hK; apply hK; clear hK)))))) | skip)
      | (intro β)
      | (rename ∀ st, Tri _ _ _ st _ → _ => hK; apply hK; clear hK))
    refine Tri.ret ⟨_, rfl, ?_⟩
    simp [upd]
    exact Wk.refl _
  cases h2 : belowB a.frame 1048576
  case false =>
    repeat (first
      | (refine Tri.seq fun K hK => ?_)
      | (refine Tri.region ?_; simp [upd, h1, h2])
      | (refine Tri.draw (by kernel_rfl) (by decide +kernel) ?_; simp [upd, h1, h2])
      | (refine Tri.cond_true ?_ ?_; (focus simp [upd, h1, h2]; done))
      | (refine Tri.cond_false ?_ ?_; (focus simp [upd, h1, h2]; done))
      | (refine Tri.skip ?_; simp only [thenS, blockS])
      | (refine Tri.block_seq ?_)
      | (refine Tri.block_region ?_)
      | (refine Tri.block_cond ?_)
      | ((with_reducible refine CallK.pure (below_does _ _) (Wks.refl _) ?_); simp [upd, h1, h2])
      | (refine Tri.exit ?_; simp [upd, h1, h2]; first | (rename ∀ st, Tri _ _ _ st _ → _ => hK; first | (apply hK; clear hK) | (clear hK; rename ∀ st, Tri _ _ _ st _ → _ => hK; first | (apply hK; clear hK) | (clear hK; rename ∀ st, Tri _ _ _ st _ → _ => hK; first | (apply hK; clear hK) | (clear hK; rename ∀ st, Tri _ _ _ st _ → _ => hK; first | (apply hK; clear hK) | (clear hK; rename ∀ st, Tri _ _ _ st _ → _ => hK; first | (apply hK; clear hK) | (clear hK; rename ∀ st, Tri _ _ _ st _ → _ => hK; apply hK; clear hK)))))) | skip)
      | (intro β)
      | (rename ∀ st, Tri _ _ _ st _ → _ => hK; apply hK; clear hK))
    refine Tri.ret ⟨_, rfl, ?_⟩
    simp [upd]
    exact Wk.refl _
  cases h3 : belowB a.cslot 512
  case false =>
    repeat (first
      | (refine Tri.seq fun K hK => ?_)
      | (refine Tri.region ?_; simp [upd, h1, h2, h3])
      | (refine Tri.draw (by kernel_rfl) (by decide +kernel) ?_; simp [upd, h1, h2, h3])
      | (refine Tri.cond_true ?_ ?_; (focus simp [upd, h1, h2, h3]; done))
      | (refine Tri.cond_false ?_ ?_; (focus simp [upd, h1, h2, h3]; done))
      | (refine Tri.skip ?_; simp only [thenS, blockS])
      | (refine Tri.block_seq ?_)
      | (refine Tri.block_region ?_)
      | (refine Tri.block_cond ?_)
      | ((with_reducible refine CallK.pure (below_does _ _) (Wks.refl _) ?_); simp [upd, h1, h2, h3])
      | (refine Tri.exit ?_; simp [upd, h1, h2, h3]; first | (rename ∀ st, Tri _ _ _ st _ → _ => hK; first | (apply hK; clear hK) | (clear hK; rename ∀ st, Tri _ _ _ st _ → _ => hK; first | (apply hK; clear hK) | (clear hK; rename ∀ st, Tri _ _ _ st _ → _ => hK; first | (apply hK; clear hK) | (clear hK; rename ∀ st, Tri _ _ _ st _ → _ => hK; first | (apply hK; clear hK) | (clear hK; rename ∀ st, Tri _ _ _ st _ → _ => hK; first | (apply hK; clear hK) | (clear hK; rename ∀ st, Tri _ _ _ st _ → _ => hK; apply hK; clear hK)))))) | skip)
      | (intro β)
      | (rename ∀ st, Tri _ _ _ st _ → _ => hK; apply hK; clear hK))
    refine Tri.ret ⟨_, rfl, ?_⟩
    simp [upd]
    exact Wk.refl _
  cases h4 : belowB a.off 16
  case false =>
    repeat (first
      | (refine Tri.seq fun K hK => ?_)
      | (refine Tri.region ?_; simp [upd, h1, h2, h3, h4])
      | (refine Tri.draw (by kernel_rfl) (by decide +kernel) ?_; simp [upd, h1, h2, h3, h4])
      | (refine Tri.cond_true ?_ ?_; (focus simp [upd, h1, h2, h3, h4]; done))
      | (refine Tri.cond_false ?_ ?_; (focus simp [upd, h1, h2, h3, h4]; done))
      | (refine Tri.skip ?_; simp only [thenS, blockS])
      | (refine Tri.block_seq ?_)
      | (refine Tri.block_region ?_)
      | (refine Tri.block_cond ?_)
      | ((with_reducible refine CallK.pure (below_does _ _) (Wks.refl _) ?_); simp [upd, h1, h2, h3, h4])
      | (refine Tri.exit ?_; simp [upd, h1, h2, h3, h4]; first | (rename ∀ st, Tri _ _ _ st _ → _ => hK; first | (apply hK; clear hK) | (clear hK; rename ∀ st, Tri _ _ _ st _ → _ => hK; first | (apply hK; clear hK) | (clear hK; rename ∀ st, Tri _ _ _ st _ → _ => hK; first | (apply hK; clear hK) | (clear hK; rename ∀ st, Tri _ _ _ st _ → _ => hK; first | (apply hK; clear hK) | (clear hK; rename ∀ st, Tri _ _ _ st _ → _ => hK; first | (apply hK; clear hK) | (clear hK; rename ∀ st, Tri _ _ _ st _ → _ => hK; apply hK; clear hK)))))) | skip)
      | (intro β)
      | (rename ∀ st, Tri _ _ _ st _ → _ => hK; apply hK; clear hK))
    refine Tri.ret ⟨_, rfl, ?_⟩
    simp [upd]
    exact Wk.refl _
  cases h5 : belowB a.frm 32
  case false =>
    repeat (first
      | (refine Tri.seq fun K hK => ?_)
      | (refine Tri.region ?_; simp [upd, h1, h2, h3, h4, h5])
      | (refine Tri.draw (by kernel_rfl) (by decide +kernel) ?_; simp [upd, h1, h2, h3, h4, h5])
      | (refine Tri.cond_true ?_ ?_; (focus simp [upd, h1, h2, h3, h4, h5]; done))
      | (refine Tri.cond_false ?_ ?_; (focus simp [upd, h1, h2, h3, h4, h5]; done))
      | (refine Tri.skip ?_; simp only [thenS, blockS])
      | (refine Tri.block_seq ?_)
      | (refine Tri.block_region ?_)
      | (refine Tri.block_cond ?_)
      | ((with_reducible refine CallK.pure (below_does _ _) (Wks.refl _) ?_); simp [upd, h1, h2, h3, h4, h5])
      | (refine Tri.exit ?_; simp [upd, h1, h2, h3, h4, h5]; first | (rename ∀ st, Tri _ _ _ st _ → _ => hK; first | (apply hK; clear hK) | (clear hK; rename ∀ st, Tri _ _ _ st _ → _ => hK; first | (apply hK; clear hK) | (clear hK; rename ∀ st, Tri _ _ _ st _ → _ => hK; first | (apply hK; clear hK) | (clear hK; rename ∀ st, Tri _ _ _ st _ → _ => hK; first | (apply hK; clear hK) | (clear hK; rename ∀ st, Tri _ _ _ st _ → _ => hK; first | (apply hK; clear hK) | (clear hK; rename ∀ st, Tri _ _ _ st _ → _ => hK; apply hK; clear hK)))))) | skip)
      | (intro β)
      | (rename ∀ st, Tri _ _ _ st _ → _ => hK; apply hK; clear hK))
    refine Tri.ret ⟨_, rfl, ?_⟩
    simp [upd]
    exact Wk.refl _
  cases h6 : belowB a.to 32
  case false =>
    repeat (first
      | (refine Tri.seq fun K hK => ?_)
      | (refine Tri.region ?_; simp [upd, h1, h2, h3, h4, h5, h6])
      | (refine Tri.draw (by kernel_rfl) (by decide +kernel) ?_; simp [upd, h1, h2, h3, h4, h5, h6])
      | (refine Tri.cond_true ?_ ?_; (focus simp [upd, h1, h2, h3, h4, h5, h6]; done))
      | (refine Tri.cond_false ?_ ?_; (focus simp [upd, h1, h2, h3, h4, h5, h6]; done))
      | (refine Tri.skip ?_; simp only [thenS, blockS])
      | (refine Tri.block_seq ?_)
      | (refine Tri.block_region ?_)
      | (refine Tri.block_cond ?_)
      | ((with_reducible refine CallK.pure (below_does _ _) (Wks.refl _) ?_); simp [upd, h1, h2, h3, h4, h5, h6])
      | (refine Tri.exit ?_; simp [upd, h1, h2, h3, h4, h5, h6]; first | (rename ∀ st, Tri _ _ _ st _ → _ => hK; first | (apply hK; clear hK) | (clear hK; rename ∀ st, Tri _ _ _ st _ → _ => hK; first | (apply hK; clear hK) | (clear hK; rename ∀ st, Tri _ _ _ st _ → _ => hK; first | (apply hK; clear hK) | (clear hK; rename ∀ st, Tri _ _ _ st _ → _ => hK; first | (apply hK; clear hK) | (clear hK; rename ∀ st, Tri _ _ _ st _ → _ => hK; first | (apply hK; clear hK) | (clear hK; rename ∀ st, Tri _ _ _ st _ → _ => hK; apply hK; clear hK)))))) | skip)
      | (intro β)
      | (rename ∀ st, Tri _ _ _ st _ → _ => hK; apply hK; clear hK))
    refine Tri.ret ⟨_, rfl, ?_⟩
    simp [upd]
    exact Wk.refl _
  cases h7 : (a.frm == a.to)
  case true =>
    repeat (first
      | (refine Tri.seq fun K hK => ?_)
      | (refine Tri.region ?_; simp [upd, h1, h2, h3, h4, h5, h6, h7, bne])
      | (refine Tri.draw (by kernel_rfl) (by decide +kernel) ?_; simp [upd, h1, h2, h3, h4, h5, h6, h7, bne])
      | (refine Tri.cond_true ?_ ?_; (focus simp [upd, h1, h2, h3, h4, h5, h6, h7, bne]; done))
      | (refine Tri.cond_false ?_ ?_; (focus simp [upd, h1, h2, h3, h4, h5, h6, h7, bne]; done))
      | (refine Tri.skip ?_; simp only [thenS, blockS])
      | (refine Tri.block_seq ?_)
      | (refine Tri.block_region ?_)
      | (refine Tri.block_cond ?_)
      | ((with_reducible refine CallK.pure (below_does _ _) (Wks.refl _) ?_); simp [upd, h1, h2, h3, h4, h5, h6, h7, bne])
      | (refine Tri.exit ?_; simp [upd, h1, h2, h3, h4, h5, h6, h7, bne]; first | (rename ∀ st, Tri _ _ _ st _ → _ => hK; first | (apply hK; clear hK) | (clear hK; rename ∀ st, Tri _ _ _ st _ → _ => hK; first | (apply hK; clear hK) | (clear hK; rename ∀ st, Tri _ _ _ st _ → _ => hK; first | (apply hK; clear hK) | (clear hK; rename ∀ st, Tri _ _ _ st _ → _ => hK; first | (apply hK; clear hK) | (clear hK; rename ∀ st, Tri _ _ _ st _ → _ => hK; first | (apply hK; clear hK) | (clear hK; rename ∀ st, Tri _ _ _ st _ → _ => hK; apply hK; clear hK)))))) | skip)
      | (intro β)
      | (rename ∀ st, Tri _ _ _ st _ → _ => hK; apply hK; clear hK))
    refine Tri.ret ⟨_, rfl, ?_⟩
    simp [upd]
    exact Wk.refl _
  cases h8 : belowB a.flow 256
  case false =>
    repeat (first
      | (refine Tri.seq fun K hK => ?_)
      | (refine Tri.region ?_; simp [upd, h1, h2, h3, h4, h5, h6, h7, h8, bne])
      | (refine Tri.draw (by kernel_rfl) (by decide +kernel) ?_; simp [upd, h1, h2, h3, h4, h5, h6, h7, h8, bne])
      | (refine Tri.cond_true ?_ ?_; (focus simp [upd, h1, h2, h3, h4, h5, h6, h7, h8, bne]; done))
      | (refine Tri.cond_false ?_ ?_; (focus simp [upd, h1, h2, h3, h4, h5, h6, h7, h8, bne]; done))
      | (refine Tri.skip ?_; simp only [thenS, blockS])
      | (refine Tri.block_seq ?_)
      | (refine Tri.block_region ?_)
      | (refine Tri.block_cond ?_)
      | ((with_reducible refine CallK.pure (below_does _ _) (Wks.refl _) ?_); simp [upd, h1, h2, h3, h4, h5, h6, h7, h8, bne])
      | (refine Tri.exit ?_; simp [upd, h1, h2, h3, h4, h5, h6, h7, h8, bne]; first | (rename ∀ st, Tri _ _ _ st _ → _ => hK; first | (apply hK; clear hK) | (clear hK; rename ∀ st, Tri _ _ _ st _ → _ => hK; first | (apply hK; clear hK) | (clear hK; rename ∀ st, Tri _ _ _ st _ → _ => hK; first | (apply hK; clear hK) | (clear hK; rename ∀ st, Tri _ _ _ st _ → _ => hK; first | (apply hK; clear hK) | (clear hK; rename ∀ st, Tri _ _ _ st _ → _ => hK; first | (apply hK; clear hK) | (clear hK; rename ∀ st, Tri _ _ _ st _ → _ => hK; apply hK; clear hK)))))) | skip)
      | (intro β)
      | (rename ∀ st, Tri _ _ _ st _ → _ => hK; apply hK; clear hK))
    refine Tri.ret ⟨_, rfl, ?_⟩
    simp [upd]
    exact Wk.refl _
  cases h9 : decide (1 ≤ a.out) <;> simp only [decide_eq_true_eq, decide_eq_false_iff_not] at h9
  case false =>
    repeat (first
      | (refine Tri.seq fun K hK => ?_)
      | (refine Tri.region ?_; simp [upd, h1, h2, h3, h4, h5, h6, h7, h8, h9, bne])
      | (refine Tri.draw (by kernel_rfl) (by decide +kernel) ?_; simp [upd, h1, h2, h3, h4, h5, h6, h7, h8, h9, bne])
      | (refine Tri.cond_true ?_ ?_; (focus simp [upd, h1, h2, h3, h4, h5, h6, h7, h8, h9, bne]; done))
      | (refine Tri.cond_false ?_ ?_; (focus simp [upd, h1, h2, h3, h4, h5, h6, h7, h8, h9, bne]; done))
      | (refine Tri.skip ?_; simp only [thenS, blockS])
      | (refine Tri.block_seq ?_)
      | (refine Tri.block_region ?_)
      | (refine Tri.block_cond ?_)
      | ((with_reducible refine CallK.pure (below_does _ _) (Wks.refl _) ?_); simp [upd, h1, h2, h3, h4, h5, h6, h7, h8, h9, bne])
      | (refine Tri.exit ?_; simp [upd, h1, h2, h3, h4, h5, h6, h7, h8, h9, bne]; first | (rename ∀ st, Tri _ _ _ st _ → _ => hK; first | (apply hK; clear hK) | (clear hK; rename ∀ st, Tri _ _ _ st _ → _ => hK; first | (apply hK; clear hK) | (clear hK; rename ∀ st, Tri _ _ _ st _ → _ => hK; first | (apply hK; clear hK) | (clear hK; rename ∀ st, Tri _ _ _ st _ → _ => hK; first | (apply hK; clear hK) | (clear hK; rename ∀ st, Tri _ _ _ st _ → _ => hK; first | (apply hK; clear hK) | (clear hK; rename ∀ st, Tri _ _ _ st _ → _ => hK; apply hK; clear hK)))))) | skip)
      | (intro β)
      | (rename ∀ st, Tri _ _ _ st _ → _ => hK; apply hK; clear hK))
    refine Tri.ret ⟨_, rfl, ?_⟩
    simp [upd]
    exact Wk.refl _
  repeat (first
    | (refine Tri.seq fun K hK => ?_)
    | (refine Tri.region ?_; simp [upd, h1, h2, h3, h4, h5, h6, h7, h8, h9, bne])
    | (refine Tri.draw (by kernel_rfl) (by decide +kernel) ?_; simp [upd, h1, h2, h3, h4, h5, h6, h7, h8, h9, bne])
    | (refine Tri.cond_true ?_ ?_; (focus simp [upd, h1, h2, h3, h4, h5, h6, h7, h8, h9, bne]; done))
    | (refine Tri.cond_false ?_ ?_; (focus simp [upd, h1, h2, h3, h4, h5, h6, h7, h8, h9, bne]; done))
    | (refine Tri.skip ?_; simp only [thenS, blockS])
    | (refine Tri.block_seq ?_)
    | (refine Tri.block_region ?_)
    | (refine Tri.block_cond ?_)
    | ((with_reducible refine CallK.pure (below_does _ _) (Wks.refl _) ?_); simp [upd, h1, h2, h3, h4, h5, h6, h7, h8, h9, bne])
    | (refine Tri.exit ?_; simp [upd, h1, h2, h3, h4, h5, h6, h7, h8, h9, bne]; first | (rename ∀ st, Tri _ _ _ st _ → _ => hK; first | (apply hK; clear hK) | (clear hK; rename ∀ st, Tri _ _ _ st _ → _ => hK; first | (apply hK; clear hK) | (clear hK; rename ∀ st, Tri _ _ _ st _ → _ => hK; first | (apply hK; clear hK) | (clear hK; rename ∀ st, Tri _ _ _ st _ → _ => hK; first | (apply hK; clear hK) | (clear hK; rename ∀ st, Tri _ _ _ st _ → _ => hK; first | (apply hK; clear hK) | (clear hK; rename ∀ st, Tri _ _ _ st _ → _ => hK; apply hK; clear hK)))))) | skip)
    | (intro β)
    | (rename ∀ st, Tri _ _ _ st _ → _ => hK; apply hK; clear hK))
  refine Tri.ret ⟨_, rfl, ?_⟩
  simp [upd]
  exact Wk.refl _
end Go.Proofs.Ytcohdlochpjnjaa
end
section
open Go Go.Vm
namespace Go.Proofs.Ytcohdlochpjnjaa
set_option maxRecDepth 100000
set_option linter.unusedSimpArgs false
attribute [local irreducible] Tri Does DoesB
def seen (s f : Int) : Bool := bitsV .and .u32 (s.fdiv (2 ^ (min f.toNat IntKind.u32.bits))) 1 == 1
def mark (s f : Int) : Int := bitsV .or .u32 s (IntKind.u32.wrap (2 ^ (min f.toNat IntKind.u32.bits)))
def befores (p : Option Att) (a : Att) : Bool := match p with
  | none => true
  | some q => decide (cmpA q a < 0)
def attsGo (slots : Int) : Option Att → Int → Int → List Att → Bool
  | _, _, _, [] => true
  | p, s, t, a :: r => attOk a slots && (befores p a && (!(seen (if a.slot = t then s else 0) a.frm) && attsGo slots (some a) (mark (if a.slot = t then s else 0) a.frm) a.slot r))
theorem attOk_frm {a : Att} {s : Int} (h : attOk a s = true) : 0 ≤ a.frm ∧ a.frm < 32 := by
  unfold attOk at h
  simp only [Bool.and_eq_true] at h
  have := h.2.2.2.2.1
  simpa [belowB] using this
theorem attempts2_does (l : List Att) (slots : Int) (nl : Bool) (hl : l.length ≤ 1099511627776) : Does Try.prog 44 [.c (.sl nl 8 none (l.map attC)), .c (.int .i64 slots)] (.c (.bool (attsGo slots none 0 (-1) l))) := by
  refine Does.of_body Try.func44 rfl (by kernel_rfl) rfl rfl (by simp) ?_
  intro E
  refine Tri.seq fun K hK => Tri.region ?_
  simp
  apply hK; clear hK K
  refine Tri.seq fun K hK => Tri.region ?_
  simp [upd]
  apply hK; clear hK K
  refine Tri.seq fun K hK => ?_
  refine Tri.seq fun K1 hK1 => Tri.region ?_
  simp [upd]
  apply hK1; clear hK1 K1
  refine Tri.range 11 10 12 53 54 rfl rfl l.length (fun k st => st.sl 9 = .c (.sl nl 8 none (l.map attC)) ∧ st.sl 0 = .c (.sl nl 8 none (l.map attC)) ∧ st.sl 1 = .c (.int .i64 slots) ∧ ∃ s t, st.sl 5 = .c (.int .u32 s) ∧ st.sl 6 = .c (.int .i64 t) ∧ attsGo slots none 0 (-1) l = attsGo slots (if k = 0 then none else l[k-1]?) s t (l.drop k)) (by simp) (by omega) ?_ rfl (by simp [upd]) (by simp [upd]) ?_ ?_ ?_
  · rintro k st t v ht ⟨a1, a2, a3, s, u, a4, a5, a6⟩
    rcases ht with rfl | rfl | rfl <;> (simp [upd, a1, a2, a3]; exact ⟨s, a4, u, a5, a6⟩)
  · simp [upd]
  · rintro k st hk ⟨h9, h0, h1, s, t, h5, h6, hgo⟩ hn h11 h10
    have hd : l.drop k = l[k] :: l.drop (k + 1) := List.drop_eq_getElem_cons hk
    rw [hd, attsGo] at hgo
    cases ha : attOk l[k] slots
    case false =>
      rw [ha, Bool.false_and] at hgo
      rw [hgo]
      repeat (first
        | (refine Tri.seq fun K hK => ?_)
        | (refine Tri.region ?_; simp [upd, hn, h9, h0, h1, h5, h6, h11, h10, hk, ha])
        | (refine Tri.draw (by kernel_rfl) (by decide +kernel) ?_; simp [upd, hn, h9, h0, h1, h5, h6, h11, h10, hk, ha])
        | (refine Tri.cond_true ?_ ?_; (focus simp [upd, hn, h9, h0, h1, h5, h6, h11, h10, hk, ha]; done))
        | (refine Tri.cond_false ?_ ?_; (focus simp [upd, hn, h9, h0, h1, h5, h6, h11, h10, hk, ha]; done))
        | (refine Tri.skip ?_; simp only [thenS, blockS])
        | (refine Tri.block_seq ?_)
        | (refine Tri.block_region ?_)
        | (refine Tri.block_cond ?_)
        | ((with_reducible refine CallK.pure (attOk_does _ _) (Wks.refl _) ?_); simp [upd, hn, h9, h0, h1, h5, h6, h11, h10, hk, ha])
        | (refine Tri.exit ?_; simp [upd, hn, h9, h0, h1, h5, h6, h11, h10, hk, ha]; first | (rename ∀ st, Tri _ _ _ st _ → _ => hK; first | (apply hK; clear hK) | (clear hK; rename ∀ st, Tri _ _ _ st _ → _ => hK; first | (apply hK; clear hK) | (clear hK; rename ∀ st, Tri _ _ _ st _ → _ => hK; first | (apply hK; clear hK) | (clear hK; rename ∀ st, Tri _ _ _ st _ → _ => hK; first | (apply hK; clear hK) | (clear hK; rename ∀ st, Tri _ _ _ st _ → _ => hK; first | (apply hK; clear hK) | (clear hK; rename ∀ st, Tri _ _ _ st _ → _ => hK; apply hK; clear hK)))))) | skip)
        | (intro β)
        | (rename ∀ st, Tri _ _ _ st _ → _ => hK; apply hK; clear hK))
      refine Tri.ret ⟨_, rfl, ?_⟩
      simp [upd]
      exact Wk.refl _
    obtain ⟨hf0, hf1⟩ := attOk_frm ha
    have hf2 : ¬ l[k].frm < 0 := by omega
    rw [ha, Bool.true_and] at hgo
    cases k with
    | zero =>
      simp only [if_true, befores, Bool.true_and] at hgo
      by_cases hs : l[0].slot = t
      · rw [if_pos hs] at hgo
        have hs' : (l[0].slot == t) = true := by simpa using hs
        cases hq : seen (s) l[0].frm
        case true =>
          rw [hq, Bool.not_true, Bool.false_and] at hgo
          have hq' := hq
          unfold seen at hq'
          rw [hgo]
          repeat (first
            | (refine Tri.seq fun K hK => ?_)
            | (refine Tri.region ?_; simp [upd, hn, h9, h0, h1, h5, h6, h11, h10, hk, ha, hs', hf2, hq', bne, hn])
            | (refine Tri.draw (by kernel_rfl) (by decide +kernel) ?_; simp [upd, hn, h9, h0, h1, h5, h6, h11, h10, hk, ha, hs', hf2, hq', bne, hn])
            | (refine Tri.cond_true ?_ ?_; (focus simp [upd, hn, h9, h0, h1, h5, h6, h11, h10, hk, ha, hs', hf2, hq', bne, hn]; done))
            | (refine Tri.cond_false ?_ ?_; (focus simp [upd, hn, h9, h0, h1, h5, h6, h11, h10, hk, ha, hs', hf2, hq', bne, hn]; done))
            | (refine Tri.skip ?_; simp only [thenS, blockS])
            | (refine Tri.block_seq ?_)
            | (refine Tri.block_region ?_)
            | (refine Tri.block_cond ?_)
            | ((with_reducible refine CallK.pure (attOk_does _ _) (Wks.refl _) ?_); simp [upd, hn, h9, h0, h1, h5, h6, h11, h10, hk, ha, hs', hf2, hq', bne, hn])
            | ((with_reducible refine CallK.pure (cmpA_does _ _) (Wks.refl _) ?_); simp [upd, hn, h9, h0, h1, h5, h6, h11, h10, hk, ha, hs', hf2, hq', bne, hn])
            | (refine Tri.exit ?_; simp [upd, hn, h9, h0, h1, h5, h6, h11, h10, hk, ha, hs', hf2, hq', bne, hn]; first | (rename ∀ st, Tri _ _ _ st _ → _ => hK; first | (apply hK; clear hK) | (clear hK; rename ∀ st, Tri _ _ _ st _ → _ => hK; first | (apply hK; clear hK) | (clear hK; rename ∀ st, Tri _ _ _ st _ → _ => hK; first | (apply hK; clear hK) | (clear hK; rename ∀ st, Tri _ _ _ st _ → _ => hK; first | (apply hK; clear hK) | (clear hK; rename ∀ st, Tri _ _ _ st _ → _ => hK; first | (apply hK; clear hK) | (clear hK; rename ∀ st, Tri _ _ _ st _ → _ => hK; apply hK; clear hK)))))) | skip)
            | (intro β)
            | (rename ∀ st, Tri _ _ _ st _ → _ => hK; apply hK; clear hK))
          refine Tri.ret ⟨_, rfl, ?_⟩
          simp [upd]
          exact Wk.refl _
        rw [hq, Bool.not_false, Bool.true_and] at hgo
        have hq' := hq
        unfold seen at hq'
        repeat (first
          | (refine Tri.seq fun K hK => ?_)
          | (refine Tri.region ?_; simp [upd, hn, h9, h0, h1, h5, h6, h11, h10, hk, ha, hs', hf2, hq', bne, hn])
          | (refine Tri.draw (by kernel_rfl) (by decide +kernel) ?_; simp [upd, hn, h9, h0, h1, h5, h6, h11, h10, hk, ha, hs', hf2, hq', bne, hn])
          | (refine Tri.cond_true ?_ ?_; (focus simp [upd, hn, h9, h0, h1, h5, h6, h11, h10, hk, ha, hs', hf2, hq', bne, hn]; done))
          | (refine Tri.cond_false ?_ ?_; (focus simp [upd, hn, h9, h0, h1, h5, h6, h11, h10, hk, ha, hs', hf2, hq', bne, hn]; done))
          | (refine Tri.skip ?_; simp only [thenS, blockS])
          | (refine Tri.block_seq ?_)
          | (refine Tri.block_region ?_)
          | (refine Tri.block_cond ?_)
          | ((with_reducible refine CallK.pure (attOk_does _ _) (Wks.refl _) ?_); simp [upd, hn, h9, h0, h1, h5, h6, h11, h10, hk, ha, hs', hf2, hq', bne, hn])
          | ((with_reducible refine CallK.pure (cmpA_does _ _) (Wks.refl _) ?_); simp [upd, hn, h9, h0, h1, h5, h6, h11, h10, hk, ha, hs', hf2, hq', bne, hn])
          | (refine Tri.exit ?_; simp [upd, hn, h9, h0, h1, h5, h6, h11, h10, hk, ha, hs', hf2, hq', bne, hn]; first | (rename ∀ st, Tri _ _ _ st _ → _ => hK; first | (apply hK; clear hK) | (clear hK; rename ∀ st, Tri _ _ _ st _ → _ => hK; first | (apply hK; clear hK) | (clear hK; rename ∀ st, Tri _ _ _ st _ → _ => hK; first | (apply hK; clear hK) | (clear hK; rename ∀ st, Tri _ _ _ st _ → _ => hK; first | (apply hK; clear hK) | (clear hK; rename ∀ st, Tri _ _ _ st _ → _ => hK; first | (apply hK; clear hK) | (clear hK; rename ∀ st, Tri _ _ _ st _ → _ => hK; apply hK; clear hK)))))) | skip)
          | (intro β)
          | (rename ∀ st, Tri _ _ _ st _ → _ => hK; apply hK; clear hK))
        rw [hgo]
        simp [mark, hs]
      · rw [if_neg hs] at hgo
        have hs' : (l[0].slot == t) = false := by simpa using hs
        have hz : seen 0 l[0].frm = false := by
          simp only [seen, Int.zero_fdiv]
          rfl
        have hq' : (bitsV BinOp.and IntKind.u32 0 1 == 1) = false := rfl
        rw [hz, Bool.not_false, Bool.true_and] at hgo
        repeat (first
          | (refine Tri.seq fun K hK => ?_)
          | (refine Tri.region ?_; simp [upd, hn, h9, h0, h1, h5, h6, h11, h10, hk, ha, hs', hf2, hq', bne, hn])
          | (refine Tri.draw (by kernel_rfl) (by decide +kernel) ?_; simp [upd, hn, h9, h0, h1, h5, h6, h11, h10, hk, ha, hs', hf2, hq', bne, hn])
          | (refine Tri.draw2 [] [0, 1, 2, 3] [] [] (by kernel_rfl) (by kernel_rfl) (by decide) (by rfl) (by decide +kernel) ?_; simp [upd, hn, h9, h0, h1, h5, h6, h11, h10, hk, ha, hs', hf2, hq', bne, hn])
          | (refine Tri.cond_true ?_ ?_; (focus simp [upd, hn, h9, h0, h1, h5, h6, h11, h10, hk, ha, hs', hf2, hq', bne, hn]; done))
          | (refine Tri.cond_false ?_ ?_; (focus simp [upd, hn, h9, h0, h1, h5, h6, h11, h10, hk, ha, hs', hf2, hq', bne, hn]; done))
          | (refine Tri.skip ?_; simp only [thenS, blockS])
          | (refine Tri.block_seq ?_)
          | (refine Tri.block_region ?_)
          | (refine Tri.block_cond ?_)
          | ((with_reducible refine CallK.pure (attOk_does _ _) (Wks.refl _) ?_); simp [upd, hn, h9, h0, h1, h5, h6, h11, h10, hk, ha, hs', hf2, hq', bne, hn])
          | ((with_reducible refine CallK.pure (cmpA_does _ _) (Wks.refl _) ?_); simp [upd, hn, h9, h0, h1, h5, h6, h11, h10, hk, ha, hs', hf2, hq', bne, hn])
          | (refine Tri.exit ?_; simp [upd, hn, h9, h0, h1, h5, h6, h11, h10, hk, ha, hs', hf2, hq', bne, hn]; first | (rename ∀ st, Tri _ _ _ st _ → _ => hK; first | (apply hK; clear hK) | (clear hK; rename ∀ st, Tri _ _ _ st _ → _ => hK; first | (apply hK; clear hK) | (clear hK; rename ∀ st, Tri _ _ _ st _ → _ => hK; first | (apply hK; clear hK) | (clear hK; rename ∀ st, Tri _ _ _ st _ → _ => hK; first | (apply hK; clear hK) | (clear hK; rename ∀ st, Tri _ _ _ st _ → _ => hK; first | (apply hK; clear hK) | (clear hK; rename ∀ st, Tri _ _ _ st _ → _ => hK; apply hK; clear hK)))))) | skip)
          | (intro β)
          | (rename ∀ st, Tri _ _ _ st _ → _ => hK; apply hK; clear hK))
        rw [hgo]
        simp [mark, hs]
    | succ m =>
      have hm : m < l.length := by omega
      have hw : IntKind.i64.wrap (m : Int) = m := wrap_i64 (by omega) (by omega)
      simp only [Nat.add_eq_zero_iff, Nat.one_ne_zero, and_false, if_false, Nat.add_sub_cancel, List.getElem?_eq_getElem hm, befores] at hgo
      cases hb : decide (cmpA l[m] l[m + 1] < 0) <;> simp only [decide_eq_true_eq, decide_eq_false_iff_not] at hb
      case false =>
        rw [decide_eq_false hb, Bool.false_and] at hgo
        rw [hgo]
        have hb' : 0 ≤ cmpA l[m] l[m + 1] := by omega
        have hp : (0 : Int) < (m : Int) + 1 := by omega
        have hp0 : (0 : Int) ≤ (m : Int) + 1 := by omega
        repeat (first
          | (refine Tri.seq fun K hK => ?_)
          | (refine Tri.region ?_; simp [upd, hn, h9, h0, h1, h5, h6, h11, h10, hk, ha, hm, hw, hb', hp, hp0])
          | (refine Tri.draw (by kernel_rfl) (by decide +kernel) ?_; simp [upd, hn, h9, h0, h1, h5, h6, h11, h10, hk, ha, hm, hw, hb', hp, hp0])
          | (refine Tri.cond_true ?_ ?_; (focus simp [upd, hn, h9, h0, h1, h5, h6, h11, h10, hk, ha, hm, hw, hb', hp, hp0]; done))
          | (refine Tri.cond_false ?_ ?_; (focus simp [upd, hn, h9, h0, h1, h5, h6, h11, h10, hk, ha, hm, hw, hb', hp, hp0]; done))
          | (refine Tri.skip ?_; simp only [thenS, blockS])
          | (refine Tri.block_seq ?_)
          | (refine Tri.block_region ?_)
          | (refine Tri.block_cond ?_)
          | ((with_reducible refine CallK.pure (attOk_does _ _) (Wks.refl _) ?_); simp [upd, hn, h9, h0, h1, h5, h6, h11, h10, hk, ha, hm, hw, hb', hp, hp0])
          | ((with_reducible refine CallK.pure (cmpA_does _ _) (Wks.refl _) ?_); simp [upd, hn, h9, h0, h1, h5, h6, h11, h10, hk, ha, hm, hw, hb', hp, hp0])
          | (refine Tri.exit ?_; simp [upd, hn, h9, h0, h1, h5, h6, h11, h10, hk, ha, hm, hw, hb', hp, hp0]; first | (rename ∀ st, Tri _ _ _ st _ → _ => hK; first | (apply hK; clear hK) | (clear hK; rename ∀ st, Tri _ _ _ st _ → _ => hK; first | (apply hK; clear hK) | (clear hK; rename ∀ st, Tri _ _ _ st _ → _ => hK; first | (apply hK; clear hK) | (clear hK; rename ∀ st, Tri _ _ _ st _ → _ => hK; first | (apply hK; clear hK) | (clear hK; rename ∀ st, Tri _ _ _ st _ → _ => hK; first | (apply hK; clear hK) | (clear hK; rename ∀ st, Tri _ _ _ st _ → _ => hK; apply hK; clear hK)))))) | skip)
          | (intro β)
          | (rename ∀ st, Tri _ _ _ st _ → _ => hK; apply hK; clear hK))
        refine Tri.ret ⟨_, rfl, ?_⟩
        simp [upd]
        exact Wk.refl _
      rw [decide_eq_true hb, Bool.true_and] at hgo
      have hb' : ¬ 0 ≤ cmpA l[m] l[m + 1] := by omega
      have hp : (0 : Int) < (m : Int) + 1 := by omega
      have hp0 : (0 : Int) ≤ (m : Int) + 1 := by omega
      by_cases hs : l[m + 1].slot = t
      · rw [if_pos hs] at hgo
        have hs' : (l[m + 1].slot == t) = true := by simpa using hs
        cases hq : seen (s) l[m + 1].frm
        case true =>
          rw [hq, Bool.not_true, Bool.false_and] at hgo
          have hq' := hq
          unfold seen at hq'
          rw [hgo]
          repeat (first
            | (refine Tri.seq fun K hK => ?_)
            | (refine Tri.region ?_; simp [upd, hn, h9, h0, h1, h5, h6, h11, h10, hk, ha, hs', hf2, hq', bne, hm, hw, hb', hp, hp0])
            | (refine Tri.draw (by kernel_rfl) (by decide +kernel) ?_; simp [upd, hn, h9, h0, h1, h5, h6, h11, h10, hk, ha, hs', hf2, hq', bne, hm, hw, hb', hp, hp0])
            | (refine Tri.cond_true ?_ ?_; (focus simp [upd, hn, h9, h0, h1, h5, h6, h11, h10, hk, ha, hs', hf2, hq', bne, hm, hw, hb', hp, hp0]; done))
            | (refine Tri.cond_false ?_ ?_; (focus simp [upd, hn, h9, h0, h1, h5, h6, h11, h10, hk, ha, hs', hf2, hq', bne, hm, hw, hb', hp, hp0]; done))
            | (refine Tri.skip ?_; simp only [thenS, blockS])
            | (refine Tri.block_seq ?_)
            | (refine Tri.block_region ?_)
            | (refine Tri.block_cond ?_)
            | ((with_reducible refine CallK.pure (attOk_does _ _) (Wks.refl _) ?_); simp [upd, hn, h9, h0, h1, h5, h6, h11, h10, hk, ha, hs', hf2, hq', bne, hm, hw, hb', hp, hp0])
            | ((with_reducible refine CallK.pure (cmpA_does _ _) (Wks.refl _) ?_); simp [upd, hn, h9, h0, h1, h5, h6, h11, h10, hk, ha, hs', hf2, hq', bne, hm, hw, hb', hp, hp0])
            | (refine Tri.exit ?_; simp [upd, hn, h9, h0, h1, h5, h6, h11, h10, hk, ha, hs', hf2, hq', bne, hm, hw, hb', hp, hp0]; first | (rename ∀ st, Tri _ _ _ st _ → _ => hK; first | (apply hK; clear hK) | (clear hK; rename ∀ st, Tri _ _ _ st _ → _ => hK; first | (apply hK; clear hK) | (clear hK; rename ∀ st, Tri _ _ _ st _ → _ => hK; first | (apply hK; clear hK) | (clear hK; rename ∀ st, Tri _ _ _ st _ → _ => hK; first | (apply hK; clear hK) | (clear hK; rename ∀ st, Tri _ _ _ st _ → _ => hK; first | (apply hK; clear hK) | (clear hK; rename ∀ st, Tri _ _ _ st _ → _ => hK; apply hK; clear hK)))))) | skip)
            | (intro β)
            | (rename ∀ st, Tri _ _ _ st _ → _ => hK; apply hK; clear hK))
          refine Tri.ret ⟨_, rfl, ?_⟩
          simp [upd]
          exact Wk.refl _
        rw [hq, Bool.not_false, Bool.true_and] at hgo
        have hq' := hq
        unfold seen at hq'
        repeat (first
          | (refine Tri.seq fun K hK => ?_)
          | (refine Tri.region ?_; simp [upd, hn, h9, h0, h1, h5, h6, h11, h10, hk, ha, hs', hf2, hq', bne, hm, hw, hb', hp, hp0])
          | (refine Tri.draw (by kernel_rfl) (by decide +kernel) ?_; simp [upd, hn, h9, h0, h1, h5, h6, h11, h10, hk, ha, hs', hf2, hq', bne, hm, hw, hb', hp, hp0])
          | (refine Tri.cond_true ?_ ?_; (focus simp [upd, hn, h9, h0, h1, h5, h6, h11, h10, hk, ha, hs', hf2, hq', bne, hm, hw, hb', hp, hp0]; done))
          | (refine Tri.cond_false ?_ ?_; (focus simp [upd, hn, h9, h0, h1, h5, h6, h11, h10, hk, ha, hs', hf2, hq', bne, hm, hw, hb', hp, hp0]; done))
          | (refine Tri.skip ?_; simp only [thenS, blockS])
          | (refine Tri.block_seq ?_)
          | (refine Tri.block_region ?_)
          | (refine Tri.block_cond ?_)
          | ((with_reducible refine CallK.pure (attOk_does _ _) (Wks.refl _) ?_); simp [upd, hn, h9, h0, h1, h5, h6, h11, h10, hk, ha, hs', hf2, hq', bne, hm, hw, hb', hp, hp0])
          | ((with_reducible refine CallK.pure (cmpA_does _ _) (Wks.refl _) ?_); simp [upd, hn, h9, h0, h1, h5, h6, h11, h10, hk, ha, hs', hf2, hq', bne, hm, hw, hb', hp, hp0])
          | (refine Tri.exit ?_; simp [upd, hn, h9, h0, h1, h5, h6, h11, h10, hk, ha, hs', hf2, hq', bne, hm, hw, hb', hp, hp0]; first | (rename ∀ st, Tri _ _ _ st _ → _ => hK; first | (apply hK; clear hK) | (clear hK; rename ∀ st, Tri _ _ _ st _ → _ => hK; first | (apply hK; clear hK) | (clear hK; rename ∀ st, Tri _ _ _ st _ → _ => hK; first | (apply hK; clear hK) | (clear hK; rename ∀ st, Tri _ _ _ st _ → _ => hK; first | (apply hK; clear hK) | (clear hK; rename ∀ st, Tri _ _ _ st _ → _ => hK; first | (apply hK; clear hK) | (clear hK; rename ∀ st, Tri _ _ _ st _ → _ => hK; apply hK; clear hK)))))) | skip)
          | (intro β)
          | (rename ∀ st, Tri _ _ _ st _ → _ => hK; apply hK; clear hK))
        rw [hgo]
        simp [mark, hs]
      · rw [if_neg hs] at hgo
        have hs' : (l[m + 1].slot == t) = false := by simpa using hs
        have hz : seen 0 l[m + 1].frm = false := by
          simp only [seen, Int.zero_fdiv]
          rfl
        have hq' : (bitsV BinOp.and IntKind.u32 0 1 == 1) = false := rfl
        rw [hz, Bool.not_false, Bool.true_and] at hgo
        repeat (first
          | (refine Tri.seq fun K hK => ?_)
          | (refine Tri.region ?_; simp [upd, hn, h9, h0, h1, h5, h6, h11, h10, hk, ha, hs', hf2, hq', bne, hm, hw, hb', hp, hp0])
          | (refine Tri.draw (by kernel_rfl) (by decide +kernel) ?_; simp [upd, hn, h9, h0, h1, h5, h6, h11, h10, hk, ha, hs', hf2, hq', bne, hm, hw, hb', hp, hp0])
          | (refine Tri.draw2 [] [0, 1, 2, 3] [] [] (by kernel_rfl) (by kernel_rfl) (by decide) (by rfl) (by decide +kernel) ?_; simp [upd, hn, h9, h0, h1, h5, h6, h11, h10, hk, ha, hs', hf2, hq', bne, hm, hw, hb', hp, hp0])
          | (refine Tri.cond_true ?_ ?_; (focus simp [upd, hn, h9, h0, h1, h5, h6, h11, h10, hk, ha, hs', hf2, hq', bne, hm, hw, hb', hp, hp0]; done))
          | (refine Tri.cond_false ?_ ?_; (focus simp [upd, hn, h9, h0, h1, h5, h6, h11, h10, hk, ha, hs', hf2, hq', bne, hm, hw, hb', hp, hp0]; done))
          | (refine Tri.skip ?_; simp only [thenS, blockS])
          | (refine Tri.block_seq ?_)
          | (refine Tri.block_region ?_)
          | (refine Tri.block_cond ?_)
          | ((with_reducible refine CallK.pure (attOk_does _ _) (Wks.refl _) ?_); simp [upd, hn, h9, h0, h1, h5, h6, h11, h10, hk, ha, hs', hf2, hq', bne, hm, hw, hb', hp, hp0])
          | ((with_reducible refine CallK.pure (cmpA_does _ _) (Wks.refl _) ?_); simp [upd, hn, h9, h0, h1, h5, h6, h11, h10, hk, ha, hs', hf2, hq', bne, hm, hw, hb', hp, hp0])
          | (refine Tri.exit ?_; simp [upd, hn, h9, h0, h1, h5, h6, h11, h10, hk, ha, hs', hf2, hq', bne, hm, hw, hb', hp, hp0]; first | (rename ∀ st, Tri _ _ _ st _ → _ => hK; first | (apply hK; clear hK) | (clear hK; rename ∀ st, Tri _ _ _ st _ → _ => hK; first | (apply hK; clear hK) | (clear hK; rename ∀ st, Tri _ _ _ st _ → _ => hK; first | (apply hK; clear hK) | (clear hK; rename ∀ st, Tri _ _ _ st _ → _ => hK; first | (apply hK; clear hK) | (clear hK; rename ∀ st, Tri _ _ _ st _ → _ => hK; first | (apply hK; clear hK) | (clear hK; rename ∀ st, Tri _ _ _ st _ → _ => hK; apply hK; clear hK)))))) | skip)
          | (intro β)
          | (rename ∀ st, Tri _ _ _ st _ → _ => hK; apply hK; clear hK))
        rw [hgo]
        simp [mark, hs]
  · rintro st ⟨h9, h0, h1, s, t, h5, h6, hgo⟩ hn
    rw [List.drop_length] at hgo
    apply hK
    repeat (first
      | (refine Tri.seq fun K hK => ?_)
      | (refine Tri.region ?_; simp [upd, hn, h5])
      | (refine Tri.draw (by kernel_rfl) (by decide +kernel) ?_; simp [upd, hn, h5])
      | (refine Tri.cond_true ?_ ?_; (focus simp [upd, hn, h5]; done))
      | (refine Tri.cond_false ?_ ?_; (focus simp [upd, hn, h5]; done))
      | (refine Tri.skip ?_; simp only [thenS, blockS])
      | (refine Tri.block_seq ?_)
      | (refine Tri.block_region ?_)
      | (refine Tri.block_cond ?_)
      | (refine Tri.exit ?_; simp [upd, hn, h5]; first | (rename ∀ st, Tri _ _ _ st _ → _ => hK; first | (apply hK; clear hK) | (clear hK; rename ∀ st, Tri _ _ _ st _ → _ => hK; first | (apply hK; clear hK) | (clear hK; rename ∀ st, Tri _ _ _ st _ → _ => hK; first | (apply hK; clear hK) | (clear hK; rename ∀ st, Tri _ _ _ st _ → _ => hK; first | (apply hK; clear hK) | (clear hK; rename ∀ st, Tri _ _ _ st _ → _ => hK; first | (apply hK; clear hK) | (clear hK; rename ∀ st, Tri _ _ _ st _ → _ => hK; apply hK; clear hK)))))) | skip)
      | (intro β)
      | (rename ∀ st, Tri _ _ _ st _ → _ => hK; apply hK; clear hK))
    rw [hgo]
    refine Tri.ret ⟨_, rfl, ?_⟩
    simp [upd]
    exact Wk.refl _
end Go.Proofs.Ytcohdlochpjnjaa
end
section
open Go Go.Vm
namespace Go.Proofs.Ytcohdlochpjnjaa
set_option maxRecDepth 100000
set_option linter.unusedSimpArgs false
attribute [local irreducible] Tri Does DoesB
def beforesD (p : Option Del) (d : Del) : Bool := match p with
  | none => true
  | some q => decide (orI [cmpI q.slot d.slot, cmpI q.flow d.flow] < 0)
def delsGo (slots : Int) : Option Del → List Del → Bool
  | _, [] => true
  | p, d :: r => belowB d.flow 256 && (belowB d.frame 1048576 && (belowB d.slot slots && (beforesD p d && delsGo slots (some d) r)))
def checkB (r : Rec) : Bool := decide (0 ≤ r.slots) && (decide (r.slots ≤ 4096) && (decide (r.atts.length ≤ 65536) && (decide (r.dels.length ≤ 65536) && (attsGo r.slots none 0 (-1) r.atts && delsGo r.slots none r.dels))))
def check (r : Rec) : Int := if checkB r = true then 0 else 1
theorem or2_does (a b : Int) : Does Try.prog 46 [.c (.sl false 1 none [[.int .i64 a], [.int .i64 b]])] (.c (.int .i64 (orI [a, b]))) := or_does [a, b] false (by simp)
theorem check_does (r : Rec) : Does Try.prog 18 [.agg (recC r)] (.c (.int .i64 (check r))) := by
  refine Does.of_body Try.func18 rfl (by kernel_rfl) rfl rfl (by simp) ?_
  intro E
  unfold recC
  by_cases g1 : r.slots < 0
  · have e : check r = 1 := by simp [check, checkB, show ¬ 0 ≤ r.slots by omega]
    rw [e]
    repeat (first
      | (refine Tri.seq fun K hK => ?_)
      | (refine Tri.region ?_; simp [upd, g1])
      | (refine Tri.draw (by kernel_rfl) (by decide +kernel) ?_; simp [upd, g1])
      | (refine Tri.cond_true ?_ ?_; (focus simp [upd, g1]; done))
      | (refine Tri.cond_false ?_ ?_; (focus simp [upd, g1]; done))
      | (refine Tri.skip ?_; simp only [thenS, blockS])
      | (refine Tri.block_seq ?_)
      | (refine Tri.block_region ?_)
      | (refine Tri.block_cond ?_)
      | (refine Tri.exit ?_; simp [upd, g1]; first | (rename ∀ st, Tri _ _ _ st _ → _ => hK; first | (apply hK; clear hK) | (clear hK; rename ∀ st, Tri _ _ _ st _ → _ => hK; first | (apply hK; clear hK) | (clear hK; rename ∀ st, Tri _ _ _ st _ → _ => hK; first | (apply hK; clear hK) | (clear hK; rename ∀ st, Tri _ _ _ st _ → _ => hK; first | (apply hK; clear hK) | (clear hK; rename ∀ st, Tri _ _ _ st _ → _ => hK; first | (apply hK; clear hK) | (clear hK; rename ∀ st, Tri _ _ _ st _ → _ => hK; apply hK; clear hK)))))) | skip)
      | (intro β)
      | (rename ∀ st, Tri _ _ _ st _ → _ => hK; apply hK; clear hK))
    refine Tri.ret ⟨_, rfl, ?_⟩
    simp [upd]
    exact Wk.refl _
  by_cases g2 : 4096 < r.slots
  · have e : check r = 1 := by simp [check, checkB, show ¬ r.slots ≤ 4096 by omega]
    rw [e]
    repeat (first
      | (refine Tri.seq fun K hK => ?_)
      | (refine Tri.region ?_; simp [upd, g1, g2])
      | (refine Tri.draw (by kernel_rfl) (by decide +kernel) ?_; simp [upd, g1, g2])
      | (refine Tri.cond_true ?_ ?_; (focus simp [upd, g1, g2]; done))
      | (refine Tri.cond_false ?_ ?_; (focus simp [upd, g1, g2]; done))
      | (refine Tri.skip ?_; simp only [thenS, blockS])
      | (refine Tri.block_seq ?_)
      | (refine Tri.block_region ?_)
      | (refine Tri.block_cond ?_)
      | (refine Tri.exit ?_; simp [upd, g1, g2]; first | (rename ∀ st, Tri _ _ _ st _ → _ => hK; first | (apply hK; clear hK) | (clear hK; rename ∀ st, Tri _ _ _ st _ → _ => hK; first | (apply hK; clear hK) | (clear hK; rename ∀ st, Tri _ _ _ st _ → _ => hK; first | (apply hK; clear hK) | (clear hK; rename ∀ st, Tri _ _ _ st _ → _ => hK; first | (apply hK; clear hK) | (clear hK; rename ∀ st, Tri _ _ _ st _ → _ => hK; first | (apply hK; clear hK) | (clear hK; rename ∀ st, Tri _ _ _ st _ → _ => hK; apply hK; clear hK)))))) | skip)
      | (intro β)
      | (rename ∀ st, Tri _ _ _ st _ → _ => hK; apply hK; clear hK))
    refine Tri.ret ⟨_, rfl, ?_⟩
    simp [upd]
    exact Wk.refl _
  by_cases g3 : (65536 : Int) < (r.atts.length : Int)
  · have e : check r = 1 := by simp [check, checkB, show ¬ r.atts.length ≤ 65536 by omega]
    rw [e]
    repeat (first
      | (refine Tri.seq fun K hK => ?_)
      | (refine Tri.region ?_; simp [upd, g1, g2, g3])
      | (refine Tri.draw (by kernel_rfl) (by decide +kernel) ?_; simp [upd, g1, g2, g3])
      | (refine Tri.cond_true ?_ ?_; (focus simp [upd, g1, g2, g3]; done))
      | (refine Tri.cond_false ?_ ?_; (focus simp [upd, g1, g2, g3]; done))
      | (refine Tri.skip ?_; simp only [thenS, blockS])
      | (refine Tri.block_seq ?_)
      | (refine Tri.block_region ?_)
      | (refine Tri.block_cond ?_)
      | (refine Tri.exit ?_; simp [upd, g1, g2, g3]; first | (rename ∀ st, Tri _ _ _ st _ → _ => hK; first | (apply hK; clear hK) | (clear hK; rename ∀ st, Tri _ _ _ st _ → _ => hK; first | (apply hK; clear hK) | (clear hK; rename ∀ st, Tri _ _ _ st _ → _ => hK; first | (apply hK; clear hK) | (clear hK; rename ∀ st, Tri _ _ _ st _ → _ => hK; first | (apply hK; clear hK) | (clear hK; rename ∀ st, Tri _ _ _ st _ → _ => hK; first | (apply hK; clear hK) | (clear hK; rename ∀ st, Tri _ _ _ st _ → _ => hK; apply hK; clear hK)))))) | skip)
      | (intro β)
      | (rename ∀ st, Tri _ _ _ st _ → _ => hK; apply hK; clear hK))
    refine Tri.ret ⟨_, rfl, ?_⟩
    simp [upd]
    exact Wk.refl _
  by_cases g4 : (65536 : Int) < (r.dels.length : Int)
  · have e : check r = 1 := by simp [check, checkB, show ¬ r.dels.length ≤ 65536 by omega]
    rw [e]
    repeat (first
      | (refine Tri.seq fun K hK => ?_)
      | (refine Tri.region ?_; simp [upd, g1, g2, g3, g4])
      | (refine Tri.draw (by kernel_rfl) (by decide +kernel) ?_; simp [upd, g1, g2, g3, g4])
      | (refine Tri.cond_true ?_ ?_; (focus simp [upd, g1, g2, g3, g4]; done))
      | (refine Tri.cond_false ?_ ?_; (focus simp [upd, g1, g2, g3, g4]; done))
      | (refine Tri.skip ?_; simp only [thenS, blockS])
      | (refine Tri.block_seq ?_)
      | (refine Tri.block_region ?_)
      | (refine Tri.block_cond ?_)
      | (refine Tri.exit ?_; simp [upd, g1, g2, g3, g4]; first | (rename ∀ st, Tri _ _ _ st _ → _ => hK; first | (apply hK; clear hK) | (clear hK; rename ∀ st, Tri _ _ _ st _ → _ => hK; first | (apply hK; clear hK) | (clear hK; rename ∀ st, Tri _ _ _ st _ → _ => hK; first | (apply hK; clear hK) | (clear hK; rename ∀ st, Tri _ _ _ st _ → _ => hK; first | (apply hK; clear hK) | (clear hK; rename ∀ st, Tri _ _ _ st _ → _ => hK; first | (apply hK; clear hK) | (clear hK; rename ∀ st, Tri _ _ _ st _ → _ => hK; apply hK; clear hK)))))) | skip)
      | (intro β)
      | (rename ∀ st, Tri _ _ _ st _ → _ => hK; apply hK; clear hK))
    refine Tri.ret ⟨_, rfl, ?_⟩
    simp [upd]
    exact Wk.refl _
  cases g5 : attsGo r.slots none 0 (-1) r.atts
  case false =>
    have e : check r = 1 := by simp [check, checkB, g5]
    rw [e]
    repeat (first
      | (refine Tri.seq fun K hK => ?_)
      | (refine Tri.region ?_; simp [upd, g1, g2, g3, g4, g5])
      | (refine Tri.draw (by kernel_rfl) (by decide +kernel) ?_; simp [upd, g1, g2, g3, g4, g5])
      | (refine Tri.cond_true ?_ ?_; (focus simp [upd, g1, g2, g3, g4, g5]; done))
      | (refine Tri.cond_false ?_ ?_; (focus simp [upd, g1, g2, g3, g4, g5]; done))
      | (refine Tri.skip ?_; simp only [thenS, blockS])
      | (refine Tri.block_seq ?_)
      | (refine Tri.block_region ?_)
      | (refine Tri.block_cond ?_)
      | ((with_reducible refine CallK.pure (attempts2_does _ _ _ (by omega)) (Wks.refl _) ?_); simp [upd, g1, g2, g3, g4, g5])
      | (refine Tri.exit ?_; simp [upd, g1, g2, g3, g4, g5]; first | (rename ∀ st, Tri _ _ _ st _ → _ => hK; first | (apply hK; clear hK) | (clear hK; rename ∀ st, Tri _ _ _ st _ → _ => hK; first | (apply hK; clear hK) | (clear hK; rename ∀ st, Tri _ _ _ st _ → _ => hK; first | (apply hK; clear hK) | (clear hK; rename ∀ st, Tri _ _ _ st _ → _ => hK; first | (apply hK; clear hK) | (clear hK; rename ∀ st, Tri _ _ _ st _ → _ => hK; first | (apply hK; clear hK) | (clear hK; rename ∀ st, Tri _ _ _ st _ → _ => hK; apply hK; clear hK)))))) | skip)
      | (intro β)
      | (rename ∀ st, Tri _ _ _ st _ → _ => hK; apply hK; clear hK))
    refine Tri.ret ⟨_, rfl, ?_⟩
    simp [upd]
    exact Wk.refl _
  have e0 : check r = if delsGo r.slots none r.dels = true then 0 else 1 := by
    simp [check, checkB, g5, show 0 ≤ r.slots by omega, show r.slots ≤ 4096 by omega, show r.atts.length ≤ 65536 by omega, show r.dels.length ≤ 65536 by omega]
  rw [e0]
  repeat (first
    | (refine Tri.seq fun K hK => ?_)
    | (refine Tri.region ?_; simp [upd, g1, g2, g3, g4, g5])
    | (refine Tri.draw (by kernel_rfl) (by decide +kernel) ?_; simp [upd, g1, g2, g3, g4, g5])
    | (refine Tri.cond_true ?_ ?_; (focus simp [upd, g1, g2, g3, g4, g5]; done))
    | (refine Tri.cond_false ?_ ?_; (focus simp [upd, g1, g2, g3, g4, g5]; done))
    | (refine Tri.skip ?_; simp only [thenS, blockS])
    | (refine Tri.block_seq ?_)
    | (refine Tri.block_region ?_)
    | (refine Tri.block_cond ?_)
    | ((with_reducible refine CallK.pure (attempts2_does _ _ _ (by omega)) (Wks.refl _) ?_); simp [upd, g1, g2, g3, g4, g5])
    | (refine Tri.exit ?_; simp [upd, g1, g2, g3, g4, g5]; first | (rename ∀ st, Tri _ _ _ st _ → _ => hK; first | (apply hK; clear hK) | (clear hK; rename ∀ st, Tri _ _ _ st _ → _ => hK; first | (apply hK; clear hK) | (clear hK; rename ∀ st, Tri _ _ _ st _ → _ => hK; first | (apply hK; clear hK) | (clear hK; rename ∀ st, Tri _ _ _ st _ → _ => hK; first | (apply hK; clear hK) | (clear hK; rename ∀ st, Tri _ _ _ st _ → _ => hK; first | (apply hK; clear hK) | (clear hK; rename ∀ st, Tri _ _ _ st _ → _ => hK; apply hK; clear hK)))))) | skip)
    | (intro β)
    | (rename ∀ st, Tri _ _ _ st _ → _ => hK; apply hK; clear hK))
  refine Tri.range 39 38 40 89 90 rfl rfl r.dels.length (fun k st => ∃ b1 b3, st.sl 1 = .c (.box 1 b1 0) ∧ st.bx 1 = some (b1, [.int .i64 r.slots, .sl r.an 8 none (r.atts.map attC), .sl r.dn 3 none (r.dels.map delC)]) ∧
      st.sl 3 = .c (.box 3 b3 0) ∧ st.bx 3 = some (b3, [.sl r.an 8 none (r.atts.map attC), .sl r.dn 3 none (r.dels.map delC)]) ∧ st.sl 37 = .c (.sl r.dn 3 none (r.dels.map delC)) ∧
      delsGo r.slots none r.dels = delsGo r.slots (if k = 0 then none else r.dels[k-1]?) (r.dels.drop k)) (by simp) (by omega) ?_ rfl (by simp [upd]) (by simp [upd]) ?_ ?_ ?_
  · rintro k st t v ht ⟨b1, b3, a1, a2, a3, a4, a5, a6⟩
    rcases ht with rfl | rfl | rfl <;> exact ⟨b1, b3, by simpa [upd] using a1, by simpa using a2, by simpa [upd] using a3, by simpa using a4, by simpa [upd] using a5, a6⟩
  · simp [upd]
  · rintro k st hk ⟨b1, b3, a1, a2, a3, a4, a5, hgo⟩ hn h39 h38
    have hd : r.dels.drop k = r.dels[k] :: r.dels.drop (k + 1) := List.drop_eq_getElem_cons hk
    rw [hd, delsGo] at hgo
    cases c1 : belowB r.dels[k].flow 256
    case false =>
      rw [c1, Bool.false_and] at hgo
      have hz : (if delsGo r.slots none r.dels = true then (0 : Int) else 1) = 1 := by rw [hgo]; rfl
      rw [hz]
      repeat (first
        | (refine Tri.seq fun K hK => ?_)
        | (refine Tri.region ?_; simp [upd, hn, a1, a2, a3, a4, a5, h39, h38, hk, c1])
        | (refine Tri.draw (by kernel_rfl) (by decide +kernel) ?_; simp [upd, hn, a1, a2, a3, a4, a5, h39, h38, hk, c1])
        | (refine Tri.cond_true ?_ ?_; (focus simp [upd, hn, a1, a2, a3, a4, a5, h39, h38, hk, c1]; done))
        | (refine Tri.cond_false ?_ ?_; (focus simp [upd, hn, a1, a2, a3, a4, a5, h39, h38, hk, c1]; done))
        | (refine Tri.skip ?_; simp only [thenS, blockS])
        | (refine Tri.block_seq ?_)
        | (refine Tri.block_region ?_)
        | (refine Tri.block_cond ?_)
        | ((with_reducible refine CallK.pure (below_does _ _) (Wks.refl _) ?_); simp [upd, hn, a1, a2, a3, a4, a5, h39, h38, hk, c1])
        | (refine Tri.exit ?_; simp [upd, hn, a1, a2, a3, a4, a5, h39, h38, hk, c1]; first | (rename ∀ st, Tri _ _ _ st _ → _ => hK; first | (apply hK; clear hK) | (clear hK; rename ∀ st, Tri _ _ _ st _ → _ => hK; first | (apply hK; clear hK) | (clear hK; rename ∀ st, Tri _ _ _ st _ → _ => hK; first | (apply hK; clear hK) | (clear hK; rename ∀ st, Tri _ _ _ st _ → _ => hK; first | (apply hK; clear hK) | (clear hK; rename ∀ st, Tri _ _ _ st _ → _ => hK; first | (apply hK; clear hK) | (clear hK; rename ∀ st, Tri _ _ _ st _ → _ => hK; apply hK; clear hK)))))) | skip)
        | (intro β)
        | (rename ∀ st, Tri _ _ _ st _ → _ => hK; apply hK; clear hK))
      refine Tri.ret ⟨_, rfl, ?_⟩
      simp [upd]
      exact Wk.refl _
    cases c2 : belowB r.dels[k].frame 1048576
    case false =>
      rw [c1, c2, Bool.true_and, Bool.false_and] at hgo
      have hz : (if delsGo r.slots none r.dels = true then (0 : Int) else 1) = 1 := by rw [hgo]; rfl
      rw [hz]
      repeat (first
        | (refine Tri.seq fun K hK => ?_)
        | (refine Tri.region ?_; simp [upd, hn, a1, a2, a3, a4, a5, h39, h38, hk, c1, c2])
        | (refine Tri.draw (by kernel_rfl) (by decide +kernel) ?_; simp [upd, hn, a1, a2, a3, a4, a5, h39, h38, hk, c1, c2])
        | (refine Tri.cond_true ?_ ?_; (focus simp [upd, hn, a1, a2, a3, a4, a5, h39, h38, hk, c1, c2]; done))
        | (refine Tri.cond_false ?_ ?_; (focus simp [upd, hn, a1, a2, a3, a4, a5, h39, h38, hk, c1, c2]; done))
        | (refine Tri.skip ?_; simp only [thenS, blockS])
        | (refine Tri.block_seq ?_)
        | (refine Tri.block_region ?_)
        | (refine Tri.block_cond ?_)
        | ((with_reducible refine CallK.pure (below_does _ _) (Wks.refl _) ?_); simp [upd, hn, a1, a2, a3, a4, a5, h39, h38, hk, c1, c2])
        | (refine Tri.exit ?_; simp [upd, hn, a1, a2, a3, a4, a5, h39, h38, hk, c1, c2]; first | (rename ∀ st, Tri _ _ _ st _ → _ => hK; first | (apply hK; clear hK) | (clear hK; rename ∀ st, Tri _ _ _ st _ → _ => hK; first | (apply hK; clear hK) | (clear hK; rename ∀ st, Tri _ _ _ st _ → _ => hK; first | (apply hK; clear hK) | (clear hK; rename ∀ st, Tri _ _ _ st _ → _ => hK; first | (apply hK; clear hK) | (clear hK; rename ∀ st, Tri _ _ _ st _ → _ => hK; first | (apply hK; clear hK) | (clear hK; rename ∀ st, Tri _ _ _ st _ → _ => hK; apply hK; clear hK)))))) | skip)
        | (intro β)
        | (rename ∀ st, Tri _ _ _ st _ → _ => hK; apply hK; clear hK))
      refine Tri.ret ⟨_, rfl, ?_⟩
      simp [upd]
      exact Wk.refl _
    cases c3 : belowB r.dels[k].slot r.slots
    case false =>
      rw [c1, c2, c3, Bool.true_and, Bool.true_and, Bool.false_and] at hgo
      have hz : (if delsGo r.slots none r.dels = true then (0 : Int) else 1) = 1 := by rw [hgo]; rfl
      rw [hz]
      repeat (first
        | (refine Tri.seq fun K hK => ?_)
        | (refine Tri.region ?_; simp [upd, hn, a1, a2, a3, a4, a5, h39, h38, hk, c1, c2, c3])
        | (refine Tri.draw (by kernel_rfl) (by decide +kernel) ?_; simp [upd, hn, a1, a2, a3, a4, a5, h39, h38, hk, c1, c2, c3])
        | (refine Tri.cond_true ?_ ?_; (focus simp [upd, hn, a1, a2, a3, a4, a5, h39, h38, hk, c1, c2, c3]; done))
        | (refine Tri.cond_false ?_ ?_; (focus simp [upd, hn, a1, a2, a3, a4, a5, h39, h38, hk, c1, c2, c3]; done))
        | (refine Tri.skip ?_; simp only [thenS, blockS])
        | (refine Tri.block_seq ?_)
        | (refine Tri.block_region ?_)
        | (refine Tri.block_cond ?_)
        | ((with_reducible refine CallK.pure (below_does _ _) (Wks.refl _) ?_); simp [upd, hn, a1, a2, a3, a4, a5, h39, h38, hk, c1, c2, c3])
        | (refine Tri.exit ?_; simp [upd, hn, a1, a2, a3, a4, a5, h39, h38, hk, c1, c2, c3]; first | (rename ∀ st, Tri _ _ _ st _ → _ => hK; first | (apply hK; clear hK) | (clear hK; rename ∀ st, Tri _ _ _ st _ → _ => hK; first | (apply hK; clear hK) | (clear hK; rename ∀ st, Tri _ _ _ st _ → _ => hK; first | (apply hK; clear hK) | (clear hK; rename ∀ st, Tri _ _ _ st _ → _ => hK; first | (apply hK; clear hK) | (clear hK; rename ∀ st, Tri _ _ _ st _ → _ => hK; first | (apply hK; clear hK) | (clear hK; rename ∀ st, Tri _ _ _ st _ → _ => hK; apply hK; clear hK)))))) | skip)
        | (intro β)
        | (rename ∀ st, Tri _ _ _ st _ → _ => hK; apply hK; clear hK))
      refine Tri.ret ⟨_, rfl, ?_⟩
      simp [upd]
      exact Wk.refl _
    rw [c1, c2, c3, Bool.true_and, Bool.true_and, Bool.true_and] at hgo
    cases k with
    | zero =>
      simp only [if_true, beforesD, Bool.true_and] at hgo
      rw [hgo]
      repeat (first
        | (refine Tri.seq fun K hK => ?_)
        | (refine Tri.region ?_; simp [upd, hn, a1, a2, a3, a4, a5, h39, h38, hk, c1, c2, c3])
        | (refine Tri.draw (by kernel_rfl) (by decide +kernel) ?_; simp [upd, hn, a1, a2, a3, a4, a5, h39, h38, hk, c1, c2, c3])
        | (refine Tri.cond_true ?_ ?_; (focus simp [upd, hn, a1, a2, a3, a4, a5, h39, h38, hk, c1, c2, c3]; done))
        | (refine Tri.cond_false ?_ ?_; (focus simp [upd, hn, a1, a2, a3, a4, a5, h39, h38, hk, c1, c2, c3]; done))
        | (refine Tri.skip ?_; simp only [thenS, blockS])
        | (refine Tri.block_seq ?_)
        | (refine Tri.block_region ?_)
        | (refine Tri.block_cond ?_)
        | ((with_reducible refine CallK.pure (below_does _ _) (Wks.refl _) ?_); simp [upd, hn, a1, a2, a3, a4, a5, h39, h38, hk, c1, c2, c3])
        | ((with_reducible refine CallK.pure (compare_does _ _) (Wks.refl _) ?_); simp [upd, hn, a1, a2, a3, a4, a5, h39, h38, hk, c1, c2, c3])
        | ((with_reducible refine CallK.pure (or2_does _ _) (Wks.refl _) ?_); simp [upd, hn, a1, a2, a3, a4, a5, h39, h38, hk, c1, c2, c3])
        | (refine Tri.exit ?_; simp [upd, hn, a1, a2, a3, a4, a5, h39, h38, hk, c1, c2, c3]; first | (rename ∀ st, Tri _ _ _ st _ → _ => hK; first | (apply hK; clear hK) | (clear hK; rename ∀ st, Tri _ _ _ st _ → _ => hK; first | (apply hK; clear hK) | (clear hK; rename ∀ st, Tri _ _ _ st _ → _ => hK; first | (apply hK; clear hK) | (clear hK; rename ∀ st, Tri _ _ _ st _ → _ => hK; first | (apply hK; clear hK) | (clear hK; rename ∀ st, Tri _ _ _ st _ → _ => hK; first | (apply hK; clear hK) | (clear hK; rename ∀ st, Tri _ _ _ st _ → _ => hK; apply hK; clear hK)))))) | skip)
        | (intro β)
        | (rename ∀ st, Tri _ _ _ st _ → _ => hK; apply hK; clear hK))
      refine ⟨⟨b1, b3, ?_⟩, ?_⟩ <;> simp [upd, hn, a1, a2, a3, a4, a5, h39, h38, hk]
    | succ m =>
      have hm : m < r.dels.length := by omega
      have hw : IntKind.i64.wrap (m : Int) = m := wrap_i64 (by omega) (by omega)
      simp only [Nat.add_eq_zero_iff, Nat.one_ne_zero, and_false, if_false, Nat.add_sub_cancel, List.getElem?_eq_getElem hm, beforesD] at hgo
      have hp : (0 : Int) < (m : Int) + 1 := by omega
      have hp0 : (0 : Int) ≤ (m : Int) + 1 := by omega
      cases hb : decide (orI [cmpI r.dels[m].slot r.dels[m + 1].slot, cmpI r.dels[m].flow r.dels[m + 1].flow] < 0) <;> simp only [decide_eq_true_eq, decide_eq_false_iff_not] at hb
      case false =>
        rw [decide_eq_false hb, Bool.false_and] at hgo
        have hz : (if delsGo r.slots none r.dels = true then (0 : Int) else 1) = 1 := by rw [hgo]; rfl
        rw [hz]
        have hb' : 0 ≤ orI [cmpI r.dels[m].slot r.dels[m + 1].slot, cmpI r.dels[m].flow r.dels[m + 1].flow] := by omega
        repeat (first
          | (refine Tri.seq fun K hK => ?_)
          | (refine Tri.region ?_; simp [upd, hn, a1, a2, a3, a4, a5, h39, h38, hk, c1, c2, c3, hm, hw, hp, hp0, hb'])
          | (refine Tri.draw (by kernel_rfl) (by decide +kernel) ?_; simp [upd, hn, a1, a2, a3, a4, a5, h39, h38, hk, c1, c2, c3, hm, hw, hp, hp0, hb'])
          | (refine Tri.cond_true ?_ ?_; (focus simp [upd, hn, a1, a2, a3, a4, a5, h39, h38, hk, c1, c2, c3, hm, hw, hp, hp0, hb']; done))
          | (refine Tri.cond_false ?_ ?_; (focus simp [upd, hn, a1, a2, a3, a4, a5, h39, h38, hk, c1, c2, c3, hm, hw, hp, hp0, hb']; done))
          | (refine Tri.skip ?_; simp only [thenS, blockS])
          | (refine Tri.block_seq ?_)
          | (refine Tri.block_region ?_)
          | (refine Tri.block_cond ?_)
          | ((with_reducible refine CallK.pure (below_does _ _) (Wks.refl _) ?_); simp [upd, hn, a1, a2, a3, a4, a5, h39, h38, hk, c1, c2, c3, hm, hw, hp, hp0, hb'])
          | ((with_reducible refine CallK.pure (compare_does _ _) (Wks.refl _) ?_); simp [upd, hn, a1, a2, a3, a4, a5, h39, h38, hk, c1, c2, c3, hm, hw, hp, hp0, hb'])
          | ((with_reducible refine CallK.pure (or2_does _ _) (Wks.refl _) ?_); simp [upd, hn, a1, a2, a3, a4, a5, h39, h38, hk, c1, c2, c3, hm, hw, hp, hp0, hb'])
          | (refine Tri.exit ?_; simp [upd, hn, a1, a2, a3, a4, a5, h39, h38, hk, c1, c2, c3, hm, hw, hp, hp0, hb']; first | (rename ∀ st, Tri _ _ _ st _ → _ => hK; first | (apply hK; clear hK) | (clear hK; rename ∀ st, Tri _ _ _ st _ → _ => hK; first | (apply hK; clear hK) | (clear hK; rename ∀ st, Tri _ _ _ st _ → _ => hK; first | (apply hK; clear hK) | (clear hK; rename ∀ st, Tri _ _ _ st _ → _ => hK; first | (apply hK; clear hK) | (clear hK; rename ∀ st, Tri _ _ _ st _ → _ => hK; first | (apply hK; clear hK) | (clear hK; rename ∀ st, Tri _ _ _ st _ → _ => hK; apply hK; clear hK)))))) | skip)
          | (intro β)
          | (rename ∀ st, Tri _ _ _ st _ → _ => hK; apply hK; clear hK))
        refine Tri.ret ⟨_, rfl, ?_⟩
        simp [upd]
        exact Wk.refl _
      rw [decide_eq_true hb, Bool.true_and] at hgo
      have hb' : ¬ 0 ≤ orI [cmpI r.dels[m].slot r.dels[m + 1].slot, cmpI r.dels[m].flow r.dels[m + 1].flow] := by omega
      rw [hgo]
      repeat (first
        | (refine Tri.seq fun K hK => ?_)
        | (refine Tri.region ?_; simp [upd, hn, a1, a2, a3, a4, a5, h39, h38, hk, c1, c2, c3, hm, hw, hp, hp0, hb'])
        | (refine Tri.draw (by kernel_rfl) (by decide +kernel) ?_; simp [upd, hn, a1, a2, a3, a4, a5, h39, h38, hk, c1, c2, c3, hm, hw, hp, hp0, hb'])
        | (refine Tri.cond_true ?_ ?_; (focus simp [upd, hn, a1, a2, a3, a4, a5, h39, h38, hk, c1, c2, c3, hm, hw, hp, hp0, hb']; done))
        | (refine Tri.cond_false ?_ ?_; (focus simp [upd, hn, a1, a2, a3, a4, a5, h39, h38, hk, c1, c2, c3, hm, hw, hp, hp0, hb']; done))
        | (refine Tri.skip ?_; simp only [thenS, blockS])
        | (refine Tri.block_seq ?_)
        | (refine Tri.block_region ?_)
        | (refine Tri.block_cond ?_)
        | ((with_reducible refine CallK.pure (below_does _ _) (Wks.refl _) ?_); simp [upd, hn, a1, a2, a3, a4, a5, h39, h38, hk, c1, c2, c3, hm, hw, hp, hp0, hb'])
        | ((with_reducible refine CallK.pure (compare_does _ _) (Wks.refl _) ?_); simp [upd, hn, a1, a2, a3, a4, a5, h39, h38, hk, c1, c2, c3, hm, hw, hp, hp0, hb'])
        | ((with_reducible refine CallK.pure (or2_does _ _) (Wks.refl _) ?_); simp [upd, hn, a1, a2, a3, a4, a5, h39, h38, hk, c1, c2, c3, hm, hw, hp, hp0, hb'])
        | (refine Tri.exit ?_; simp [upd, hn, a1, a2, a3, a4, a5, h39, h38, hk, c1, c2, c3, hm, hw, hp, hp0, hb']; first | (rename ∀ st, Tri _ _ _ st _ → _ => hK; first | (apply hK; clear hK) | (clear hK; rename ∀ st, Tri _ _ _ st _ → _ => hK; first | (apply hK; clear hK) | (clear hK; rename ∀ st, Tri _ _ _ st _ → _ => hK; first | (apply hK; clear hK) | (clear hK; rename ∀ st, Tri _ _ _ st _ → _ => hK; first | (apply hK; clear hK) | (clear hK; rename ∀ st, Tri _ _ _ st _ → _ => hK; first | (apply hK; clear hK) | (clear hK; rename ∀ st, Tri _ _ _ st _ → _ => hK; apply hK; clear hK)))))) | skip)
        | (intro β)
        | (rename ∀ st, Tri _ _ _ st _ → _ => hK; apply hK; clear hK))
      refine ⟨⟨b1, b3, ?_⟩, ?_⟩ <;> simp [upd, hn, a1, a2, a3, a4, a5, h39, h38, hk]
  · rintro st ⟨b1, b3, a1, a2, a3, a4, a5, hgo⟩ hn
    rw [List.drop_length] at hgo
    apply hK
    repeat (first
      | (refine Tri.seq fun K hK => ?_)
      | (refine Tri.region ?_; simp [upd, hn])
      | (refine Tri.draw (by kernel_rfl) (by decide +kernel) ?_; simp [upd, hn])
      | (refine Tri.cond_true ?_ ?_; (focus simp [upd, hn]; done))
      | (refine Tri.cond_false ?_ ?_; (focus simp [upd, hn]; done))
      | (refine Tri.skip ?_; simp only [thenS, blockS])
      | (refine Tri.block_seq ?_)
      | (refine Tri.block_region ?_)
      | (refine Tri.block_cond ?_)
      | (refine Tri.exit ?_; simp [upd, hn]; first | (rename ∀ st, Tri _ _ _ st _ → _ => hK; first | (apply hK; clear hK) | (clear hK; rename ∀ st, Tri _ _ _ st _ → _ => hK; first | (apply hK; clear hK) | (clear hK; rename ∀ st, Tri _ _ _ st _ → _ => hK; first | (apply hK; clear hK) | (clear hK; rename ∀ st, Tri _ _ _ st _ → _ => hK; first | (apply hK; clear hK) | (clear hK; rename ∀ st, Tri _ _ _ st _ → _ => hK; first | (apply hK; clear hK) | (clear hK; rename ∀ st, Tri _ _ _ st _ → _ => hK; apply hK; clear hK)))))) | skip)
      | (intro β)
      | (rename ∀ st, Tri _ _ _ st _ → _ => hK; apply hK; clear hK))
    rw [hgo]
    refine Tri.ret ⟨_, rfl, ?_⟩
    simp [upd]
    exact Wk.refl _
end Go.Proofs.Ytcohdlochpjnjaa
end
section
open Go Go.Vm
namespace Go.Proofs.Ytcohdlochpjnjaa
set_option maxRecDepth 100000
set_option linter.unusedSimpArgs false
attribute [local irreducible] Tri Does DoesB
def Grw (st : St) (v : V) (e sz : Nat) (es : List (List C)) : Prop :=
  (es = [] ∧ ∃ n own, v = .c (.sl true n own [])) ∨ (∃ key b, v = .c (.sl false sz (some (key, b)) es) ∧ st.rw key = some (b, es.length, e, sz))
@[simp] theorem i64_bits : IntKind.i64.bits = 64 := rfl
def varI (n : Int) : List Int := if h : 128 ≤ n then bitsV .or .u8 (IntKind.u8.wrap n) 128 :: varI (n.fdiv 128) else [IntKind.u8.wrap n]
termination_by n.toNat
decreasing_by
  have : n.fdiv 128 < n := by rw [Int.fdiv_eq_ediv_of_nonneg _ (by omega)]; omega
  have : 0 ≤ n.fdiv 128 := by rw [Int.fdiv_eq_ediv_of_nonneg _ (by omega)]; omega
  omega
def B (l : List Int) : List (List C) := l.map fun x => [.int .u8 x]
@[simp] theorem B_nil : B [] = [] := rfl
@[simp] theorem B_length (l : List Int) : (B l).length = l.length := by simp [B]
theorem B_append (l r : List Int) : B (l ++ r) = B l ++ B r := by simp [B]
theorem B_eq_nil {l : List Int} : B l = [] ↔ l = [] := by simp [B]
theorem B_snoc (l : List Int) (x : Int) : B l ++ [[.int .u8 x]] = B (l ++ [x]) := by simp [B]

def WInv (cur : List Int) (n0 : Int) (ns : List Int) (nl : Bool) (k m : Nat) (st : St) : Prop :=
  ∃ n' pc, m = n'.toNat ∧ st.sl 6 = .c (.int .i64 n') ∧ Grw st (st.sl 0) 5 1 (B pc) ∧ pc ++ varI n' = cur ++ varI n0 ∧ st.n = 30 ∧
      st.sl 7 = .c (.sl nl 1 none (ns.map fun x => [.int .i64 x])) ∧ st.sl 9 = .c (.int .i64 k) ∧ st.sl 8 = .c (.int .i64 ns.length)
theorem write_body (E : Env) (st0 : St) (pre ns : List Int) (nl : Bool) (h0 : Grw st0 (st0.sl 0) 5 1 (B pre)) (h1 : st0.sl 1 = .c (.sl nl 1 none (ns.map fun x => [.int .i64 x]))) (hn0 : st0.n = 30) (hlen : (pre ++ ns.flatMap varI).length ≤ 1099511627776) (hnl : ns.length ≤ 1099511627776)
    (Q : Exit → St → Prop) (hQ : ∀ st, Grw st (st.sl 4) 5 1 (B (pre ++ ns.flatMap varI)) → Q .ret st) : Tri Try.prog E (Try.f40.body.getD .skip) st0 Q := by
  refine Tri.seq fun K hK => Tri.region ?_
  simp [hn0]
  apply hK; clear hK K
  refine Tri.seq fun K hK => ?_
  refine Tri.seq fun K1 hK1 => Tri.region ?_
  simp [hn0, upd, h1]
  apply hK1; clear hK1 K1
  refine Tri.range 9 8 10 28 30 rfl rfl ns.length (fun k st => st.sl 7 = .c (.sl nl 1 none (ns.map fun x => [.int .i64 x])) ∧ Grw st (st.sl 0) 5 1 (B (pre ++ (ns.take k).flatMap varI))) (by simp) (by omega) ?_ rfl (by simp [upd]) (by simp [upd]) ?_ ?_ ?_
  · rintro k st t v ht ⟨a1, a2⟩
    rcases ht with rfl | rfl | rfl <;> exact ⟨by simpa [upd] using a1, by simpa [upd, Grw] using a2⟩
  · simpa [upd, Grw] using h0
  · rintro k st hk ⟨a1, a2⟩ hn h9 h8
    have htk : (ns.take (k + 1)).flatMap varI = (ns.take k).flatMap varI ++ varI ns[k] := by
      rw [List.take_succ_eq_append_getElem hk, List.flatMap_append]; simp
    have hpl : (pre ++ (ns.take k).flatMap varI).length + (varI ns[k]).length ≤ 1099511627776 := by
      have : (ns.flatMap varI).length = ((ns.take k).flatMap varI).length + ((varI ns[k]).length + ((ns.drop (k + 1)).flatMap varI).length) := by
        conv => lhs; rw [← List.take_append_drop (k + 1) ns, List.flatMap_append, htk]
        simp [Nat.add_assoc]
      simp only [List.length_append] at hlen ⊢
      omega
    generalize hcur : pre ++ (ns.take k).flatMap varI = cur at a2 hpl
    generalize he : ns[k] = n0 at *
    repeat (first
      | (refine Tri.seq fun K hK => ?_)
      | (refine Tri.region ?_; simp [upd, hn, a1, h9, h8, hk, he])
      | (refine Tri.draw (by kernel_rfl) (by decide +kernel) ?_; simp [upd, hn, a1, h9, h8, hk, he])
      | (refine Tri.cond_true ?_ ?_; (focus simp [upd, hn, a1, h9, h8, hk, he]; done))
      | (refine Tri.cond_false ?_ ?_; (focus simp [upd, hn, a1, h9, h8, hk, he]; done))
      | (refine Tri.skip ?_; simp only [thenS, blockS])
      | (refine Tri.block_seq ?_)
      | (refine Tri.block_region ?_)
      | (refine Tri.block_cond ?_)
      | (refine Tri.exit ?_; simp [upd, hn, a1, h9, h8, hk, he]; first | (rename ∀ st, Tri _ _ _ st _ → _ => hK; first | (apply hK; clear hK) | (clear hK; rename ∀ st, Tri _ _ _ st _ → _ => hK; first | (apply hK; clear hK) | (clear hK; rename ∀ st, Tri _ _ _ st _ → _ => hK; first | (apply hK; clear hK) | (clear hK; rename ∀ st, Tri _ _ _ st _ → _ => hK; first | (apply hK; clear hK) | (clear hK; rename ∀ st, Tri _ _ _ st _ → _ => hK; first | (apply hK; clear hK) | (clear hK; rename ∀ st, Tri _ _ _ st _ → _ => hK; apply hK; clear hK)))))) | skip)
      | (intro β)
      | (rename ∀ st, Tri _ _ _ st _ → _ => hK; apply hK; clear hK))
    refine Tri.block (Tri.loop (WInv cur n0 ns nl k) n0.toNat ⟨n0, cur, rfl, ?_⟩ ?_)
    · simp [upd, hn, a1, h9, h8]
      simpa [Grw] using a2
    · rintro m st ⟨n', pc, rfl, b6, b0, bv, bn, b7, b9, b8⟩
      have hpc : pc.length + 1 ≤ 1099511627776 := by
        have h1 := congrArg List.length bv
        simp only [List.length_append] at h1
        have h2 : 1 ≤ (varI n').length := by rw [varI]; split <;> simp
        omega
      by_cases hge : 128 ≤ n'
      · have hv : varI n' = bitsV .or .u8 (IntKind.u8.wrap n') 128 :: varI (n'.fdiv 128) := by rw [varI, dif_pos hge]
        have hlt : ((n'.fdiv 128).toNat : Int) < n' := by
          rw [Int.fdiv_eq_ediv_of_nonneg _ (by omega)]
          omega
        rcases b0 with ⟨hnil, n2, own, b0⟩ | ⟨key, b, b0, brw⟩
        · rw [B_eq_nil] at hnil
          subst hnil
          repeat (first
            | (refine Tri.seq fun K hK => ?_)
            | (refine Tri.region ?_; simp [upd, bn, b6, b7, b9, b8, hge, b0])
            | (refine Tri.draw (by kernel_rfl) (by decide +kernel) ?_; simp [upd, bn, b6, b7, b9, b8, hge, b0])
            | (refine Tri.cond_true ?_ ?_; (focus simp [upd, bn, b6, b7, b9, b8, hge, b0]; done))
            | (refine Tri.cond_false ?_ ?_; (focus simp [upd, bn, b6, b7, b9, b8, hge, b0]; done))
            | (refine Tri.skip ?_; simp only [thenS, blockS])
            | (refine Tri.block_seq ?_)
            | (refine Tri.block_region ?_)
            | (refine Tri.block_cond ?_)
            | (refine Tri.exit ?_; simp [upd, bn, b6, b7, b9, b8, hge, b0]; first | (rename ∀ st, Tri _ _ _ st _ → _ => hK; first | (apply hK; clear hK) | (clear hK; rename ∀ st, Tri _ _ _ st _ → _ => hK; first | (apply hK; clear hK) | (clear hK; rename ∀ st, Tri _ _ _ st _ → _ => hK; first | (apply hK; clear hK) | (clear hK; rename ∀ st, Tri _ _ _ st _ → _ => hK; first | (apply hK; clear hK) | (clear hK; rename ∀ st, Tri _ _ _ st _ → _ => hK; first | (apply hK; clear hK) | (clear hK; rename ∀ st, Tri _ _ _ st _ → _ => hK; apply hK; clear hK)))))) | skip)
            | (intro β)
            | (rename ∀ st, Tri _ _ _ st _ → _ => hK; apply hK; clear hK))
          refine ⟨_, hlt, _, [bitsV .or .u8 (IntKind.u8.wrap n') 128], rfl, ?_⟩
          rw [hv] at bv
          simp [B, upd, b7, b9, b8]
          exact ⟨.inr ⟨22, β, by simp⟩, bv⟩
        · have hb : pc.length ≤ 140737488355327 := by omega
          repeat (first
            | (refine Tri.seq fun K hK => ?_)
            | (refine Tri.region ?_; simp [upd, bn, b6, b7, b9, b8, hge, b0, brw, hb])
            | (refine Tri.draw (by kernel_rfl) (by decide +kernel) ?_; simp [upd, bn, b6, b7, b9, b8, hge, b0, brw, hb])
            | (refine Tri.cond_true ?_ ?_; (focus simp [upd, bn, b6, b7, b9, b8, hge, b0, brw, hb]; done))
            | (refine Tri.cond_false ?_ ?_; (focus simp [upd, bn, b6, b7, b9, b8, hge, b0, brw, hb]; done))
            | (refine Tri.skip ?_; simp only [thenS, blockS])
            | (refine Tri.block_seq ?_)
            | (refine Tri.block_region ?_)
            | (refine Tri.block_cond ?_)
            | (refine Tri.exit ?_; simp [upd, bn, b6, b7, b9, b8, hge, b0, brw, hb]; first | (rename ∀ st, Tri _ _ _ st _ → _ => hK; first | (apply hK; clear hK) | (clear hK; rename ∀ st, Tri _ _ _ st _ → _ => hK; first | (apply hK; clear hK) | (clear hK; rename ∀ st, Tri _ _ _ st _ → _ => hK; first | (apply hK; clear hK) | (clear hK; rename ∀ st, Tri _ _ _ st _ → _ => hK; first | (apply hK; clear hK) | (clear hK; rename ∀ st, Tri _ _ _ st _ → _ => hK; first | (apply hK; clear hK) | (clear hK; rename ∀ st, Tri _ _ _ st _ → _ => hK; apply hK; clear hK)))))) | skip)
            | (intro β)
            | (rename ∀ st, Tri _ _ _ st _ → _ => hK; apply hK; clear hK))
          refine ⟨_, hlt, _, pc ++ [bitsV .or .u8 (IntKind.u8.wrap n') 128], rfl, ?_⟩
          rw [hv] at bv
          simp [upd, b7, b9, b8, B_append]
          exact ⟨.inr ⟨key, β, by simp [B]⟩, bv⟩
      · have hv : varI n' = [IntKind.u8.wrap n'] := by rw [varI, dif_neg hge]
        rw [hv] at bv
        rcases b0 with ⟨hnil, n2, own, b0⟩ | ⟨key, b, b0, brw⟩
        · rw [B_eq_nil] at hnil
          subst hnil
          repeat (first
            | (refine Tri.seq fun K hK => ?_)
            | (refine Tri.region ?_; simp [upd, bn, b6, b7, b9, b8, hge, b0])
            | (refine Tri.draw (by kernel_rfl) (by decide +kernel) ?_; simp [upd, bn, b6, b7, b9, b8, hge, b0])
            | (refine Tri.cond_true ?_ ?_; (focus simp [upd, bn, b6, b7, b9, b8, hge, b0]; done))
            | (refine Tri.cond_false ?_ ?_; (focus simp [upd, bn, b6, b7, b9, b8, hge, b0]; done))
            | (refine Tri.skip ?_; simp only [thenS, blockS])
            | (refine Tri.block_seq ?_)
            | (refine Tri.block_region ?_)
            | (refine Tri.block_cond ?_)
            | (refine Tri.exit ?_; simp [upd, bn, b6, b7, b9, b8, hge, b0]; first | (rename ∀ st, Tri _ _ _ st _ → _ => hK; first | (apply hK; clear hK) | (clear hK; rename ∀ st, Tri _ _ _ st _ → _ => hK; first | (apply hK; clear hK) | (clear hK; rename ∀ st, Tri _ _ _ st _ → _ => hK; first | (apply hK; clear hK) | (clear hK; rename ∀ st, Tri _ _ _ st _ → _ => hK; first | (apply hK; clear hK) | (clear hK; rename ∀ st, Tri _ _ _ st _ → _ => hK; first | (apply hK; clear hK) | (clear hK; rename ∀ st, Tri _ _ _ st _ → _ => hK; apply hK; clear hK)))))) | skip)
            | (intro β)
            | (rename ∀ st, Tri _ _ _ st _ → _ => hK; apply hK; clear hK))
          rw [htk, ← List.append_assoc, hcur, ← bv]
          exact .inr ⟨27, β, by simp [B], by simp [upd]⟩
        · have hb : pc.length ≤ 140737488355327 := by omega
          repeat (first
            | (refine Tri.seq fun K hK => ?_)
            | (refine Tri.region ?_; simp [upd, bn, b6, b7, b9, b8, hge, b0, brw, hb])
            | (refine Tri.draw (by kernel_rfl) (by decide +kernel) ?_; simp [upd, bn, b6, b7, b9, b8, hge, b0, brw, hb])
            | (refine Tri.cond_true ?_ ?_; (focus simp [upd, bn, b6, b7, b9, b8, hge, b0, brw, hb]; done))
            | (refine Tri.cond_false ?_ ?_; (focus simp [upd, bn, b6, b7, b9, b8, hge, b0, brw, hb]; done))
            | (refine Tri.skip ?_; simp only [thenS, blockS])
            | (refine Tri.block_seq ?_)
            | (refine Tri.block_region ?_)
            | (refine Tri.block_cond ?_)
            | (refine Tri.exit ?_; simp [upd, bn, b6, b7, b9, b8, hge, b0, brw, hb]; first | (rename ∀ st, Tri _ _ _ st _ → _ => hK; first | (apply hK; clear hK) | (clear hK; rename ∀ st, Tri _ _ _ st _ → _ => hK; first | (apply hK; clear hK) | (clear hK; rename ∀ st, Tri _ _ _ st _ → _ => hK; first | (apply hK; clear hK) | (clear hK; rename ∀ st, Tri _ _ _ st _ → _ => hK; first | (apply hK; clear hK) | (clear hK; rename ∀ st, Tri _ _ _ st _ → _ => hK; first | (apply hK; clear hK) | (clear hK; rename ∀ st, Tri _ _ _ st _ → _ => hK; apply hK; clear hK)))))) | skip)
            | (intro β)
            | (rename ∀ st, Tri _ _ _ st _ → _ => hK; apply hK; clear hK))
          rw [htk, ← List.append_assoc, hcur, ← bv]
          exact .inr ⟨key, β, by simp [B], by simp [upd]⟩
  · rintro st ⟨a1, a2⟩ hn
    rw [List.take_length] at a2
    apply hK
    repeat (first
      | (refine Tri.seq fun K hK => ?_)
      | (refine Tri.region ?_; simp [upd, hn])
      | (refine Tri.draw (by kernel_rfl) (by decide +kernel) ?_; simp [upd, hn])
      | (refine Tri.cond_true ?_ ?_; (focus simp [upd, hn]; done))
      | (refine Tri.cond_false ?_ ?_; (focus simp [upd, hn]; done))
      | (refine Tri.skip ?_; simp only [thenS, blockS])
      | (refine Tri.block_seq ?_)
      | (refine Tri.block_region ?_)
      | (refine Tri.block_cond ?_)
      | (refine Tri.exit ?_; simp [upd, hn]; first | (rename ∀ st, Tri _ _ _ st _ → _ => hK; first | (apply hK; clear hK) | (clear hK; rename ∀ st, Tri _ _ _ st _ → _ => hK; first | (apply hK; clear hK) | (clear hK; rename ∀ st, Tri _ _ _ st _ → _ => hK; first | (apply hK; clear hK) | (clear hK; rename ∀ st, Tri _ _ _ st _ → _ => hK; first | (apply hK; clear hK) | (clear hK; rename ∀ st, Tri _ _ _ st _ → _ => hK; first | (apply hK; clear hK) | (clear hK; rename ∀ st, Tri _ _ _ st _ → _ => hK; apply hK; clear hK)))))) | skip)
      | (intro β)
      | (rename ∀ st, Tri _ _ _ st _ → _ => hK; apply hK; clear hK))
    refine Tri.ret (hQ _ ?_)
    simpa [upd, Grw] using a2
theorem varI_ne (n : Int) : varI n ≠ [] := by
  rw [varI]
  split <;> simp
theorem varIs_ne {ns : List Int} (hne : ns ≠ []) : ns.flatMap varI ≠ [] := by
  cases ns with
  | nil => exact absurd rfl hne
  | cons x r => simp [varI_ne]
theorem write_nil (n : Nat) (own : Option (Nat × Nat)) (ns : List Int) (nl : Bool) (hne : ns ≠ []) (hlen : (ns.flatMap varI).length ≤ 1099511627776) (hnl : ns.length ≤ 1099511627776) :
    DoesB Try.prog 40 [.c (.sl true n own []), .c (.sl nl 1 none (ns.map fun x => [.int .i64 x]))] [] [] (fun β => (.c (.sl false 1 (some (0, β)) (B (ns.flatMap varI))), [], [(0, β, (ns.flatMap varI).length, 5, 1)])) := by
  refine DoesB.of_body Try.func40 rfl (by kernel_rfl) rfl rfl (by simp) (fun _ => rfl) fun E => ?_
  refine write_body E _ [] ns nl (.inl ⟨rfl, n, own, rfl⟩) rfl rfl (by simpa using hlen) hnl _ fun st h => ?_
  rcases h with ⟨h, _⟩ | ⟨key, b, h1, h2⟩
  · rw [B_eq_nil, List.nil_append] at h
    exact absurd h (varIs_ne hne)
  · refine ⟨_, b, [key], rfl, ?_, trivial, ⟨by simpa using h2, trivial⟩, by simp⟩
    rw [h1]
    exact Wk.rekey _ _ _ _ _ _
theorem write_own (k0 b0 : Nat) (pre ns : List Int) (nl : Bool) (hne : ns ≠ []) (hlen : (pre ++ ns.flatMap varI).length ≤ 1099511627776) (hnl : ns.length ≤ 1099511627776) :
    DoesB Try.prog 40 [.c (.sl false 1 (some (k0, b0)) (B pre)), .c (.sl nl 1 none (ns.map fun x => [.int .i64 x]))] [] [(k0, b0, pre.length, 5, 1)] (fun β => (.c (.sl false 1 (some (0, β)) (B (pre ++ ns.flatMap varI))), [], [(0, β, (pre ++ ns.flatMap varI).length, 5, 1)])) := by
  refine DoesB.of_body Try.func40 rfl (by kernel_rfl) rfl rfl (by simp) (fun _ => rfl) fun E => ?_
  refine write_body E _ pre ns nl (.inr ⟨k0, b0, rfl, by simp⟩) rfl rfl hlen hnl _ fun st h => ?_
  rcases h with ⟨h, n, own, h1⟩ | ⟨key, b, h1, h2⟩
  · rw [B_eq_nil, List.append_eq_nil_iff] at h
    exact absurd h.2 (varIs_ne hne)
  · refine ⟨_, b, [key], rfl, ?_, trivial, ⟨by simpa using h2, trivial⟩, by simp⟩
    rw [h1]
    exact Wk.rekey _ _ _ _ _ _
end Go.Proofs.Ytcohdlochpjnjaa
end
section
open Go Go.Vm
namespace Go.Proofs.Ytcohdlochpjnjaa
set_option maxRecDepth 100000
set_option linter.unusedSimpArgs false
attribute [local irreducible] Tri Does DoesB
def i64w (n : Int) : Int := IntKind.i64.wrap n
def attNs (t : Int) (a : Att) : List Int := [i64w (a.slot - t), a.frame, a.cslot, a.off, a.frm, a.to, a.flow, a.out]
def delNs (t : Int) (d : Del) : List Int := [i64w (d.slot - t), d.flow, d.frame]
def attsEnc : Int → List Att → List Int
  | _, [] => []
  | t, a :: r => (attNs t a).flatMap varI ++ attsEnc a.slot r
def delsEnc : Int → List Del → List Int
  | _, [] => []
  | t, d :: r => (delNs t d).flatMap varI ++ delsEnc d.slot r
def encB (r : Rec) : List Int := [r.slots, (r.atts.length : Int)].flatMap varI ++ (attsEnc 0 r.atts ++ ([(r.dels.length : Int)].flatMap varI ++ delsEnc 0 r.dels))
theorem intsOf_B (l : List Int) : intsOf (B l) = some l := by
  induction l with
  | nil => rfl
  | cons x r ih => simp only [B, List.map_cons, intsOf]; rw [show intsOf (r.map fun x => [C.int .u8 x]) = some r from ih]; rfl
def restE (r : Rec) : List Int := [(r.dels.length : Int)].flatMap varI ++ delsEnc 0 r.dels
def EInv1 (r : Rec) (k : Nat) (st : St) : Prop := ∃ b1 b cur t, st.sl 1 = .c (.box 1 b1 0) ∧ st.bx 1 = some (b1, [.int .i64 r.slots, .sl r.an 8 none (r.atts.map attC), .sl r.dn 3 none (r.dels.map delC)]) ∧
  st.sl 26 = .c (.sl r.an 8 none (r.atts.map attC)) ∧ st.sl 5 = .c (.sl false 1 (some (100, b)) (B cur)) ∧ st.rw 100 = some (b, cur.length, 5, 1) ∧ st.sl 6 = .c (.int .i64 t) ∧ cur ++ (attsEnc t (r.atts.drop k) ++ restE r) = encB r
def EInv2 (r : Rec) (k : Nat) (st : St) : Prop := ∃ b cur t, 
  st.sl 70 = .c (.sl r.dn 3 none (r.dels.map delC)) ∧ st.sl 5 = .c (.sl false 1 (some (100, b)) (B cur)) ∧ st.rw 100 = some (b, cur.length, 5, 1) ∧ st.sl 6 = .c (.int .i64 t) ∧ cur ++ delsEnc t (r.dels.drop k) = encB r
theorem check_lens {r : Rec} (h : check r = 0) : r.atts.length ≤ 65536 ∧ r.dels.length ≤ 65536 := by
  unfold check at h
  split at h
  · rename_i h2; simp only [checkB, Bool.and_eq_true, decide_eq_true_eq] at h2; exact ⟨h2.2.2.1, h2.2.2.2.1⟩
  · cases h
theorem encode_does (r : Rec) (hb : check r = 0 → (encB r).length ≤ 1099511627776) : Does Try.prog 14 [.agg (recC r)] (if check r = 0 then .tup [.c (.str (bytesOf (encB r))), .c (.int .i64 0)] else .tup [.c (.str ⟨#[]⟩), .c (.int .i64 (check r))]) := by
  have hck := check_does r
  by_cases hc : check r = 0
  case neg =>
    rw [if_neg hc]
    refine Does.of_body Try.func14 rfl (by kernel_rfl) rfl rfl (by simp) ?_
    intro E
    simp only [recC] at hck ⊢
    repeat (first
      | (refine Tri.seq fun K hK => ?_)
      | (refine Tri.region ?_; simp [upd, hc])
      | (refine Tri.draw (by kernel_rfl) (by decide +kernel) ?_; simp [upd, hc])
      | (refine Tri.cond_true ?_ ?_; (focus simp [upd, hc]; done))
      | (refine Tri.cond_false ?_ ?_; (focus simp [upd, hc]; done))
      | (refine Tri.skip ?_; simp only [thenS, blockS])
      | (refine Tri.block_seq ?_)
      | (refine Tri.block_region ?_)
      | (refine Tri.block_cond ?_)
      | ((with_reducible refine CallK.pure (hck) (Wks.refl _) ?_); simp [upd, hc])
      | (refine Tri.exit ?_; simp [upd, hc]; first | (rename ∀ st, Tri _ _ _ st _ → _ => hK; first | (apply hK; clear hK) | (clear hK; rename ∀ st, Tri _ _ _ st _ → _ => hK; first | (apply hK; clear hK) | (clear hK; rename ∀ st, Tri _ _ _ st _ → _ => hK; first | (apply hK; clear hK) | (clear hK; rename ∀ st, Tri _ _ _ st _ → _ => hK; first | (apply hK; clear hK) | (clear hK; rename ∀ st, Tri _ _ _ st _ → _ => hK; first | (apply hK; clear hK) | (clear hK; rename ∀ st, Tri _ _ _ st _ → _ => hK; apply hK; clear hK)))))) | skip)
      | (intro β)
      | (rename ∀ st, Tri _ _ _ st _ → _ => hK; apply hK; clear hK))
    refine Tri.ret ⟨_, rfl, ?_⟩
    simp [upd]
    exact Wk.refl _
  rw [if_pos hc]
  have hb := hb hc
  refine Does.of_body Try.func14 rfl (by kernel_rfl) rfl rfl (by simp) ?_
  intro E
  rw [hc] at hck
  simp only [recC] at hck ⊢
  have w1 := write_nil 0 none [r.slots, (r.atts.length : Int)] false (by simp) (by simp [encB] at hb ⊢; omega) (by simp)
  simp only [List.map] at w1
  repeat (first
    | (refine Tri.seq fun K hK => ?_)
    | (refine Tri.region ?_; simp [upd, hc])
    | (refine Tri.draw (by kernel_rfl) (by decide +kernel) ?_; simp [upd, hc])
    | (refine Tri.cond_true ?_ ?_; (focus simp [upd, hc]; done))
    | (refine Tri.cond_false ?_ ?_; (focus simp [upd, hc]; done))
    | (refine Tri.skip ?_; simp only [thenS, blockS])
    | (refine Tri.block_seq ?_)
    | (refine Tri.block_region ?_)
    | (refine Tri.block_cond ?_)
    | ((with_reducible refine CallK.pure (hck) (Wks.refl _) ?_); simp [upd, hc])
    | ((with_reducible refine CallK.row0 100 w1 (Wks.refl _) ?_); intro β; simp [upd, hc])
    | (refine Tri.exit ?_; simp [upd, hc]; first | (rename ∀ st, Tri _ _ _ st _ → _ => hK; first | (apply hK; clear hK) | (clear hK; rename ∀ st, Tri _ _ _ st _ → _ => hK; first | (apply hK; clear hK) | (clear hK; rename ∀ st, Tri _ _ _ st _ → _ => hK; first | (apply hK; clear hK) | (clear hK; rename ∀ st, Tri _ _ _ st _ → _ => hK; first | (apply hK; clear hK) | (clear hK; rename ∀ st, Tri _ _ _ st _ → _ => hK; first | (apply hK; clear hK) | (clear hK; rename ∀ st, Tri _ _ _ st _ → _ => hK; apply hK; clear hK)))))) | skip)
    | (intro β)
    | (rename ∀ st, Tri _ _ _ st _ → _ => hK; apply hK; clear hK))
  obtain ⟨hl1, hl2⟩ := check_lens hc
  refine Tri.range 28 27 29 60 92 rfl rfl r.atts.length (EInv1 r) (by simp) (by omega) ?_ rfl (by simp [upd]) (by simp [upd]) ?_ ?_ ?_
  · rintro k st t v ht ⟨b1, b, cur, u, a1, a2, a3, a4, a5, a6, a7⟩
    rcases ht with rfl | rfl | rfl <;> exact ⟨b1, b, cur, u, by simpa [upd] using a1, by simpa using a2, by simpa [upd] using a3, by simpa [upd] using a4, by simpa using a5, by simpa [upd] using a6, a7⟩
  · refine ⟨_, β, [r.slots, (r.atts.length : Int)].flatMap varI, 0, by simp [upd] <;> exact rfl, by simp [upd] <;> exact rfl, by simp [upd], by simp [upd], by simp [upd], by simp [upd], rfl⟩
  · rintro k st hk ⟨b1, b, cur, t, a1, a2, a3, a4, a5, a6, a7⟩ hn h28 h27
    have hd : r.atts.drop k = r.atts[k] :: r.atts.drop (k + 1) := List.drop_eq_getElem_cons hk
    rw [hd, attsEnc] at a7
    have w2 := write_own 100 b cur (attNs t r.atts[k]) false (by simp [attNs]) (by
      have := congrArg List.length a7
      simp only [List.length_append] at this ⊢
      omega) (by simp [attNs])
    simp only [attNs, List.map, i64w] at w2
    repeat (first
      | (refine Tri.seq fun K hK => ?_)
      | (refine Tri.region ?_; simp [upd, hn, h28, h27, a1, a2, a3, a4, a5, a6, hk])
      | (refine Tri.draw (by kernel_rfl) (by decide +kernel) ?_; simp [upd, hn, h28, h27, a1, a2, a3, a4, a5, a6, hk])
      | (refine Tri.cond_true ?_ ?_; (focus simp [upd, hn, h28, h27, a1, a2, a3, a4, a5, a6, hk]; done))
      | (refine Tri.cond_false ?_ ?_; (focus simp [upd, hn, h28, h27, a1, a2, a3, a4, a5, a6, hk]; done))
      | (refine Tri.skip ?_; simp only [thenS, blockS])
      | (refine Tri.block_seq ?_)
      | (refine Tri.block_region ?_)
      | (refine Tri.block_cond ?_)
      | ((with_reducible refine CallK.row1 w2 (Wks.refl _) (by simpa using a5) ?_); intro β; simp [upd, hn, h28, h27, a1, a2, a3, a4, a5, a6, hk])
      | (refine Tri.exit ?_; simp [upd, hn, h28, h27, a1, a2, a3, a4, a5, a6, hk]; first | (rename ∀ st, Tri _ _ _ st _ → _ => hK; first | (apply hK; clear hK) | (clear hK; rename ∀ st, Tri _ _ _ st _ → _ => hK; first | (apply hK; clear hK) | (clear hK; rename ∀ st, Tri _ _ _ st _ → _ => hK; first | (apply hK; clear hK) | (clear hK; rename ∀ st, Tri _ _ _ st _ → _ => hK; first | (apply hK; clear hK) | (clear hK; rename ∀ st, Tri _ _ _ st _ → _ => hK; first | (apply hK; clear hK) | (clear hK; rename ∀ st, Tri _ _ _ st _ → _ => hK; apply hK; clear hK)))))) | skip)
      | (intro β)
      | (rename ∀ st, Tri _ _ _ st _ → _ => hK; apply hK; clear hK))
    refine ⟨b1, β, cur ++ (attNs t r.atts[k]).flatMap varI, r.atts[k].slot, by simp [upd, a1], by simp [upd, a2], by simp [upd, a3], by simp [upd, attNs, i64w], by simp [upd, attNs, i64w], by simp [upd], by rw [← a7]; simp [List.append_assoc]⟩
  · rintro st ⟨b1, b, cur, t, a1, a2, a3, a4, a5, a6, a7⟩ hn
    rw [List.drop_length] at a7
    simp only [attsEnc, List.nil_append, restE] at a7
    have w2 := write_own 100 b cur [(r.dels.length : Int)] false (by simp) (by
      have := congrArg List.length a7
      simp only [List.length_append] at this ⊢
      omega) (by simp)
    simp only [List.map] at w2
    apply hK
    repeat (first
      | (refine Tri.seq fun K hK => ?_)
      | (refine Tri.region ?_; simp [upd, hn, a1, a2, a3, a4, a5, a6])
      | (refine Tri.draw (by kernel_rfl) (by decide +kernel) ?_; simp [upd, hn, a1, a2, a3, a4, a5, a6])
      | (refine Tri.cond_true ?_ ?_; (focus simp [upd, hn, a1, a2, a3, a4, a5, a6]; done))
      | (refine Tri.cond_false ?_ ?_; (focus simp [upd, hn, a1, a2, a3, a4, a5, a6]; done))
      | (refine Tri.skip ?_; simp only [thenS, blockS])
      | (refine Tri.block_seq ?_)
      | (refine Tri.block_region ?_)
      | (refine Tri.block_cond ?_)
      | ((with_reducible refine CallK.row1 w2 (Wks.refl _) (by simpa using a5) ?_); intro β; simp [upd, hn, a1, a2, a3, a4, a5, a6])
      | (refine Tri.exit ?_; simp [upd, hn, a1, a2, a3, a4, a5, a6]; first | (rename ∀ st, Tri _ _ _ st _ → _ => hK; first | (apply hK; clear hK) | (clear hK; rename ∀ st, Tri _ _ _ st _ → _ => hK; first | (apply hK; clear hK) | (clear hK; rename ∀ st, Tri _ _ _ st _ → _ => hK; first | (apply hK; clear hK) | (clear hK; rename ∀ st, Tri _ _ _ st _ → _ => hK; first | (apply hK; clear hK) | (clear hK; rename ∀ st, Tri _ _ _ st _ → _ => hK; first | (apply hK; clear hK) | (clear hK; rename ∀ st, Tri _ _ _ st _ → _ => hK; apply hK; clear hK)))))) | skip)
      | (intro β)
      | (rename ∀ st, Tri _ _ _ st _ → _ => hK; apply hK; clear hK))
    refine Tri.range 72 71 73 89 92 rfl rfl r.dels.length (EInv2 r) (by simp) (by omega) ?_ rfl (by simp [upd]) (by simp [upd]) ?_ ?_ ?_
    · rintro k st t v ht ⟨b, cur, u, a3, a4, a5, a6, a7⟩
      rcases ht with rfl | rfl | rfl <;> exact ⟨b, cur, u, by simpa [upd] using a3, by simpa [upd] using a4, by simpa using a5, by simpa [upd] using a6, a7⟩
    · refine ⟨β, cur ++ [(r.dels.length : Int)].flatMap varI, 0, by simp [upd], by simp [upd], by simp [upd], by simp [upd], by rw [← a7]; simp [List.append_assoc]⟩
    · rintro k st hk ⟨b, cur, t, a3, a4, a5, a6, a7⟩ hn h72 h71
      have hd : r.dels.drop k = r.dels[k] :: r.dels.drop (k + 1) := List.drop_eq_getElem_cons hk
      rw [hd, delsEnc] at a7
      have w2 := write_own 100 b cur (delNs t r.dels[k]) false (by simp [delNs]) (by
        have := congrArg List.length a7
        simp only [List.length_append] at this ⊢
        omega) (by simp [delNs])
      simp only [delNs, List.map, i64w] at w2
      repeat (first
        | (refine Tri.seq fun K hK => ?_)
        | (refine Tri.region ?_; simp [upd, hn, h72, h71, a3, a4, a5, a6, hk])
        | (refine Tri.draw (by kernel_rfl) (by decide +kernel) ?_; simp [upd, hn, h72, h71, a3, a4, a5, a6, hk])
        | (refine Tri.cond_true ?_ ?_; (focus simp [upd, hn, h72, h71, a3, a4, a5, a6, hk]; done))
        | (refine Tri.cond_false ?_ ?_; (focus simp [upd, hn, h72, h71, a3, a4, a5, a6, hk]; done))
        | (refine Tri.skip ?_; simp only [thenS, blockS])
        | (refine Tri.block_seq ?_)
        | (refine Tri.block_region ?_)
        | (refine Tri.block_cond ?_)
        | ((with_reducible refine CallK.row1 w2 (Wks.refl _) (by simpa using a5) ?_); intro β; simp [upd, hn, h72, h71, a3, a4, a5, a6, hk])
        | (refine Tri.exit ?_; simp [upd, hn, h72, h71, a3, a4, a5, a6, hk]; first | (rename ∀ st, Tri _ _ _ st _ → _ => hK; first | (apply hK; clear hK) | (clear hK; rename ∀ st, Tri _ _ _ st _ → _ => hK; first | (apply hK; clear hK) | (clear hK; rename ∀ st, Tri _ _ _ st _ → _ => hK; first | (apply hK; clear hK) | (clear hK; rename ∀ st, Tri _ _ _ st _ → _ => hK; first | (apply hK; clear hK) | (clear hK; rename ∀ st, Tri _ _ _ st _ → _ => hK; first | (apply hK; clear hK) | (clear hK; rename ∀ st, Tri _ _ _ st _ → _ => hK; apply hK; clear hK)))))) | skip)
        | (intro β)
        | (rename ∀ st, Tri _ _ _ st _ → _ => hK; apply hK; clear hK))
      refine ⟨β, cur ++ (delNs t r.dels[k]).flatMap varI, r.dels[k].slot, by simp [upd, a3], by simp [upd, delNs, i64w], by simp [upd, delNs, i64w], by simp [upd], by rw [← a7]; simp [List.append_assoc]⟩
    · rintro st ⟨b, cur, t, a3, a4, a5, a6, a7⟩ hn
      rw [List.drop_length] at a7
      simp only [delsEnc, List.append_nil] at a7
      subst a7
      rename ∀ st, Tri _ _ _ st _ → _ => hK
      apply hK
      repeat (first
        | (refine Tri.seq fun K hK => ?_)
        | (refine Tri.region ?_; simp [upd, hn, a3, a4, a5, a6, intsOf_B])
        | (refine Tri.draw (by kernel_rfl) (by decide +kernel) ?_; simp [upd, hn, a3, a4, a5, a6, intsOf_B])
        | (refine Tri.cond_true ?_ ?_; (focus simp [upd, hn, a3, a4, a5, a6, intsOf_B]; done))
        | (refine Tri.cond_false ?_ ?_; (focus simp [upd, hn, a3, a4, a5, a6, intsOf_B]; done))
        | (refine Tri.skip ?_; simp only [thenS, blockS])
        | (refine Tri.block_seq ?_)
        | (refine Tri.block_region ?_)
        | (refine Tri.block_cond ?_)
        | (refine Tri.exit ?_; simp [upd, hn, a3, a4, a5, a6, intsOf_B]; first | (rename ∀ st, Tri _ _ _ st _ → _ => hK; first | (apply hK; clear hK) | (clear hK; rename ∀ st, Tri _ _ _ st _ → _ => hK; first | (apply hK; clear hK) | (clear hK; rename ∀ st, Tri _ _ _ st _ → _ => hK; first | (apply hK; clear hK) | (clear hK; rename ∀ st, Tri _ _ _ st _ → _ => hK; first | (apply hK; clear hK) | (clear hK; rename ∀ st, Tri _ _ _ st _ → _ => hK; first | (apply hK; clear hK) | (clear hK; rename ∀ st, Tri _ _ _ st _ → _ => hK; apply hK; clear hK)))))) | skip)
        | (intro β)
        | (rename ∀ st, Tri _ _ _ st _ → _ => hK; apply hK; clear hK))
      refine Tri.ret ⟨_, rfl, ?_⟩
      simp [upd]
      exact Wk.refl _
end Go.Proofs.Ytcohdlochpjnjaa
end
section
open Go Go.Vm
namespace Go.Proofs.Ytcohdlochpjnjaa
set_option maxRecDepth 100000
set_option linter.unusedSimpArgs false
attribute [local irreducible] Tri Does DoesB Rounds
def numStep (n c : Int) (i : Nat) : Int := bitsV .or .i64 n (IntKind.i64.wrap (IntKind.i64.wrap (bitsV .and .u8 c 127) * 2 ^ (min (7 * i) 64)))
def numGo (d : ByteArray) (bad : Bool) : Nat → Nat → Int → Int × ByteArray × Bool
  | 0, _, _ => (0, d, true)
  | f + 1, i, n => if i < d.size ∧ bad = false then (if byteAt d i < 128 then (numStep n (byteAt d i) i, d.extract (i + 1) d.size, byteAt d i == 0 && decide (0 < i)) else numGo d bad f (i + 1) (numStep n (byteAt d i) i)) else (0, d, true)
def num (d : ByteArray) (bad : Bool) : Int × ByteArray × Bool := numGo d bad 5 0 0
def rdC (p : ByteArray × Bool) : List C := [.str p.1, .bool p.2]
def NInv (k0 b0 : Nat) (d : ByteArray) (bad : Bool) (m : Nat) (st : St) : Prop := ∃ (i : Nat) (n : Int), m + i = 5 ∧ st.sl 0 = .c (.box k0 b0 0) ∧ st.bx k0 = some (b0, [.str d, .bool bad]) ∧ st.sl 3 = .c (.int .i64 n) ∧ st.sl 4 = .c (.int .i64 i) ∧ num d bad = numGo d bad (5 - i) i n ∧ st.n = 65
theorem number_does (k0 b0 : Nat) (d : ByteArray) (bad : Bool) : DoesB Try.prog 60 [.c (.box k0 b0 0)] [(k0, b0, [.str d, .bool bad])] [] (fun _ => (.c (.int .i64 (num d bad).1), [(k0, b0, [.str (num d bad).2.1, .bool (num d bad).2.2])], [])) := by
  refine DoesB.of_body Try.func60 rfl (by kernel_rfl) rfl rfl (by simp) (fun _ => rfl) fun E => ?_
  repeat (first
    | (refine Tri.seq fun K hK => ?_)
    | (refine Tri.region ?_; simp [upd])
    | (refine Tri.draw (by kernel_rfl) (by decide +kernel) ?_; simp [upd])
    | (refine Tri.cond_true ?_ ?_; (focus simp [upd]; done))
    | (refine Tri.cond_false ?_ ?_; (focus simp [upd]; done))
    | (refine Tri.skip ?_; simp only [thenS, blockS])
    | (refine Tri.block_seq ?_)
    | (refine Tri.block_region ?_)
    | (refine Tri.block_cond ?_)
    | (refine Tri.exit ?_; simp [upd]; first | (rename ∀ st, Tri _ _ _ st _ → _ => hK; first | (apply hK; clear hK) | (clear hK; rename ∀ st, Tri _ _ _ st _ → _ => hK; first | (apply hK; clear hK) | (clear hK; rename ∀ st, Tri _ _ _ st _ → _ => hK; first | (apply hK; clear hK) | (clear hK; rename ∀ st, Tri _ _ _ st _ → _ => hK; first | (apply hK; clear hK) | (clear hK; rename ∀ st, Tri _ _ _ st _ → _ => hK; first | (apply hK; clear hK) | (clear hK; rename ∀ st, Tri _ _ _ st _ → _ => hK; apply hK; clear hK)))))) | skip)
    | (intro β)
    | (rename ∀ st, Tri _ _ _ st _ → _ => hK; apply hK; clear hK))
  refine Tri.block (Tri.loop (NInv k0 b0 d bad) 5 ⟨0, 0, rfl, by simp [upd], by simp [upd], by simp [upd], by simp [upd], rfl, rfl⟩ ?_)
  rintro m st ⟨i, n, hm, a0, a1, a3, a4, hgo, hn⟩
  by_cases h5 : i < 5
  case neg =>
    have : i = 5 := by omega
    subst this
    simp only [Nat.sub_self, numGo] at hgo
    repeat (first
      | (refine Tri.seq fun K hK => ?_)
      | (refine Tri.region ?_; simp [upd, hn, a0, a1, a3, a4])
      | (refine Tri.draw (by kernel_rfl) (by decide +kernel) ?_; simp [upd, hn, a0, a1, a3, a4])
      | (refine Tri.cond_true ?_ ?_; (focus simp [upd, hn, a0, a1, a3, a4]; done))
      | (refine Tri.cond_false ?_ ?_; (focus simp [upd, hn, a0, a1, a3, a4]; done))
      | (refine Tri.skip ?_; simp only [thenS, blockS])
      | (refine Tri.block_seq ?_)
      | (refine Tri.block_region ?_)
      | (refine Tri.block_cond ?_)
      | (refine Tri.exit ?_; simp [upd, hn, a0, a1, a3, a4]; first | (rename ∀ st, Tri _ _ _ st _ → _ => hK; first | (apply hK; clear hK) | (clear hK; rename ∀ st, Tri _ _ _ st _ → _ => hK; first | (apply hK; clear hK) | (clear hK; rename ∀ st, Tri _ _ _ st _ → _ => hK; first | (apply hK; clear hK) | (clear hK; rename ∀ st, Tri _ _ _ st _ → _ => hK; first | (apply hK; clear hK) | (clear hK; rename ∀ st, Tri _ _ _ st _ → _ => hK; first | (apply hK; clear hK) | (clear hK; rename ∀ st, Tri _ _ _ st _ → _ => hK; apply hK; clear hK)))))) | skip)
      | (intro β)
      | (rename ∀ st, Tri _ _ _ st _ → _ => hK; apply hK; clear hK))
    rw [hgo]
    refine Tri.ret ⟨_, 0, [], rfl, ?_, ?_, trivial, by simp⟩
    · simp [upd]
      exact Wk.refl _
    · simp [upd]
  have h5' : (i : Int) < 5 := by omega
  obtain ⟨f, hf⟩ : ∃ f, 5 - i = f + 1 := ⟨4 - i, by omega⟩
  rw [hf, numGo] at hgo
  by_cases hs : i < d.size
  case neg =>
    rw [if_neg (fun h => hs h.1)] at hgo
    repeat (first
      | (refine Tri.seq fun K hK => ?_)
      | (refine Tri.region ?_; simp [upd, hn, a0, a1, a3, a4, h5', hs])
      | (refine Tri.draw (by kernel_rfl) (by decide +kernel) ?_; simp [upd, hn, a0, a1, a3, a4, h5', hs])
      | (refine Tri.cond_true ?_ ?_; (focus simp [upd, hn, a0, a1, a3, a4, h5', hs]; done))
      | (refine Tri.cond_false ?_ ?_; (focus simp [upd, hn, a0, a1, a3, a4, h5', hs]; done))
      | (refine Tri.skip ?_; simp only [thenS, blockS])
      | (refine Tri.block_seq ?_)
      | (refine Tri.block_region ?_)
      | (refine Tri.block_cond ?_)
      | (refine Tri.exit ?_; simp [upd, hn, a0, a1, a3, a4, h5', hs]; first | (rename ∀ st, Tri _ _ _ st _ → _ => hK; first | (apply hK; clear hK) | (clear hK; rename ∀ st, Tri _ _ _ st _ → _ => hK; first | (apply hK; clear hK) | (clear hK; rename ∀ st, Tri _ _ _ st _ → _ => hK; first | (apply hK; clear hK) | (clear hK; rename ∀ st, Tri _ _ _ st _ → _ => hK; first | (apply hK; clear hK) | (clear hK; rename ∀ st, Tri _ _ _ st _ → _ => hK; first | (apply hK; clear hK) | (clear hK; rename ∀ st, Tri _ _ _ st _ → _ => hK; apply hK; clear hK)))))) | skip)
      | (intro β)
      | (rename ∀ st, Tri _ _ _ st _ → _ => hK; apply hK; clear hK))
    rw [hgo]
    refine Tri.ret ⟨_, 0, [], rfl, ?_, ?_, trivial, by simp⟩
    · simp [upd]
      exact Wk.refl _
    · simp [upd]
  cases bad
  case true =>
    rw [if_neg (fun h => by cases h.2)] at hgo
    repeat (first
      | (refine Tri.seq fun K hK => ?_)
      | (refine Tri.region ?_; simp [upd, hn, a0, a1, a3, a4, h5', hs])
      | (refine Tri.draw (by kernel_rfl) (by decide +kernel) ?_; simp [upd, hn, a0, a1, a3, a4, h5', hs])
      | (refine Tri.cond_true ?_ ?_; (focus simp [upd, hn, a0, a1, a3, a4, h5', hs]; done))
      | (refine Tri.cond_false ?_ ?_; (focus simp [upd, hn, a0, a1, a3, a4, h5', hs]; done))
      | (refine Tri.skip ?_; simp only [thenS, blockS])
      | (refine Tri.block_seq ?_)
      | (refine Tri.block_region ?_)
      | (refine Tri.block_cond ?_)
      | (refine Tri.exit ?_; simp [upd, hn, a0, a1, a3, a4, h5', hs]; first | (rename ∀ st, Tri _ _ _ st _ → _ => hK; first | (apply hK; clear hK) | (clear hK; rename ∀ st, Tri _ _ _ st _ → _ => hK; first | (apply hK; clear hK) | (clear hK; rename ∀ st, Tri _ _ _ st _ → _ => hK; first | (apply hK; clear hK) | (clear hK; rename ∀ st, Tri _ _ _ st _ → _ => hK; first | (apply hK; clear hK) | (clear hK; rename ∀ st, Tri _ _ _ st _ → _ => hK; first | (apply hK; clear hK) | (clear hK; rename ∀ st, Tri _ _ _ st _ → _ => hK; apply hK; clear hK)))))) | skip)
      | (intro β)
      | (rename ∀ st, Tri _ _ _ st _ → _ => hK; apply hK; clear hK))
    rw [hgo]
    refine Tri.ret ⟨_, 0, [], rfl, ?_, ?_, trivial, by simp⟩
    · simp [upd]
      exact Wk.refl _
    · simp [upd]
  rw [if_pos ⟨hs, rfl⟩] at hgo
  have hw : IntKind.i64.wrap (7 * (i : Int)) = 7 * (i : Int) := wrap_i64 (by omega) (by omega)
  have hw0 : ¬ 7 * (i : Int) < 0 := by omega
  have hw2 : (7 * (i : Int)).toNat = 7 * i := by omega
  have hw1 : IntKind.i64.wrap ((i : Int) + 1) = (i : Int) + 1 := wrap_i64 (by omega) (by omega)
  by_cases hc : byteAt d i < 128
  case neg =>
    rw [if_neg hc] at hgo
    repeat (first
      | (refine Tri.seq fun K hK => ?_)
      | (refine Tri.region ?_; simp [upd, hn, a0, a1, a3, a4, h5', hs, hw, hw0, hw1, hw2, hc])
      | (refine Tri.draw (by kernel_rfl) (by decide +kernel) ?_; simp [upd, hn, a0, a1, a3, a4, h5', hs, hw, hw0, hw1, hw2, hc])
      | (refine Tri.cond_true ?_ ?_; (focus simp [upd, hn, a0, a1, a3, a4, h5', hs, hw, hw0, hw1, hw2, hc]; done))
      | (refine Tri.cond_false ?_ ?_; (focus simp [upd, hn, a0, a1, a3, a4, h5', hs, hw, hw0, hw1, hw2, hc]; done))
      | (refine Tri.skip ?_; simp only [thenS, blockS])
      | (refine Tri.block_seq ?_)
      | (refine Tri.block_region ?_)
      | (refine Tri.block_cond ?_)
      | (refine Tri.exit ?_; simp [upd, hn, a0, a1, a3, a4, h5', hs, hw, hw0, hw1, hw2, hc]; first | (rename ∀ st, Tri _ _ _ st _ → _ => hK; first | (apply hK; clear hK) | (clear hK; rename ∀ st, Tri _ _ _ st _ → _ => hK; first | (apply hK; clear hK) | (clear hK; rename ∀ st, Tri _ _ _ st _ → _ => hK; first | (apply hK; clear hK) | (clear hK; rename ∀ st, Tri _ _ _ st _ → _ => hK; first | (apply hK; clear hK) | (clear hK; rename ∀ st, Tri _ _ _ st _ → _ => hK; first | (apply hK; clear hK) | (clear hK; rename ∀ st, Tri _ _ _ st _ → _ => hK; apply hK; clear hK)))))) | skip)
      | (intro β)
      | (rename ∀ st, Tri _ _ _ st _ → _ => hK; apply hK; clear hK))
    refine ⟨m - 1, by omega, i + 1, _, by omega, by simp [upd, a0], by simp [upd, a1], by simp [upd]; exact rfl, by simp [upd], ?_, rfl⟩
    rw [show 5 - (i + 1) = f by omega, hgo]
    rfl
  rw [if_pos hc] at hgo
  have hsz : i + 1 ≤ d.size := hs
  have hw3 : 0 ≤ (i : Int) + 1 := by omega
  have hw4 : ((i : Int) + 1).toNat = i + 1 := by omega
  cases hz : (byteAt d i == 0)
  · rw [hz, Bool.false_and] at hgo
    repeat (first
      | (refine Tri.seq fun K hK => ?_)
      | (refine Tri.region ?_; simp [upd, hn, a0, a1, a3, a4, h5', hs, hw, hw0, hw1, hw2, hw3, hw4, hsz, hc, hz])
      | (refine Tri.draw (by kernel_rfl) (by decide +kernel) ?_; simp [upd, hn, a0, a1, a3, a4, h5', hs, hw, hw0, hw1, hw2, hw3, hw4, hsz, hc, hz])
      | (refine Tri.cond_true ?_ ?_; (focus simp [upd, hn, a0, a1, a3, a4, h5', hs, hw, hw0, hw1, hw2, hw3, hw4, hsz, hc, hz]; done))
      | (refine Tri.cond_false ?_ ?_; (focus simp [upd, hn, a0, a1, a3, a4, h5', hs, hw, hw0, hw1, hw2, hw3, hw4, hsz, hc, hz]; done))
      | (refine Tri.skip ?_; simp only [thenS, blockS])
      | (refine Tri.block_seq ?_)
      | (refine Tri.block_region ?_)
      | (refine Tri.block_cond ?_)
      | (refine Tri.exit ?_; simp [upd, hn, a0, a1, a3, a4, h5', hs, hw, hw0, hw1, hw2, hw3, hw4, hsz, hc, hz]; first | (rename ∀ st, Tri _ _ _ st _ → _ => hK; first | (apply hK; clear hK) | (clear hK; rename ∀ st, Tri _ _ _ st _ → _ => hK; first | (apply hK; clear hK) | (clear hK; rename ∀ st, Tri _ _ _ st _ → _ => hK; first | (apply hK; clear hK) | (clear hK; rename ∀ st, Tri _ _ _ st _ → _ => hK; first | (apply hK; clear hK) | (clear hK; rename ∀ st, Tri _ _ _ st _ → _ => hK; first | (apply hK; clear hK) | (clear hK; rename ∀ st, Tri _ _ _ st _ → _ => hK; apply hK; clear hK)))))) | skip)
      | (intro β)
      | (rename ∀ st, Tri _ _ _ st _ → _ => hK; apply hK; clear hK))
    rw [hgo]
    refine Tri.ret ⟨_, 0, [], rfl, ?_, ?_, trivial, by simp⟩
    · simp [upd]
      exact Wk.refl _
    · simp [upd]
  · cases hi : decide (0 < i) <;> simp only [decide_eq_true_eq, decide_eq_false_iff_not] at hi
    · rw [hz, decide_eq_false hi, Bool.true_and] at hgo
      repeat (first
        | (refine Tri.seq fun K hK => ?_)
        | (refine Tri.region ?_; simp [upd, hn, a0, a1, a3, a4, h5', hs, hw, hw0, hw1, hw2, hw3, hw4, hsz, hc, hz, hi])
        | (refine Tri.draw (by kernel_rfl) (by decide +kernel) ?_; simp [upd, hn, a0, a1, a3, a4, h5', hs, hw, hw0, hw1, hw2, hw3, hw4, hsz, hc, hz, hi])
        | (refine Tri.cond_true ?_ ?_; (focus simp [upd, hn, a0, a1, a3, a4, h5', hs, hw, hw0, hw1, hw2, hw3, hw4, hsz, hc, hz, hi]; done))
        | (refine Tri.cond_false ?_ ?_; (focus simp [upd, hn, a0, a1, a3, a4, h5', hs, hw, hw0, hw1, hw2, hw3, hw4, hsz, hc, hz, hi]; done))
        | (refine Tri.skip ?_; simp only [thenS, blockS])
        | (refine Tri.block_seq ?_)
        | (refine Tri.block_region ?_)
        | (refine Tri.block_cond ?_)
        | (refine Tri.exit ?_; simp [upd, hn, a0, a1, a3, a4, h5', hs, hw, hw0, hw1, hw2, hw3, hw4, hsz, hc, hz, hi]; first | (rename ∀ st, Tri _ _ _ st _ → _ => hK; first | (apply hK; clear hK) | (clear hK; rename ∀ st, Tri _ _ _ st _ → _ => hK; first | (apply hK; clear hK) | (clear hK; rename ∀ st, Tri _ _ _ st _ → _ => hK; first | (apply hK; clear hK) | (clear hK; rename ∀ st, Tri _ _ _ st _ → _ => hK; first | (apply hK; clear hK) | (clear hK; rename ∀ st, Tri _ _ _ st _ → _ => hK; first | (apply hK; clear hK) | (clear hK; rename ∀ st, Tri _ _ _ st _ → _ => hK; apply hK; clear hK)))))) | skip)
        | (intro β)
        | (rename ∀ st, Tri _ _ _ st _ → _ => hK; apply hK; clear hK))
      rw [hgo]
      refine Tri.ret ⟨_, 0, [], rfl, ?_, ?_, trivial, by simp⟩
      · simp [upd]
        exact Wk.refl _
      · simp [upd]
    · rw [hz, decide_eq_true hi, Bool.true_and] at hgo
      repeat (first
        | (refine Tri.seq fun K hK => ?_)
        | (refine Tri.region ?_; simp [upd, hn, a0, a1, a3, a4, h5', hs, hw, hw0, hw1, hw2, hw3, hw4, hsz, hc, hz, hi])
        | (refine Tri.draw (by kernel_rfl) (by decide +kernel) ?_; simp [upd, hn, a0, a1, a3, a4, h5', hs, hw, hw0, hw1, hw2, hw3, hw4, hsz, hc, hz, hi])
        | (refine Tri.cond_true ?_ ?_; (focus simp [upd, hn, a0, a1, a3, a4, h5', hs, hw, hw0, hw1, hw2, hw3, hw4, hsz, hc, hz, hi]; done))
        | (refine Tri.cond_false ?_ ?_; (focus simp [upd, hn, a0, a1, a3, a4, h5', hs, hw, hw0, hw1, hw2, hw3, hw4, hsz, hc, hz, hi]; done))
        | (refine Tri.skip ?_; simp only [thenS, blockS])
        | (refine Tri.block_seq ?_)
        | (refine Tri.block_region ?_)
        | (refine Tri.block_cond ?_)
        | (refine Tri.exit ?_; simp [upd, hn, a0, a1, a3, a4, h5', hs, hw, hw0, hw1, hw2, hw3, hw4, hsz, hc, hz, hi]; first | (rename ∀ st, Tri _ _ _ st _ → _ => hK; first | (apply hK; clear hK) | (clear hK; rename ∀ st, Tri _ _ _ st _ → _ => hK; first | (apply hK; clear hK) | (clear hK; rename ∀ st, Tri _ _ _ st _ → _ => hK; first | (apply hK; clear hK) | (clear hK; rename ∀ st, Tri _ _ _ st _ → _ => hK; first | (apply hK; clear hK) | (clear hK; rename ∀ st, Tri _ _ _ st _ → _ => hK; first | (apply hK; clear hK) | (clear hK; rename ∀ st, Tri _ _ _ st _ → _ => hK; apply hK; clear hK)))))) | skip)
        | (intro β)
        | (rename ∀ st, Tri _ _ _ st _ → _ => hK; apply hK; clear hK))
      rw [hgo]
      refine Tri.ret ⟨_, 0, [], rfl, ?_, ?_, trivial, by simp⟩
      · simp [upd]
        exact Wk.refl _
      · simp [upd]
end Go.Proofs.Ytcohdlochpjnjaa
end
section
open Go Go.Vm
namespace Go.Proofs.Ytcohdlochpjnjaa
set_option maxRecDepth 100000
set_option maxHeartbeats 4000000
set_option linter.unusedSimpArgs false
attribute [local irreducible] Tri Does DoesB Rounds
def nx (q : Int × ByteArray × Bool) : Int × ByteArray × Bool := num q.2.1 q.2.2
@[simp] def rdB (br : Nat) (q : Int × ByteArray × Bool) : Bx := (15, br, [.str q.2.1, .bool q.2.2])
theorem nx_does (br : Nat) (q : Int × ByteArray × Bool) : DoesB Try.prog 60 [.c (.box 15 br 0)] [(15, br, [.str q.2.1, .bool q.2.2])] [] (fun _ => (.c (.int .i64 (nx q).1), [(15, br, [.str (nx q).2.1, .bool (nx q).2.2])], [])) := number_does 15 br q.2.1 q.2.2
attribute [local irreducible] nx num
theorem read1_does (br : Nat) (q : Int × ByteArray × Bool) (bn : Nat) (n : Int) : DoesB Try.prog 38 [.c (.box 15 br 0), .c (.sl false 1 none [[.box 6 bn 0]])] [rdB br q, (6, bn, [.int .i64 n])] [] (fun _ => (.tup [], [rdB br (nx q), (6, bn, [.int .i64 (nx q).1])], [])) := by
  refine DoesB.of_body Try.func38 rfl (by kernel_rfl) rfl rfl (by simp) (fun _ => rfl) fun E => ?_
  repeat (first
    | (refine Tri.seq fun K hK => ?_)
    | (refine Tri.region ?_; simp [upd])
    | (refine Tri.draw (by kernel_rfl) (by decide +kernel) ?_; simp [upd])
    | (refine Tri.cond_true ?_ ?_; (focus simp [upd]; done))
    | (refine Tri.cond_false ?_ ?_; (focus simp [upd]; done))
    | (refine Tri.skip ?_; simp only [thenS, blockS])
    | (refine Tri.block_seq ?_)
    | (refine Tri.block_region ?_)
    | (refine Tri.block_cond ?_)
    | (with_reducible refine CallK.box1 (nx_does br q) (Wks.refl _) ?_ ?_; (focus (simp [upd]; done)); simp [upd])
    | (refine Tri.block_loop 2 ?_)
    | (refine Rounds.step ?_)
    | (refine Tri.exit ?_; simp [upd]; first | (rename ∀ st, Tri _ _ _ st _ → _ => hK; first | (apply hK; clear hK) | (clear hK; rename ∀ st, Tri _ _ _ st _ → _ => hK; first | (apply hK; clear hK) | (clear hK; rename ∀ st, Tri _ _ _ st _ → _ => hK; first | (apply hK; clear hK) | (clear hK; rename ∀ st, Tri _ _ _ st _ → _ => hK; first | (apply hK; clear hK) | (clear hK; rename ∀ st, Tri _ _ _ st _ → _ => hK; first | (apply hK; clear hK) | (clear hK; rename ∀ st, Tri _ _ _ st _ → _ => hK; apply hK; clear hK)))))) | skip)
    | (intro β)
    | (rename ∀ st, Tri _ _ _ st _ → _ => hK; apply hK; clear hK))
  refine ⟨_, 0, [], rfl, Wk.refl _, ?_, trivial, by simp⟩
  simp [upd]
theorem read2_does (br : Nat) (q : Int × ByteArray × Bool) (bx bn : Nat) (n s : Int) (A B : C) : DoesB Try.prog 38 [.c (.box 15 br 0), .c (.sl false 1 none [[.box 5 bx 0], [.box 6 bn 0]])] [rdB br q, (5, bx, [.int .i64 s, A, B]), (6, bn, [.int .i64 n])] [] (fun _ => (.tup [], [rdB br (nx (nx q)), (5, bx, [.int .i64 (nx q).1, A, B]), (6, bn, [.int .i64 (nx (nx q)).1])], [])) := by
  refine DoesB.of_body Try.func38 rfl (by kernel_rfl) rfl rfl (by simp) (fun _ => rfl) fun E => ?_
  repeat (first
    | (refine Tri.seq fun K hK => ?_)
    | (refine Tri.region ?_; simp [upd])
    | (refine Tri.draw (by kernel_rfl) (by decide +kernel) ?_; simp [upd])
    | (refine Tri.cond_true ?_ ?_; (focus simp [upd]; done))
    | (refine Tri.cond_false ?_ ?_; (focus simp [upd]; done))
    | (refine Tri.skip ?_; simp only [thenS, blockS])
    | (refine Tri.block_seq ?_)
    | (refine Tri.block_region ?_)
    | (refine Tri.block_cond ?_)
    | (with_reducible refine CallK.box1 (nx_does br (nx q)) (Wks.refl _) ?_ ?_; (focus (simp [upd]; done)); simp [upd])
    | (with_reducible refine CallK.box1 (nx_does br q) (Wks.refl _) ?_ ?_; (focus (simp [upd]; done)); simp [upd])
    | (refine Tri.block_loop 3 ?_)
    | (refine Rounds.step ?_)
    | (refine Tri.exit ?_; simp [upd]; first | (rename ∀ st, Tri _ _ _ st _ → _ => hK; first | (apply hK; clear hK) | (clear hK; rename ∀ st, Tri _ _ _ st _ → _ => hK; first | (apply hK; clear hK) | (clear hK; rename ∀ st, Tri _ _ _ st _ → _ => hK; first | (apply hK; clear hK) | (clear hK; rename ∀ st, Tri _ _ _ st _ → _ => hK; first | (apply hK; clear hK) | (clear hK; rename ∀ st, Tri _ _ _ st _ → _ => hK; first | (apply hK; clear hK) | (clear hK; rename ∀ st, Tri _ _ _ st _ → _ => hK; apply hK; clear hK)))))) | skip)
    | (intro β)
    | (rename ∀ st, Tri _ _ _ st _ → _ => hK; apply hK; clear hK))
  refine ⟨_, 0, [], rfl, Wk.refl _, ?_, trivial, by simp⟩
  simp [upd]
theorem read3_does (br : Nat) (q : Int × ByteArray × Bool) (bs bd : Nat) (s x y z : Int) : DoesB Try.prog 38 [.c (.box 15 br 0), .c (.sl false 1 none [[.box 7 bs 0], [.box 12 bd 0], [.box 12 bd 1]])] [rdB br q, (7, bs, [.int .i64 s]), (12, bd, [.int .i64 x, .int .i64 y, .int .i64 z])] [] (fun _ => (.tup [], [rdB br (nx (nx (nx q))), (7, bs, [.int .i64 (nx q).1]), (12, bd, [.int .i64 (nx (nx q)).1, .int .i64 (nx (nx (nx q))).1, .int .i64 z])], [])) := by
  refine DoesB.of_body Try.func38 rfl (by kernel_rfl) rfl rfl (by simp) (fun _ => rfl) fun E => ?_
  repeat (first
    | (refine Tri.seq fun K hK => ?_)
    | (refine Tri.region ?_; simp [upd])
    | (refine Tri.draw (by kernel_rfl) (by decide +kernel) ?_; simp [upd])
    | (refine Tri.cond_true ?_ ?_; (focus simp [upd]; done))
    | (refine Tri.cond_false ?_ ?_; (focus simp [upd]; done))
    | (refine Tri.skip ?_; simp only [thenS, blockS])
    | (refine Tri.block_seq ?_)
    | (refine Tri.block_region ?_)
    | (refine Tri.block_cond ?_)
    | (with_reducible refine CallK.box1 (nx_does br (nx (nx q))) (Wks.refl _) ?_ ?_; (focus (simp [upd]; done)); simp [upd])
    | (with_reducible refine CallK.box1 (nx_does br (nx q)) (Wks.refl _) ?_ ?_; (focus (simp [upd]; done)); simp [upd])
    | (with_reducible refine CallK.box1 (nx_does br q) (Wks.refl _) ?_ ?_; (focus (simp [upd]; done)); simp [upd])
    | (refine Tri.block_loop 4 ?_)
    | (refine Rounds.step ?_)
    | (refine Tri.exit ?_; simp [upd]; first | (rename ∀ st, Tri _ _ _ st _ → _ => hK; first | (apply hK; clear hK) | (clear hK; rename ∀ st, Tri _ _ _ st _ → _ => hK; first | (apply hK; clear hK) | (clear hK; rename ∀ st, Tri _ _ _ st _ → _ => hK; first | (apply hK; clear hK) | (clear hK; rename ∀ st, Tri _ _ _ st _ → _ => hK; first | (apply hK; clear hK) | (clear hK; rename ∀ st, Tri _ _ _ st _ → _ => hK; first | (apply hK; clear hK) | (clear hK; rename ∀ st, Tri _ _ _ st _ → _ => hK; apply hK; clear hK)))))) | skip)
    | (intro β)
    | (rename ∀ st, Tri _ _ _ st _ → _ => hK; apply hK; clear hK))
  refine ⟨_, 0, [], rfl, Wk.refl _, ?_, trivial, by simp⟩
  simp [upd]
theorem read8_does (br : Nat) (q : Int × ByteArray × Bool) (bs ba : Nat) (s x1 x2 x3 x4 x5 x6 x7 x8 : Int) : DoesB Try.prog 38 [.c (.box 15 br 0), .c (.sl false 1 none [[.box 7 bs 0], [.box 10 ba 1], [.box 10 ba 2], [.box 10 ba 3], [.box 10 ba 4], [.box 10 ba 5], [.box 10 ba 6], [.box 10 ba 7]])] [rdB br q, (7, bs, [.int .i64 s]), (10, ba, [.int .i64 x1, .int .i64 x2, .int .i64 x3, .int .i64 x4, .int .i64 x5, .int .i64 x6, .int .i64 x7, .int .i64 x8])] [] (fun _ => (.tup [], [rdB br (nx (nx (nx (nx (nx (nx (nx (nx q)))))))), (7, bs, [.int .i64 (nx q).1]), (10, ba, [.int .i64 x1, .int .i64 (nx (nx q)).1, .int .i64 (nx (nx (nx q))).1, .int .i64 (nx (nx (nx (nx q)))).1, .int .i64 (nx (nx (nx (nx (nx q))))).1, .int .i64 (nx (nx (nx (nx (nx (nx q)))))).1, .int .i64 (nx (nx (nx (nx (nx (nx (nx q))))))).1, .int .i64 (nx (nx (nx (nx (nx (nx (nx (nx q)))))))).1])], [])) := by
  refine DoesB.of_body Try.func38 rfl (by kernel_rfl) rfl rfl (by simp) (fun _ => rfl) fun E => ?_
  repeat (first
    | (refine Tri.seq fun K hK => ?_)
    | (refine Tri.region ?_; simp [upd])
    | (refine Tri.draw (by kernel_rfl) (by decide +kernel) ?_; simp [upd])
    | (refine Tri.cond_true ?_ ?_; (focus simp [upd]; done))
    | (refine Tri.cond_false ?_ ?_; (focus simp [upd]; done))
    | (refine Tri.skip ?_; simp only [thenS, blockS])
    | (refine Tri.block_seq ?_)
    | (refine Tri.block_region ?_)
    | (refine Tri.block_cond ?_)
    | (with_reducible refine CallK.box1 (nx_does br (nx (nx (nx (nx (nx (nx (nx q)))))))) (Wks.refl _) ?_ ?_; (focus (simp [upd]; done)); simp [upd])
    | (with_reducible refine CallK.box1 (nx_does br (nx (nx (nx (nx (nx (nx q))))))) (Wks.refl _) ?_ ?_; (focus (simp [upd]; done)); simp [upd])
    | (with_reducible refine CallK.box1 (nx_does br (nx (nx (nx (nx (nx q)))))) (Wks.refl _) ?_ ?_; (focus (simp [upd]; done)); simp [upd])
    | (with_reducible refine CallK.box1 (nx_does br (nx (nx (nx (nx q))))) (Wks.refl _) ?_ ?_; (focus (simp [upd]; done)); simp [upd])
    | (with_reducible refine CallK.box1 (nx_does br (nx (nx (nx q)))) (Wks.refl _) ?_ ?_; (focus (simp [upd]; done)); simp [upd])
    | (with_reducible refine CallK.box1 (nx_does br (nx (nx q))) (Wks.refl _) ?_ ?_; (focus (simp [upd]; done)); simp [upd])
    | (with_reducible refine CallK.box1 (nx_does br (nx q)) (Wks.refl _) ?_ ?_; (focus (simp [upd]; done)); simp [upd])
    | (with_reducible refine CallK.box1 (nx_does br q) (Wks.refl _) ?_ ?_; (focus (simp [upd]; done)); simp [upd])
    | (refine Tri.block_loop 9 ?_)
    | (refine Rounds.step ?_)
    | (refine Tri.exit ?_; simp [upd]; first | (rename ∀ st, Tri _ _ _ st _ → _ => hK; first | (apply hK; clear hK) | (clear hK; rename ∀ st, Tri _ _ _ st _ → _ => hK; first | (apply hK; clear hK) | (clear hK; rename ∀ st, Tri _ _ _ st _ → _ => hK; first | (apply hK; clear hK) | (clear hK; rename ∀ st, Tri _ _ _ st _ → _ => hK; first | (apply hK; clear hK) | (clear hK; rename ∀ st, Tri _ _ _ st _ → _ => hK; first | (apply hK; clear hK) | (clear hK; rename ∀ st, Tri _ _ _ st _ → _ => hK; apply hK; clear hK)))))) | skip)
    | (intro β)
    | (rename ∀ st, Tri _ _ _ st _ → _ => hK; apply hK; clear hK))
  refine ⟨_, 0, [], rfl, Wk.refl _, ?_, trivial, by simp⟩
  simp [upd]
end Go.Proofs.Ytcohdlochpjnjaa
end
section
open Go Go.Vm
namespace Go.Proofs.Ytcohdlochpjnjaa
theorem i64w_le (n : Int) : IntKind.i64.wrap n ≤ 9223372036854775807 ∧ -9223372036854775808 ≤ IntKind.i64.wrap n := by
  have e : IntKind.i64.wrap n = (if n % 18446744073709551616 ≥ 9223372036854775808 then n % 18446744073709551616 - 18446744073709551616 else n % 18446744073709551616) := by
    simp [IntKind.wrap, IntKind.signed, IntKind.bits]
  rw [e]
  split <;> omega
theorem bitsV_i64 (op : BinOp) (x y : Int) : bitsV op .i64 x y ≤ 9223372036854775807 ∧ -9223372036854775808 ≤ bitsV op .i64 x y := by
  unfold bitsV
  simp only
  split <;> exact i64w_le _
theorem numGo_le (d : ByteArray) (b : Bool) : ∀ (f i : Nat) (n : Int), (numGo d b f i n).1 ≤ 9223372036854775807 ∧ -9223372036854775808 ≤ (numGo d b f i n).1
  | 0, i, n => by simp [numGo]
  | f + 1, i, n => by
    unfold numGo
    split
    · split
      · simp only [numStep]
        exact bitsV_i64 _ _ _
      · exact numGo_le d b f _ _
    · simp
theorem num_le (d : ByteArray) (b : Bool) : (num d b).1 ≤ 9223372036854775807 ∧ -9223372036854775808 ≤ (num d b).1 := numGo_le ..
theorem numGo_size (d : ByteArray) (b : Bool) : ∀ (f i : Nat) (n : Int), (numGo d b f i n).2.1.size ≤ d.size ∧ ((numGo d b f i n).2.2 = false → (numGo d b f i n).2.1.size + 1 ≤ d.size ∧ b = false)
  | 0, i, n => by simp [numGo]
  | f + 1, i, n => by
    unfold numGo
    split
    · rename_i h
      split
      · simp only [ByteArray.size_extract]
        exact ⟨by omega, fun _ => ⟨by omega, h.2⟩⟩
      · exact numGo_size d b f _ _
    · simp
theorem num_size (d : ByteArray) (b : Bool) : (num d b).2.1.size ≤ d.size ∧ ((num d b).2.2 = false → (num d b).2.1.size + 1 ≤ d.size ∧ b = false) := numGo_size ..
theorem nx_le (q : Int × ByteArray × Bool) : (nx q).1 ≤ 9223372036854775807 ∧ -9223372036854775808 ≤ (nx q).1 := num_le ..
theorem nx_size (q : Int × ByteArray × Bool) : (nx q).2.1.size ≤ q.2.1.size ∧ ((nx q).2.2 = false → (nx q).2.1.size + 1 ≤ q.2.1.size ∧ q.2.2 = false) := num_size ..
end Go.Proofs.Ytcohdlochpjnjaa
end
section
open Go Go.Vm
namespace Go.Proofs.Ytcohdlochpjnjaa
set_option maxRecDepth 100000
set_option maxHeartbeats 1000000
set_option linter.unusedSimpArgs false
attribute [local irreducible] Tri Does DoesB Rounds nx num
abbrev Q3 := Int × ByteArray × Bool
def decA : Nat → Int → Q3 → List Att × Q3
  | 0, _, q => ([], q)
  | m + 1, t, q => if q.2.2 = true then ([], q) else
      (⟨i64w (t + (nx q).1), (nx (nx q)).1, (nx (nx (nx q))).1, (nx (nx (nx (nx q)))).1, (nx (nx (nx (nx (nx q))))).1, (nx (nx (nx (nx (nx (nx q)))))).1, (nx (nx (nx (nx (nx (nx (nx q))))))).1, (nx (nx (nx (nx (nx (nx (nx (nx q)))))))).1⟩ ::
        (decA m (i64w (t + (nx q).1)) (nx (nx (nx (nx (nx (nx (nx (nx q))))))))).1, (decA m (i64w (t + (nx q).1)) (nx (nx (nx (nx (nx (nx (nx (nx q))))))))).2)
def decD : Nat → Int → Q3 → List Del × Q3
  | 0, _, q => ([], q)
  | m + 1, t, q => if q.2.2 = true then ([], q) else
      (⟨(nx (nx q)).1, (nx (nx (nx q))).1, i64w (t + (nx q).1)⟩ :: (decD m (i64w (t + (nx q).1)) (nx (nx (nx q)))).1, (decD m (i64w (t + (nx q).1)) (nx (nx (nx q)))).2)
def qA (d : ByteArray) : Q3 := nx (0, d, false)
def qB (d : ByteArray) : Q3 := nx (qA d)
def rA (d : ByteArray) : List Att × Q3 := decA (qB d).1.toNat 0 (qB d)
def qD (d : ByteArray) : Q3 := nx (rA d).2
def rD (d : ByteArray) : List Del × Q3 := decD (qD d).1.toNat 0 (qD d)
def recOf (d : ByteArray) : Rec := ⟨(qA d).1, (rA d).1.isEmpty, (rA d).1, (rD d).1.isEmpty, (rD d).1⟩
def zrec : Rec := ⟨0, true, [], true, []⟩
def decOk (d : ByteArray) : Bool := !(rD d).2.2.2 && (((rD d).2.2.1.toList == []) && check (recOf d) == 0)
def decode (d : ByteArray) : Rec × Int := if decOk d = true then (recOf d, 0) else (zrec, 10)
/-- A list that grows in a cell. -/
def GC (st : St) (c : C) (key e n : Nat) (es : List (List C)) : Prop :=
  (es = [] ∧ ∃ k own, c = .sl true k own []) ∨ (∃ b, es ≠ [] ∧ c = .sl false n (some (key, b)) es ∧ st.rw key = some (b, es.length, e, n))
theorem GC.wk {st : St} {c : C} {key e n : Nat} {es : List (List C)} (h : GC st c key e n es) : Wk (.c c) (.c (.sl es.isEmpty n none es)) := by
  rcases h with ⟨rfl, k, own, rfl⟩ | ⟨b, hne, rfl, hrw⟩
  · exact .nil _ _ _ _
  · have : es.isEmpty = false := by cases es <;> simp_all
    rw [this]
    exact .untag _ _ _ _
theorem GC.sl {st : St} {c : C} {key e n : Nat} {es : List (List C)} (h : GC st c key e n es) : ∃ nl n1 o1 es1, c = .sl nl n1 o1 es1 := by
  rcases h with ⟨rfl, k, own, rfl⟩ | ⟨b, hne, rfl, hrw⟩
  · exact ⟨_, _, _, _, rfl⟩
  · exact ⟨_, _, _, _, rfl⟩
structure DI (d : ByteArray) (st : St) (br b5 b6 b7 b2 : Nat) (q : Q3) (n s : Int) (G H : C) : Prop where
  hn : st.n = 111
  s4 : st.sl 4 = .c (.box 15 br 0)
  x15 : st.bx 15 = some (br, [.str q.2.1, .bool q.2.2])
  s5 : st.sl 5 = .c (.box 5 b5 0)
  x5 : st.bx 5 = some (b5, [.int .i64 (qA d).1, G, H])
  s6 : st.sl 6 = .c (.box 6 b6 0)
  x6 : st.bx 6 = some (b6, [.int .i64 n])
  s7 : st.sl 7 = .c (.box 7 b7 0)
  x7 : st.bx 7 = some (b7, [.int .i64 s])
  s2 : st.sl 2 = .c (.box 2 b2 0)
  x2 : st.bx 2 = some (b2, [.int .i64 0, .sl true 0 none [], .sl true 0 none []])
  sz : q.2.1.size ≤ d.size
structure DI1 (d : ByteArray) (m : Nat) (st : St) (q : Q3) (t n i : Int) (acc : List Att) : Prop where
  s8 : st.sl 8 = .c (.int .i64 t)
  s9 : st.sl 9 = .c (.int .i64 i)
  i0 : 0 ≤ i
  nb : n ≤ 9223372036854775807
  bud : n.toNat = m + i.toNat
  eq : rA d = (acc ++ (decA m t q).1, (decA m t q).2)
  len1 : q.2.2 = false → acc.length + q.2.1.size ≤ d.size
  len2 : acc.length ≤ d.size + 1
structure DI2 (d : ByteArray) (m : Nat) (st : St) (q : Q3) (t n i : Int) (acc : List Del) : Prop where
  s8 : st.sl 8 = .c (.int .i64 t)
  s11 : st.sl 11 = .c (.int .i64 i)
  i0 : 0 ≤ i
  nb : n ≤ 9223372036854775807
  bud : n.toNat = m + i.toNat
  eq : rD d = (acc ++ (decD m t q).1, (decD m t q).2)
  len1 : q.2.2 = false → acc.length + q.2.1.size ≤ d.size
  len2 : acc.length ≤ d.size + 1
def DInv1 (d : ByteArray) (m : Nat) (st : St) : Prop := ∃ br b5 b6 b7 b2 q n s G t i acc, DI d st br b5 b6 b7 b2 q n s G (.sl true 0 none []) ∧ GC st G 57 45 8 (acc.map attC) ∧ DI1 d m st q t n i acc
def DEnd1 (d : ByteArray) (st : St) : Prop := ∃ br b5 b6 b7 b2 n s G, DI d st br b5 b6 b7 b2 (rA d).2 n s G (.sl true 0 none []) ∧ GC st G 57 45 8 ((rA d).1.map attC)
def DInv2 (d : ByteArray) (m : Nat) (st : St) : Prop := ∃ br b5 b6 b7 b2 q n s G H t i acc, DI d st br b5 b6 b7 b2 q n s G H ∧ GC st G 57 45 8 ((rA d).1.map attC) ∧ GC st H 90 62 3 (acc.map delC) ∧ DI2 d m st q t n i acc
def DEnd2 (d : ByteArray) (st : St) : Prop := ∃ br b5 b6 b7 b2 n s G H, DI d st br b5 b6 b7 b2 (rD d).2 n s G H ∧ GC st G 57 45 8 ((rA d).1.map attC) ∧ GC st H 90 62 3 ((rD d).1.map delC)
theorem nx3_size (q : Q3) : (nx (nx (nx q))).2.1.size ≤ q.2.1.size ∧ ((nx (nx (nx q))).2.2 = false → (nx (nx (nx q))).2.1.size + 1 ≤ q.2.1.size) := by
  have h1 := nx_size q
  have h2 := nx_size (nx q)
  have h3 := nx_size (nx (nx q))
  exact ⟨by omega, fun h => by have := (h3.2 h).1; omega⟩
theorem nx8_size (q : Q3) : (nx (nx (nx (nx (nx (nx (nx (nx q)))))))).2.1.size ≤ q.2.1.size ∧ ((nx (nx (nx (nx (nx (nx (nx (nx q)))))))).2.2 = false → (nx (nx (nx (nx (nx (nx (nx (nx q)))))))).2.1.size + 1 ≤ q.2.1.size) := by
  have h1 := nx_size q
  have h2 := nx_size (nx q)
  have h3 := nx3_size (nx (nx q))
  have h4 := nx3_size (nx (nx (nx (nx (nx q)))))
  exact ⟨by omega, fun h => by have := h4.2 h; omega⟩
theorem decode_does (d : ByteArray) (hd : d.size ≤ 1073741824) : Does Try.prog 11 [.c (.str d)] (.tup [.agg (recC (decode d).1), .c (.int .i64 (decode d).2)]) := by
  refine Does.of_body Try.func11 rfl (by kernel_rfl) rfl rfl (by simp) ?_
  intro E
  repeat (first
    | (refine Tri.seq fun K hK => ?_)
    | (refine Tri.region ?_; simp [upd])
    | (refine Tri.draw (by kernel_rfl) (by decide +kernel) ?_; simp [upd])
    | (refine Tri.cond_true ?_ ?_; (focus simp [upd]; done))
    | (refine Tri.cond_false ?_ ?_; (focus simp [upd]; done))
    | (refine Tri.skip ?_; simp only [thenS, blockS])
    | (refine Tri.block_seq ?_)
    | (refine Tri.block_region ?_)
    | (refine Tri.block_cond ?_)
    | (with_reducible refine CallK.boxes (read2_does _ (0, d, false) _ _ 0 0 (.sl true 0 none []) (.sl true 0 none [])) (Wks.refl _) ?_ ?_ ?_; (focus (simp [upd]; done)); (focus (simp; done)); simp [upd])
    | (refine Tri.exit ?_; simp [upd]; first | (rename ∀ st, Tri _ _ _ st _ → _ => hK; first | (apply hK; clear hK) | (clear hK; rename ∀ st, Tri _ _ _ st _ → _ => hK; first | (apply hK; clear hK) | (clear hK; rename ∀ st, Tri _ _ _ st _ → _ => hK; first | (apply hK; clear hK) | (clear hK; rename ∀ st, Tri _ _ _ st _ → _ => hK; first | (apply hK; clear hK) | (clear hK; rename ∀ st, Tri _ _ _ st _ → _ => hK; first | (apply hK; clear hK) | (clear hK; rename ∀ st, Tri _ _ _ st _ → _ => hK; apply hK; clear hK)))))) | skip)
    | (intro β)
    | (rename ∀ st, Tri _ _ _ st _ → _ => hK; apply hK; clear hK))
  rename ∀ st, Tri _ _ _ st _ → _ => hK
  have fin := fun (st : St) (h : DEnd1 d st) => hK st ?tail
  case tail =>
    obtain ⟨br, b5, b6, b7, b2, n, s, G, ⟨hn, s4, x15, s5, x5, s6, x6, s7, x7, s2, x2, sz⟩, hG⟩ := h
    clear hK
    repeat (first
      | (refine Tri.seq fun K hK => ?_)
      | (refine Tri.region ?_; simp [upd, hn, s4, x15, s5, x5, s6, x6, s7, x7, s2, x2])
      | (refine Tri.draw (by kernel_rfl) (by decide +kernel) ?_; simp [upd, hn, s4, x15, s5, x5, s6, x6, s7, x7, s2, x2])
      | (refine Tri.cond_true ?_ ?_; (focus simp [upd, hn, s4, x15, s5, x5, s6, x6, s7, x7, s2, x2]; done))
      | (refine Tri.cond_false ?_ ?_; (focus simp [upd, hn, s4, x15, s5, x5, s6, x6, s7, x7, s2, x2]; done))
      | (refine Tri.skip ?_; simp only [thenS, blockS])
      | (refine Tri.block_seq ?_)
      | (refine Tri.block_region ?_)
      | (refine Tri.block_cond ?_)
      | (with_reducible refine CallK.boxes (read1_does br (rA d).2 b6 n) (Wks.refl _) ?_ ?_ ?_; (focus (simp [upd, x15, x6]; done)); (focus (simp; done)); simp [upd, hn, s4, x15, s5, x5, s6, x6, s7, x7, s2, x2])
      | (refine Tri.exit ?_; simp [upd, hn, s4, x15, s5, x5, s6, x6, s7, x7, s2, x2]; first | (rename ∀ st, Tri _ _ _ st _ → _ => hK; first | (apply hK; clear hK) | (clear hK; rename ∀ st, Tri _ _ _ st _ → _ => hK; first | (apply hK; clear hK) | (clear hK; rename ∀ st, Tri _ _ _ st _ → _ => hK; first | (apply hK; clear hK) | (clear hK; rename ∀ st, Tri _ _ _ st _ → _ => hK; first | (apply hK; clear hK) | (clear hK; rename ∀ st, Tri _ _ _ st _ → _ => hK; first | (apply hK; clear hK) | (clear hK; rename ∀ st, Tri _ _ _ st _ → _ => hK; apply hK; clear hK)))))) | skip)
      | (intro β)
      | (rename ∀ st, Tri _ _ _ st _ → _ => hK; apply hK; clear hK))
    rename ∀ st, Tri _ _ _ st _ → _ => hK
    have fin2 := fun (st : St) (h : DEnd2 d st) => hK st ?tail
    case tail =>
      obtain ⟨br, b5, b6, b7, b2, n, s, G, H, ⟨hn, s4, x15, s5, x5, s6, x6, s7, x7, s2, x2, sz⟩, hG, hH⟩ := h
      clear hK
      have wG : Wk (.c G) (.c (.sl (rA d).1.isEmpty 8 none ((rA d).1.map attC))) := by simpa using GC.wk hG
      have wH : Wk (.c H) (.c (.sl (rD d).1.isEmpty 3 none ((rD d).1.map delC))) := by simpa using GC.wk hH
      obtain ⟨nl1, n1, o1, es1, rfl⟩ := hG.sl
      obtain ⟨nl2, n2, o2, es2, rfl⟩ := hH.sl
      have wR : Wk (.agg [.int .i64 (qA d).1, .sl nl1 n1 o1 es1, .sl nl2 n2 o2 es2]) (.agg (recC (recOf d))) := .agg3 (.refl _) wG wH
      have wZ : Wk (.agg [.int .i64 0, .sl true 0 none [], .sl true 0 none []]) (.agg (recC zrec)) := .agg3 (.refl _) (.nil _ _ _ _) (.nil _ _ _ _)
      cases hb : (rD d).2.2.2
      case true =>
        have e : decode d = (zrec, 10) := by simp [decode, decOk, hb]
        rw [e]
        repeat (first
          | (refine Tri.seq fun K hK => ?_)
          | (refine Tri.region ?_; simp [upd, hn, s4, x15, s5, x5, s6, x6, s7, x7, s2, x2, hb])
          | (refine Tri.draw (by kernel_rfl) (by decide +kernel) ?_; simp [upd, hn, s4, x15, s5, x5, s6, x6, s7, x7, s2, x2, hb])
          | (refine Tri.cond_true ?_ ?_; (focus simp [upd, hn, s4, x15, s5, x5, s6, x6, s7, x7, s2, x2, hb]; done))
          | (refine Tri.cond_false ?_ ?_; (focus simp [upd, hn, s4, x15, s5, x5, s6, x6, s7, x7, s2, x2, hb]; done))
          | (refine Tri.skip ?_; simp only [thenS, blockS])
          | (refine Tri.block_seq ?_)
          | (refine Tri.block_region ?_)
          | (refine Tri.block_cond ?_)
          | (refine Tri.exit ?_; simp [upd, hn, s4, x15, s5, x5, s6, x6, s7, x7, s2, x2, hb]; first | (rename ∀ st, Tri _ _ _ st _ → _ => hK; first | (apply hK; clear hK) | (clear hK; rename ∀ st, Tri _ _ _ st _ → _ => hK; first | (apply hK; clear hK) | (clear hK; rename ∀ st, Tri _ _ _ st _ → _ => hK; first | (apply hK; clear hK) | (clear hK; rename ∀ st, Tri _ _ _ st _ → _ => hK; first | (apply hK; clear hK) | (clear hK; rename ∀ st, Tri _ _ _ st _ → _ => hK; first | (apply hK; clear hK) | (clear hK; rename ∀ st, Tri _ _ _ st _ → _ => hK; apply hK; clear hK)))))) | skip)
          | (intro β)
          | (rename ∀ st, Tri _ _ _ st _ → _ => hK; apply hK; clear hK))
        refine Tri.ret ⟨.tup [.agg [.int .i64 0, .sl true 0 none [], .sl true 0 none []], .c (.int .i64 10)], by simp [upd, s2], ?_⟩
        exact .tup2 wZ (.refl _)
      cases hs : ((rD d).2.2.1.toList == [])
      case false =>
        have e : decode d = (zrec, 10) := by simp [decode, decOk, hb, hs]
        rw [e]
        repeat (first
          | (refine Tri.seq fun K hK => ?_)
          | (refine Tri.region ?_; simp [upd, hn, s4, x15, s5, x5, s6, x6, s7, x7, s2, x2, hb, hs])
          | (refine Tri.draw (by kernel_rfl) (by decide +kernel) ?_; simp [upd, hn, s4, x15, s5, x5, s6, x6, s7, x7, s2, x2, hb, hs])
          | (refine Tri.cond_true ?_ ?_; (focus simp [upd, hn, s4, x15, s5, x5, s6, x6, s7, x7, s2, x2, hb, hs]; done))
          | (refine Tri.cond_false ?_ ?_; (focus simp [upd, hn, s4, x15, s5, x5, s6, x6, s7, x7, s2, x2, hb, hs]; done))
          | (refine Tri.skip ?_; simp only [thenS, blockS])
          | (refine Tri.block_seq ?_)
          | (refine Tri.block_region ?_)
          | (refine Tri.block_cond ?_)
          | (refine Tri.exit ?_; simp [upd, hn, s4, x15, s5, x5, s6, x6, s7, x7, s2, x2, hb, hs]; first | (rename ∀ st, Tri _ _ _ st _ → _ => hK; first | (apply hK; clear hK) | (clear hK; rename ∀ st, Tri _ _ _ st _ → _ => hK; first | (apply hK; clear hK) | (clear hK; rename ∀ st, Tri _ _ _ st _ → _ => hK; first | (apply hK; clear hK) | (clear hK; rename ∀ st, Tri _ _ _ st _ → _ => hK; first | (apply hK; clear hK) | (clear hK; rename ∀ st, Tri _ _ _ st _ → _ => hK; first | (apply hK; clear hK) | (clear hK; rename ∀ st, Tri _ _ _ st _ → _ => hK; apply hK; clear hK)))))) | skip)
          | (intro β)
          | (rename ∀ st, Tri _ _ _ st _ → _ => hK; apply hK; clear hK))
        refine Tri.ret ⟨.tup [.agg [.int .i64 0, .sl true 0 none [], .sl true 0 none []], .c (.int .i64 10)], by simp [upd, s2], ?_⟩
        exact .tup2 wZ (.refl _)
      cases hc : (check (recOf d) == 0)
      case false =>
        have e : decode d = (zrec, 10) := by simp only [decode, decOk, hb, hs, hc]; rfl
        rw [e]
        repeat (first
          | (refine Tri.seq fun K hK => ?_)
          | (refine Tri.region ?_; simp [upd, hn, s4, x15, s5, x5, s6, x6, s7, x7, s2, x2, hb, hs, hc, bne])
          | (refine Tri.draw (by kernel_rfl) (by decide +kernel) ?_; simp [upd, hn, s4, x15, s5, x5, s6, x6, s7, x7, s2, x2, hb, hs, hc, bne])
          | (refine Tri.cond_true ?_ ?_; (focus simp [upd, hn, s4, x15, s5, x5, s6, x6, s7, x7, s2, x2, hb, hs, hc, bne]; done))
          | (refine Tri.cond_false ?_ ?_; (focus simp [upd, hn, s4, x15, s5, x5, s6, x6, s7, x7, s2, x2, hb, hs, hc, bne]; done))
          | (refine Tri.skip ?_; simp only [thenS, blockS])
          | (refine Tri.block_seq ?_)
          | (refine Tri.block_region ?_)
          | (refine Tri.block_cond ?_)
          | (refine CallK.pure (check_does (recOf d)) ⟨wR, trivial⟩ ?_; simp [upd, hn, s4, x15, s5, x5, s6, x6, s7, x7, s2, x2, hb, hs, hc, bne])
          | (refine Tri.exit ?_; simp [upd, hn, s4, x15, s5, x5, s6, x6, s7, x7, s2, x2, hb, hs, hc, bne]; first | (rename ∀ st, Tri _ _ _ st _ → _ => hK; first | (apply hK; clear hK) | (clear hK; rename ∀ st, Tri _ _ _ st _ → _ => hK; first | (apply hK; clear hK) | (clear hK; rename ∀ st, Tri _ _ _ st _ → _ => hK; first | (apply hK; clear hK) | (clear hK; rename ∀ st, Tri _ _ _ st _ → _ => hK; first | (apply hK; clear hK) | (clear hK; rename ∀ st, Tri _ _ _ st _ → _ => hK; first | (apply hK; clear hK) | (clear hK; rename ∀ st, Tri _ _ _ st _ → _ => hK; apply hK; clear hK)))))) | skip)
          | (intro β)
          | (rename ∀ st, Tri _ _ _ st _ → _ => hK; apply hK; clear hK))
        refine Tri.ret ⟨.tup [.agg [.int .i64 0, .sl true 0 none [], .sl true 0 none []], .c (.int .i64 10)], by simp [upd, s2], ?_⟩
        exact .tup2 wZ (.refl _)
      have e : decode d = (recOf d, 0) := by simp only [decode, decOk, hb, hs, hc]; rfl
      rw [e]
      repeat (first
        | (refine Tri.seq fun K hK => ?_)
        | (refine Tri.region ?_; simp [upd, hn, s4, x15, s5, x5, s6, x6, s7, x7, s2, x2, hb, hs, hc, bne])
        | (refine Tri.draw (by kernel_rfl) (by decide +kernel) ?_; simp [upd, hn, s4, x15, s5, x5, s6, x6, s7, x7, s2, x2, hb, hs, hc, bne])
        | (refine Tri.cond_true ?_ ?_; (focus simp [upd, hn, s4, x15, s5, x5, s6, x6, s7, x7, s2, x2, hb, hs, hc, bne]; done))
        | (refine Tri.cond_false ?_ ?_; (focus simp [upd, hn, s4, x15, s5, x5, s6, x6, s7, x7, s2, x2, hb, hs, hc, bne]; done))
        | (refine Tri.skip ?_; simp only [thenS, blockS])
        | (refine Tri.block_seq ?_)
        | (refine Tri.block_region ?_)
        | (refine Tri.block_cond ?_)
        | (refine CallK.pure (check_does (recOf d)) ⟨wR, trivial⟩ ?_; simp [upd, hn, s4, x15, s5, x5, s6, x6, s7, x7, s2, x2, hb, hs, hc, bne])
        | (refine Tri.exit ?_; simp [upd, hn, s4, x15, s5, x5, s6, x6, s7, x7, s2, x2, hb, hs, hc, bne]; first | (rename ∀ st, Tri _ _ _ st _ → _ => hK; first | (apply hK; clear hK) | (clear hK; rename ∀ st, Tri _ _ _ st _ → _ => hK; first | (apply hK; clear hK) | (clear hK; rename ∀ st, Tri _ _ _ st _ → _ => hK; first | (apply hK; clear hK) | (clear hK; rename ∀ st, Tri _ _ _ st _ → _ => hK; first | (apply hK; clear hK) | (clear hK; rename ∀ st, Tri _ _ _ st _ → _ => hK; first | (apply hK; clear hK) | (clear hK; rename ∀ st, Tri _ _ _ st _ → _ => hK; apply hK; clear hK)))))) | skip)
        | (intro β)
        | (rename ∀ st, Tri _ _ _ st _ → _ => hK; apply hK; clear hK))
      refine Tri.ret ⟨.tup [.agg [.int .i64 (qA d).1, .sl nl1 n1 o1 es1, .sl nl2 n2 o2 es2], .c (.int .i64 0)], by simp [upd, s2], ?_⟩
      exact .tup2 wR (.refl _)
    clear hK
    refine Tri.block (Tri.loop (DInv2 d) (qD d).1.toNat ?_ ?_)
    · refine ⟨br, b5, b6, b7, b2, qD d, (qD d).1, s, G, .sl true 0 none [], 0, 0, [], ⟨rfl, by simpa [upd] using s4, by simp [upd, qD] <;> exact rfl, by simpa [upd] using s5, by simpa [upd] using x5, by simpa [upd] using s6, by simp [upd, qD] <;> exact rfl, by simpa [upd] using s7, by simpa [upd] using x7, by simpa [upd] using s2, by simpa [upd] using x2, ?_⟩, by simpa [GC] using hG, .inl ⟨rfl, 0, none, rfl⟩, ⟨by simp [upd], by simp [upd], by omega, (nx_le _).1, by simp, by simp [rD], ?_, by simp⟩⟩
      · exact Nat.le_trans (nx_size _).1 sz
      · intro _
        simpa [qD] using Nat.le_trans (nx_size _).1 sz
    · clear hn s4 x15 s5 x5 s6 x6 s7 x7 s2 x2 sz hG
      rintro m st ⟨br, b5, b6, b7, b2, q, n, s, G, H, t, i, acc, ⟨hn, s4, x15, s5, x5, s6, x6, s7, x7, s2, x2, sz⟩, hG, hH, ⟨s8, s11, i0, nb, bud, eq, len1, len2⟩⟩
      by_cases hin : i < n
      case neg =>
        have hm : m = 0 := by omega
        subst hm
        simp only [decD, List.append_nil] at eq
        repeat (first
          | (refine Tri.seq fun K hK => ?_)
          | (refine Tri.region ?_; simp [upd, hn, s4, x15, s5, x5, s6, x6, s7, x7, s2, x2, s8, s11, hin])
          | (refine Tri.draw (by kernel_rfl) (by decide +kernel) ?_; simp [upd, hn, s4, x15, s5, x5, s6, x6, s7, x7, s2, x2, s8, s11, hin])
          | (refine Tri.cond_true ?_ ?_; (focus simp [upd, hn, s4, x15, s5, x5, s6, x6, s7, x7, s2, x2, s8, s11, hin]; done))
          | (refine Tri.cond_false ?_ ?_; (focus simp [upd, hn, s4, x15, s5, x5, s6, x6, s7, x7, s2, x2, s8, s11, hin]; done))
          | (refine Tri.skip ?_; simp only [thenS, blockS])
          | (refine Tri.block_seq ?_)
          | (refine Tri.block_region ?_)
          | (refine Tri.block_cond ?_)
          | (refine Tri.exit ?_; simp [upd, hn, s4, x15, s5, x5, s6, x6, s7, x7, s2, x2, s8, s11, hin]; first | (rename ∀ st, Tri _ _ _ st _ → _ => hK; first | (apply hK; clear hK) | (clear hK; rename ∀ st, Tri _ _ _ st _ → _ => hK; first | (apply hK; clear hK) | (clear hK; rename ∀ st, Tri _ _ _ st _ → _ => hK; first | (apply hK; clear hK) | (clear hK; rename ∀ st, Tri _ _ _ st _ → _ => hK; first | (apply hK; clear hK) | (clear hK; rename ∀ st, Tri _ _ _ st _ → _ => hK; first | (apply hK; clear hK) | (clear hK; rename ∀ st, Tri _ _ _ st _ → _ => hK; apply hK; clear hK)))))) | skip)
          | (intro β)
          | (rename ∀ st, Tri _ _ _ st _ → _ => hK; apply hK; clear hK))
        apply fin2
        refine ⟨br, b5, b6, b7, b2, n, s, G, H, ⟨rfl, by simpa [upd] using s4, by simpa [eq] using x15, by simpa [upd] using s5, x5, by simpa [upd] using s6, x6, by simpa [upd] using s7, x7, by simpa [upd] using s2, x2, by simpa [eq] using sz⟩, by simpa [GC] using hG, by simpa [eq, GC] using hH⟩
      obtain ⟨m, rfl⟩ : ∃ m', m = m' + 1 := ⟨m - 1, by omega⟩
      rw [decD] at eq
      cases hb : q.2.2
      case true =>
        rw [if_pos hb] at eq
        simp only [List.append_nil] at eq
        repeat (first
          | (refine Tri.seq fun K hK => ?_)
          | (refine Tri.region ?_; simp [upd, hn, s4, x15, s5, x5, s6, x6, s7, x7, s2, x2, s8, s11, hin, hb])
          | (refine Tri.draw (by kernel_rfl) (by decide +kernel) ?_; simp [upd, hn, s4, x15, s5, x5, s6, x6, s7, x7, s2, x2, s8, s11, hin, hb])
          | (refine Tri.cond_true ?_ ?_; (focus simp [upd, hn, s4, x15, s5, x5, s6, x6, s7, x7, s2, x2, s8, s11, hin, hb]; done))
          | (refine Tri.cond_false ?_ ?_; (focus simp [upd, hn, s4, x15, s5, x5, s6, x6, s7, x7, s2, x2, s8, s11, hin, hb]; done))
          | (refine Tri.skip ?_; simp only [thenS, blockS])
          | (refine Tri.block_seq ?_)
          | (refine Tri.block_region ?_)
          | (refine Tri.block_cond ?_)
          | (refine Tri.exit ?_; simp [upd, hn, s4, x15, s5, x5, s6, x6, s7, x7, s2, x2, s8, s11, hin, hb]; first | (rename ∀ st, Tri _ _ _ st _ → _ => hK; first | (apply hK; clear hK) | (clear hK; rename ∀ st, Tri _ _ _ st _ → _ => hK; first | (apply hK; clear hK) | (clear hK; rename ∀ st, Tri _ _ _ st _ → _ => hK; first | (apply hK; clear hK) | (clear hK; rename ∀ st, Tri _ _ _ st _ → _ => hK; first | (apply hK; clear hK) | (clear hK; rename ∀ st, Tri _ _ _ st _ → _ => hK; first | (apply hK; clear hK) | (clear hK; rename ∀ st, Tri _ _ _ st _ → _ => hK; apply hK; clear hK)))))) | skip)
          | (intro β)
          | (rename ∀ st, Tri _ _ _ st _ → _ => hK; apply hK; clear hK))
        apply fin2
        refine ⟨br, b5, b6, b7, b2, n, s, G, H, ⟨rfl, by simpa [upd] using s4, by simpa [eq] using x15, by simpa [upd] using s5, x5, by simpa [upd] using s6, x6, by simpa [upd] using s7, x7, by simpa [upd] using s2, x2, by simpa [eq] using sz⟩, by simpa [GC] using hG, by simpa [eq, GC] using hH⟩
      rw [if_neg (by simp [hb])] at eq
      have hw1 : IntKind.i64.wrap (i + 1) = i + 1 := wrap_i64 (by omega) (by omega)
      have len3 := len1 hb
      have hsz3 := nx3_size q
      rcases hH with ⟨hnil, k0, own, rfl⟩ | ⟨b, hne, rfl, hrw⟩
      · have hacc : acc = [] := by simpa using hnil
        subst hacc
        repeat (first
          | (refine Tri.seq fun K hK => ?_)
          | (refine Tri.region ?_; simp [upd, hn, s4, x15, s5, x5, s6, x6, s7, x7, s2, x2, s8, s11, hin, hb, hw1, hn])
          | (refine Tri.draw (by kernel_rfl) (by decide +kernel) ?_; simp [upd, hn, s4, x15, s5, x5, s6, x6, s7, x7, s2, x2, s8, s11, hin, hb, hw1, hn])
          | (refine Tri.cond_true ?_ ?_; (focus simp [upd, hn, s4, x15, s5, x5, s6, x6, s7, x7, s2, x2, s8, s11, hin, hb, hw1, hn]; done))
          | (refine Tri.cond_false ?_ ?_; (focus simp [upd, hn, s4, x15, s5, x5, s6, x6, s7, x7, s2, x2, s8, s11, hin, hb, hw1, hn]; done))
          | (refine Tri.skip ?_; simp only [thenS, blockS])
          | (refine Tri.block_seq ?_)
          | (refine Tri.block_region ?_)
          | (refine Tri.block_cond ?_)
          | (with_reducible refine CallK.boxes (read3_does br q b7 _ s 0 0 0) (Wks.refl _) ?_ ?_ ?_; (focus (simp [upd, x15, x7]; done)); (focus (simp; done)); simp [upd, hn, s4, x15, s5, x5, s6, x6, s7, x7, s2, x2, s8, s11, hin, hb, hw1, hn])
          | (refine Tri.exit ?_; simp [upd, hn, s4, x15, s5, x5, s6, x6, s7, x7, s2, x2, s8, s11, hin, hb, hw1, hn]; first | (rename ∀ st, Tri _ _ _ st _ → _ => hK; first | (apply hK; clear hK) | (clear hK; rename ∀ st, Tri _ _ _ st _ → _ => hK; first | (apply hK; clear hK) | (clear hK; rename ∀ st, Tri _ _ _ st _ → _ => hK; first | (apply hK; clear hK) | (clear hK; rename ∀ st, Tri _ _ _ st _ → _ => hK; first | (apply hK; clear hK) | (clear hK; rename ∀ st, Tri _ _ _ st _ → _ => hK; first | (apply hK; clear hK) | (clear hK; rename ∀ st, Tri _ _ _ st _ → _ => hK; apply hK; clear hK)))))) | skip)
          | (intro β)
          | (rename ∀ st, Tri _ _ _ st _ → _ => hK; apply hK; clear hK))
        refine ⟨m, by omega, br, b5, b6, b7, b2, _, n, (nx q).1, G, _, i64w (t + (nx q).1), i + 1, [] ++ [⟨(nx (nx q)).1, (nx (nx (nx q))).1, i64w (t + (nx q).1)⟩], ⟨rfl, by simpa [upd] using s4, by simp [upd] <;> exact ⟨rfl, rfl⟩, by simpa [upd] using s5, by simp [upd] <;> exact rfl, by simpa [upd] using s6, by simpa [upd] using x6, by simpa [upd] using s7, by simp [upd], by simpa [upd] using s2, by simpa [upd] using x2, ?_⟩, by simpa [GC, upd] using hG, .inr ⟨β, by simp, ?_, ?_⟩, ⟨by simp [upd, i64w], by simp [upd], by omega, nb, by omega, eq.trans ?_, ?_, ?_⟩⟩
        · exact Nat.le_trans hsz3.1 sz
        · simp [i64w]
        · simp [upd]
        · simp
        · intro h; have := hsz3.2 h; simp; omega
        · simp
      · have hlen : (acc.length + 1) * 24 ≤ 140737488355328 := by omega
        rw [List.length_map] at hrw
        repeat (first
          | (refine Tri.seq fun K hK => ?_)
          | (refine Tri.region ?_; simp [upd, hn, s4, x15, s5, x5, s6, x6, s7, x7, s2, x2, s8, s11, hin, hb, hw1, hrw, hlen])
          | (refine Tri.draw (by kernel_rfl) (by decide +kernel) ?_; simp [upd, hn, s4, x15, s5, x5, s6, x6, s7, x7, s2, x2, s8, s11, hin, hb, hw1, hrw, hlen])
          | (refine Tri.cond_true ?_ ?_; (focus simp [upd, hn, s4, x15, s5, x5, s6, x6, s7, x7, s2, x2, s8, s11, hin, hb, hw1, hrw, hlen]; done))
          | (refine Tri.cond_false ?_ ?_; (focus simp [upd, hn, s4, x15, s5, x5, s6, x6, s7, x7, s2, x2, s8, s11, hin, hb, hw1, hrw, hlen]; done))
          | (refine Tri.skip ?_; simp only [thenS, blockS])
          | (refine Tri.block_seq ?_)
          | (refine Tri.block_region ?_)
          | (refine Tri.block_cond ?_)
          | (with_reducible refine CallK.boxes (read3_does br q b7 _ s 0 0 0) (Wks.refl _) ?_ ?_ ?_; (focus (simp [upd, x15, x7]; done)); (focus (simp; done)); simp [upd, hn, s4, x15, s5, x5, s6, x6, s7, x7, s2, x2, s8, s11, hin, hb, hw1, hrw, hlen])
          | (refine Tri.exit ?_; simp [upd, hn, s4, x15, s5, x5, s6, x6, s7, x7, s2, x2, s8, s11, hin, hb, hw1, hrw, hlen]; first | (rename ∀ st, Tri _ _ _ st _ → _ => hK; first | (apply hK; clear hK) | (clear hK; rename ∀ st, Tri _ _ _ st _ → _ => hK; first | (apply hK; clear hK) | (clear hK; rename ∀ st, Tri _ _ _ st _ → _ => hK; first | (apply hK; clear hK) | (clear hK; rename ∀ st, Tri _ _ _ st _ → _ => hK; first | (apply hK; clear hK) | (clear hK; rename ∀ st, Tri _ _ _ st _ → _ => hK; first | (apply hK; clear hK) | (clear hK; rename ∀ st, Tri _ _ _ st _ → _ => hK; apply hK; clear hK)))))) | skip)
          | (intro β)
          | (rename ∀ st, Tri _ _ _ st _ → _ => hK; apply hK; clear hK))
        refine ⟨m, by omega, br, b5, b6, b7, b2, _, n, (nx q).1, G, _, i64w (t + (nx q).1), i + 1, acc ++ [⟨(nx (nx q)).1, (nx (nx (nx q))).1, i64w (t + (nx q).1)⟩], ⟨rfl, by simpa [upd] using s4, by simp [upd] <;> exact ⟨rfl, rfl⟩, by simpa [upd] using s5, by simp [upd] <;> exact rfl, by simpa [upd] using s6, by simpa [upd] using x6, by simpa [upd] using s7, by simp [upd], by simpa [upd] using s2, by simpa [upd] using x2, ?_⟩, by simpa [GC, upd] using hG, .inr ⟨β, by simp, ?_, ?_⟩, ⟨by simp [upd, i64w], by simp [upd], by omega, nb, by omega, eq.trans ?_, ?_, ?_⟩⟩
        · exact Nat.le_trans hsz3.1 sz
        · simp [i64w]
        · simp [upd]
        · simp
        · intro h; have := hsz3.2 h; simp; omega
        · simp; omega
  clear hK
  refine Tri.block (Tri.loop (DInv1 d) (qB d).1.toNat ?_ ?_)
  · refine ⟨_, _, _, _, _, qB d, (qB d).1, 0, .sl true 0 none [], 0, 0, [], ⟨rfl, by simp [upd] <;> exact rfl, by simp [upd, qB, qA] <;> exact rfl, by simp [upd] <;> exact rfl, by simp [upd, qA] <;> exact rfl, by simp [upd] <;> exact rfl, by simp [upd, qB, qA] <;> exact rfl, by simp [upd] <;> exact rfl, by simp [upd] <;> exact rfl, by simp [upd] <;> exact rfl, by simp [upd] <;> exact rfl, ?_⟩, .inl ⟨rfl, 0, none, rfl⟩, ⟨by simp [upd], by simp [upd], by omega, (nx_le _).1, by simp, by simp [rA], ?_, by simp⟩⟩
    · exact Nat.le_trans (nx_size _).1 (nx_size (0, d, false)).1
    · intro _
      simpa [qB, qA] using Nat.le_trans (nx_size _).1 (nx_size (0, d, false)).1
  · rintro m st ⟨br, b5, b6, b7, b2, q, n, s, G, t, i, acc, ⟨hn, s4, x15, s5, x5, s6, x6, s7, x7, s2, x2, sz⟩, hG, ⟨s8, s9, i0, nb, bud, eq, len1, len2⟩⟩
    by_cases hin : i < n
    case neg =>
      have hm : m = 0 := by omega
      subst hm
      simp only [decA, List.append_nil] at eq
      repeat (first
        | (refine Tri.seq fun K hK => ?_)
        | (refine Tri.region ?_; simp [upd, hn, s4, x15, s5, x5, s6, x6, s7, x7, s2, x2, s8, s9, hin])
        | (refine Tri.draw (by kernel_rfl) (by decide +kernel) ?_; simp [upd, hn, s4, x15, s5, x5, s6, x6, s7, x7, s2, x2, s8, s9, hin])
        | (refine Tri.cond_true ?_ ?_; (focus simp [upd, hn, s4, x15, s5, x5, s6, x6, s7, x7, s2, x2, s8, s9, hin]; done))
        | (refine Tri.cond_false ?_ ?_; (focus simp [upd, hn, s4, x15, s5, x5, s6, x6, s7, x7, s2, x2, s8, s9, hin]; done))
        | (refine Tri.skip ?_; simp only [thenS, blockS])
        | (refine Tri.block_seq ?_)
        | (refine Tri.block_region ?_)
        | (refine Tri.block_cond ?_)
        | (refine Tri.exit ?_; simp [upd, hn, s4, x15, s5, x5, s6, x6, s7, x7, s2, x2, s8, s9, hin]; first | (rename ∀ st, Tri _ _ _ st _ → _ => hK; first | (apply hK; clear hK) | (clear hK; rename ∀ st, Tri _ _ _ st _ → _ => hK; first | (apply hK; clear hK) | (clear hK; rename ∀ st, Tri _ _ _ st _ → _ => hK; first | (apply hK; clear hK) | (clear hK; rename ∀ st, Tri _ _ _ st _ → _ => hK; first | (apply hK; clear hK) | (clear hK; rename ∀ st, Tri _ _ _ st _ → _ => hK; first | (apply hK; clear hK) | (clear hK; rename ∀ st, Tri _ _ _ st _ → _ => hK; apply hK; clear hK)))))) | skip)
        | (intro β)
        | (rename ∀ st, Tri _ _ _ st _ → _ => hK; apply hK; clear hK))
      apply fin
      refine ⟨br, b5, b6, b7, b2, n, s, G, ⟨rfl, by simpa [upd] using s4, by simpa [eq] using x15, by simpa [upd] using s5, x5, by simpa [upd] using s6, x6, by simpa [upd] using s7, x7, by simpa [upd] using s2, x2, by simpa [eq] using sz⟩, by simpa [eq, GC] using hG⟩
    obtain ⟨m, rfl⟩ : ∃ m', m = m' + 1 := ⟨m - 1, by omega⟩
    rw [decA] at eq
    cases hb : q.2.2
    case true =>
      rw [if_pos hb] at eq
      simp only [List.append_nil] at eq
      repeat (first
        | (refine Tri.seq fun K hK => ?_)
        | (refine Tri.region ?_; simp [upd, hn, s4, x15, s5, x5, s6, x6, s7, x7, s2, x2, s8, s9, hin, hb])
        | (refine Tri.draw (by kernel_rfl) (by decide +kernel) ?_; simp [upd, hn, s4, x15, s5, x5, s6, x6, s7, x7, s2, x2, s8, s9, hin, hb])
        | (refine Tri.cond_true ?_ ?_; (focus simp [upd, hn, s4, x15, s5, x5, s6, x6, s7, x7, s2, x2, s8, s9, hin, hb]; done))
        | (refine Tri.cond_false ?_ ?_; (focus simp [upd, hn, s4, x15, s5, x5, s6, x6, s7, x7, s2, x2, s8, s9, hin, hb]; done))
        | (refine Tri.skip ?_; simp only [thenS, blockS])
        | (refine Tri.block_seq ?_)
        | (refine Tri.block_region ?_)
        | (refine Tri.block_cond ?_)
        | (refine Tri.exit ?_; simp [upd, hn, s4, x15, s5, x5, s6, x6, s7, x7, s2, x2, s8, s9, hin, hb]; first | (rename ∀ st, Tri _ _ _ st _ → _ => hK; first | (apply hK; clear hK) | (clear hK; rename ∀ st, Tri _ _ _ st _ → _ => hK; first | (apply hK; clear hK) | (clear hK; rename ∀ st, Tri _ _ _ st _ → _ => hK; first | (apply hK; clear hK) | (clear hK; rename ∀ st, Tri _ _ _ st _ → _ => hK; first | (apply hK; clear hK) | (clear hK; rename ∀ st, Tri _ _ _ st _ → _ => hK; first | (apply hK; clear hK) | (clear hK; rename ∀ st, Tri _ _ _ st _ → _ => hK; apply hK; clear hK)))))) | skip)
        | (intro β)
        | (rename ∀ st, Tri _ _ _ st _ → _ => hK; apply hK; clear hK))
      apply fin
      refine ⟨br, b5, b6, b7, b2, n, s, G, ⟨rfl, by simpa [upd] using s4, by simpa [eq] using x15, by simpa [upd] using s5, x5, by simpa [upd] using s6, x6, by simpa [upd] using s7, x7, by simpa [upd] using s2, x2, by simpa [eq] using sz⟩, by simpa [eq, GC] using hG⟩
    rw [if_neg (by simp [hb])] at eq
    have hw1 : IntKind.i64.wrap (i + 1) = i + 1 := wrap_i64 (by omega) (by omega)
    have len3 := len1 hb
    have hsz8 := nx8_size q
    rcases hG with ⟨hnil, k0, own, rfl⟩ | ⟨b, hne, rfl, hrw⟩
    · have hacc : acc = [] := by simpa using hnil
      subst hacc
      repeat (first
        | (refine Tri.seq fun K hK => ?_)
        | (refine Tri.region ?_; simp [upd, hn, s4, x15, s5, x5, s6, x6, s7, x7, s2, x2, s8, s9, hin, hb, hw1, hn])
        | (refine Tri.draw (by kernel_rfl) (by decide +kernel) ?_; simp [upd, hn, s4, x15, s5, x5, s6, x6, s7, x7, s2, x2, s8, s9, hin, hb, hw1, hn])
        | (refine Tri.cond_true ?_ ?_; (focus simp [upd, hn, s4, x15, s5, x5, s6, x6, s7, x7, s2, x2, s8, s9, hin, hb, hw1, hn]; done))
        | (refine Tri.cond_false ?_ ?_; (focus simp [upd, hn, s4, x15, s5, x5, s6, x6, s7, x7, s2, x2, s8, s9, hin, hb, hw1, hn]; done))
        | (refine Tri.skip ?_; simp only [thenS, blockS])
        | (refine Tri.block_seq ?_)
        | (refine Tri.block_region ?_)
        | (refine Tri.block_cond ?_)
        | (with_reducible refine CallK.boxes (read8_does br q b7 _ s 0 0 0 0 0 0 0 0) (Wks.refl _) ?_ ?_ ?_; (focus (simp [upd, x15, x7]; done)); (focus (simp; done)); simp [upd, hn, s4, x15, s5, x5, s6, x6, s7, x7, s2, x2, s8, s9, hin, hb, hw1, hn])
        | (refine Tri.exit ?_; simp [upd, hn, s4, x15, s5, x5, s6, x6, s7, x7, s2, x2, s8, s9, hin, hb, hw1, hn]; first | (rename ∀ st, Tri _ _ _ st _ → _ => hK; first | (apply hK; clear hK) | (clear hK; rename ∀ st, Tri _ _ _ st _ → _ => hK; first | (apply hK; clear hK) | (clear hK; rename ∀ st, Tri _ _ _ st _ → _ => hK; first | (apply hK; clear hK) | (clear hK; rename ∀ st, Tri _ _ _ st _ → _ => hK; first | (apply hK; clear hK) | (clear hK; rename ∀ st, Tri _ _ _ st _ → _ => hK; first | (apply hK; clear hK) | (clear hK; rename ∀ st, Tri _ _ _ st _ → _ => hK; apply hK; clear hK)))))) | skip)
        | (intro β)
        | (rename ∀ st, Tri _ _ _ st _ → _ => hK; apply hK; clear hK))
      refine ⟨m, by omega, br, b5, b6, b7, b2, _, n, (nx q).1, _, i64w (t + (nx q).1), i + 1, [] ++ [⟨i64w (t + (nx q).1), (nx (nx q)).1, (nx (nx (nx q))).1, (nx (nx (nx (nx q)))).1, (nx (nx (nx (nx (nx q))))).1, (nx (nx (nx (nx (nx (nx q)))))).1, (nx (nx (nx (nx (nx (nx (nx q))))))).1, (nx (nx (nx (nx (nx (nx (nx (nx q)))))))).1⟩], ⟨rfl, by simpa [upd] using s4, by simp [upd] <;> exact ⟨rfl, rfl⟩, by simpa [upd] using s5, by simp [upd] <;> exact rfl, by simpa [upd] using s6, by simpa [upd] using x6, by simpa [upd] using s7, by simp [upd], by simpa [upd] using s2, by simpa [upd] using x2, ?_⟩, .inr ⟨β, by simp, ?_, ?_⟩, ⟨by simp [upd, i64w], by simp [upd], by omega, nb, by omega, eq.trans ?_, ?_, ?_⟩⟩
      · exact Nat.le_trans hsz8.1 sz
      · simp [i64w]
      · simp [upd]
      · simp
      · intro h; have := hsz8.2 h; simp; omega
      · simp
    · have hlen : (acc.length + 1) * 64 ≤ 140737488355328 := by omega
      rw [List.length_map] at hrw
      repeat (first
        | (refine Tri.seq fun K hK => ?_)
        | (refine Tri.region ?_; simp [upd, hn, s4, x15, s5, x5, s6, x6, s7, x7, s2, x2, s8, s9, hin, hb, hw1, hrw, hlen])
        | (refine Tri.draw (by kernel_rfl) (by decide +kernel) ?_; simp [upd, hn, s4, x15, s5, x5, s6, x6, s7, x7, s2, x2, s8, s9, hin, hb, hw1, hrw, hlen])
        | (refine Tri.cond_true ?_ ?_; (focus simp [upd, hn, s4, x15, s5, x5, s6, x6, s7, x7, s2, x2, s8, s9, hin, hb, hw1, hrw, hlen]; done))
        | (refine Tri.cond_false ?_ ?_; (focus simp [upd, hn, s4, x15, s5, x5, s6, x6, s7, x7, s2, x2, s8, s9, hin, hb, hw1, hrw, hlen]; done))
        | (refine Tri.skip ?_; simp only [thenS, blockS])
        | (refine Tri.block_seq ?_)
        | (refine Tri.block_region ?_)
        | (refine Tri.block_cond ?_)
        | (with_reducible refine CallK.boxes (read8_does br q b7 _ s 0 0 0 0 0 0 0 0) (Wks.refl _) ?_ ?_ ?_; (focus (simp [upd, x15, x7]; done)); (focus (simp; done)); simp [upd, hn, s4, x15, s5, x5, s6, x6, s7, x7, s2, x2, s8, s9, hin, hb, hw1, hrw, hlen])
        | (refine Tri.exit ?_; simp [upd, hn, s4, x15, s5, x5, s6, x6, s7, x7, s2, x2, s8, s9, hin, hb, hw1, hrw, hlen]; first | (rename ∀ st, Tri _ _ _ st _ → _ => hK; first | (apply hK; clear hK) | (clear hK; rename ∀ st, Tri _ _ _ st _ → _ => hK; first | (apply hK; clear hK) | (clear hK; rename ∀ st, Tri _ _ _ st _ → _ => hK; first | (apply hK; clear hK) | (clear hK; rename ∀ st, Tri _ _ _ st _ → _ => hK; first | (apply hK; clear hK) | (clear hK; rename ∀ st, Tri _ _ _ st _ → _ => hK; first | (apply hK; clear hK) | (clear hK; rename ∀ st, Tri _ _ _ st _ → _ => hK; apply hK; clear hK)))))) | skip)
        | (intro β)
        | (rename ∀ st, Tri _ _ _ st _ → _ => hK; apply hK; clear hK))
      refine ⟨m, by omega, br, b5, b6, b7, b2, _, n, (nx q).1, _, i64w (t + (nx q).1), i + 1, acc ++ [⟨i64w (t + (nx q).1), (nx (nx q)).1, (nx (nx (nx q))).1, (nx (nx (nx (nx q)))).1, (nx (nx (nx (nx (nx q))))).1, (nx (nx (nx (nx (nx (nx q)))))).1, (nx (nx (nx (nx (nx (nx (nx q))))))).1, (nx (nx (nx (nx (nx (nx (nx (nx q)))))))).1⟩], ⟨rfl, by simpa [upd] using s4, by simp [upd] <;> exact ⟨rfl, rfl⟩, by simpa [upd] using s5, by simp [upd] <;> exact rfl, by simpa [upd] using s6, by simpa [upd] using x6, by simpa [upd] using s7, by simp [upd], by simpa [upd] using s2, by simpa [upd] using x2, ?_⟩, .inr ⟨β, by simp, ?_, ?_⟩, ⟨by simp [upd, i64w], by simp [upd], by omega, nb, by omega, eq.trans ?_, ?_, ?_⟩⟩
      · exact Nat.le_trans hsz8.1 sz
      · simp [i64w]
      · simp [upd]
      · simp
      · intro h; have := hsz8.2 h; simp; omega
      · simp; omega
end Go.Proofs.Ytcohdlochpjnjaa
end
section
open Go Go.Vm
namespace Go.Proofs.Ytcohdlochpjnjaa
set_option maxRecDepth 100000
set_option maxHeartbeats 1000000
set_option linter.unusedSimpArgs false
attribute [local irreducible] Tri Does DoesB Rounds
def I1 (l : List Int) : List (List C) := l.map fun x => [.int .i64 x]
def runC (l : List Int) : C := .sl false 1 none (I1 l)
def runsC (l : List (List Int)) : List (List C) := l.map fun r => [runC r]
theorem end_nil (b12 b11 n : Nat) (own : Option (Nat × Nat)) (O : C) : DoesB Try.prog 51 [.c (.box 12 b12 0), .c (.box 11 b11 0)] [(12, b12, [.sl true n own []]), (11, b11, [O])] []
    (fun _ => (.tup [], [(12, b12, [.sl true 0 none []]), (11, b11, [O])], [])) := by
  refine DoesB.of_body Try.func51 rfl (by kernel_rfl) rfl rfl (by simp) (fun _ => rfl) fun E => ?_
  repeat (first
    | (refine Tri.seq fun K hK => ?_)
    | (refine Tri.region ?_; simp [upd])
    | (refine Tri.draw (by kernel_rfl) (by decide +kernel) ?_; simp [upd])
    | (refine Tri.cond_true ?_ ?_; (focus simp [upd]; done))
    | (refine Tri.cond_false ?_ ?_; (focus simp [upd]; done))
    | (refine Tri.skip ?_; simp only [thenS, blockS])
    | (refine Tri.block_seq ?_)
    | (refine Tri.block_region ?_)
    | (refine Tri.block_cond ?_)
    | (refine Tri.exit ?_; simp [upd]; first | (rename ∀ st, Tri _ _ _ st _ → _ => hK; first | (apply hK; clear hK) | (clear hK; rename ∀ st, Tri _ _ _ st _ → _ => hK; first | (apply hK; clear hK) | (clear hK; rename ∀ st, Tri _ _ _ st _ → _ => hK; first | (apply hK; clear hK) | (clear hK; rename ∀ st, Tri _ _ _ st _ → _ => hK; first | (apply hK; clear hK) | (clear hK; rename ∀ st, Tri _ _ _ st _ → _ => hK; first | (apply hK; clear hK) | (clear hK; rename ∀ st, Tri _ _ _ st _ → _ => hK; apply hK; clear hK)))))) | skip)
    | (intro β)
    | (rename ∀ st, Tri _ _ _ st _ → _ => hK; apply hK; clear hK))
  refine ⟨_, 0, [], rfl, Wk.refl _, ?_, trivial, by simp⟩
  simp [upd]
theorem end_first (b12 b11 n k b : Nat) (own : Option (Nat × Nat)) (es : List (List C)) (hl : 0 < es.length) : DoesB Try.prog 51 [.c (.box 12 b12 0), .c (.box 11 b11 0)] [(12, b12, [.sl false 1 (some (k, b)) es]), (11, b11, [.sl true n own []])] []
    (fun β => (.tup [], [(12, b12, [.sl true 0 none []]), (11, b11, [.sl false 1 (some (8, β)) [[.sl false 1 none es]]])], [(8, β, 1, 48, 1)])) := by
  refine DoesB.of_body Try.func51 rfl (by kernel_rfl) rfl rfl (by simp) (fun _ => rfl) fun E => ?_
  repeat (first
    | (refine Tri.seq fun K hK => ?_)
    | (refine Tri.region ?_; simp [upd, hl])
    | (refine Tri.draw (by kernel_rfl) (by decide +kernel) ?_; simp [upd, hl])
    | (refine Tri.cond_true ?_ ?_; (focus simp [upd, hl]; done))
    | (refine Tri.cond_false ?_ ?_; (focus simp [upd, hl]; done))
    | (refine Tri.skip ?_; simp only [thenS, blockS])
    | (refine Tri.block_seq ?_)
    | (refine Tri.block_region ?_)
    | (refine Tri.block_cond ?_)
    | (refine Tri.exit ?_; simp [upd, hl]; first | (rename ∀ st, Tri _ _ _ st _ → _ => hK; first | (apply hK; clear hK) | (clear hK; rename ∀ st, Tri _ _ _ st _ → _ => hK; first | (apply hK; clear hK) | (clear hK; rename ∀ st, Tri _ _ _ st _ → _ => hK; first | (apply hK; clear hK) | (clear hK; rename ∀ st, Tri _ _ _ st _ → _ => hK; first | (apply hK; clear hK) | (clear hK; rename ∀ st, Tri _ _ _ st _ → _ => hK; first | (apply hK; clear hK) | (clear hK; rename ∀ st, Tri _ _ _ st _ → _ => hK; apply hK; clear hK)))))) | skip)
    | (intro β)
    | (rename ∀ st, Tri _ _ _ st _ → _ => hK; apply hK; clear hK))
  exact ⟨_, β, [8], rfl, Wk.refl _, by simp [upd], by simp [upd], by simp⟩
theorem end_more (b12 b11 k b bo : Nat) (es : List (List C)) (os : List (List C)) (hl : 0 < es.length) (ho : os.length ≤ 1073741824) : DoesB Try.prog 51 [.c (.box 12 b12 0), .c (.box 11 b11 0)] [(12, b12, [.sl false 1 (some (k, b)) es]), (11, b11, [.sl false 1 (some (8, bo)) os])] [(8, bo, os.length, 48, 1)]
    (fun β => (.tup [], [(12, b12, [.sl true 0 none []]), (11, b11, [.sl false 1 (some (8, β)) (os ++ [[.sl false 1 none es]])])], [(8, β, os.length + 1, 48, 1)])) := by
  refine DoesB.of_body Try.func51 rfl (by kernel_rfl) rfl rfl (by simp) (fun _ => rfl) fun E => ?_
  have hb : (os.length + 1) * 24 ≤ 140737488355328 := by omega
  repeat (first
    | (refine Tri.seq fun K hK => ?_)
    | (refine Tri.region ?_; simp [upd, hl, hb])
    | (refine Tri.draw (by kernel_rfl) (by decide +kernel) ?_; simp [upd, hl, hb])
    | (refine Tri.cond_true ?_ ?_; (focus simp [upd, hl, hb]; done))
    | (refine Tri.cond_false ?_ ?_; (focus simp [upd, hl, hb]; done))
    | (refine Tri.skip ?_; simp only [thenS, blockS])
    | (refine Tri.block_seq ?_)
    | (refine Tri.block_region ?_)
    | (refine Tri.block_cond ?_)
    | (refine Tri.exit ?_; simp [upd, hl, hb]; first | (rename ∀ st, Tri _ _ _ st _ → _ => hK; first | (apply hK; clear hK) | (clear hK; rename ∀ st, Tri _ _ _ st _ → _ => hK; first | (apply hK; clear hK) | (clear hK; rename ∀ st, Tri _ _ _ st _ → _ => hK; first | (apply hK; clear hK) | (clear hK; rename ∀ st, Tri _ _ _ st _ → _ => hK; first | (apply hK; clear hK) | (clear hK; rename ∀ st, Tri _ _ _ st _ → _ => hK; first | (apply hK; clear hK) | (clear hK; rename ∀ st, Tri _ _ _ st _ → _ => hK; apply hK; clear hK)))))) | skip)
    | (intro β)
    | (rename ∀ st, Tri _ _ _ st _ → _ => hK; apply hK; clear hK))
  exact ⟨_, β, [8], rfl, Wk.refl _, by simp [upd], by simp [upd], by simp⟩
end Go.Proofs.Ytcohdlochpjnjaa
end
