/- Lemmas for the statements of this seat: MTy MR1 MR2 MR3 MR4 MR5 MPA MG MR11 MR12 MR16 MR17 VmOpen MR18 VmPost. -/
import Derived.Test.YtngbpmiikpjiaaaB1
import Derived.Test.YtngbpmiikpjiaaaProg
import Derived.Deep.Slices
import Derived.ProofKit
import Derived.OpenShut
import Derived.Carry
import Derived.ChangeSame
set_option linter.all false
section
open Go Go.Vm
namespace Go.Proofs.Ytngbpmiikpjiaaa
@[simp] theorem tSize_2 : tSize Try.prog 2 = some 1 := by kernel_rfl
@[simp] theorem tAgg_2 : tAgg Try.prog 2 = some false := by kernel_rfl
@[simp] theorem isTy_2 : isTy Try.prog 2 = 7 := by kernel_rfl
@[simp] theorem tBytes_2 : tBytes Try.prog 2 = some 8 := by kernel_rfl
@[simp] theorem iKind_2 : iKind Try.prog 2 = some .i64 := by kernel_rfl
@[simp] theorem tZero_2 : tZero Try.prog 2 = some [.int .i64 0] := by kernel_rfl
@[simp] theorem tSize_3 : tSize Try.prog 3 = some 1 := by kernel_rfl
@[simp] theorem tAgg_3 : tAgg Try.prog 3 = some false := by kernel_rfl
@[simp] theorem isTy_3 : isTy Try.prog 3 = 7 := by kernel_rfl
@[simp] theorem tBytes_3 : tBytes Try.prog 3 = some 8 := by kernel_rfl
@[simp] theorem iKind_3 : iKind Try.prog 3 = some .i64 := by kernel_rfl
@[simp] theorem tZero_3 : tZero Try.prog 3 = some [.int .i64 0] := by kernel_rfl
@[simp] theorem tSize_4 : tSize Try.prog 4 = some 1 := by kernel_rfl
@[simp] theorem tAgg_4 : tAgg Try.prog 4 = some false := by kernel_rfl
@[simp] theorem isTy_4 : isTy Try.prog 4 = 1 := by kernel_rfl
@[simp] theorem tBytes_4 : tBytes Try.prog 4 = some 1 := by kernel_rfl
@[simp] theorem tZero_4 : tZero Try.prog 4 = some [.bool false] := by kernel_rfl
@[simp] theorem tSize_5 : tSize Try.prog 5 = some 1 := by kernel_rfl
@[simp] theorem tAgg_5 : tAgg Try.prog 5 = some false := by kernel_rfl
@[simp] theorem isTy_5 : isTy Try.prog 5 = 5 := by kernel_rfl
@[simp] theorem tBytes_5 : tBytes Try.prog 5 = some 1 := by kernel_rfl
@[simp] theorem iKind_5 : iKind Try.prog 5 = some .u8 := by kernel_rfl
@[simp] theorem tZero_5 : tZero Try.prog 5 = some [.int .u8 0] := by kernel_rfl
@[simp] theorem tSize_6 : tSize Try.prog 6 = some 1 := by kernel_rfl
@[simp] theorem tAgg_6 : tAgg Try.prog 6 = some false := by kernel_rfl
@[simp] theorem isTy_6 : isTy Try.prog 6 = 5 := by kernel_rfl
@[simp] theorem tBytes_6 : tBytes Try.prog 6 = some 1 := by kernel_rfl
@[simp] theorem iKind_6 : iKind Try.prog 6 = some .u8 := by kernel_rfl
@[simp] theorem tZero_6 : tZero Try.prog 6 = some [.int .u8 0] := by kernel_rfl
@[simp] theorem tSize_7 : tSize Try.prog 7 = some 4 := by kernel_rfl
@[simp] theorem tAgg_7 : tAgg Try.prog 7 = some true := by kernel_rfl
@[simp] theorem isTy_7 : isTy Try.prog 7 = 3 := by kernel_rfl
@[simp] theorem tBytes_7 : tBytes Try.prog 7 = some 24 := by kernel_rfl
@[simp] theorem fOff_7_0 : fOff Try.prog 7 0 = some 0 := by kernel_rfl
@[simp] theorem fOff_7_1 : fOff Try.prog 7 1 = some 1 := by kernel_rfl
@[simp] theorem fOff_7_2 : fOff Try.prog 7 2 = some 2 := by kernel_rfl
@[simp] theorem fOff_7_3 : fOff Try.prog 7 3 = some 3 := by kernel_rfl
@[simp] theorem tPlaces_7 : tPlaces Try.prog 7 = some [(0, 1), (1, 1), (2, 1), (3, 1)] := by kernel_rfl
@[simp] theorem tZero_7 : tZero Try.prog 7 = some [.int .i64 0, .int .i64 0, .bool false, .int .u8 0] := by kernel_rfl
@[simp] theorem tSize_8 : tSize Try.prog 8 = some 4 := by kernel_rfl
@[simp] theorem tAgg_8 : tAgg Try.prog 8 = some true := by kernel_rfl
@[simp] theorem isTy_8 : isTy Try.prog 8 = 3 := by kernel_rfl
@[simp] theorem tBytes_8 : tBytes Try.prog 8 = some 24 := by kernel_rfl
@[simp] theorem fOff_8_0 : fOff Try.prog 8 0 = some 0 := by kernel_rfl
@[simp] theorem fOff_8_1 : fOff Try.prog 8 1 = some 1 := by kernel_rfl
@[simp] theorem fOff_8_2 : fOff Try.prog 8 2 = some 2 := by kernel_rfl
@[simp] theorem fOff_8_3 : fOff Try.prog 8 3 = some 3 := by kernel_rfl
@[simp] theorem tPlaces_8 : tPlaces Try.prog 8 = some [(0, 1), (1, 1), (2, 1), (3, 1)] := by kernel_rfl
@[simp] theorem tZero_8 : tZero Try.prog 8 = some [.int .i64 0, .int .i64 0, .bool false, .int .u8 0] := by kernel_rfl
@[simp] theorem tSize_9 : tSize Try.prog 9 = some 1 := by kernel_rfl
@[simp] theorem tAgg_9 : tAgg Try.prog 9 = some false := by kernel_rfl
@[simp] theorem isTy_9 : isTy Try.prog 9 = 6 := by kernel_rfl
@[simp] theorem tBytes_9 : tBytes Try.prog 9 = some 16 := by kernel_rfl
@[simp] theorem tZero_9 : tZero Try.prog 9 = some [.str ⟨#[]⟩] := by kernel_rfl
@[simp] theorem tSize_10 : tSize Try.prog 10 = some 1 := by kernel_rfl
@[simp] theorem tAgg_10 : tAgg Try.prog 10 = some false := by kernel_rfl
@[simp] theorem isTy_10 : isTy Try.prog 10 = 6 := by kernel_rfl
@[simp] theorem tBytes_10 : tBytes Try.prog 10 = some 16 := by kernel_rfl
@[simp] theorem tZero_10 : tZero Try.prog 10 = some [.str ⟨#[]⟩] := by kernel_rfl
@[simp] theorem tSize_11 : tSize Try.prog 11 = some 1 := by kernel_rfl
@[simp] theorem tAgg_11 : tAgg Try.prog 11 = some false := by kernel_rfl
@[simp] theorem isTy_11 : isTy Try.prog 11 = 6 := by kernel_rfl
@[simp] theorem tBytes_11 : tBytes Try.prog 11 = some 16 := by kernel_rfl
@[simp] theorem tZero_11 : tZero Try.prog 11 = some [.str ⟨#[]⟩] := by kernel_rfl
@[simp] theorem tSize_12 : tSize Try.prog 12 = some 1 := by kernel_rfl
@[simp] theorem tAgg_12 : tAgg Try.prog 12 = some false := by kernel_rfl
@[simp] theorem isTy_12 : isTy Try.prog 12 = 8 := by kernel_rfl
@[simp] theorem tBytes_12 : tBytes Try.prog 12 = some 8 := by kernel_rfl
@[simp] theorem iKind_12 : iKind Try.prog 12 = some .u64 := by kernel_rfl
@[simp] theorem tZero_12 : tZero Try.prog 12 = some [.int .u64 0] := by kernel_rfl
@[simp] theorem tSize_13 : tSize Try.prog 13 = some 2 := by kernel_rfl
@[simp] theorem tAgg_13 : tAgg Try.prog 13 = some true := by kernel_rfl
@[simp] theorem isTy_13 : isTy Try.prog 13 = 3 := by kernel_rfl
@[simp] theorem tBytes_13 : tBytes Try.prog 13 = some 24 := by kernel_rfl
@[simp] theorem fOff_13_0 : fOff Try.prog 13 0 = some 0 := by kernel_rfl
@[simp] theorem fOff_13_1 : fOff Try.prog 13 1 = some 1 := by kernel_rfl
@[simp] theorem tPlaces_13 : tPlaces Try.prog 13 = some [(0, 1), (1, 1)] := by kernel_rfl
@[simp] theorem tZero_13 : tZero Try.prog 13 = some [.str ⟨#[]⟩, .int .u64 0] := by kernel_rfl
@[simp] theorem tSize_14 : tSize Try.prog 14 = some 2 := by kernel_rfl
@[simp] theorem tAgg_14 : tAgg Try.prog 14 = some true := by kernel_rfl
@[simp] theorem isTy_14 : isTy Try.prog 14 = 3 := by kernel_rfl
@[simp] theorem tBytes_14 : tBytes Try.prog 14 = some 24 := by kernel_rfl
@[simp] theorem fOff_14_0 : fOff Try.prog 14 0 = some 0 := by kernel_rfl
@[simp] theorem fOff_14_1 : fOff Try.prog 14 1 = some 1 := by kernel_rfl
@[simp] theorem tPlaces_14 : tPlaces Try.prog 14 = some [(0, 1), (1, 1)] := by kernel_rfl
@[simp] theorem tZero_14 : tZero Try.prog 14 = some [.str ⟨#[]⟩, .int .u64 0] := by kernel_rfl
@[simp] theorem tSize_15 : tSize Try.prog 15 = some 1 := by kernel_rfl
@[simp] theorem tAgg_15 : tAgg Try.prog 15 = some false := by kernel_rfl
@[simp] theorem isTy_15 : isTy Try.prog 15 = 0 := by kernel_rfl
@[simp] theorem tBytes_15 : tBytes Try.prog 15 = some 8 := by kernel_rfl
@[simp] theorem tZero_15 : tZero Try.prog 15 = some [.nilp] := by kernel_rfl
@[simp] theorem tSize_16 : tSize Try.prog 16 = some 1 := by kernel_rfl
@[simp] theorem tAgg_16 : tAgg Try.prog 16 = some false := by kernel_rfl
@[simp] theorem isTy_16 : isTy Try.prog 16 = 0 := by kernel_rfl
@[simp] theorem tBytes_16 : tBytes Try.prog 16 = some 8 := by kernel_rfl
@[simp] theorem tZero_16 : tZero Try.prog 16 = some [.nilp] := by kernel_rfl
@[simp] theorem tSize_17 : tSize Try.prog 17 = some 1 := by kernel_rfl
@[simp] theorem tAgg_17 : tAgg Try.prog 17 = some false := by kernel_rfl
@[simp] theorem isTy_17 : isTy Try.prog 17 = 0 := by kernel_rfl
@[simp] theorem tBytes_17 : tBytes Try.prog 17 = some 8 := by kernel_rfl
@[simp] theorem tZero_17 : tZero Try.prog 17 = some [.nilp] := by kernel_rfl
@[simp] theorem tSize_18 : tSize Try.prog 18 = some 1 := by kernel_rfl
@[simp] theorem tAgg_18 : tAgg Try.prog 18 = some true := by kernel_rfl
@[simp] theorem isTy_18 : isTy Try.prog 18 = 3 := by kernel_rfl
@[simp] theorem tBytes_18 : tBytes Try.prog 18 = some 8 := by kernel_rfl
@[simp] theorem fOff_18_0 : fOff Try.prog 18 0 = some 0 := by kernel_rfl
@[simp] theorem tPlaces_18 : tPlaces Try.prog 18 = some [(0, 1)] := by kernel_rfl
@[simp] theorem tZero_18 : tZero Try.prog 18 = some [.nilp] := by kernel_rfl
@[simp] theorem tSize_19 : tSize Try.prog 19 = some 1 := by kernel_rfl
@[simp] theorem tAgg_19 : tAgg Try.prog 19 = some true := by kernel_rfl
@[simp] theorem isTy_19 : isTy Try.prog 19 = 3 := by kernel_rfl
@[simp] theorem tBytes_19 : tBytes Try.prog 19 = some 8 := by kernel_rfl
@[simp] theorem fOff_19_0 : fOff Try.prog 19 0 = some 0 := by kernel_rfl
@[simp] theorem tPlaces_19 : tPlaces Try.prog 19 = some [(0, 1)] := by kernel_rfl
@[simp] theorem tZero_19 : tZero Try.prog 19 = some [.nilp] := by kernel_rfl
@[simp] theorem tSize_21 : tSize Try.prog 21 = some 1 := by kernel_rfl
@[simp] theorem tAgg_21 : tAgg Try.prog 21 = some false := by kernel_rfl
@[simp] theorem isTy_21 : isTy Try.prog 21 = 8 := by kernel_rfl
@[simp] theorem tBytes_21 : tBytes Try.prog 21 = some 4 := by kernel_rfl
@[simp] theorem iKind_21 : iKind Try.prog 21 = some .i32 := by kernel_rfl
@[simp] theorem tZero_21 : tZero Try.prog 21 = some [.int .i32 0] := by kernel_rfl
@[simp] theorem tSize_22 : tSize Try.prog 22 = some 1 := by kernel_rfl
@[simp] theorem tAgg_22 : tAgg Try.prog 22 = some false := by kernel_rfl
@[simp] theorem isTy_22 : isTy Try.prog 22 = 2 := by kernel_rfl
@[simp] theorem tBytes_22 : tBytes Try.prog 22 = some 24 := by kernel_rfl
@[simp] theorem sElem_22 : sElem Try.prog 22 = some (37, 6) := by kernel_rfl
@[simp] theorem tZero_22 : tZero Try.prog 22 = some [.sl true 0 none []] := by kernel_rfl
@[simp] theorem tSize_23 : tSize Try.prog 23 = some 1 := by kernel_rfl
@[simp] theorem tAgg_23 : tAgg Try.prog 23 = some false := by kernel_rfl
@[simp] theorem isTy_23 : isTy Try.prog 23 = 2 := by kernel_rfl
@[simp] theorem tBytes_23 : tBytes Try.prog 23 = some 24 := by kernel_rfl
@[simp] theorem sElem_23 : sElem Try.prog 23 = some (66, 8) := by kernel_rfl
@[simp] theorem tZero_23 : tZero Try.prog 23 = some [.sl true 0 none []] := by kernel_rfl
@[simp] theorem tSize_24 : tSize Try.prog 24 = some 1 := by kernel_rfl
@[simp] theorem tAgg_24 : tAgg Try.prog 24 = some false := by kernel_rfl
@[simp] theorem isTy_24 : isTy Try.prog 24 = 2 := by kernel_rfl
@[simp] theorem tBytes_24 : tBytes Try.prog 24 = some 24 := by kernel_rfl
@[simp] theorem sElem_24 : sElem Try.prog 24 = some (54, 3) := by kernel_rfl
@[simp] theorem tZero_24 : tZero Try.prog 24 = some [.sl true 0 none []] := by kernel_rfl
@[simp] theorem tSize_25 : tSize Try.prog 25 = some 2 := by kernel_rfl
@[simp] theorem tAgg_25 : tAgg Try.prog 25 = some true := by kernel_rfl
@[simp] theorem isTy_25 : isTy Try.prog 25 = 3 := by kernel_rfl
@[simp] theorem tBytes_25 : tBytes Try.prog 25 = some 48 := by kernel_rfl
@[simp] theorem fOff_25_0 : fOff Try.prog 25 0 = some 0 := by kernel_rfl
@[simp] theorem fOff_25_1 : fOff Try.prog 25 1 = some 1 := by kernel_rfl
@[simp] theorem tPlaces_25 : tPlaces Try.prog 25 = some [(0, 1), (1, 1)] := by kernel_rfl
@[simp] theorem tZero_25 : tZero Try.prog 25 = some [.sl true 0 none [], .sl true 0 none []] := by kernel_rfl
@[simp] theorem tSize_26 : tSize Try.prog 26 = some 2 := by kernel_rfl
@[simp] theorem tAgg_26 : tAgg Try.prog 26 = some true := by kernel_rfl
@[simp] theorem isTy_26 : isTy Try.prog 26 = 3 := by kernel_rfl
@[simp] theorem tBytes_26 : tBytes Try.prog 26 = some 48 := by kernel_rfl
@[simp] theorem fOff_26_0 : fOff Try.prog 26 0 = some 0 := by kernel_rfl
@[simp] theorem fOff_26_1 : fOff Try.prog 26 1 = some 1 := by kernel_rfl
@[simp] theorem tPlaces_26 : tPlaces Try.prog 26 = some [(0, 1), (1, 1)] := by kernel_rfl
@[simp] theorem tZero_26 : tZero Try.prog 26 = some [.sl true 0 none [], .sl true 0 none []] := by kernel_rfl
@[simp] theorem tSize_27 : tSize Try.prog 27 = some 3 := by kernel_rfl
@[simp] theorem tAgg_27 : tAgg Try.prog 27 = some true := by kernel_rfl
@[simp] theorem isTy_27 : isTy Try.prog 27 = 3 := by kernel_rfl
@[simp] theorem tBytes_27 : tBytes Try.prog 27 = some 56 := by kernel_rfl
@[simp] theorem fOff_27_0 : fOff Try.prog 27 0 = some 0 := by kernel_rfl
@[simp] theorem fOff_27_1 : fOff Try.prog 27 1 = some 1 := by kernel_rfl
@[simp] theorem tPlaces_27 : tPlaces Try.prog 27 = some [(0, 1), (1, 2)] := by kernel_rfl
@[simp] theorem tZero_27 : tZero Try.prog 27 = some [.int .i64 0, .sl true 0 none [], .sl true 0 none []] := by kernel_rfl
@[simp] theorem tSize_28 : tSize Try.prog 28 = some 3 := by kernel_rfl
@[simp] theorem tAgg_28 : tAgg Try.prog 28 = some true := by kernel_rfl
@[simp] theorem isTy_28 : isTy Try.prog 28 = 3 := by kernel_rfl
@[simp] theorem tBytes_28 : tBytes Try.prog 28 = some 56 := by kernel_rfl
@[simp] theorem fOff_28_0 : fOff Try.prog 28 0 = some 0 := by kernel_rfl
@[simp] theorem fOff_28_1 : fOff Try.prog 28 1 = some 1 := by kernel_rfl
@[simp] theorem tPlaces_28 : tPlaces Try.prog 28 = some [(0, 1), (1, 2)] := by kernel_rfl
@[simp] theorem tZero_28 : tZero Try.prog 28 = some [.int .i64 0, .sl true 0 none [], .sl true 0 none []] := by kernel_rfl
@[simp] theorem tSize_31 : tSize Try.prog 31 = some 1 := by kernel_rfl
@[simp] theorem tAgg_31 : tAgg Try.prog 31 = some false := by kernel_rfl
@[simp] theorem isTy_31 : isTy Try.prog 31 = 2 := by kernel_rfl
@[simp] theorem tBytes_31 : tBytes Try.prog 31 = some 24 := by kernel_rfl
@[simp] theorem sElem_31 : sElem Try.prog 31 = some (68, 3) := by kernel_rfl
@[simp] theorem tZero_31 : tZero Try.prog 31 = some [.sl true 0 none []] := by kernel_rfl
@[simp] theorem tSize_32 : tSize Try.prog 32 = some 1 := by kernel_rfl
@[simp] theorem tAgg_32 : tAgg Try.prog 32 = some false := by kernel_rfl
@[simp] theorem isTy_32 : isTy Try.prog 32 = 7 := by kernel_rfl
@[simp] theorem tBytes_32 : tBytes Try.prog 32 = some 8 := by kernel_rfl
@[simp] theorem iKind_32 : iKind Try.prog 32 = some .i64 := by kernel_rfl
@[simp] theorem tZero_32 : tZero Try.prog 32 = some [.int .i64 0] := by kernel_rfl
@[simp] theorem tSize_36 : tSize Try.prog 36 = some 6 := by kernel_rfl
@[simp] theorem tAgg_36 : tAgg Try.prog 36 = some true := by kernel_rfl
@[simp] theorem isTy_36 : isTy Try.prog 36 = 3 := by kernel_rfl
@[simp] theorem tBytes_36 : tBytes Try.prog 36 = some 48 := by kernel_rfl
@[simp] theorem fOff_36_0 : fOff Try.prog 36 0 = some 0 := by kernel_rfl
@[simp] theorem fOff_36_1 : fOff Try.prog 36 1 = some 1 := by kernel_rfl
@[simp] theorem fOff_36_2 : fOff Try.prog 36 2 = some 2 := by kernel_rfl
@[simp] theorem fOff_36_3 : fOff Try.prog 36 3 = some 3 := by kernel_rfl
@[simp] theorem fOff_36_4 : fOff Try.prog 36 4 = some 4 := by kernel_rfl
@[simp] theorem fOff_36_5 : fOff Try.prog 36 5 = some 5 := by kernel_rfl
@[simp] theorem tPlaces_36 : tPlaces Try.prog 36 = some [(0, 1), (1, 1), (2, 1), (3, 1), (4, 1), (5, 1)] := by kernel_rfl
@[simp] theorem eqT_36 : eqT Try.prog 36 = some [0, 1, 2, 3, 4, 5] := by kernel_rfl
@[simp] theorem tZero_36 : tZero Try.prog 36 = some [.int .i64 0, .int .i64 0, .int .i64 0, .int .i64 0, .int .i64 0, .int .i64 0] := by kernel_rfl
@[simp] theorem tSize_37 : tSize Try.prog 37 = some 6 := by kernel_rfl
@[simp] theorem tAgg_37 : tAgg Try.prog 37 = some true := by kernel_rfl
@[simp] theorem isTy_37 : isTy Try.prog 37 = 3 := by kernel_rfl
@[simp] theorem tBytes_37 : tBytes Try.prog 37 = some 48 := by kernel_rfl
@[simp] theorem fOff_37_0 : fOff Try.prog 37 0 = some 0 := by kernel_rfl
@[simp] theorem fOff_37_1 : fOff Try.prog 37 1 = some 1 := by kernel_rfl
@[simp] theorem fOff_37_2 : fOff Try.prog 37 2 = some 2 := by kernel_rfl
@[simp] theorem fOff_37_3 : fOff Try.prog 37 3 = some 3 := by kernel_rfl
@[simp] theorem fOff_37_4 : fOff Try.prog 37 4 = some 4 := by kernel_rfl
@[simp] theorem fOff_37_5 : fOff Try.prog 37 5 = some 5 := by kernel_rfl
@[simp] theorem tPlaces_37 : tPlaces Try.prog 37 = some [(0, 1), (1, 1), (2, 1), (3, 1), (4, 1), (5, 1)] := by kernel_rfl
@[simp] theorem eqT_37 : eqT Try.prog 37 = some [0, 1, 2, 3, 4, 5] := by kernel_rfl
@[simp] theorem tZero_37 : tZero Try.prog 37 = some [.int .i64 0, .int .i64 0, .int .i64 0, .int .i64 0, .int .i64 0, .int .i64 0] := by kernel_rfl
@[simp] theorem tSize_40 : tSize Try.prog 40 = some 1 := by kernel_rfl
@[simp] theorem tAgg_40 : tAgg Try.prog 40 = some false := by kernel_rfl
@[simp] theorem isTy_40 : isTy Try.prog 40 = 2 := by kernel_rfl
@[simp] theorem tBytes_40 : tBytes Try.prog 40 = some 24 := by kernel_rfl
@[simp] theorem sElem_40 : sElem Try.prog 40 = some (42, 1) := by kernel_rfl
@[simp] theorem tZero_40 : tZero Try.prog 40 = some [.sl true 0 none []] := by kernel_rfl
@[simp] theorem tSize_41 : tSize Try.prog 41 = some 1 := by kernel_rfl
@[simp] theorem tAgg_41 : tAgg Try.prog 41 = some false := by kernel_rfl
@[simp] theorem isTy_41 : isTy Try.prog 41 = 2 := by kernel_rfl
@[simp] theorem tBytes_41 : tBytes Try.prog 41 = some 24 := by kernel_rfl
@[simp] theorem sElem_41 : sElem Try.prog 41 = some (73, 3) := by kernel_rfl
@[simp] theorem tZero_41 : tZero Try.prog 41 = some [.sl true 0 none []] := by kernel_rfl
@[simp] theorem tSize_42 : tSize Try.prog 42 = some 1 := by kernel_rfl
@[simp] theorem tAgg_42 : tAgg Try.prog 42 = some false := by kernel_rfl
@[simp] theorem isTy_42 : isTy Try.prog 42 = 2 := by kernel_rfl
@[simp] theorem tBytes_42 : tBytes Try.prog 42 = some 24 := by kernel_rfl
@[simp] theorem sElem_42 : sElem Try.prog 42 = some (3, 1) := by kernel_rfl
@[simp] theorem tZero_42 : tZero Try.prog 42 = some [.sl true 0 none []] := by kernel_rfl
@[simp] theorem tSize_43 : tSize Try.prog 43 = some 6 := by kernel_rfl
@[simp] theorem tAgg_43 : tAgg Try.prog 43 = some true := by kernel_rfl
@[simp] theorem isTy_43 : isTy Try.prog 43 = 3 := by kernel_rfl
@[simp] theorem tBytes_43 : tBytes Try.prog 43 = some 96 := by kernel_rfl
@[simp] theorem fOff_43_0 : fOff Try.prog 43 0 = some 0 := by kernel_rfl
@[simp] theorem fOff_43_1 : fOff Try.prog 43 1 = some 1 := by kernel_rfl
@[simp] theorem fOff_43_2 : fOff Try.prog 43 2 = some 2 := by kernel_rfl
@[simp] theorem fOff_43_3 : fOff Try.prog 43 3 = some 3 := by kernel_rfl
@[simp] theorem fOff_43_4 : fOff Try.prog 43 4 = some 4 := by kernel_rfl
@[simp] theorem fOff_43_5 : fOff Try.prog 43 5 = some 5 := by kernel_rfl
@[simp] theorem tPlaces_43 : tPlaces Try.prog 43 = some [(0, 1), (1, 1), (2, 1), (3, 1), (4, 1), (5, 1)] := by kernel_rfl
@[simp] theorem tZero_43 : tZero Try.prog 43 = some [.int .i64 0, .sl true 0 none [], .int .i64 0, .int .i64 0, .sl true 0 none [], .sl true 0 none []] := by kernel_rfl
@[simp] theorem tSize_44 : tSize Try.prog 44 = some 6 := by kernel_rfl
@[simp] theorem tAgg_44 : tAgg Try.prog 44 = some true := by kernel_rfl
@[simp] theorem isTy_44 : isTy Try.prog 44 = 3 := by kernel_rfl
@[simp] theorem tBytes_44 : tBytes Try.prog 44 = some 96 := by kernel_rfl
@[simp] theorem fOff_44_0 : fOff Try.prog 44 0 = some 0 := by kernel_rfl
@[simp] theorem fOff_44_1 : fOff Try.prog 44 1 = some 1 := by kernel_rfl
@[simp] theorem fOff_44_2 : fOff Try.prog 44 2 = some 2 := by kernel_rfl
@[simp] theorem fOff_44_3 : fOff Try.prog 44 3 = some 3 := by kernel_rfl
@[simp] theorem fOff_44_4 : fOff Try.prog 44 4 = some 4 := by kernel_rfl
@[simp] theorem fOff_44_5 : fOff Try.prog 44 5 = some 5 := by kernel_rfl
@[simp] theorem tPlaces_44 : tPlaces Try.prog 44 = some [(0, 1), (1, 1), (2, 1), (3, 1), (4, 1), (5, 1)] := by kernel_rfl
@[simp] theorem tZero_44 : tZero Try.prog 44 = some [.int .i64 0, .sl true 0 none [], .int .i64 0, .int .i64 0, .sl true 0 none [], .sl true 0 none []] := by kernel_rfl
@[simp] theorem tSize_46 : tSize Try.prog 46 = some 1 := by kernel_rfl
@[simp] theorem tAgg_46 : tAgg Try.prog 46 = some false := by kernel_rfl
@[simp] theorem isTy_46 : isTy Try.prog 46 = 2 := by kernel_rfl
@[simp] theorem tBytes_46 : tBytes Try.prog 46 = some 24 := by kernel_rfl
@[simp] theorem sElem_46 : sElem Try.prog 46 = some (70, 5) := by kernel_rfl
@[simp] theorem tZero_46 : tZero Try.prog 46 = some [.sl true 0 none []] := by kernel_rfl
@[simp] theorem tSize_53 : tSize Try.prog 53 = some 3 := by kernel_rfl
@[simp] theorem tAgg_53 : tAgg Try.prog 53 = some true := by kernel_rfl
@[simp] theorem isTy_53 : isTy Try.prog 53 = 3 := by kernel_rfl
@[simp] theorem tBytes_53 : tBytes Try.prog 53 = some 24 := by kernel_rfl
@[simp] theorem fOff_53_0 : fOff Try.prog 53 0 = some 0 := by kernel_rfl
@[simp] theorem fOff_53_1 : fOff Try.prog 53 1 = some 1 := by kernel_rfl
@[simp] theorem fOff_53_2 : fOff Try.prog 53 2 = some 2 := by kernel_rfl
@[simp] theorem tPlaces_53 : tPlaces Try.prog 53 = some [(0, 1), (1, 1), (2, 1)] := by kernel_rfl
@[simp] theorem eqT_53 : eqT Try.prog 53 = some [0, 1, 2] := by kernel_rfl
@[simp] theorem tZero_53 : tZero Try.prog 53 = some [.int .i64 0, .int .i64 0, .int .i64 0] := by kernel_rfl
@[simp] theorem tSize_54 : tSize Try.prog 54 = some 3 := by kernel_rfl
@[simp] theorem tAgg_54 : tAgg Try.prog 54 = some true := by kernel_rfl
@[simp] theorem isTy_54 : isTy Try.prog 54 = 3 := by kernel_rfl
@[simp] theorem tBytes_54 : tBytes Try.prog 54 = some 24 := by kernel_rfl
@[simp] theorem fOff_54_0 : fOff Try.prog 54 0 = some 0 := by kernel_rfl
@[simp] theorem fOff_54_1 : fOff Try.prog 54 1 = some 1 := by kernel_rfl
@[simp] theorem fOff_54_2 : fOff Try.prog 54 2 = some 2 := by kernel_rfl
@[simp] theorem tPlaces_54 : tPlaces Try.prog 54 = some [(0, 1), (1, 1), (2, 1)] := by kernel_rfl
@[simp] theorem eqT_54 : eqT Try.prog 54 = some [0, 1, 2] := by kernel_rfl
@[simp] theorem tZero_54 : tZero Try.prog 54 = some [.int .i64 0, .int .i64 0, .int .i64 0] := by kernel_rfl
@[simp] theorem tSize_56 : tSize Try.prog 56 = some 6 := by kernel_rfl
@[simp] theorem tAgg_56 : tAgg Try.prog 56 = some true := by kernel_rfl
@[simp] theorem isTy_56 : isTy Try.prog 56 = 3 := by kernel_rfl
@[simp] theorem tBytes_56 : tBytes Try.prog 56 = some 48 := by kernel_rfl
@[simp] theorem fOff_56_0 : fOff Try.prog 56 0 = some 0 := by kernel_rfl
@[simp] theorem fOff_56_1 : fOff Try.prog 56 1 = some 1 := by kernel_rfl
@[simp] theorem fOff_56_2 : fOff Try.prog 56 2 = some 2 := by kernel_rfl
@[simp] theorem fOff_56_3 : fOff Try.prog 56 3 = some 3 := by kernel_rfl
@[simp] theorem fOff_56_4 : fOff Try.prog 56 4 = some 4 := by kernel_rfl
@[simp] theorem fOff_56_5 : fOff Try.prog 56 5 = some 5 := by kernel_rfl
@[simp] theorem tPlaces_56 : tPlaces Try.prog 56 = some [(0, 1), (1, 1), (2, 1), (3, 1), (4, 1), (5, 1)] := by kernel_rfl
@[simp] theorem eqT_56 : eqT Try.prog 56 = some [0, 1, 2, 3, 4, 5] := by kernel_rfl
@[simp] theorem tZero_56 : tZero Try.prog 56 = some [.int .i64 0, .int .i64 0, .int .i64 0, .int .i64 0, .int .i64 0, .int .i64 0] := by kernel_rfl
@[simp] theorem tSize_57 : tSize Try.prog 57 = some 6 := by kernel_rfl
@[simp] theorem tAgg_57 : tAgg Try.prog 57 = some true := by kernel_rfl
@[simp] theorem isTy_57 : isTy Try.prog 57 = 3 := by kernel_rfl
@[simp] theorem tBytes_57 : tBytes Try.prog 57 = some 48 := by kernel_rfl
@[simp] theorem fOff_57_0 : fOff Try.prog 57 0 = some 0 := by kernel_rfl
@[simp] theorem fOff_57_1 : fOff Try.prog 57 1 = some 1 := by kernel_rfl
@[simp] theorem fOff_57_2 : fOff Try.prog 57 2 = some 2 := by kernel_rfl
@[simp] theorem fOff_57_3 : fOff Try.prog 57 3 = some 3 := by kernel_rfl
@[simp] theorem fOff_57_4 : fOff Try.prog 57 4 = some 4 := by kernel_rfl
@[simp] theorem fOff_57_5 : fOff Try.prog 57 5 = some 5 := by kernel_rfl
@[simp] theorem tPlaces_57 : tPlaces Try.prog 57 = some [(0, 1), (1, 1), (2, 1), (3, 1), (4, 1), (5, 1)] := by kernel_rfl
@[simp] theorem eqT_57 : eqT Try.prog 57 = some [0, 1, 2, 3, 4, 5] := by kernel_rfl
@[simp] theorem tZero_57 : tZero Try.prog 57 = some [.int .i64 0, .int .i64 0, .int .i64 0, .int .i64 0, .int .i64 0, .int .i64 0] := by kernel_rfl
@[simp] theorem tSize_63 : tSize Try.prog 63 = some 5 := by kernel_rfl
@[simp] theorem tAgg_63 : tAgg Try.prog 63 = some true := by kernel_rfl
@[simp] theorem isTy_63 : isTy Try.prog 63 = 3 := by kernel_rfl
@[simp] theorem tBytes_63 : tBytes Try.prog 63 = some 40 := by kernel_rfl
@[simp] theorem fOff_63_0 : fOff Try.prog 63 0 = some 0 := by kernel_rfl
@[simp] theorem fOff_63_1 : fOff Try.prog 63 1 = some 1 := by kernel_rfl
@[simp] theorem fOff_63_2 : fOff Try.prog 63 2 = some 2 := by kernel_rfl
@[simp] theorem fOff_63_3 : fOff Try.prog 63 3 = some 3 := by kernel_rfl
@[simp] theorem fOff_63_4 : fOff Try.prog 63 4 = some 4 := by kernel_rfl
@[simp] theorem tPlaces_63 : tPlaces Try.prog 63 = some [(0, 1), (1, 1), (2, 1), (3, 1), (4, 1)] := by kernel_rfl
@[simp] theorem eqT_63 : eqT Try.prog 63 = some [0, 1, 2, 3, 4] := by kernel_rfl
@[simp] theorem tZero_63 : tZero Try.prog 63 = some [.int .i64 0, .int .i64 0, .int .i64 0, .int .i64 0, .int .i64 0] := by kernel_rfl
@[simp] theorem tSize_64 : tSize Try.prog 64 = some 5 := by kernel_rfl
@[simp] theorem tAgg_64 : tAgg Try.prog 64 = some true := by kernel_rfl
@[simp] theorem isTy_64 : isTy Try.prog 64 = 3 := by kernel_rfl
@[simp] theorem tBytes_64 : tBytes Try.prog 64 = some 40 := by kernel_rfl
@[simp] theorem fOff_64_0 : fOff Try.prog 64 0 = some 0 := by kernel_rfl
@[simp] theorem fOff_64_1 : fOff Try.prog 64 1 = some 1 := by kernel_rfl
@[simp] theorem fOff_64_2 : fOff Try.prog 64 2 = some 2 := by kernel_rfl
@[simp] theorem fOff_64_3 : fOff Try.prog 64 3 = some 3 := by kernel_rfl
@[simp] theorem fOff_64_4 : fOff Try.prog 64 4 = some 4 := by kernel_rfl
@[simp] theorem tPlaces_64 : tPlaces Try.prog 64 = some [(0, 1), (1, 1), (2, 1), (3, 1), (4, 1)] := by kernel_rfl
@[simp] theorem eqT_64 : eqT Try.prog 64 = some [0, 1, 2, 3, 4] := by kernel_rfl
@[simp] theorem tZero_64 : tZero Try.prog 64 = some [.int .i64 0, .int .i64 0, .int .i64 0, .int .i64 0, .int .i64 0] := by kernel_rfl
@[simp] theorem tSize_65 : tSize Try.prog 65 = some 8 := by kernel_rfl
@[simp] theorem tAgg_65 : tAgg Try.prog 65 = some true := by kernel_rfl
@[simp] theorem isTy_65 : isTy Try.prog 65 = 3 := by kernel_rfl
@[simp] theorem tBytes_65 : tBytes Try.prog 65 = some 64 := by kernel_rfl
@[simp] theorem fOff_65_0 : fOff Try.prog 65 0 = some 0 := by kernel_rfl
@[simp] theorem fOff_65_1 : fOff Try.prog 65 1 = some 1 := by kernel_rfl
@[simp] theorem fOff_65_2 : fOff Try.prog 65 2 = some 2 := by kernel_rfl
@[simp] theorem fOff_65_3 : fOff Try.prog 65 3 = some 7 := by kernel_rfl
@[simp] theorem tPlaces_65 : tPlaces Try.prog 65 = some [(0, 1), (1, 1), (2, 5), (7, 1)] := by kernel_rfl
@[simp] theorem eqT_65 : eqT Try.prog 65 = some [0, 1, 2, 3, 4, 5, 6, 7] := by kernel_rfl
@[simp] theorem tZero_65 : tZero Try.prog 65 = some [.int .i64 0, .int .i64 0, .int .i64 0, .int .i64 0, .int .i64 0, .int .i64 0, .int .i64 0, .int .i64 0] := by kernel_rfl
@[simp] theorem tSize_66 : tSize Try.prog 66 = some 8 := by kernel_rfl
@[simp] theorem tAgg_66 : tAgg Try.prog 66 = some true := by kernel_rfl
@[simp] theorem isTy_66 : isTy Try.prog 66 = 3 := by kernel_rfl
@[simp] theorem tBytes_66 : tBytes Try.prog 66 = some 64 := by kernel_rfl
@[simp] theorem fOff_66_0 : fOff Try.prog 66 0 = some 0 := by kernel_rfl
@[simp] theorem fOff_66_1 : fOff Try.prog 66 1 = some 1 := by kernel_rfl
@[simp] theorem fOff_66_2 : fOff Try.prog 66 2 = some 2 := by kernel_rfl
@[simp] theorem fOff_66_3 : fOff Try.prog 66 3 = some 7 := by kernel_rfl
@[simp] theorem tPlaces_66 : tPlaces Try.prog 66 = some [(0, 1), (1, 1), (2, 5), (7, 1)] := by kernel_rfl
@[simp] theorem eqT_66 : eqT Try.prog 66 = some [0, 1, 2, 3, 4, 5, 6, 7] := by kernel_rfl
@[simp] theorem tZero_66 : tZero Try.prog 66 = some [.int .i64 0, .int .i64 0, .int .i64 0, .int .i64 0, .int .i64 0, .int .i64 0, .int .i64 0, .int .i64 0] := by kernel_rfl
@[simp] theorem tSize_68 : tSize Try.prog 68 = some 3 := by kernel_rfl
@[simp] theorem tAgg_68 : tAgg Try.prog 68 = some true := by kernel_rfl
@[simp] theorem isTy_68 : isTy Try.prog 68 = 3 := by kernel_rfl
@[simp] theorem tBytes_68 : tBytes Try.prog 68 = some 24 := by kernel_rfl
@[simp] theorem fOff_68_0 : fOff Try.prog 68 0 = some 0 := by kernel_rfl
@[simp] theorem fOff_68_1 : fOff Try.prog 68 1 = some 1 := by kernel_rfl
@[simp] theorem fOff_68_2 : fOff Try.prog 68 2 = some 2 := by kernel_rfl
@[simp] theorem tPlaces_68 : tPlaces Try.prog 68 = some [(0, 1), (1, 1), (2, 1)] := by kernel_rfl
@[simp] theorem eqT_68 : eqT Try.prog 68 = some [0, 1, 2] := by kernel_rfl
@[simp] theorem tZero_68 : tZero Try.prog 68 = some [.int .i64 0, .int .i64 0, .int .i64 0] := by kernel_rfl
@[simp] theorem tSize_69 : tSize Try.prog 69 = some 5 := by kernel_rfl
@[simp] theorem tAgg_69 : tAgg Try.prog 69 = some true := by kernel_rfl
@[simp] theorem isTy_69 : isTy Try.prog 69 = 3 := by kernel_rfl
@[simp] theorem tBytes_69 : tBytes Try.prog 69 = some 56 := by kernel_rfl
@[simp] theorem fOff_69_0 : fOff Try.prog 69 0 = some 0 := by kernel_rfl
@[simp] theorem fOff_69_1 : fOff Try.prog 69 1 = some 1 := by kernel_rfl
@[simp] theorem fOff_69_2 : fOff Try.prog 69 2 = some 2 := by kernel_rfl
@[simp] theorem fOff_69_3 : fOff Try.prog 69 3 = some 3 := by kernel_rfl
@[simp] theorem fOff_69_4 : fOff Try.prog 69 4 = some 4 := by kernel_rfl
@[simp] theorem tPlaces_69 : tPlaces Try.prog 69 = some [(0, 1), (1, 1), (2, 1), (3, 1), (4, 1)] := by kernel_rfl
@[simp] theorem tZero_69 : tZero Try.prog 69 = some [.int .i64 0, .int .i64 0, .int .i64 0, .int .i64 0, .sl true 0 none []] := by kernel_rfl
@[simp] theorem tSize_70 : tSize Try.prog 70 = some 5 := by kernel_rfl
@[simp] theorem tAgg_70 : tAgg Try.prog 70 = some true := by kernel_rfl
@[simp] theorem isTy_70 : isTy Try.prog 70 = 3 := by kernel_rfl
@[simp] theorem tBytes_70 : tBytes Try.prog 70 = some 56 := by kernel_rfl
@[simp] theorem fOff_70_0 : fOff Try.prog 70 0 = some 0 := by kernel_rfl
@[simp] theorem fOff_70_1 : fOff Try.prog 70 1 = some 1 := by kernel_rfl
@[simp] theorem fOff_70_2 : fOff Try.prog 70 2 = some 2 := by kernel_rfl
@[simp] theorem fOff_70_3 : fOff Try.prog 70 3 = some 3 := by kernel_rfl
@[simp] theorem fOff_70_4 : fOff Try.prog 70 4 = some 4 := by kernel_rfl
@[simp] theorem tPlaces_70 : tPlaces Try.prog 70 = some [(0, 1), (1, 1), (2, 1), (3, 1), (4, 1)] := by kernel_rfl
@[simp] theorem tZero_70 : tZero Try.prog 70 = some [.int .i64 0, .int .i64 0, .int .i64 0, .int .i64 0, .sl true 0 none []] := by kernel_rfl
@[simp] theorem tSize_72 : tSize Try.prog 72 = some 3 := by kernel_rfl
@[simp] theorem tAgg_72 : tAgg Try.prog 72 = some true := by kernel_rfl
@[simp] theorem isTy_72 : isTy Try.prog 72 = 3 := by kernel_rfl
@[simp] theorem tBytes_72 : tBytes Try.prog 72 = some 24 := by kernel_rfl
@[simp] theorem fOff_72_0 : fOff Try.prog 72 0 = some 0 := by kernel_rfl
@[simp] theorem fOff_72_1 : fOff Try.prog 72 1 = some 1 := by kernel_rfl
@[simp] theorem fOff_72_2 : fOff Try.prog 72 2 = some 2 := by kernel_rfl
@[simp] theorem tPlaces_72 : tPlaces Try.prog 72 = some [(0, 1), (1, 1), (2, 1)] := by kernel_rfl
@[simp] theorem eqT_72 : eqT Try.prog 72 = some [0, 1, 2] := by kernel_rfl
@[simp] theorem tZero_72 : tZero Try.prog 72 = some [.int .i64 0, .int .i64 0, .int .i64 0] := by kernel_rfl
@[simp] theorem tSize_73 : tSize Try.prog 73 = some 3 := by kernel_rfl
@[simp] theorem tAgg_73 : tAgg Try.prog 73 = some true := by kernel_rfl
@[simp] theorem isTy_73 : isTy Try.prog 73 = 3 := by kernel_rfl
@[simp] theorem tBytes_73 : tBytes Try.prog 73 = some 24 := by kernel_rfl
@[simp] theorem fOff_73_0 : fOff Try.prog 73 0 = some 0 := by kernel_rfl
@[simp] theorem fOff_73_1 : fOff Try.prog 73 1 = some 1 := by kernel_rfl
@[simp] theorem fOff_73_2 : fOff Try.prog 73 2 = some 2 := by kernel_rfl
@[simp] theorem tPlaces_73 : tPlaces Try.prog 73 = some [(0, 1), (1, 1), (2, 1)] := by kernel_rfl
@[simp] theorem eqT_73 : eqT Try.prog 73 = some [0, 1, 2] := by kernel_rfl
@[simp] theorem tZero_73 : tZero Try.prog 73 = some [.int .i64 0, .int .i64 0, .int .i64 0] := by kernel_rfl
@[simp] theorem mTy_87 : mTy Try.prog 87 = some ([0, 1], 2, true, false, .c (.sl true 0 none [])) := by kernel_rfl
@[simp] theorem tSize_92 : tSize Try.prog 92 = some 2 := by kernel_rfl
@[simp] theorem tAgg_92 : tAgg Try.prog 92 = some true := by kernel_rfl
@[simp] theorem isTy_92 : isTy Try.prog 92 = 3 := by kernel_rfl
@[simp] theorem tBytes_92 : tBytes Try.prog 92 = some 16 := by kernel_rfl
@[simp] theorem fOff_92_0 : fOff Try.prog 92 0 = some 0 := by kernel_rfl
@[simp] theorem fOff_92_1 : fOff Try.prog 92 1 = some 1 := by kernel_rfl
@[simp] theorem tPlaces_92 : tPlaces Try.prog 92 = some [(0, 1), (1, 1)] := by kernel_rfl
@[simp] theorem eqT_92 : eqT Try.prog 92 = some [0, 1] := by kernel_rfl
@[simp] theorem tZero_92 : tZero Try.prog 92 = some [.int .i64 0, .int .i64 0] := by kernel_rfl
@[simp] theorem tSize_93 : tSize Try.prog 93 = some 2 := by kernel_rfl
@[simp] theorem tAgg_93 : tAgg Try.prog 93 = some true := by kernel_rfl
@[simp] theorem isTy_93 : isTy Try.prog 93 = 3 := by kernel_rfl
@[simp] theorem tBytes_93 : tBytes Try.prog 93 = some 16 := by kernel_rfl
@[simp] theorem fOff_93_0 : fOff Try.prog 93 0 = some 0 := by kernel_rfl
@[simp] theorem fOff_93_1 : fOff Try.prog 93 1 = some 1 := by kernel_rfl
@[simp] theorem tPlaces_93 : tPlaces Try.prog 93 = some [(0, 1), (1, 1)] := by kernel_rfl
@[simp] theorem eqT_93 : eqT Try.prog 93 = some [0, 1] := by kernel_rfl
@[simp] theorem tZero_93 : tZero Try.prog 93 = some [.int .i64 0, .int .i64 0] := by kernel_rfl
@[simp] theorem mTy_101 : mTy Try.prog 101 = some ([0, 1], 2, true, false, .c (.int .i64 0)) := by kernel_rfl
@[simp] theorem tSize_102 : tSize Try.prog 102 = some 2 := by kernel_rfl
@[simp] theorem tAgg_102 : tAgg Try.prog 102 = some true := by kernel_rfl
@[simp] theorem isTy_102 : isTy Try.prog 102 = 4 := by kernel_rfl
@[simp] theorem tBytes_102 : tBytes Try.prog 102 = some 16 := by kernel_rfl
@[simp] theorem aInfo_102 : aInfo Try.prog 102 = some (2, 3, 1) := by kernel_rfl
@[simp] theorem tPlaces_102 : tPlaces Try.prog 102 = some [(0, 1), (1, 1)] := by kernel_rfl
@[simp] theorem eqT_102 : eqT Try.prog 102 = some [0, 1] := by kernel_rfl
@[simp] theorem tZero_102 : tZero Try.prog 102 = some [.int .i64 0, .int .i64 0] := by kernel_rfl
@[simp] theorem mTy_103 : mTy Try.prog 103 = some ([0, 1, 2, 3], 4, true, false, .c (.nilp)) := by kernel_rfl
@[simp] theorem tSize_104 : tSize Try.prog 104 = some 4 := by kernel_rfl
@[simp] theorem tAgg_104 : tAgg Try.prog 104 = some true := by kernel_rfl
@[simp] theorem isTy_104 : isTy Try.prog 104 = 3 := by kernel_rfl
@[simp] theorem tBytes_104 : tBytes Try.prog 104 = some 32 := by kernel_rfl
@[simp] theorem fOff_104_0 : fOff Try.prog 104 0 = some 0 := by kernel_rfl
@[simp] theorem fOff_104_1 : fOff Try.prog 104 1 = some 1 := by kernel_rfl
@[simp] theorem fOff_104_2 : fOff Try.prog 104 2 = some 2 := by kernel_rfl
@[simp] theorem fOff_104_3 : fOff Try.prog 104 3 = some 3 := by kernel_rfl
@[simp] theorem tPlaces_104 : tPlaces Try.prog 104 = some [(0, 1), (1, 1), (2, 1), (3, 1)] := by kernel_rfl
@[simp] theorem eqT_104 : eqT Try.prog 104 = some [0, 1, 2, 3] := by kernel_rfl
@[simp] theorem tZero_104 : tZero Try.prog 104 = some [.int .i64 0, .int .i64 0, .int .i64 0, .int .i64 0] := by kernel_rfl
@[simp] theorem tSize_105 : tSize Try.prog 105 = some 4 := by kernel_rfl
@[simp] theorem tAgg_105 : tAgg Try.prog 105 = some true := by kernel_rfl
@[simp] theorem isTy_105 : isTy Try.prog 105 = 3 := by kernel_rfl
@[simp] theorem tBytes_105 : tBytes Try.prog 105 = some 32 := by kernel_rfl
@[simp] theorem fOff_105_0 : fOff Try.prog 105 0 = some 0 := by kernel_rfl
@[simp] theorem fOff_105_1 : fOff Try.prog 105 1 = some 1 := by kernel_rfl
@[simp] theorem fOff_105_2 : fOff Try.prog 105 2 = some 2 := by kernel_rfl
@[simp] theorem fOff_105_3 : fOff Try.prog 105 3 = some 3 := by kernel_rfl
@[simp] theorem tPlaces_105 : tPlaces Try.prog 105 = some [(0, 1), (1, 1), (2, 1), (3, 1)] := by kernel_rfl
@[simp] theorem eqT_105 : eqT Try.prog 105 = some [0, 1, 2, 3] := by kernel_rfl
@[simp] theorem tZero_105 : tZero Try.prog 105 = some [.int .i64 0, .int .i64 0, .int .i64 0, .int .i64 0] := by kernel_rfl
@[simp] theorem tSize_106 : tSize Try.prog 106 = some 1 := by kernel_rfl
@[simp] theorem tAgg_106 : tAgg Try.prog 106 = some false := by kernel_rfl
@[simp] theorem isTy_106 : isTy Try.prog 106 = 0 := by kernel_rfl
@[simp] theorem isPtr_106 : isPtr Try.prog 106 = true := by kernel_rfl
@[simp] theorem tBytes_106 : tBytes Try.prog 106 = some 8 := by kernel_rfl
@[simp] theorem tZero_106 : tZero Try.prog 106 = some [.nilp] := by kernel_rfl
@[simp] theorem mTy_116 : mTy Try.prog 116 = some ([0, 1], 2, true, false, .c (.bool false)) := by kernel_rfl
@[simp] theorem tSize_127 : tSize Try.prog 127 = some 1 := by kernel_rfl
@[simp] theorem tAgg_127 : tAgg Try.prog 127 = some false := by kernel_rfl
@[simp] theorem isTy_127 : isTy Try.prog 127 = 8 := by kernel_rfl
@[simp] theorem tBytes_127 : tBytes Try.prog 127 = some 8 := by kernel_rfl
@[simp] theorem iKind_127 : iKind Try.prog 127 = some .u64 := by kernel_rfl
@[simp] theorem tZero_127 : tZero Try.prog 127 = some [.int .u64 0] := by kernel_rfl
@[simp] theorem tSize_139 : tSize Try.prog 139 = some 1 := by kernel_rfl
@[simp] theorem tAgg_139 : tAgg Try.prog 139 = some false := by kernel_rfl
@[simp] theorem isTy_139 : isTy Try.prog 139 = 8 := by kernel_rfl
@[simp] theorem tBytes_139 : tBytes Try.prog 139 = some 4 := by kernel_rfl
@[simp] theorem iKind_139 : iKind Try.prog 139 = some .u32 := by kernel_rfl
@[simp] theorem tZero_139 : tZero Try.prog 139 = some [.int .u32 0] := by kernel_rfl
@[simp] theorem tSize_143 : tSize Try.prog 143 = some 1 := by kernel_rfl
@[simp] theorem tAgg_143 : tAgg Try.prog 143 = some false := by kernel_rfl
@[simp] theorem isTy_143 : isTy Try.prog 143 = 7 := by kernel_rfl
@[simp] theorem tBytes_143 : tBytes Try.prog 143 = some 8 := by kernel_rfl
@[simp] theorem iKind_143 : iKind Try.prog 143 = some .i64 := by kernel_rfl
@[simp] theorem tZero_143 : tZero Try.prog 143 = some [.int .i64 0] := by kernel_rfl
@[simp] theorem tSize_151 : tSize Try.prog 151 = some 1 := by kernel_rfl
@[simp] theorem tAgg_151 : tAgg Try.prog 151 = some false := by kernel_rfl
@[simp] theorem isTy_151 : isTy Try.prog 151 = 8 := by kernel_rfl
@[simp] theorem tBytes_151 : tBytes Try.prog 151 = some 8 := by kernel_rfl
@[simp] theorem iKind_151 : iKind Try.prog 151 = some .u64 := by kernel_rfl
@[simp] theorem tZero_151 : tZero Try.prog 151 = some [.int .u64 0] := by kernel_rfl
@[simp] theorem tSize_152 : tSize Try.prog 152 = some 6 := by kernel_rfl
@[simp] theorem tAgg_152 : tAgg Try.prog 152 = some true := by kernel_rfl
@[simp] theorem isTy_152 : isTy Try.prog 152 = 4 := by kernel_rfl
@[simp] theorem tBytes_152 : tBytes Try.prog 152 = some 48 := by kernel_rfl
@[simp] theorem aInfo_152 : aInfo Try.prog 152 = some (6, 3, 1) := by kernel_rfl
@[simp] theorem tPlaces_152 : tPlaces Try.prog 152 = some [(0, 1), (1, 1), (2, 1), (3, 1), (4, 1), (5, 1)] := by kernel_rfl
@[simp] theorem eqT_152 : eqT Try.prog 152 = some [0, 1, 2, 3, 4, 5] := by kernel_rfl
@[simp] theorem tZero_152 : tZero Try.prog 152 = some [.int .i64 0, .int .i64 0, .int .i64 0, .int .i64 0, .int .i64 0, .int .i64 0] := by kernel_rfl
@[simp] theorem tSize_154 : tSize Try.prog 154 = some 5 := by kernel_rfl
@[simp] theorem tAgg_154 : tAgg Try.prog 154 = some true := by kernel_rfl
@[simp] theorem isTy_154 : isTy Try.prog 154 = 4 := by kernel_rfl
@[simp] theorem tBytes_154 : tBytes Try.prog 154 = some 40 := by kernel_rfl
@[simp] theorem aInfo_154 : aInfo Try.prog 154 = some (5, 3, 1) := by kernel_rfl
@[simp] theorem tPlaces_154 : tPlaces Try.prog 154 = some [(0, 1), (1, 1), (2, 1), (3, 1), (4, 1)] := by kernel_rfl
@[simp] theorem eqT_154 : eqT Try.prog 154 = some [0, 1, 2, 3, 4] := by kernel_rfl
@[simp] theorem tZero_154 : tZero Try.prog 154 = some [.int .i64 0, .int .i64 0, .int .i64 0, .int .i64 0, .int .i64 0] := by kernel_rfl
@[simp] theorem tSize_157 : tSize Try.prog 157 = some 1 := by kernel_rfl
@[simp] theorem tAgg_157 : tAgg Try.prog 157 = some false := by kernel_rfl
@[simp] theorem isTy_157 : isTy Try.prog 157 = 8 := by kernel_rfl
@[simp] theorem tBytes_157 : tBytes Try.prog 157 = some 8 := by kernel_rfl
@[simp] theorem iKind_157 : iKind Try.prog 157 = some .u64 := by kernel_rfl
@[simp] theorem tZero_157 : tZero Try.prog 157 = some [.int .u64 0] := by kernel_rfl
@[simp] theorem tSize_161 : tSize Try.prog 161 = some 1 := by kernel_rfl
@[simp] theorem tAgg_161 : tAgg Try.prog 161 = some false := by kernel_rfl
@[simp] theorem isTy_161 : isTy Try.prog 161 = 0 := by kernel_rfl
@[simp] theorem tBytes_161 : tBytes Try.prog 161 = some 8 := by kernel_rfl
@[simp] theorem tZero_161 : tZero Try.prog 161 = some [.nilp] := by kernel_rfl
@[simp] theorem tSize_163 : tSize Try.prog 163 = some 1 := by kernel_rfl
@[simp] theorem tAgg_163 : tAgg Try.prog 163 = some false := by kernel_rfl
@[simp] theorem isTy_163 : isTy Try.prog 163 = 0 := by kernel_rfl
@[simp] theorem tBytes_163 : tBytes Try.prog 163 = some 8 := by kernel_rfl
@[simp] theorem tZero_163 : tZero Try.prog 163 = some [.nilp] := by kernel_rfl
@[simp] theorem tSize_167 : tSize Try.prog 167 = some 4 := by kernel_rfl
@[simp] theorem tAgg_167 : tAgg Try.prog 167 = some true := by kernel_rfl
@[simp] theorem isTy_167 : isTy Try.prog 167 = 3 := by kernel_rfl
@[simp] theorem tBytes_167 : tBytes Try.prog 167 = some 40 := by kernel_rfl
@[simp] theorem fOff_167_0 : fOff Try.prog 167 0 = some 0 := by kernel_rfl
@[simp] theorem fOff_167_1 : fOff Try.prog 167 1 = some 1 := by kernel_rfl
@[simp] theorem fOff_167_2 : fOff Try.prog 167 2 = some 2 := by kernel_rfl
@[simp] theorem fOff_167_3 : fOff Try.prog 167 3 = some 3 := by kernel_rfl
@[simp] theorem tPlaces_167 : tPlaces Try.prog 167 = some [(0, 1), (1, 1), (2, 1), (3, 1)] := by kernel_rfl
@[simp] theorem tZero_167 : tZero Try.prog 167 = some [.nilp, .nilp, .nilp, .str ⟨#[]⟩] := by kernel_rfl
@[simp] theorem tSize_168 : tSize Try.prog 168 = some 4 := by kernel_rfl
@[simp] theorem tAgg_168 : tAgg Try.prog 168 = some true := by kernel_rfl
@[simp] theorem isTy_168 : isTy Try.prog 168 = 3 := by kernel_rfl
@[simp] theorem tBytes_168 : tBytes Try.prog 168 = some 40 := by kernel_rfl
@[simp] theorem fOff_168_0 : fOff Try.prog 168 0 = some 0 := by kernel_rfl
@[simp] theorem fOff_168_1 : fOff Try.prog 168 1 = some 1 := by kernel_rfl
@[simp] theorem fOff_168_2 : fOff Try.prog 168 2 = some 2 := by kernel_rfl
@[simp] theorem fOff_168_3 : fOff Try.prog 168 3 = some 3 := by kernel_rfl
@[simp] theorem tPlaces_168 : tPlaces Try.prog 168 = some [(0, 1), (1, 1), (2, 1), (3, 1)] := by kernel_rfl
@[simp] theorem tZero_168 : tZero Try.prog 168 = some [.nilp, .nilp, .nilp, .str ⟨#[]⟩] := by kernel_rfl
@[simp] theorem tSize_169 : tSize Try.prog 169 = some 0 := by kernel_rfl
@[simp] theorem tAgg_169 : tAgg Try.prog 169 = some true := by kernel_rfl
@[simp] theorem isTy_169 : isTy Try.prog 169 = 4 := by kernel_rfl
@[simp] theorem tBytes_169 : tBytes Try.prog 169 = some 0 := by kernel_rfl
@[simp] theorem aInfo_169 : aInfo Try.prog 169 = some (0, 16, 1) := by kernel_rfl
@[simp] theorem tPlaces_169 : tPlaces Try.prog 169 = some [] := by kernel_rfl
@[simp] theorem tZero_169 : tZero Try.prog 169 = some [] := by kernel_rfl
@[simp] theorem tSize_170 : tSize Try.prog 170 = some 0 := by kernel_rfl
@[simp] theorem tAgg_170 : tAgg Try.prog 170 = some true := by kernel_rfl
@[simp] theorem isTy_170 : isTy Try.prog 170 = 3 := by kernel_rfl
@[simp] theorem tBytes_170 : tBytes Try.prog 170 = some 0 := by kernel_rfl
@[simp] theorem tPlaces_170 : tPlaces Try.prog 170 = some [(0, 0)] := by kernel_rfl
@[simp] theorem tZero_170 : tZero Try.prog 170 = some [] := by kernel_rfl
@[simp] theorem tSize_171 : tSize Try.prog 171 = some 0 := by kernel_rfl
@[simp] theorem tAgg_171 : tAgg Try.prog 171 = some true := by kernel_rfl
@[simp] theorem isTy_171 : isTy Try.prog 171 = 3 := by kernel_rfl
@[simp] theorem tBytes_171 : tBytes Try.prog 171 = some 0 := by kernel_rfl
@[simp] theorem tPlaces_171 : tPlaces Try.prog 171 = some [(0, 0)] := by kernel_rfl
@[simp] theorem tZero_171 : tZero Try.prog 171 = some [] := by kernel_rfl
@[simp] theorem tSize_173 : tSize Try.prog 173 = some 1 := by kernel_rfl
@[simp] theorem tAgg_173 : tAgg Try.prog 173 = some false := by kernel_rfl
@[simp] theorem isTy_173 : isTy Try.prog 173 = 5 := by kernel_rfl
@[simp] theorem tBytes_173 : tBytes Try.prog 173 = some 1 := by kernel_rfl
@[simp] theorem iKind_173 : iKind Try.prog 173 = some .u8 := by kernel_rfl
@[simp] theorem tZero_173 : tZero Try.prog 173 = some [.int .u8 0] := by kernel_rfl
@[simp] theorem tSize_174 : tSize Try.prog 174 = some 1 := by kernel_rfl
@[simp] theorem tAgg_174 : tAgg Try.prog 174 = some false := by kernel_rfl
@[simp] theorem isTy_174 : isTy Try.prog 174 = 5 := by kernel_rfl
@[simp] theorem tBytes_174 : tBytes Try.prog 174 = some 1 := by kernel_rfl
@[simp] theorem iKind_174 : iKind Try.prog 174 = some .u8 := by kernel_rfl
@[simp] theorem tZero_174 : tZero Try.prog 174 = some [.int .u8 0] := by kernel_rfl
@[simp] theorem tSize_176 : tSize Try.prog 176 = some 1 := by kernel_rfl
@[simp] theorem tAgg_176 : tAgg Try.prog 176 = some false := by kernel_rfl
@[simp] theorem isTy_176 : isTy Try.prog 176 = 0 := by kernel_rfl
@[simp] theorem tBytes_176 : tBytes Try.prog 176 = some 8 := by kernel_rfl
@[simp] theorem tZero_176 : tZero Try.prog 176 = some [.nilp] := by kernel_rfl
@[simp] theorem tSize_177 : tSize Try.prog 177 = some 1 := by kernel_rfl
@[simp] theorem tAgg_177 : tAgg Try.prog 177 = some false := by kernel_rfl
@[simp] theorem isTy_177 : isTy Try.prog 177 = 8 := by kernel_rfl
@[simp] theorem tBytes_177 : tBytes Try.prog 177 = some 4 := by kernel_rfl
@[simp] theorem iKind_177 : iKind Try.prog 177 = some .i32 := by kernel_rfl
@[simp] theorem tZero_177 : tZero Try.prog 177 = some [.int .i32 0] := by kernel_rfl
@[simp] theorem tSize_178 : tSize Try.prog 178 = some 1 := by kernel_rfl
@[simp] theorem tAgg_178 : tAgg Try.prog 178 = some false := by kernel_rfl
@[simp] theorem isTy_178 : isTy Try.prog 178 = 8 := by kernel_rfl
@[simp] theorem tBytes_178 : tBytes Try.prog 178 = some 4 := by kernel_rfl
@[simp] theorem iKind_178 : iKind Try.prog 178 = some .i32 := by kernel_rfl
@[simp] theorem tZero_178 : tZero Try.prog 178 = some [.int .i32 0] := by kernel_rfl
@[simp] theorem tSize_179 : tSize Try.prog 179 = some 11 := by kernel_rfl
@[simp] theorem tAgg_179 : tAgg Try.prog 179 = some true := by kernel_rfl
@[simp] theorem isTy_179 : isTy Try.prog 179 = 3 := by kernel_rfl
@[simp] theorem tBytes_179 : tBytes Try.prog 179 = some 48 := by kernel_rfl
@[simp] theorem fOff_179_0 : fOff Try.prog 179 0 = some 0 := by kernel_rfl
@[simp] theorem fOff_179_1 : fOff Try.prog 179 1 = some 1 := by kernel_rfl
@[simp] theorem fOff_179_2 : fOff Try.prog 179 2 = some 2 := by kernel_rfl
@[simp] theorem fOff_179_3 : fOff Try.prog 179 3 = some 3 := by kernel_rfl
@[simp] theorem fOff_179_4 : fOff Try.prog 179 4 = some 4 := by kernel_rfl
@[simp] theorem fOff_179_5 : fOff Try.prog 179 5 = some 5 := by kernel_rfl
@[simp] theorem fOff_179_6 : fOff Try.prog 179 6 = some 6 := by kernel_rfl
@[simp] theorem fOff_179_7 : fOff Try.prog 179 7 = some 7 := by kernel_rfl
@[simp] theorem fOff_179_8 : fOff Try.prog 179 8 = some 8 := by kernel_rfl
@[simp] theorem fOff_179_9 : fOff Try.prog 179 9 = some 9 := by kernel_rfl
@[simp] theorem fOff_179_10 : fOff Try.prog 179 10 = some 10 := by kernel_rfl
@[simp] theorem tPlaces_179 : tPlaces Try.prog 179 = some [(0, 1), (1, 1), (2, 1), (3, 1), (4, 1), (5, 1), (6, 1), (7, 1), (8, 1), (9, 1), (10, 1)] := by kernel_rfl
@[simp] theorem tZero_179 : tZero Try.prog 179 = some [.int .u64 0, .int .u64 0, .int .u32 0, .int .u8 0, .int .u8 0, .int .u8 0, .int .u8 0, .nilf, .nilp, .int .i32 0, .int .i32 0] := by kernel_rfl
@[simp] theorem tSize_180 : tSize Try.prog 180 = some 11 := by kernel_rfl
@[simp] theorem tAgg_180 : tAgg Try.prog 180 = some true := by kernel_rfl
@[simp] theorem isTy_180 : isTy Try.prog 180 = 3 := by kernel_rfl
@[simp] theorem tBytes_180 : tBytes Try.prog 180 = some 48 := by kernel_rfl
@[simp] theorem fOff_180_0 : fOff Try.prog 180 0 = some 0 := by kernel_rfl
@[simp] theorem fOff_180_1 : fOff Try.prog 180 1 = some 1 := by kernel_rfl
@[simp] theorem fOff_180_2 : fOff Try.prog 180 2 = some 2 := by kernel_rfl
@[simp] theorem fOff_180_3 : fOff Try.prog 180 3 = some 3 := by kernel_rfl
@[simp] theorem fOff_180_4 : fOff Try.prog 180 4 = some 4 := by kernel_rfl
@[simp] theorem fOff_180_5 : fOff Try.prog 180 5 = some 5 := by kernel_rfl
@[simp] theorem fOff_180_6 : fOff Try.prog 180 6 = some 6 := by kernel_rfl
@[simp] theorem fOff_180_7 : fOff Try.prog 180 7 = some 7 := by kernel_rfl
@[simp] theorem fOff_180_8 : fOff Try.prog 180 8 = some 8 := by kernel_rfl
@[simp] theorem fOff_180_9 : fOff Try.prog 180 9 = some 9 := by kernel_rfl
@[simp] theorem fOff_180_10 : fOff Try.prog 180 10 = some 10 := by kernel_rfl
@[simp] theorem tPlaces_180 : tPlaces Try.prog 180 = some [(0, 1), (1, 1), (2, 1), (3, 1), (4, 1), (5, 1), (6, 1), (7, 1), (8, 1), (9, 1), (10, 1)] := by kernel_rfl
@[simp] theorem tZero_180 : tZero Try.prog 180 = some [.int .u64 0, .int .u64 0, .int .u32 0, .int .u8 0, .int .u8 0, .int .u8 0, .int .u8 0, .nilf, .nilp, .int .i32 0, .int .i32 0] := by kernel_rfl
end Go.Proofs.Ytngbpmiikpjiaaa
end
section
open Go Go.Vm
namespace Go.Proofs.Ytngbpmiikpjiaaa
set_option maxRecDepth 100000
set_option linter.unusedSimpArgs false
attribute [local irreducible] Tri Does DoesB
structure Att where
  slot : Int
  frame : Int
  cslot : Int
  off : Int
  frm : Int
  to : Int
  flow : Int
  out : Int
structure Del where
  flow : Int
  frame : Int
  slot : Int
structure Rec where
  slots : Int
  an : Bool
  atts : List Att
  dn : Bool
  dels : List Del
@[simp] def attC (a : Att) : List C := [.int .i64 a.slot, .int .i64 a.frame, .int .i64 a.cslot, .int .i64 a.off, .int .i64 a.frm, .int .i64 a.to, .int .i64 a.flow, .int .i64 a.out]
@[simp] def delC (d : Del) : List C := [.int .i64 d.flow, .int .i64 d.frame, .int .i64 d.slot]
def recC (r : Rec) : List C := [.int .i64 r.slots, .sl r.an 8 none (r.atts.map attC), .sl r.dn 3 none (r.dels.map delC)]

theorem attempts_does (r : Rec) (flow frame : Int) (hl : r.atts.length ≤ 1099511627776) :
    Does Try.prog 30 [.agg (recC r), .c (.int .i64 flow), .c (.int .i64 frame)]
      (.c (.sl (r.atts.filter fun a => a.flow == flow && a.frame == frame).isEmpty 8 none ((r.atts.filter fun a => a.flow == flow && a.frame == frame).map attC))) := by
  refine Does.of_body Try.func30 rfl (by kernel_rfl) rfl rfl (by simp) ?_
  intro E
  refine Tri.seq fun K hK => Tri.region ?_
  simp [recC]
  intro b1
  apply hK; clear hK K
  refine Tri.seq fun K hK => Tri.region ?_
  simp
  apply hK; clear hK K
  refine Tri.seq fun K hK => ?_
  refine Tri.seq fun K1 hK1 => Tri.region ?_
  simp
  apply hK1; clear hK1 K1
  refine Tri.range 14 13 15 33 35 rfl rfl r.atts.length (fun k st => st.sl 12 = .c (.sl r.an 8 none (r.atts.map attC)) ∧ st.sl 1 = .c (.int .i64 flow) ∧ st.sl 2 = .c (.int .i64 frame) ∧
    Grows st (st.sl 7) 32 66 8 (((r.atts.take k).filter fun a => a.flow == flow && a.frame == frame).map attC)) (by simp) (by omega) ?_ rfl (by simp [upd]) (by simp [upd]) (by simp [upd, Grows]) ?_ ?_
  · rintro k st t v ht ⟨a1, a2, a3, a4⟩
    rcases ht with rfl | rfl | rfl <;> (simp [upd, a1, a2, a3]; simpa [Grows] using a4)
  · rintro k st hk ⟨h12, h1, h2, h7⟩ hn h14 h13
    generalize ho : (r.atts.take k).filter (fun a => a.flow == flow && a.frame == frame) = o at h7
    have htk : (r.atts.take (k + 1)).filter (fun a => a.flow == flow && a.frame == frame) = o ++ (if (r.atts[k].flow == flow && r.atts[k].frame == frame) = true then [r.atts[k]] else []) := by
      rw [List.take_succ_eq_append_getElem hk, List.filter_append, ho]
      cases h1 : (r.atts[k].flow == flow && r.atts[k].frame == frame) <;> simp only [List.filter_cons, h1] <;> rfl
    have hol : o.length ≤ k := by rw [← ho]; exact Nat.le_trans (List.length_filter_le ..) (List.length_take_le ..)
    refine Tri.seq fun K2 hK2 => Tri.region ?_
    simp [hn, upd, h12, h14, hk]
    intro b
    apply hK2; clear hK2 K2
    refine Tri.seq fun K2 hK2 => Tri.region ?_
    cases e1 : (r.atts[k].flow == flow) <;> cases e2 : (r.atts[k].frame == frame) <;> simp only [e1, e2, Bool.and_self, Bool.and_true, Bool.and_false, if_true, Bool.false_eq_true, if_false, List.append_nil] at htk
    case true.true =>
      simp [upd, h1, h2, e1, e2]
      apply hK2; clear hK2 K2
      refine Tri.cond (t := true) (by simp [upd]) (fun _ => ?_) (fun h => by cases h)
      refine Tri.region ?_
      rw [htk]
      rcases h7 with ⟨hnil, n', own, h7⟩ | ⟨hne, b', h7, hrw⟩
      · simp at hnil
        subst hnil
        simp [upd, h7, h12, h1, h2, h14, h13, Grows]
      · simp [upd, h7, hrw, show (o.length + 1) * 64 ≤ 140737488355328 by omega, h12, h1, h2, h14, h13, Grows]
    all_goals
      simp [upd, h1, h2, e1, e2]
      apply hK2; clear hK2 K2
      refine Tri.cond (t := false) (by simp [upd]) (fun h => by cases h) (fun _ => ?_)
      refine Tri.skip ?_
      rw [htk]
      simp [upd, h12, h1, h2, h14, h13]
      simpa [Grows] using h7
  · rintro st ⟨h12, h1, h2, h7⟩ hn
    apply hK
    refine Tri.seq fun K2 hK2 => Tri.region ?_
    simp [upd, hn]
    apply hK2
    refine Tri.ret ?_
    rw [List.take_length] at h7
    exact ⟨_, rfl, by simpa [upd] using h7.wk⟩
end Go.Proofs.Ytngbpmiikpjiaaa
end
section
open Go Go.Vm
namespace Go.Proofs.Ytngbpmiikpjiaaa
set_option maxRecDepth 100000
set_option linter.unusedSimpArgs false
attribute [local irreducible] Tri Does DoesB
def belowB (n e : Int) : Bool := decide (0 ≤ n ∧ n < e)
theorem below_does (n e : Int) : Does Try.prog 75 [.c (.int .i64 n), .c (.int .i64 e)] (.c (.bool (belowB n e))) := by
  refine Does.of_body Try.func75 rfl (by kernel_rfl) rfl rfl (by simp) ?_
  intro E
  refine Tri.seq fun K hK => Tri.region ?_
  simp
  apply hK; clear hK K
  refine Tri.seq fun K hK => Tri.region ?_
  cases h1 : decide (0 ≤ n) <;> cases h2 : decide (n < e) <;> simp only [decide_eq_true_eq, decide_eq_false_iff_not] at h1 h2
  all_goals
    simp [upd, h1, h2]
    apply hK; clear hK K
    refine Tri.ret ⟨_, rfl, ?_⟩
    simp [upd, belowB, h1, h2]
    exact Wk.refl _
theorem isNaN_does (n : Int) : Does Try.prog 79 [.c (.int .i64 n)] (.c (.bool false)) := by
  refine Does.of_body Try.func79 rfl (by kernel_rfl) rfl rfl (by simp) ?_
  intro E
  repeat (first
    | (refine Tri.seq fun K hK => ?_)
    | (refine Tri.region ?_; simp [upd])
    | (refine Tri.draw (by kernel_rfl) (by decide +kernel) ?_; simp [upd])
    | (refine Tri.cond_true ?_ ?_; (focus simp [upd]; done))
    | (refine Tri.cond_false ?_ ?_; (focus simp [upd]; done))
    | (refine Tri.skip ?_; simp only [thenS, blockS])
    | (refine Tri.block_seq ?_)
    | (refine Tri.block_region ?_)
    | (refine Tri.block_cond ?_)
    | (refine Tri.exit ?_; simp [upd]; first | (rename ∀ st, Tri _ _ _ st _ → _ => hK; first | (apply hK; clear hK) | (clear hK; rename ∀ st, Tri _ _ _ st _ → _ => hK; first | (apply hK; clear hK) | (clear hK; rename ∀ st, Tri _ _ _ st _ → _ => hK; first | (apply hK; clear hK) | (clear hK; rename ∀ st, Tri _ _ _ st _ → _ => hK; first | (apply hK; clear hK) | (clear hK; rename ∀ st, Tri _ _ _ st _ → _ => hK; first | (apply hK; clear hK) | (clear hK; rename ∀ st, Tri _ _ _ st _ → _ => hK; apply hK; clear hK)))))) | skip)
    | (intro β)
    | (rename ∀ st, Tri _ _ _ st _ → _ => hK; apply hK; clear hK))
  refine Tri.ret ⟨_, rfl, ?_⟩
  simp [upd]
  exact Wk.refl _
def cmpI (x y : Int) : Int := if x < y then -1 else if y < x then 1 else 0
theorem compare_does (x y : Int) : Does Try.prog 56 [.c (.int .i64 x), .c (.int .i64 y)] (.c (.int .i64 (cmpI x y))) := by
  refine Does.of_body Try.func56 rfl (by kernel_rfl) rfl rfl (by simp) ?_
  intro E
  unfold cmpI
  by_cases h1 : x < y
  · rw [if_pos h1]
    repeat (first
      | (refine Tri.seq fun K hK => ?_)
      | (refine Tri.region ?_; simp [upd, h1])
      | (refine Tri.draw (by kernel_rfl) (by decide +kernel) ?_; simp [upd, h1])
      | (refine Tri.cond_true ?_ ?_; (focus simp [upd, h1]; done))
      | (refine Tri.cond_false ?_ ?_; (focus simp [upd, h1]; done))
      | (refine Tri.skip ?_; simp only [thenS, blockS])
      | (refine Tri.block_seq ?_)
      | (refine Tri.block_region ?_)
      | (refine Tri.block_cond ?_)
      | ((with_reducible refine CallK.pure (isNaN_does _) (Wks.refl _) ?_); simp [upd, h1])
      | (refine Tri.exit ?_; simp [upd, h1]; first | (rename ∀ st, Tri _ _ _ st _ → _ => hK; first | (apply hK; clear hK) | (clear hK; rename ∀ st, Tri _ _ _ st _ → _ => hK; first | (apply hK; clear hK) | (clear hK; rename ∀ st, Tri _ _ _ st _ → _ => hK; first | (apply hK; clear hK) | (clear hK; rename ∀ st, Tri _ _ _ st _ → _ => hK; first | (apply hK; clear hK) | (clear hK; rename ∀ st, Tri _ _ _ st _ → _ => hK; first | (apply hK; clear hK) | (clear hK; rename ∀ st, Tri _ _ _ st _ → _ => hK; apply hK; clear hK)))))) | skip)
      | (intro β)
      | (rename ∀ st, Tri _ _ _ st _ → _ => hK; apply hK; clear hK))
    refine Tri.ret ⟨_, rfl, ?_⟩
    simp [upd]
    exact Wk.refl _
  · rw [if_neg h1]
    by_cases h2 : y < x
    · rw [if_pos h2]
      repeat (first
        | (refine Tri.seq fun K hK => ?_)
        | (refine Tri.region ?_; simp [upd, h1, h2])
        | (refine Tri.draw (by kernel_rfl) (by decide +kernel) ?_; simp [upd, h1, h2])
        | (refine Tri.cond_true ?_ ?_; (focus simp [upd, h1, h2]; done))
        | (refine Tri.cond_false ?_ ?_; (focus simp [upd, h1, h2]; done))
        | (refine Tri.skip ?_; simp only [thenS, blockS])
        | (refine Tri.block_seq ?_)
        | (refine Tri.block_region ?_)
        | (refine Tri.block_cond ?_)
        | ((with_reducible refine CallK.pure (isNaN_does _) (Wks.refl _) ?_); simp [upd, h1, h2])
        | (refine Tri.exit ?_; simp [upd, h1, h2]; first | (rename ∀ st, Tri _ _ _ st _ → _ => hK; first | (apply hK; clear hK) | (clear hK; rename ∀ st, Tri _ _ _ st _ → _ => hK; first | (apply hK; clear hK) | (clear hK; rename ∀ st, Tri _ _ _ st _ → _ => hK; first | (apply hK; clear hK) | (clear hK; rename ∀ st, Tri _ _ _ st _ → _ => hK; first | (apply hK; clear hK) | (clear hK; rename ∀ st, Tri _ _ _ st _ → _ => hK; first | (apply hK; clear hK) | (clear hK; rename ∀ st, Tri _ _ _ st _ → _ => hK; apply hK; clear hK)))))) | skip)
        | (intro β)
        | (rename ∀ st, Tri _ _ _ st _ → _ => hK; apply hK; clear hK))
      refine Tri.ret ⟨_, rfl, ?_⟩
      simp [upd]
      exact Wk.refl _
    · rw [if_neg h2]
      repeat (first
        | (refine Tri.seq fun K hK => ?_)
        | (refine Tri.region ?_; simp [upd, h1, h2])
        | (refine Tri.draw (by kernel_rfl) (by decide +kernel) ?_; simp [upd, h1, h2])
        | (refine Tri.cond_true ?_ ?_; (focus simp [upd, h1, h2]; done))
        | (refine Tri.cond_false ?_ ?_; (focus simp [upd, h1, h2]; done))
        | (refine Tri.skip ?_; simp only [thenS, blockS])
        | (refine Tri.block_seq ?_)
        | (refine Tri.block_region ?_)
        | (refine Tri.block_cond ?_)
        | ((with_reducible refine CallK.pure (isNaN_does _) (Wks.refl _) ?_); simp [upd, h1, h2])
        | (refine Tri.exit ?_; simp [upd, h1, h2]; first | (rename ∀ st, Tri _ _ _ st _ → _ => hK; first | (apply hK; clear hK) | (clear hK; rename ∀ st, Tri _ _ _ st _ → _ => hK; first | (apply hK; clear hK) | (clear hK; rename ∀ st, Tri _ _ _ st _ → _ => hK; first | (apply hK; clear hK) | (clear hK; rename ∀ st, Tri _ _ _ st _ → _ => hK; first | (apply hK; clear hK) | (clear hK; rename ∀ st, Tri _ _ _ st _ → _ => hK; first | (apply hK; clear hK) | (clear hK; rename ∀ st, Tri _ _ _ st _ → _ => hK; apply hK; clear hK)))))) | skip)
        | (intro β)
        | (rename ∀ st, Tri _ _ _ st _ → _ => hK; apply hK; clear hK))
      refine Tri.ret ⟨_, rfl, ?_⟩
      simp [upd]
      exact Wk.refl _
def orI : List Int → Int
  | [] => 0
  | x :: r => if x = 0 then orI r else x
theorem or_does (l : List Int) (nl : Bool) (hl : l.length ≤ 1099511627776) : Does Try.prog 55 [.c (.sl nl 1 none (l.map fun x => [.int .i64 x]))] (.c (.int .i64 (orI l))) := by
  refine Does.of_body Try.func55 rfl (by kernel_rfl) rfl rfl (by simp) ?_
  intro E
  refine Tri.seq fun K hK => Tri.region ?_
  simp
  apply hK; clear hK K
  refine Tri.seq fun K hK => Tri.region ?_
  simp [upd]
  apply hK; clear hK K
  refine Tri.seq fun K hK => ?_
  refine Tri.seq fun K1 hK1 => Tri.region ?_
  simp [upd]
  apply hK1; clear hK1 K1
  refine Tri.range 8 7 9 16 18 rfl rfl l.length (fun k st => st.sl 6 = .c (.sl nl 1 none (l.map fun x => [.int .i64 x])) ∧ st.sl 3 = .c (.int .i64 0) ∧ orI l = orI (l.drop k)) (by simp) (by omega) ?_ rfl (by simp [upd]) (by simp [upd]) (by simp [upd]) ?_ ?_
  · rintro k st t v ht ⟨a1, a2, a3⟩
    rcases ht with rfl | rfl | rfl <;> simp [upd, a1, a2, a3]
  · rintro k st hk ⟨h6, h3, hor⟩ hn h8 h7
    have hd : l.drop k = l[k] :: l.drop (k + 1) := List.drop_eq_getElem_cons hk
    rw [hd, orI] at hor
    by_cases h0 : l[k] = 0
    · rw [if_pos h0] at hor
      repeat (first
        | (refine Tri.seq fun K hK => ?_)
        | (refine Tri.region ?_; simp [upd, hn, h6, h3, h8, h7, hk, h0])
        | (refine Tri.draw (by kernel_rfl) (by decide +kernel) ?_; simp [upd, hn, h6, h3, h8, h7, hk, h0])
        | (refine Tri.cond_true ?_ ?_; (focus simp [upd, hn, h6, h3, h8, h7, hk, h0]; done))
        | (refine Tri.cond_false ?_ ?_; (focus simp [upd, hn, h6, h3, h8, h7, hk, h0]; done))
        | (refine Tri.skip ?_; simp only [thenS, blockS])
        | (refine Tri.block_seq ?_)
        | (refine Tri.block_region ?_)
        | (refine Tri.block_cond ?_)
        | (refine Tri.exit ?_; simp [upd, hn, h6, h3, h8, h7, hk, h0]; first | (rename ∀ st, Tri _ _ _ st _ → _ => hK; first | (apply hK; clear hK) | (clear hK; rename ∀ st, Tri _ _ _ st _ → _ => hK; first | (apply hK; clear hK) | (clear hK; rename ∀ st, Tri _ _ _ st _ → _ => hK; first | (apply hK; clear hK) | (clear hK; rename ∀ st, Tri _ _ _ st _ → _ => hK; first | (apply hK; clear hK) | (clear hK; rename ∀ st, Tri _ _ _ st _ → _ => hK; first | (apply hK; clear hK) | (clear hK; rename ∀ st, Tri _ _ _ st _ → _ => hK; apply hK; clear hK)))))) | skip)
        | (intro β)
        | (rename ∀ st, Tri _ _ _ st _ → _ => hK; apply hK; clear hK))
      simp [upd, h6, h3, h8, h7, hor]
    · rw [if_neg h0] at hor
      repeat (first
        | (refine Tri.seq fun K hK => ?_)
        | (refine Tri.region ?_; simp [upd, hn, h6, h3, h8, h7, hk, h0])
        | (refine Tri.draw (by kernel_rfl) (by decide +kernel) ?_; simp [upd, hn, h6, h3, h8, h7, hk, h0])
        | (refine Tri.cond_true ?_ ?_; (focus simp [upd, hn, h6, h3, h8, h7, hk, h0]; done))
        | (refine Tri.cond_false ?_ ?_; (focus simp [upd, hn, h6, h3, h8, h7, hk, h0]; done))
        | (refine Tri.skip ?_; simp only [thenS, blockS])
        | (refine Tri.block_seq ?_)
        | (refine Tri.block_region ?_)
        | (refine Tri.block_cond ?_)
        | (refine Tri.exit ?_; simp [upd, hn, h6, h3, h8, h7, hk, h0]; first | (rename ∀ st, Tri _ _ _ st _ → _ => hK; first | (apply hK; clear hK) | (clear hK; rename ∀ st, Tri _ _ _ st _ → _ => hK; first | (apply hK; clear hK) | (clear hK; rename ∀ st, Tri _ _ _ st _ → _ => hK; first | (apply hK; clear hK) | (clear hK; rename ∀ st, Tri _ _ _ st _ → _ => hK; first | (apply hK; clear hK) | (clear hK; rename ∀ st, Tri _ _ _ st _ → _ => hK; first | (apply hK; clear hK) | (clear hK; rename ∀ st, Tri _ _ _ st _ → _ => hK; apply hK; clear hK)))))) | skip)
        | (intro β)
        | (rename ∀ st, Tri _ _ _ st _ → _ => hK; apply hK; clear hK))
      exact Tri.ret ⟨_, rfl, by simp [upd, hor]; exact Wk.refl _⟩
  · rintro st ⟨h6, h3, hor⟩ hn
    rw [List.drop_length] at hor
    apply hK
    repeat (first
      | (refine Tri.seq fun K hK => ?_)
      | (refine Tri.region ?_; simp [upd, hn, h3])
      | (refine Tri.draw (by kernel_rfl) (by decide +kernel) ?_; simp [upd, hn, h3])
      | (refine Tri.cond_true ?_ ?_; (focus simp [upd, hn, h3]; done))
      | (refine Tri.cond_false ?_ ?_; (focus simp [upd, hn, h3]; done))
      | (refine Tri.skip ?_; simp only [thenS, blockS])
      | (refine Tri.block_seq ?_)
      | (refine Tri.block_region ?_)
      | (refine Tri.block_cond ?_)
      | (refine Tri.exit ?_; simp [upd, hn, h3]; first | (rename ∀ st, Tri _ _ _ st _ → _ => hK; first | (apply hK; clear hK) | (clear hK; rename ∀ st, Tri _ _ _ st _ → _ => hK; first | (apply hK; clear hK) | (clear hK; rename ∀ st, Tri _ _ _ st _ → _ => hK; first | (apply hK; clear hK) | (clear hK; rename ∀ st, Tri _ _ _ st _ → _ => hK; first | (apply hK; clear hK) | (clear hK; rename ∀ st, Tri _ _ _ st _ → _ => hK; first | (apply hK; clear hK) | (clear hK; rename ∀ st, Tri _ _ _ st _ → _ => hK; apply hK; clear hK)))))) | skip)
      | (intro β)
      | (rename ∀ st, Tri _ _ _ st _ → _ => hK; apply hK; clear hK))
    exact Tri.ret ⟨_, rfl, by simp [upd, hor, orI]; exact Wk.refl _⟩
end Go.Proofs.Ytngbpmiikpjiaaa
end
section
open Go Go.Vm
namespace Go.Proofs.Ytngbpmiikpjiaaa
set_option maxRecDepth 100000
set_option linter.unusedSimpArgs false
attribute [local irreducible] Tri Does DoesB
def cmpA (a b : Att) : Int := orI [cmpI a.slot b.slot, cmpI a.cslot b.cslot, cmpI a.off b.off, cmpI a.frm b.frm, cmpI a.to b.to, cmpI a.flow b.flow]
theorem cmpA_does (a b : Att) : Does Try.prog 100 [.agg (attC a), .agg (attC b)] (.c (.int .i64 (cmpA a b))) := by
  refine Does.of_body Try.func100 rfl (by kernel_rfl) rfl rfl (by simp) ?_
  intro E
  have hor := or_does [cmpI a.slot b.slot, cmpI a.cslot b.cslot, cmpI a.off b.off, cmpI a.frm b.frm, cmpI a.to b.to, cmpI a.flow b.flow] false (by simp)
  simp only [List.map] at hor
  repeat (first
    | (refine Tri.seq fun K hK => ?_)
    | (refine Tri.region ?_; simp [upd])
    | (refine Tri.draw (by kernel_rfl) (by decide +kernel) ?_; simp [upd])
    | (refine Tri.draw2 [5, 6] [0, 1, 2, 3] [4, 5, 6, 7] [] (by kernel_rfl) (by kernel_rfl) (by decide) (by rfl) (by decide +kernel) ?_; simp [upd])
    | (refine Tri.cond_true ?_ ?_; (focus simp [upd]; done))
    | (refine Tri.cond_false ?_ ?_; (focus simp [upd]; done))
    | (refine Tri.skip ?_; simp only [thenS, blockS])
    | (refine Tri.block_seq ?_)
    | (refine Tri.block_region ?_)
    | (refine Tri.block_cond ?_)
    | ((with_reducible refine CallK.pure (compare_does _ _) (Wks.refl _) ?_); simp [upd])
    | ((with_reducible refine CallK.pure (hor) (Wks.refl _) ?_); simp [upd])
    | (refine Tri.exit ?_; simp [upd]; first | (rename ∀ st, Tri _ _ _ st _ → _ => hK; first | (apply hK; clear hK) | (clear hK; rename ∀ st, Tri _ _ _ st _ → _ => hK; first | (apply hK; clear hK) | (clear hK; rename ∀ st, Tri _ _ _ st _ → _ => hK; first | (apply hK; clear hK) | (clear hK; rename ∀ st, Tri _ _ _ st _ → _ => hK; first | (apply hK; clear hK) | (clear hK; rename ∀ st, Tri _ _ _ st _ → _ => hK; first | (apply hK; clear hK) | (clear hK; rename ∀ st, Tri _ _ _ st _ → _ => hK; apply hK; clear hK)))))) | skip)
    | (intro β)
    | (rename ∀ st, Tri _ _ _ st _ → _ => hK; apply hK; clear hK))
  refine Tri.ret ⟨_, rfl, ?_⟩
  simp [upd]
  exact Wk.refl _
def attOk (a : Att) (slots : Int) : Bool := belowB a.slot slots && (belowB a.frame 1048576 && (belowB a.cslot 512 && (belowB a.off 16 && (belowB a.frm 32 && (belowB a.to 32 && (!(a.frm == a.to) && (belowB a.flow 256 && (decide (1 ≤ a.out) && decide (a.out ≤ 4)))))))))
theorem attOk_does (a : Att) (s : Int) : Does Try.prog 99 [.agg (attC a), .c (.int .i64 s)] (.c (.bool (attOk a s))) := by
  refine Does.of_body Try.func99 rfl (by kernel_rfl) rfl rfl (by simp) ?_
  intro E
  unfold attOk
  cases h1 : belowB a.slot s
  case false =>
    repeat (first
      | (refine Tri.seq fun K hK => ?_)
      | (refine Tri.region ?_; simp [upd, h1])
      | (refine Tri.draw (by kernel_rfl) (by decide +kernel) ?_; simp [upd, h1])
      | (refine Tri.cond_true ?_ ?_; (focus simp [upd, h1]; done))
      | (refine Tri.cond_false ?_ ?_; (focus simp [upd, h1]; done))
      | (refine Tri.skip ?_; simp only [thenS, blockS])
      | (refine Tri.block_seq ?_)
      | (refine Tri.block_region ?_)
      | (refine Tri.block_cond ?_)
      | ((with_reducible refine CallK.pure (below_does _ _) (Wks.refl _) ?_); simp [upd, h1])
      | (refine Tri.exit ?_; simp [upd, h1]; first | (rename ∀ st, Tri _ _ _ st _ → _ => hK; first | (apply hK; clear hK) | (clear hK; rename ∀ st, Tri _ _ _ st _ → _ => hK; first | (apply hK; clear hK) | (clear hK; rename ∀ st, Tri _ _ _ st _ → _ => hK; first | (apply hK; clear hK) | (clear hK; rename ∀ st, Tri _ _ _ st _ → _ => hK; first | (apply hK; clear hK) | (clear hK; rename ∀ st, Tri _ _ _ st _ → _ => hK; first | (apply hK; clear hK) | (clear hK; rename ∀ st, Tri _ _ _ st _ → _ => hK; apply hK; clear hK)))))) | skip)
      | (intro β)
      | (rename ∀ st, Tri _ _ _ st _ → _ => hK; apply hK; clear hK))
    refine Tri.ret ⟨_, rfl, ?_⟩
    simp [upd]
    exact Wk.refl _
  cases h2 : belowB a.frame 1048576
  case false =>
    repeat (first
      | (refine Tri.seq fun K hK => ?_)
      | (refine Tri.region ?_; simp [upd, h1, h2])
      | (refine Tri.draw (by kernel_rfl) (by decide +kernel) ?_; simp [upd, h1, h2])
      | (refine Tri.cond_true ?_ ?_; (focus simp [upd, h1, h2]; done))
      | (refine Tri.cond_false ?_ ?_; (focus simp [upd, h1, h2]; done))
      | (refine Tri.skip ?_; simp only [thenS, blockS])
      | (refine Tri.block_seq ?_)
      | (refine Tri.block_region ?_)
      | (refine Tri.block_cond ?_)
      | ((with_reducible refine CallK.pure (below_does _ _) (Wks.refl _) ?_); simp [upd, h1, h2])
      | (refine Tri.exit ?_; simp [upd, h1, h2]; first | (rename ∀ st, Tri _ _ _ st _ → _ => hK; first | (apply hK; clear hK) | (clear hK; rename ∀ st, Tri _ _ _ st _ → _ => hK; first | (apply hK; clear hK) | (clear hK; rename ∀ st, Tri _ _ _ st _ → _ => hK; first | (apply hK; clear hK) | (clear hK; rename ∀ st, Tri _ _ _ st _ → _ => hK; first | (apply hK; clear hK) | (clear hK; rename ∀ st, Tri _ _ _ st _ → _ => hK; first | (apply hK; clear hK) | (clear hK; rename ∀ st, Tri _ _ _ st _ → _ => hK; apply hK; clear hK)))))) | skip)
      | (intro β)
      | (rename ∀ st, Tri _ _ _ st _ → _ => hK; apply hK; clear hK))
    refine Tri.ret ⟨_, rfl, ?_⟩
    simp [upd]
    exact Wk.refl _
  cases h3 : belowB a.cslot 512
  case false =>
    repeat (first
      | (refine Tri.seq fun K hK => ?_)
      | (refine Tri.region ?_; simp [upd, h1, h2, h3])
      | (refine Tri.draw (by kernel_rfl) (by decide +kernel) ?_; simp [upd, h1, h2, h3])
      | (refine Tri.cond_true ?_ ?_; (focus simp [upd, h1, h2, h3]; done))
      | (refine Tri.cond_false ?_ ?_; (focus simp [upd, h1, h2, h3]; done))
      | (refine Tri.skip ?_; simp only [thenS, blockS])
      | (refine Tri.block_seq ?_)
      | (refine Tri.block_region ?_)
      | (refine Tri.block_cond ?_)
      | ((with_reducible refine CallK.pure (below_does _ _) (Wks.refl _) ?_); simp [upd, h1, h2, h3])
      | (refine Tri.exit ?_; simp [upd, h1, h2, h3]; first | (rename ∀ st, Tri _ _ _ st _ → _ => hK; first | (apply hK; clear hK) | (clear hK; rename ∀ st, Tri _ _ _ st _ → _ => hK; first | (apply hK; clear hK) | (clear hK; rename ∀ st, Tri _ _ _ st _ → _ => hK; first | (apply hK; clear hK) | (clear hK; rename ∀ st, Tri _ _ _ st _ → _ => hK; first | (apply hK; clear hK) | (clear hK; rename ∀ st, Tri _ _ _ st _ → _ => hK; first | (apply hK; clear hK) | (clear hK; rename ∀ st, Tri _ _ _ st _ → _ => hK; apply hK; clear hK)))))) | skip)
      | (intro β)
      | (rename ∀ st, Tri _ _ _ st _ → _ => hK; apply hK; clear hK))
    refine Tri.ret ⟨_, rfl, ?_⟩
    simp [upd]
    exact Wk.refl _
  cases h4 : belowB a.off 16
  case false =>
    repeat (first
      | (refine Tri.seq fun K hK => ?_)
      | (refine Tri.region ?_; simp [upd, h1, h2, h3, h4])
      | (refine Tri.draw (by kernel_rfl) (by decide +kernel) ?_; simp [upd, h1, h2, h3, h4])
      | (refine Tri.cond_true ?_ ?_; (focus simp [upd, h1, h2, h3, h4]; done))
      | (refine Tri.cond_false ?_ ?_; (focus simp [upd, h1, h2, h3, h4]; done))
      | (refine Tri.skip ?_; simp only [thenS, blockS])
      | (refine Tri.block_seq ?_)
      | (refine Tri.block_region ?_)
      | (refine Tri.block_cond ?_)
      | ((with_reducible refine CallK.pure (below_does _ _) (Wks.refl _) ?_); simp [upd, h1, h2, h3, h4])
      | (refine Tri.exit ?_; simp [upd, h1, h2, h3, h4]; first | (rename ∀ st, Tri _ _ _ st _ → _ => hK; first | (apply hK; clear hK) | (clear hK; rename ∀ st, Tri _ _ _ st _ → _ => hK; first | (apply hK; clear hK) | (clear hK; rename ∀ st, Tri _ _ _ st _ → _ => hK; first | (apply hK; clear hK) | (clear hK; rename ∀ st, Tri _ _ _ st _ → _ => hK; first | (apply hK; clear hK) | (clear hK; rename ∀ st, Tri _ _ _ st _ → _ => hK; first | (apply hK; clear hK) | (clear hK; rename ∀ st, Tri _ _ _ st _ → _ => hK; apply hK; clear hK)))))) | skip)
      | (intro β)
      | (rename ∀ st, Tri _ _ _ st _ → _ => hK; apply hK; clear hK))
    refine Tri.ret ⟨_, rfl, ?_⟩
    simp [upd]
    exact Wk.refl _
  cases h5 : belowB a.frm 32
  case false =>
    repeat (first
      | (refine Tri.seq fun K hK => ?_)
      | (refine Tri.region ?_; simp [upd, h1, h2, h3, h4, h5])
      | (refine Tri.draw (by kernel_rfl) (by decide +kernel) ?_; simp [upd, h1, h2, h3, h4, h5])
      | (refine Tri.cond_true ?_ ?_; (focus simp [upd, h1, h2, h3, h4, h5]; done))
      | (refine Tri.cond_false ?_ ?_; (focus simp [upd, h1, h2, h3, h4, h5]; done))
      | (refine Tri.skip ?_; simp only [thenS, blockS])
      | (refine Tri.block_seq ?_)
      | (refine Tri.block_region ?_)
      | (refine Tri.block_cond ?_)
      | ((with_reducible refine CallK.pure (below_does _ _) (Wks.refl _) ?_); simp [upd, h1, h2, h3, h4, h5])
      | (refine Tri.exit ?_; simp [upd, h1, h2, h3, h4, h5]; first | (rename ∀ st, Tri _ _ _ st _ → _ => hK; first | (apply hK; clear hK) | (clear hK; rename ∀ st, Tri _ _ _ st _ → _ => hK; first | (apply hK; clear hK) | (clear hK; rename ∀ st, Tri _ _ _ st _ → _ => hK; first | (apply hK; clear hK) | (clear hK; rename ∀ st, Tri _ _ _ st _ → _ => hK; first | (apply hK; clear hK) | (clear hK; rename ∀ st, Tri _ _ _ st _ → _ => hK; first | (apply hK; clear hK) | (clear hK; rename ∀ st, Tri _ _ _ st _ → _ => hK; apply hK; clear hK)))))) | skip)
      | (intro β)
      | (rename ∀ st, Tri _ _ _ st _ → _ => hK; apply hK; clear hK))
    refine Tri.ret ⟨_, rfl, ?_⟩
    simp [upd]
    exact Wk.refl _
  cases h6 : belowB a.to 32
  case false =>
    repeat (first
      | (refine Tri.seq fun K hK => ?_)
      | (refine Tri.region ?_; simp [upd, h1, h2, h3, h4, h5, h6])
      | (refine Tri.draw (by kernel_rfl) (by decide +kernel) ?_; simp [upd, h1, h2, h3, h4, h5, h6])
      | (refine Tri.cond_true ?_ ?_; (focus simp [upd, h1, h2, h3, h4, h5, h6]; done))
      | (refine Tri.cond_false ?_ ?_; (focus simp [upd, h1, h2, h3, h4, h5, h6]; done))
      | (refine Tri.skip ?_; simp only [thenS, blockS])
      | (refine Tri.block_seq ?_)
      | (refine Tri.block_region ?_)
      | (refine Tri.block_cond ?_)
      | ((with_reducible refine CallK.pure (below_does _ _) (Wks.refl _) ?_); simp [upd, h1, h2, h3, h4, h5, h6])
      | (refine Tri.exit ?_; simp [upd, h1, h2, h3, h4, h5, h6]; first | (rename ∀ st, Tri _ _ _ st _ → _ => hK; first | (apply hK; clear hK) | (clear hK; rename ∀ st, Tri _ _ _ st _ → _ => hK; first | (apply hK; clear hK) | (clear hK; rename ∀ st, Tri _ _ _ st _ → _ => hK; first | (apply hK; clear hK) | (clear hK; rename ∀ st, Tri _ _ _ st _ → _ => hK; first | (apply hK; clear hK) | (clear hK; rename ∀ st, Tri _ _ _ st _ → _ => hK; first | (apply hK; clear hK) | (clear hK; rename ∀ st, Tri _ _ _ st _ → _ => hK; apply hK; clear hK)))))) | skip)
      | (intro β)
      | (rename ∀ st, Tri _ _ _ st _ → _ => hK; apply hK; clear hK))
    refine Tri.ret ⟨_, rfl, ?_⟩
    simp [upd]
    exact Wk.refl _
  cases h7 : (a.frm == a.to)
  case true =>
    repeat (first
      | (refine Tri.seq fun K hK => ?_)
      | (refine Tri.region ?_; simp [upd, h1, h2, h3, h4, h5, h6, h7, bne])
      | (refine Tri.draw (by kernel_rfl) (by decide +kernel) ?_; simp [upd, h1, h2, h3, h4, h5, h6, h7, bne])
      | (refine Tri.cond_true ?_ ?_; (focus simp [upd, h1, h2, h3, h4, h5, h6, h7, bne]; done))
      | (refine Tri.cond_false ?_ ?_; (focus simp [upd, h1, h2, h3, h4, h5, h6, h7, bne]; done))
      | (refine Tri.skip ?_; simp only [thenS, blockS])
      | (refine Tri.block_seq ?_)
      | (refine Tri.block_region ?_)
      | (refine Tri.block_cond ?_)
      | ((with_reducible refine CallK.pure (below_does _ _) (Wks.refl _) ?_); simp [upd, h1, h2, h3, h4, h5, h6, h7, bne])
      | (refine Tri.exit ?_; simp [upd, h1, h2, h3, h4, h5, h6, h7, bne]; first | (rename ∀ st, Tri _ _ _ st _ → _ => hK; first | (apply hK; clear hK) | (clear hK; rename ∀ st, Tri _ _ _ st _ → _ => hK; first | (apply hK; clear hK) | (clear hK; rename ∀ st, Tri _ _ _ st _ → _ => hK; first | (apply hK; clear hK) | (clear hK; rename ∀ st, Tri _ _ _ st _ → _ => hK; first | (apply hK; clear hK) | (clear hK; rename ∀ st, Tri _ _ _ st _ → _ => hK; first | (apply hK; clear hK) | (clear hK; rename ∀ st, Tri _ _ _ st _ → _ => hK; apply hK; clear hK)))))) | skip)
      | (intro β)
      | (rename ∀ st, Tri _ _ _ st _ → _ => hK; apply hK; clear hK))
    refine Tri.ret ⟨_, rfl, ?_⟩
    simp [upd]
    exact Wk.refl _
  cases h8 : belowB a.flow 256
  case false =>
    repeat (first
      | (refine Tri.seq fun K hK => ?_)
      | (refine Tri.region ?_; simp [upd, h1, h2, h3, h4, h5, h6, h7, h8, bne])
      | (refine Tri.draw (by kernel_rfl) (by decide +kernel) ?_; simp [upd, h1, h2, h3, h4, h5, h6, h7, h8, bne])
      | (refine Tri.cond_true ?_ ?_; (focus simp [upd, h1, h2, h3, h4, h5, h6, h7, h8, bne]; done))
      | (refine Tri.cond_false ?_ ?_; (focus simp [upd, h1, h2, h3, h4, h5, h6, h7, h8, bne]; done))
      | (refine Tri.skip ?_; simp only [thenS, blockS])
      | (refine Tri.block_seq ?_)
      | (refine Tri.block_region ?_)
      | (refine Tri.block_cond ?_)
      | ((with_reducible refine CallK.pure (below_does _ _) (Wks.refl _) ?_); simp [upd, h1, h2, h3, h4, h5, h6, h7, h8, bne])
      | (refine Tri.exit ?_; simp [upd, h1, h2, h3, h4, h5, h6, h7, h8, bne]; first | (rename ∀ st, Tri _ _ _ st _ → _ => hK; first | (apply hK; clear hK) | (clear hK; rename ∀ st, Tri _ _ _ st _ → _ => hK; first | (apply hK; clear hK) | (clear hK; rename ∀ st, Tri _ _ _ st _ → _ => hK; first | (apply hK; clear hK) | (clear hK; rename ∀ st, Tri _ _ _ st _ → _ => hK; first | (apply hK; clear hK) | (clear hK; rename ∀ st, Tri _ _ _ st _ → _ => hK; first | (apply hK; clear hK) | (clear hK; rename ∀ st, Tri _ _ _ st _ → _ => hK; apply hK; clear hK)))))) | skip)
      | (intro β)
      | (rename ∀ st, Tri _ _ _ st _ → _ => hK; apply hK; clear hK))
    refine Tri.ret ⟨_, rfl, ?_⟩
    simp [upd]
    exact Wk.refl _
  cases h9 : decide (1 ≤ a.out) <;> simp only [decide_eq_true_eq, decide_eq_false_iff_not] at h9
  case false =>
    repeat (first
      | (refine Tri.seq fun K hK => ?_)
      | (refine Tri.region ?_; simp [upd, h1, h2, h3, h4, h5, h6, h7, h8, h9, bne])
      | (refine Tri.draw (by kernel_rfl) (by decide +kernel) ?_; simp [upd, h1, h2, h3, h4, h5, h6, h7, h8, h9, bne])
      | (refine Tri.cond_true ?_ ?_; (focus simp [upd, h1, h2, h3, h4, h5, h6, h7, h8, h9, bne]; done))
      | (refine Tri.cond_false ?_ ?_; (focus simp [upd, h1, h2, h3, h4, h5, h6, h7, h8, h9, bne]; done))
      | (refine Tri.skip ?_; simp only [thenS, blockS])
      | (refine Tri.block_seq ?_)
      | (refine Tri.block_region ?_)
      | (refine Tri.block_cond ?_)
      | ((with_reducible refine CallK.pure (below_does _ _) (Wks.refl _) ?_); simp [upd, h1, h2, h3, h4, h5, h6, h7, h8, h9, bne])
      | (refine Tri.exit ?_; simp [upd, h1, h2, h3, h4, h5, h6, h7, h8, h9, bne]; first | (rename ∀ st, Tri _ _ _ st _ → _ => hK; first | (apply hK; clear hK) | (clear hK; rename ∀ st, Tri _ _ _ st _ → _ => hK; first | (apply hK; clear hK) | (clear hK; rename ∀ st, Tri _ _ _ st _ → _ => hK; first | (apply hK; clear hK) | (clear hK; rename ∀ st, Tri _ _ _ st _ → _ => hK; first | (apply hK; clear hK) | (clear hK; rename ∀ st, Tri _ _ _ st _ → _ => hK; first | (apply hK; clear hK) | (clear hK; rename ∀ st, Tri _ _ _ st _ → _ => hK; apply hK; clear hK)))))) | skip)
      | (intro β)
      | (rename ∀ st, Tri _ _ _ st _ → _ => hK; apply hK; clear hK))
    refine Tri.ret ⟨_, rfl, ?_⟩
    simp [upd]
    exact Wk.refl _
  repeat (first
    | (refine Tri.seq fun K hK => ?_)
    | (refine Tri.region ?_; simp [upd, h1, h2, h3, h4, h5, h6, h7, h8, h9, bne])
    | (refine Tri.draw (by kernel_rfl) (by decide +kernel) ?_; simp [upd, h1, h2, h3, h4, h5, h6, h7, h8, h9, bne])
    | (refine Tri.cond_true ?_ ?_; (focus simp [upd, h1, h2, h3, h4, h5, h6, h7, h8, h9, bne]; done))
    | (refine Tri.cond_false ?_ ?_; (focus simp [upd, h1, h2, h3, h4, h5, h6, h7, h8, h9, bne]; done))
    | (refine Tri.skip ?_; simp only [thenS, blockS])
    | (refine Tri.block_seq ?_)
    | (refine Tri.block_region ?_)
    | (refine Tri.block_cond ?_)
    | ((with_reducible refine CallK.pure (below_does _ _) (Wks.refl _) ?_); simp [upd, h1, h2, h3, h4, h5, h6, h7, h8, h9, bne])
    | (refine Tri.exit ?_; simp [upd, h1, h2, h3, h4, h5, h6, h7, h8, h9, bne]; first | (rename ∀ st, Tri _ _ _ st _ → _ => hK; first | (apply hK; clear hK) | (clear hK; rename ∀ st, Tri _ _ _ st _ → _ => hK; first | (apply hK; clear hK) | (clear hK; rename ∀ st, Tri _ _ _ st _ → _ => hK; first | (apply hK; clear hK) | (clear hK; rename ∀ st, Tri _ _ _ st _ → _ => hK; first | (apply hK; clear hK) | (clear hK; rename ∀ st, Tri _ _ _ st _ → _ => hK; first | (apply hK; clear hK) | (clear hK; rename ∀ st, Tri _ _ _ st _ → _ => hK; apply hK; clear hK)))))) | skip)
    | (intro β)
    | (rename ∀ st, Tri _ _ _ st _ → _ => hK; apply hK; clear hK))
  refine Tri.ret ⟨_, rfl, ?_⟩
  simp [upd]
  exact Wk.refl _
end Go.Proofs.Ytngbpmiikpjiaaa
end
section
open Go Go.Vm
namespace Go.Proofs.Ytngbpmiikpjiaaa
set_option maxRecDepth 100000
set_option linter.unusedSimpArgs false
attribute [local irreducible] Tri Does DoesB
def seen (s f : Int) : Bool := bitsV .and .u32 (s.fdiv (2 ^ (min f.toNat IntKind.u32.bits))) 1 == 1
def mark (s f : Int) : Int := bitsV .or .u32 s (IntKind.u32.wrap (2 ^ (min f.toNat IntKind.u32.bits)))
def befores (p : Option Att) (a : Att) : Bool := match p with
  | none => true
  | some q => decide (cmpA q a < 0)
def attsGo (slots : Int) : Option Att → Int → Int → List Att → Bool
  | _, _, _, [] => true
  | p, s, t, a :: r => attOk a slots && (befores p a && (!(seen (if a.slot = t then s else 0) a.frm) && attsGo slots (some a) (mark (if a.slot = t then s else 0) a.frm) a.slot r))
theorem attOk_frm {a : Att} {s : Int} (h : attOk a s = true) : 0 ≤ a.frm ∧ a.frm < 32 := by
  unfold attOk at h
  simp only [Bool.and_eq_true] at h
  have := h.2.2.2.2.1
  simpa [belowB] using this
theorem attempts2_does (l : List Att) (slots : Int) (nl : Bool) (hl : l.length ≤ 1099511627776) : Does Try.prog 74 [.c (.sl nl 8 none (l.map attC)), .c (.int .i64 slots)] (.c (.bool (attsGo slots none 0 (-1) l))) := by
  refine Does.of_body Try.func74 rfl (by kernel_rfl) rfl rfl (by simp) ?_
  intro E
  refine Tri.seq fun K hK => Tri.region ?_
  simp
  apply hK; clear hK K
  refine Tri.seq fun K hK => Tri.region ?_
  simp [upd]
  apply hK; clear hK K
  refine Tri.seq fun K hK => ?_
  refine Tri.seq fun K1 hK1 => Tri.region ?_
  simp [upd]
  apply hK1; clear hK1 K1
  refine Tri.range 11 10 12 53 54 rfl rfl l.length (fun k st => st.sl 9 = .c (.sl nl 8 none (l.map attC)) ∧ st.sl 0 = .c (.sl nl 8 none (l.map attC)) ∧ st.sl 1 = .c (.int .i64 slots) ∧ ∃ s t, st.sl 5 = .c (.int .u32 s) ∧ st.sl 6 = .c (.int .i64 t) ∧ attsGo slots none 0 (-1) l = attsGo slots (if k = 0 then none else l[k-1]?) s t (l.drop k)) (by simp) (by omega) ?_ rfl (by simp [upd]) (by simp [upd]) ?_ ?_ ?_
  · rintro k st t v ht ⟨a1, a2, a3, s, u, a4, a5, a6⟩
    rcases ht with rfl | rfl | rfl <;> (simp [upd, a1, a2, a3]; exact ⟨s, a4, u, a5, a6⟩)
  · simp [upd]
  · rintro k st hk ⟨h9, h0, h1, s, t, h5, h6, hgo⟩ hn h11 h10
    have hd : l.drop k = l[k] :: l.drop (k + 1) := List.drop_eq_getElem_cons hk
    rw [hd, attsGo] at hgo
    cases ha : attOk l[k] slots
    case false =>
      rw [ha, Bool.false_and] at hgo
      rw [hgo]
      repeat (first
        | (refine Tri.seq fun K hK => ?_)
        | (refine Tri.region ?_; simp [upd, hn, h9, h0, h1, h5, h6, h11, h10, hk, ha])
        | (refine Tri.draw (by kernel_rfl) (by decide +kernel) ?_; simp [upd, hn, h9, h0, h1, h5, h6, h11, h10, hk, ha])
        | (refine Tri.cond_true ?_ ?_; (focus simp [upd, hn, h9, h0, h1, h5, h6, h11, h10, hk, ha]; done))
        | (refine Tri.cond_false ?_ ?_; (focus simp [upd, hn, h9, h0, h1, h5, h6, h11, h10, hk, ha]; done))
        | (refine Tri.skip ?_; simp only [thenS, blockS])
        | (refine Tri.block_seq ?_)
        | (refine Tri.block_region ?_)
        | (refine Tri.block_cond ?_)
        | ((with_reducible refine CallK.pure (attOk_does _ _) (Wks.refl _) ?_); simp [upd, hn, h9, h0, h1, h5, h6, h11, h10, hk, ha])
        | (refine Tri.exit ?_; simp [upd, hn, h9, h0, h1, h5, h6, h11, h10, hk, ha]; first | (rename ∀ st, Tri _ _ _ st _ → _ => hK; first | (apply hK; clear hK) | (clear hK; rename ∀ st, Tri _ _ _ st _ → _ => hK; first | (apply hK; clear hK) | (clear hK; rename ∀ st, Tri _ _ _ st _ → _ => hK; first | (apply hK; clear hK) | (clear hK; rename ∀ st, Tri _ _ _ st _ → _ => hK; first | (apply hK; clear hK) | (clear hK; rename ∀ st, Tri _ _ _ st _ → _ => hK; first | (apply hK; clear hK) | (clear hK; rename ∀ st, Tri _ _ _ st _ → _ => hK; apply hK; clear hK)))))) | skip)
        | (intro β)
        | (rename ∀ st, Tri _ _ _ st _ → _ => hK; apply hK; clear hK))
      refine Tri.ret ⟨_, rfl, ?_⟩
      simp [upd]
      exact Wk.refl _
    obtain ⟨hf0, hf1⟩ := attOk_frm ha
    have hf2 : ¬ l[k].frm < 0 := by omega
    rw [ha, Bool.true_and] at hgo
    cases k with
    | zero =>
      simp only [if_true, befores, Bool.true_and] at hgo
      by_cases hs : l[0].slot = t
      · rw [if_pos hs] at hgo
        have hs' : (l[0].slot == t) = true := by simpa using hs
        cases hq : seen (s) l[0].frm
        case true =>
          rw [hq, Bool.not_true, Bool.false_and] at hgo
          have hq' := hq
          unfold seen at hq'
          rw [hgo]
          repeat (first
            | (refine Tri.seq fun K hK => ?_)
            | (refine Tri.region ?_; simp [upd, hn, h9, h0, h1, h5, h6, h11, h10, hk, ha, hs', hf2, hq', bne, hn])
            | (refine Tri.draw (by kernel_rfl) (by decide +kernel) ?_; simp [upd, hn, h9, h0, h1, h5, h6, h11, h10, hk, ha, hs', hf2, hq', bne, hn])
            | (refine Tri.cond_true ?_ ?_; (focus simp [upd, hn, h9, h0, h1, h5, h6, h11, h10, hk, ha, hs', hf2, hq', bne, hn]; done))
            | (refine Tri.cond_false ?_ ?_; (focus simp [upd, hn, h9, h0, h1, h5, h6, h11, h10, hk, ha, hs', hf2, hq', bne, hn]; done))
            | (refine Tri.skip ?_; simp only [thenS, blockS])
            | (refine Tri.block_seq ?_)
            | (refine Tri.block_region ?_)
            | (refine Tri.block_cond ?_)
            | ((with_reducible refine CallK.pure (attOk_does _ _) (Wks.refl _) ?_); simp [upd, hn, h9, h0, h1, h5, h6, h11, h10, hk, ha, hs', hf2, hq', bne, hn])
            | ((with_reducible refine CallK.pure (cmpA_does _ _) (Wks.refl _) ?_); simp [upd, hn, h9, h0, h1, h5, h6, h11, h10, hk, ha, hs', hf2, hq', bne, hn])
            | (refine Tri.exit ?_; simp [upd, hn, h9, h0, h1, h5, h6, h11, h10, hk, ha, hs', hf2, hq', bne, hn]; first | (rename ∀ st, Tri _ _ _ st _ → _ => hK; first | (apply hK; clear hK) | (clear hK; rename ∀ st, Tri _ _ _ st _ → _ => hK; first | (apply hK; clear hK) | (clear hK; rename ∀ st, Tri _ _ _ st _ → _ => hK; first | (apply hK; clear hK) | (clear hK; rename ∀ st, Tri _ _ _ st _ → _ => hK; first | (apply hK; clear hK) | (clear hK; rename ∀ st, Tri _ _ _ st _ → _ => hK; first | (apply hK; clear hK) | (clear hK; rename ∀ st, Tri _ _ _ st _ → _ => hK; apply hK; clear hK)))))) | skip)
            | (intro β)
            | (rename ∀ st, Tri _ _ _ st _ → _ => hK; apply hK; clear hK))
          refine Tri.ret ⟨_, rfl, ?_⟩
          simp [upd]
          exact Wk.refl _
        rw [hq, Bool.not_false, Bool.true_and] at hgo
        have hq' := hq
        unfold seen at hq'
        repeat (first
          | (refine Tri.seq fun K hK => ?_)
          | (refine Tri.region ?_; simp [upd, hn, h9, h0, h1, h5, h6, h11, h10, hk, ha, hs', hf2, hq', bne, hn])
          | (refine Tri.draw (by kernel_rfl) (by decide +kernel) ?_; simp [upd, hn, h9, h0, h1, h5, h6, h11, h10, hk, ha, hs', hf2, hq', bne, hn])
          | (refine Tri.cond_true ?_ ?_; (focus simp [upd, hn, h9, h0, h1, h5, h6, h11, h10, hk, ha, hs', hf2, hq', bne, hn]; done))
          | (refine Tri.cond_false ?_ ?_; (focus simp [upd, hn, h9, h0, h1, h5, h6, h11, h10, hk, ha, hs', hf2, hq', bne, hn]; done))
          | (refine Tri.skip ?_; simp only [thenS, blockS])
          | (refine Tri.block_seq ?_)
          | (refine Tri.block_region ?_)
          | (refine Tri.block_cond ?_)
          | ((with_reducible refine CallK.pure (attOk_does _ _) (Wks.refl _) ?_); simp [upd, hn, h9, h0, h1, h5, h6, h11, h10, hk, ha, hs', hf2, hq', bne, hn])
          | ((with_reducible refine CallK.pure (cmpA_does _ _) (Wks.refl _) ?_); simp [upd, hn, h9, h0, h1, h5, h6, h11, h10, hk, ha, hs', hf2, hq', bne, hn])
          | (refine Tri.exit ?_; simp [upd, hn, h9, h0, h1, h5, h6, h11, h10, hk, ha, hs', hf2, hq', bne, hn]; first | (rename ∀ st, Tri _ _ _ st _ → _ => hK; first | (apply hK; clear hK) | (clear hK; rename ∀ st, Tri _ _ _ st _ → _ => hK; first | (apply hK; clear hK) | (clear hK; rename ∀ st, Tri _ _ _ st _ → _ => hK; first | (apply hK; clear hK) | (clear hK; rename ∀ st, Tri _ _ _ st _ → _ => hK; first | (apply hK; clear hK) | (clear hK; rename ∀ st, Tri _ _ _ st _ → _ => hK; first | (apply hK; clear hK) | (clear hK; rename ∀ st, Tri _ _ _ st _ → _ => hK; apply hK; clear hK)))))) | skip)
          | (intro β)
          | (rename ∀ st, Tri _ _ _ st _ → _ => hK; apply hK; clear hK))
        rw [hgo]
        simp [mark, hs]
      · rw [if_neg hs] at hgo
        have hs' : (l[0].slot == t) = false := by simpa using hs
        have hz : seen 0 l[0].frm = false := by
          simp only [seen, Int.zero_fdiv]
          rfl
        have hq' : (bitsV BinOp.and IntKind.u32 0 1 == 1) = false := rfl
        rw [hz, Bool.not_false, Bool.true_and] at hgo
        repeat (first
          | (refine Tri.seq fun K hK => ?_)
          | (refine Tri.region ?_; simp [upd, hn, h9, h0, h1, h5, h6, h11, h10, hk, ha, hs', hf2, hq', bne, hn])
          | (refine Tri.draw (by kernel_rfl) (by decide +kernel) ?_; simp [upd, hn, h9, h0, h1, h5, h6, h11, h10, hk, ha, hs', hf2, hq', bne, hn])
          | (refine Tri.draw2 [] [0, 1, 2, 3] [] [] (by kernel_rfl) (by kernel_rfl) (by decide) (by rfl) (by decide +kernel) ?_; simp [upd, hn, h9, h0, h1, h5, h6, h11, h10, hk, ha, hs', hf2, hq', bne, hn])
          | (refine Tri.cond_true ?_ ?_; (focus simp [upd, hn, h9, h0, h1, h5, h6, h11, h10, hk, ha, hs', hf2, hq', bne, hn]; done))
          | (refine Tri.cond_false ?_ ?_; (focus simp [upd, hn, h9, h0, h1, h5, h6, h11, h10, hk, ha, hs', hf2, hq', bne, hn]; done))
          | (refine Tri.skip ?_; simp only [thenS, blockS])
          | (refine Tri.block_seq ?_)
          | (refine Tri.block_region ?_)
          | (refine Tri.block_cond ?_)
          | ((with_reducible refine CallK.pure (attOk_does _ _) (Wks.refl _) ?_); simp [upd, hn, h9, h0, h1, h5, h6, h11, h10, hk, ha, hs', hf2, hq', bne, hn])
          | ((with_reducible refine CallK.pure (cmpA_does _ _) (Wks.refl _) ?_); simp [upd, hn, h9, h0, h1, h5, h6, h11, h10, hk, ha, hs', hf2, hq', bne, hn])
          | (refine Tri.exit ?_; simp [upd, hn, h9, h0, h1, h5, h6, h11, h10, hk, ha, hs', hf2, hq', bne, hn]; first | (rename ∀ st, Tri _ _ _ st _ → _ => hK; first | (apply hK; clear hK) | (clear hK; rename ∀ st, Tri _ _ _ st _ → _ => hK; first | (apply hK; clear hK) | (clear hK; rename ∀ st, Tri _ _ _ st _ → _ => hK; first | (apply hK; clear hK) | (clear hK; rename ∀ st, Tri _ _ _ st _ → _ => hK; first | (apply hK; clear hK) | (clear hK; rename ∀ st, Tri _ _ _ st _ → _ => hK; first | (apply hK; clear hK) | (clear hK; rename ∀ st, Tri _ _ _ st _ → _ => hK; apply hK; clear hK)))))) | skip)
          | (intro β)
          | (rename ∀ st, Tri _ _ _ st _ → _ => hK; apply hK; clear hK))
        rw [hgo]
        simp [mark, hs]
    | succ m =>
      have hm : m < l.length := by omega
      have hw : IntKind.i64.wrap (m : Int) = m := wrap_i64 (by omega) (by omega)
      simp only [Nat.add_eq_zero_iff, Nat.one_ne_zero, and_false, if_false, Nat.add_sub_cancel, List.getElem?_eq_getElem hm, befores] at hgo
      cases hb : decide (cmpA l[m] l[m + 1] < 0) <;> simp only [decide_eq_true_eq, decide_eq_false_iff_not] at hb
      case false =>
        rw [decide_eq_false hb, Bool.false_and] at hgo
        rw [hgo]
        have hb' : 0 ≤ cmpA l[m] l[m + 1] := by omega
        have hp : (0 : Int) < (m : Int) + 1 := by omega
        have hp0 : (0 : Int) ≤ (m : Int) + 1 := by omega
        repeat (first
          | (refine Tri.seq fun K hK => ?_)
          | (refine Tri.region ?_; simp [upd, hn, h9, h0, h1, h5, h6, h11, h10, hk, ha, hm, hw, hb', hp, hp0])
          | (refine Tri.draw (by kernel_rfl) (by decide +kernel) ?_; simp [upd, hn, h9, h0, h1, h5, h6, h11, h10, hk, ha, hm, hw, hb', hp, hp0])
          | (refine Tri.cond_true ?_ ?_; (focus simp [upd, hn, h9, h0, h1, h5, h6, h11, h10, hk, ha, hm, hw, hb', hp, hp0]; done))
          | (refine Tri.cond_false ?_ ?_; (focus simp [upd, hn, h9, h0, h1, h5, h6, h11, h10, hk, ha, hm, hw, hb', hp, hp0]; done))
          | (refine Tri.skip ?_; simp only [thenS, blockS])
          | (refine Tri.block_seq ?_)
          | (refine Tri.block_region ?_)
          | (refine Tri.block_cond ?_)
          | ((with_reducible refine CallK.pure (attOk_does _ _) (Wks.refl _) ?_); simp [upd, hn, h9, h0, h1, h5, h6, h11, h10, hk, ha, hm, hw, hb', hp, hp0])
          | ((with_reducible refine CallK.pure (cmpA_does _ _) (Wks.refl _) ?_); simp [upd, hn, h9, h0, h1, h5, h6, h11, h10, hk, ha, hm, hw, hb', hp, hp0])
          | (refine Tri.exit ?_; simp [upd, hn, h9, h0, h1, h5, h6, h11, h10, hk, ha, hm, hw, hb', hp, hp0]; first | (rename ∀ st, Tri _ _ _ st _ → _ => hK; first | (apply hK; clear hK) | (clear hK; rename ∀ st, Tri _ _ _ st _ → _ => hK; first | (apply hK; clear hK) | (clear hK; rename ∀ st, Tri _ _ _ st _ → _ => hK; first | (apply hK; clear hK) | (clear hK; rename ∀ st, Tri _ _ _ st _ → _ => hK; first | (apply hK; clear hK) | (clear hK; rename ∀ st, Tri _ _ _ st _ → _ => hK; first | (apply hK; clear hK) | (clear hK; rename ∀ st, Tri _ _ _ st _ → _ => hK; apply hK; clear hK)))))) | skip)
          | (intro β)
          | (rename ∀ st, Tri _ _ _ st _ → _ => hK; apply hK; clear hK))
        refine Tri.ret ⟨_, rfl, ?_⟩
        simp [upd]
        exact Wk.refl _
      rw [decide_eq_true hb, Bool.true_and] at hgo
      have hb' : ¬ 0 ≤ cmpA l[m] l[m + 1] := by omega
      have hp : (0 : Int) < (m : Int) + 1 := by omega
      have hp0 : (0 : Int) ≤ (m : Int) + 1 := by omega
      by_cases hs : l[m + 1].slot = t
      · rw [if_pos hs] at hgo
        have hs' : (l[m + 1].slot == t) = true := by simpa using hs
        cases hq : seen (s) l[m + 1].frm
        case true =>
          rw [hq, Bool.not_true, Bool.false_and] at hgo
          have hq' := hq
          unfold seen at hq'
          rw [hgo]
          repeat (first
            | (refine Tri.seq fun K hK => ?_)
            | (refine Tri.region ?_; simp [upd, hn, h9, h0, h1, h5, h6, h11, h10, hk, ha, hs', hf2, hq', bne, hm, hw, hb', hp, hp0])
            | (refine Tri.draw (by kernel_rfl) (by decide +kernel) ?_; simp [upd, hn, h9, h0, h1, h5, h6, h11, h10, hk, ha, hs', hf2, hq', bne, hm, hw, hb', hp, hp0])
            | (refine Tri.cond_true ?_ ?_; (focus simp [upd, hn, h9, h0, h1, h5, h6, h11, h10, hk, ha, hs', hf2, hq', bne, hm, hw, hb', hp, hp0]; done))
            | (refine Tri.cond_false ?_ ?_; (focus simp [upd, hn, h9, h0, h1, h5, h6, h11, h10, hk, ha, hs', hf2, hq', bne, hm, hw, hb', hp, hp0]; done))
            | (refine Tri.skip ?_; simp only [thenS, blockS])
            | (refine Tri.block_seq ?_)
            | (refine Tri.block_region ?_)
            | (refine Tri.block_cond ?_)
            | ((with_reducible refine CallK.pure (attOk_does _ _) (Wks.refl _) ?_); simp [upd, hn, h9, h0, h1, h5, h6, h11, h10, hk, ha, hs', hf2, hq', bne, hm, hw, hb', hp, hp0])
            | ((with_reducible refine CallK.pure (cmpA_does _ _) (Wks.refl _) ?_); simp [upd, hn, h9, h0, h1, h5, h6, h11, h10, hk, ha, hs', hf2, hq', bne, hm, hw, hb', hp, hp0])
            | (refine Tri.exit ?_; simp [upd, hn, h9, h0, h1, h5, h6, h11, h10, hk, ha, hs', hf2, hq', bne, hm, hw, hb', hp, hp0]; first | (rename ∀ st, Tri _ _ _ st _ → _ => hK; first | (apply hK; clear hK) | (clear hK; rename ∀ st, Tri _ _ _ st _ → _ => hK; first | (apply hK; clear hK) | (clear hK; rename ∀ st, Tri _ _ _ st _ → _ => hK; first | (apply hK; clear hK) | (clear hK; rename ∀ st, Tri _ _ _ st _ → _ => hK; first | (apply hK; clear hK) | (clear hK; rename ∀ st, Tri _ _ _ st _ → _ => hK; first | (apply hK; clear hK) | (clear hK; rename ∀ st, Tri _ _ _ st _ → _ => hK; apply hK; clear hK)))))) | skip)
            | (intro β)
            | (rename ∀ st, Tri _ _ _ st _ → _ => hK; apply hK; clear hK))
          refine Tri.ret ⟨_, rfl, ?_⟩
          simp [upd]
          exact Wk.refl _
        rw [hq, Bool.not_false, Bool.true_and] at hgo
        have hq' := hq
        unfold seen at hq'
        repeat (first
          | (refine Tri.seq fun K hK => ?_)
          | (refine Tri.region ?_; simp [upd, hn, h9, h0, h1, h5, h6, h11, h10, hk, ha, hs', hf2, hq', bne, hm, hw, hb', hp, hp0])
          | (refine Tri.draw (by kernel_rfl) (by decide +kernel) ?_; simp [upd, hn, h9, h0, h1, h5, h6, h11, h10, hk, ha, hs', hf2, hq', bne, hm, hw, hb', hp, hp0])
          | (refine Tri.cond_true ?_ ?_; (focus simp [upd, hn, h9, h0, h1, h5, h6, h11, h10, hk, ha, hs', hf2, hq', bne, hm, hw, hb', hp, hp0]; done))
          | (refine Tri.cond_false ?_ ?_; (focus simp [upd, hn, h9, h0, h1, h5, h6, h11, h10, hk, ha, hs', hf2, hq', bne, hm, hw, hb', hp, hp0]; done))
          | (refine Tri.skip ?_; simp only [thenS, blockS])
          | (refine Tri.block_seq ?_)
          | (refine Tri.block_region ?_)
          | (refine Tri.block_cond ?_)
          | ((with_reducible refine CallK.pure (attOk_does _ _) (Wks.refl _) ?_); simp [upd, hn, h9, h0, h1, h5, h6, h11, h10, hk, ha, hs', hf2, hq', bne, hm, hw, hb', hp, hp0])
          | ((with_reducible refine CallK.pure (cmpA_does _ _) (Wks.refl _) ?_); simp [upd, hn, h9, h0, h1, h5, h6, h11, h10, hk, ha, hs', hf2, hq', bne, hm, hw, hb', hp, hp0])
          | (refine Tri.exit ?_; simp [upd, hn, h9, h0, h1, h5, h6, h11, h10, hk, ha, hs', hf2, hq', bne, hm, hw, hb', hp, hp0]; first | (rename ∀ st, Tri _ _ _ st _ → _ => hK; first | (apply hK; clear hK) | (clear hK; rename ∀ st, Tri _ _ _ st _ → _ => hK; first | (apply hK; clear hK) | (clear hK; rename ∀ st, Tri _ _ _ st _ → _ => hK; first | (apply hK; clear hK) | (clear hK; rename ∀ st, Tri _ _ _ st _ → _ => hK; first | (apply hK; clear hK) | (clear hK; rename ∀ st, Tri _ _ _ st _ → _ => hK; first | (apply hK; clear hK) | (clear hK; rename ∀ st, Tri _ _ _ st _ → _ => hK; apply hK; clear hK)))))) | skip)
          | (intro β)
          | (rename ∀ st, Tri _ _ _ st _ → _ => hK; apply hK; clear hK))
        rw [hgo]
        simp [mark, hs]
      · rw [if_neg hs] at hgo
        have hs' : (l[m + 1].slot == t) = false := by simpa using hs
        have hz : seen 0 l[m + 1].frm = false := by
          simp only [seen, Int.zero_fdiv]
          rfl
        have hq' : (bitsV BinOp.and IntKind.u32 0 1 == 1) = false := rfl
        rw [hz, Bool.not_false, Bool.true_and] at hgo
        repeat (first
          | (refine Tri.seq fun K hK => ?_)
          | (refine Tri.region ?_; simp [upd, hn, h9, h0, h1, h5, h6, h11, h10, hk, ha, hs', hf2, hq', bne, hm, hw, hb', hp, hp0])
          | (refine Tri.draw (by kernel_rfl) (by decide +kernel) ?_; simp [upd, hn, h9, h0, h1, h5, h6, h11, h10, hk, ha, hs', hf2, hq', bne, hm, hw, hb', hp, hp0])
          | (refine Tri.draw2 [] [0, 1, 2, 3] [] [] (by kernel_rfl) (by kernel_rfl) (by decide) (by rfl) (by decide +kernel) ?_; simp [upd, hn, h9, h0, h1, h5, h6, h11, h10, hk, ha, hs', hf2, hq', bne, hm, hw, hb', hp, hp0])
          | (refine Tri.cond_true ?_ ?_; (focus simp [upd, hn, h9, h0, h1, h5, h6, h11, h10, hk, ha, hs', hf2, hq', bne, hm, hw, hb', hp, hp0]; done))
          | (refine Tri.cond_false ?_ ?_; (focus simp [upd, hn, h9, h0, h1, h5, h6, h11, h10, hk, ha, hs', hf2, hq', bne, hm, hw, hb', hp, hp0]; done))
          | (refine Tri.skip ?_; simp only [thenS, blockS])
          | (refine Tri.block_seq ?_)
          | (refine Tri.block_region ?_)
          | (refine Tri.block_cond ?_)
          | ((with_reducible refine CallK.pure (attOk_does _ _) (Wks.refl _) ?_); simp [upd, hn, h9, h0, h1, h5, h6, h11, h10, hk, ha, hs', hf2, hq', bne, hm, hw, hb', hp, hp0])
          | ((with_reducible refine CallK.pure (cmpA_does _ _) (Wks.refl _) ?_); simp [upd, hn, h9, h0, h1, h5, h6, h11, h10, hk, ha, hs', hf2, hq', bne, hm, hw, hb', hp, hp0])
          | (refine Tri.exit ?_; simp [upd, hn, h9, h0, h1, h5, h6, h11, h10, hk, ha, hs', hf2, hq', bne, hm, hw, hb', hp, hp0]; first | (rename ∀ st, Tri _ _ _ st _ → _ => hK; first | (apply hK; clear hK) | (clear hK; rename ∀ st, Tri _ _ _ st _ → _ => hK; first | (apply hK; clear hK) | (clear hK; rename ∀ st, Tri _ _ _ st _ → _ => hK; first | (apply hK; clear hK) | (clear hK; rename ∀ st, Tri _ _ _ st _ → _ => hK; first | (apply hK; clear hK) | (clear hK; rename ∀ st, Tri _ _ _ st _ → _ => hK; first | (apply hK; clear hK) | (clear hK; rename ∀ st, Tri _ _ _ st _ → _ => hK; apply hK; clear hK)))))) | skip)
          | (intro β)
          | (rename ∀ st, Tri _ _ _ st _ → _ => hK; apply hK; clear hK))
        rw [hgo]
        simp [mark, hs]
  · rintro st ⟨h9, h0, h1, s, t, h5, h6, hgo⟩ hn
    rw [List.drop_length] at hgo
    apply hK
    repeat (first
      | (refine Tri.seq fun K hK => ?_)
      | (refine Tri.region ?_; simp [upd, hn, h5])
      | (refine Tri.draw (by kernel_rfl) (by decide +kernel) ?_; simp [upd, hn, h5])
      | (refine Tri.cond_true ?_ ?_; (focus simp [upd, hn, h5]; done))
      | (refine Tri.cond_false ?_ ?_; (focus simp [upd, hn, h5]; done))
      | (refine Tri.skip ?_; simp only [thenS, blockS])
      | (refine Tri.block_seq ?_)
      | (refine Tri.block_region ?_)
      | (refine Tri.block_cond ?_)
      | (refine Tri.exit ?_; simp [upd, hn, h5]; first | (rename ∀ st, Tri _ _ _ st _ → _ => hK; first | (apply hK; clear hK) | (clear hK; rename ∀ st, Tri _ _ _ st _ → _ => hK; first | (apply hK; clear hK) | (clear hK; rename ∀ st, Tri _ _ _ st _ → _ => hK; first | (apply hK; clear hK) | (clear hK; rename ∀ st, Tri _ _ _ st _ → _ => hK; first | (apply hK; clear hK) | (clear hK; rename ∀ st, Tri _ _ _ st _ → _ => hK; first | (apply hK; clear hK) | (clear hK; rename ∀ st, Tri _ _ _ st _ → _ => hK; apply hK; clear hK)))))) | skip)
      | (intro β)
      | (rename ∀ st, Tri _ _ _ st _ → _ => hK; apply hK; clear hK))
    rw [hgo]
    refine Tri.ret ⟨_, rfl, ?_⟩
    simp [upd]
    exact Wk.refl _
end Go.Proofs.Ytngbpmiikpjiaaa
end
section
open Go Go.Vm
namespace Go.Proofs.Ytngbpmiikpjiaaa
set_option maxRecDepth 100000
set_option linter.unusedSimpArgs false
attribute [local irreducible] Tri Does DoesB
def beforesD (p : Option Del) (d : Del) : Bool := match p with
  | none => true
  | some q => decide (orI [cmpI q.slot d.slot, cmpI q.flow d.flow] < 0)
def delsGo (slots : Int) : Option Del → List Del → Bool
  | _, [] => true
  | p, d :: r => belowB d.flow 256 && (belowB d.frame 1048576 && (belowB d.slot slots && (beforesD p d && delsGo slots (some d) r)))
def checkB (r : Rec) : Bool := decide (0 ≤ r.slots) && (decide (r.slots ≤ 4096) && (decide (r.atts.length ≤ 65536) && (decide (r.dels.length ≤ 65536) && (attsGo r.slots none 0 (-1) r.atts && delsGo r.slots none r.dels))))
def check (r : Rec) : Int := if checkB r = true then 0 else 1
theorem or2_does (a b : Int) : Does Try.prog 55 [.c (.sl false 1 none [[.int .i64 a], [.int .i64 b]])] (.c (.int .i64 (orI [a, b]))) := or_does [a, b] false (by simp)
theorem check_does (r : Rec) : Does Try.prog 50 [.agg (recC r)] (.c (.int .i64 (check r))) := by
  refine Does.of_body Try.func50 rfl (by kernel_rfl) rfl rfl (by simp) ?_
  intro E
  unfold recC
  by_cases g1 : r.slots < 0
  · have e : check r = 1 := by simp [check, checkB, show ¬ 0 ≤ r.slots by omega]
    rw [e]
    repeat (first
      | (refine Tri.seq fun K hK => ?_)
      | (refine Tri.region ?_; simp [upd, g1])
      | (refine Tri.draw (by kernel_rfl) (by decide +kernel) ?_; simp [upd, g1])
      | (refine Tri.cond_true ?_ ?_; (focus simp [upd, g1]; done))
      | (refine Tri.cond_false ?_ ?_; (focus simp [upd, g1]; done))
      | (refine Tri.skip ?_; simp only [thenS, blockS])
      | (refine Tri.block_seq ?_)
      | (refine Tri.block_region ?_)
      | (refine Tri.block_cond ?_)
      | (refine Tri.exit ?_; simp [upd, g1]; first | (rename ∀ st, Tri _ _ _ st _ → _ => hK; first | (apply hK; clear hK) | (clear hK; rename ∀ st, Tri _ _ _ st _ → _ => hK; first | (apply hK; clear hK) | (clear hK; rename ∀ st, Tri _ _ _ st _ → _ => hK; first | (apply hK; clear hK) | (clear hK; rename ∀ st, Tri _ _ _ st _ → _ => hK; first | (apply hK; clear hK) | (clear hK; rename ∀ st, Tri _ _ _ st _ → _ => hK; first | (apply hK; clear hK) | (clear hK; rename ∀ st, Tri _ _ _ st _ → _ => hK; apply hK; clear hK)))))) | skip)
      | (intro β)
      | (rename ∀ st, Tri _ _ _ st _ → _ => hK; apply hK; clear hK))
    refine Tri.ret ⟨_, rfl, ?_⟩
    simp [upd]
    exact Wk.refl _
  by_cases g2 : 4096 < r.slots
  · have e : check r = 1 := by simp [check, checkB, show ¬ r.slots ≤ 4096 by omega]
    rw [e]
    repeat (first
      | (refine Tri.seq fun K hK => ?_)
      | (refine Tri.region ?_; simp [upd, g1, g2])
      | (refine Tri.draw (by kernel_rfl) (by decide +kernel) ?_; simp [upd, g1, g2])
      | (refine Tri.cond_true ?_ ?_; (focus simp [upd, g1, g2]; done))
      | (refine Tri.cond_false ?_ ?_; (focus simp [upd, g1, g2]; done))
      | (refine Tri.skip ?_; simp only [thenS, blockS])
      | (refine Tri.block_seq ?_)
      | (refine Tri.block_region ?_)
      | (refine Tri.block_cond ?_)
      | (refine Tri.exit ?_; simp [upd, g1, g2]; first | (rename ∀ st, Tri _ _ _ st _ → _ => hK; first | (apply hK; clear hK) | (clear hK; rename ∀ st, Tri _ _ _ st _ → _ => hK; first | (apply hK; clear hK) | (clear hK; rename ∀ st, Tri _ _ _ st _ → _ => hK; first | (apply hK; clear hK) | (clear hK; rename ∀ st, Tri _ _ _ st _ → _ => hK; first | (apply hK; clear hK) | (clear hK; rename ∀ st, Tri _ _ _ st _ → _ => hK; first | (apply hK; clear hK) | (clear hK; rename ∀ st, Tri _ _ _ st _ → _ => hK; apply hK; clear hK)))))) | skip)
      | (intro β)
      | (rename ∀ st, Tri _ _ _ st _ → _ => hK; apply hK; clear hK))
    refine Tri.ret ⟨_, rfl, ?_⟩
    simp [upd]
    exact Wk.refl _
  by_cases g3 : (65536 : Int) < (r.atts.length : Int)
  · have e : check r = 1 := by simp [check, checkB, show ¬ r.atts.length ≤ 65536 by omega]
    rw [e]
    repeat (first
      | (refine Tri.seq fun K hK => ?_)
      | (refine Tri.region ?_; simp [upd, g1, g2, g3])
      | (refine Tri.draw (by kernel_rfl) (by decide +kernel) ?_; simp [upd, g1, g2, g3])
      | (refine Tri.cond_true ?_ ?_; (focus simp [upd, g1, g2, g3]; done))
      | (refine Tri.cond_false ?_ ?_; (focus simp [upd, g1, g2, g3]; done))
      | (refine Tri.skip ?_; simp only [thenS, blockS])
      | (refine Tri.block_seq ?_)
      | (refine Tri.block_region ?_)
      | (refine Tri.block_cond ?_)
      | (refine Tri.exit ?_; simp [upd, g1, g2, g3]; first | (rename ∀ st, Tri _ _ _ st _ → _ => hK; first | (apply hK; clear hK) | (clear hK; rename ∀ st, Tri _ _ _ st _ → _ => hK; first | (apply hK; clear hK) | (clear hK; rename ∀ st, Tri _ _ _ st _ → _ => hK; first | (apply hK; clear hK) | (clear hK; rename ∀ st, Tri _ _ _ st _ → _ => hK; first | (apply hK; clear hK) | (clear hK; rename ∀ st, Tri _ _ _ st _ → _ => hK; first | (apply hK; clear hK) | (clear hK; rename ∀ st, Tri _ _ _ st _ → _ => hK; apply hK; clear hK)))))) | skip)
      | (intro β)
      | (rename ∀ st, Tri _ _ _ st _ → _ => hK; apply hK; clear hK))
    refine Tri.ret ⟨_, rfl, ?_⟩
    simp [upd]
    exact Wk.refl _
  by_cases g4 : (65536 : Int) < (r.dels.length : Int)
  · have e : check r = 1 := by simp [check, checkB, show ¬ r.dels.length ≤ 65536 by omega]
    rw [e]
    repeat (first
      | (refine Tri.seq fun K hK => ?_)
      | (refine Tri.region ?_; simp [upd, g1, g2, g3, g4])
      | (refine Tri.draw (by kernel_rfl) (by decide +kernel) ?_; simp [upd, g1, g2, g3, g4])
      | (refine Tri.cond_true ?_ ?_; (focus simp [upd, g1, g2, g3, g4]; done))
      | (refine Tri.cond_false ?_ ?_; (focus simp [upd, g1, g2, g3, g4]; done))
      | (refine Tri.skip ?_; simp only [thenS, blockS])
      | (refine Tri.block_seq ?_)
      | (refine Tri.block_region ?_)
      | (refine Tri.block_cond ?_)
      | (refine Tri.exit ?_; simp [upd, g1, g2, g3, g4]; first | (rename ∀ st, Tri _ _ _ st _ → _ => hK; first | (apply hK; clear hK) | (clear hK; rename ∀ st, Tri _ _ _ st _ → _ => hK; first | (apply hK; clear hK) | (clear hK; rename ∀ st, Tri _ _ _ st _ → _ => hK; first | (apply hK; clear hK) | (clear hK; rename ∀ st, Tri _ _ _ st _ → _ => hK; first | (apply hK; clear hK) | (clear hK; rename ∀ st, Tri _ _ _ st _ → _ => hK; first | (apply hK; clear hK) | (clear hK; rename ∀ st, Tri _ _ _ st _ → _ => hK; apply hK; clear hK)))))) | skip)
      | (intro β)
      | (rename ∀ st, Tri _ _ _ st _ → _ => hK; apply hK; clear hK))
    refine Tri.ret ⟨_, rfl, ?_⟩
    simp [upd]
    exact Wk.refl _
  cases g5 : attsGo r.slots none 0 (-1) r.atts
  case false =>
    have e : check r = 1 := by simp [check, checkB, g5]
    rw [e]
    repeat (first
      | (refine Tri.seq fun K hK => ?_)
      | (refine Tri.region ?_; simp [upd, g1, g2, g3, g4, g5])
      | (refine Tri.draw (by kernel_rfl) (by decide +kernel) ?_; simp [upd, g1, g2, g3, g4, g5])
      | (refine Tri.cond_true ?_ ?_; (focus simp [upd, g1, g2, g3, g4, g5]; done))
      | (refine Tri.cond_false ?_ ?_; (focus simp [upd, g1, g2, g3, g4, g5]; done))
      | (refine Tri.skip ?_; simp only [thenS, blockS])
      | (refine Tri.block_seq ?_)
      | (refine Tri.block_region ?_)
      | (refine Tri.block_cond ?_)
      | ((with_reducible refine CallK.pure (attempts2_does _ _ _ (by omega)) (Wks.refl _) ?_); simp [upd, g1, g2, g3, g4, g5])
      | (refine Tri.exit ?_; simp [upd, g1, g2, g3, g4, g5]; first | (rename ∀ st, Tri _ _ _ st _ → _ => hK; first | (apply hK; clear hK) | (clear hK; rename ∀ st, Tri _ _ _ st _ → _ => hK; first | (apply hK; clear hK) | (clear hK; rename ∀ st, Tri _ _ _ st _ → _ => hK; first | (apply hK; clear hK) | (clear hK; rename ∀ st, Tri _ _ _ st _ → _ => hK; first | (apply hK; clear hK) | (clear hK; rename ∀ st, Tri _ _ _ st _ → _ => hK; first | (apply hK; clear hK) | (clear hK; rename ∀ st, Tri _ _ _ st _ → _ => hK; apply hK; clear hK)))))) | skip)
      | (intro β)
      | (rename ∀ st, Tri _ _ _ st _ → _ => hK; apply hK; clear hK))
    refine Tri.ret ⟨_, rfl, ?_⟩
    simp [upd]
    exact Wk.refl _
  have e0 : check r = if delsGo r.slots none r.dels = true then 0 else 1 := by
    simp [check, checkB, g5, show 0 ≤ r.slots by omega, show r.slots ≤ 4096 by omega, show r.atts.length ≤ 65536 by omega, show r.dels.length ≤ 65536 by omega]
  rw [e0]
  repeat (first
    | (refine Tri.seq fun K hK => ?_)
    | (refine Tri.region ?_; simp [upd, g1, g2, g3, g4, g5])
    | (refine Tri.draw (by kernel_rfl) (by decide +kernel) ?_; simp [upd, g1, g2, g3, g4, g5])
    | (refine Tri.cond_true ?_ ?_; (focus simp [upd, g1, g2, g3, g4, g5]; done))
    | (refine Tri.cond_false ?_ ?_; (focus simp [upd, g1, g2, g3, g4, g5]; done))
    | (refine Tri.skip ?_; simp only [thenS, blockS])
    | (refine Tri.block_seq ?_)
    | (refine Tri.block_region ?_)
    | (refine Tri.block_cond ?_)
    | ((with_reducible refine CallK.pure (attempts2_does _ _ _ (by omega)) (Wks.refl _) ?_); simp [upd, g1, g2, g3, g4, g5])
    | (refine Tri.exit ?_; simp [upd, g1, g2, g3, g4, g5]; first | (rename ∀ st, Tri _ _ _ st _ → _ => hK; first | (apply hK; clear hK) | (clear hK; rename ∀ st, Tri _ _ _ st _ → _ => hK; first | (apply hK; clear hK) | (clear hK; rename ∀ st, Tri _ _ _ st _ → _ => hK; first | (apply hK; clear hK) | (clear hK; rename ∀ st, Tri _ _ _ st _ → _ => hK; first | (apply hK; clear hK) | (clear hK; rename ∀ st, Tri _ _ _ st _ → _ => hK; first | (apply hK; clear hK) | (clear hK; rename ∀ st, Tri _ _ _ st _ → _ => hK; apply hK; clear hK)))))) | skip)
    | (intro β)
    | (rename ∀ st, Tri _ _ _ st _ → _ => hK; apply hK; clear hK))
  refine Tri.range 39 38 40 89 90 rfl rfl r.dels.length (fun k st => ∃ b1 b3, st.sl 1 = .c (.box 1 b1 0) ∧ st.bx 1 = some (b1, [.int .i64 r.slots, .sl r.an 8 none (r.atts.map attC), .sl r.dn 3 none (r.dels.map delC)]) ∧
      st.sl 3 = .c (.box 3 b3 0) ∧ st.bx 3 = some (b3, [.sl r.an 8 none (r.atts.map attC), .sl r.dn 3 none (r.dels.map delC)]) ∧ st.sl 37 = .c (.sl r.dn 3 none (r.dels.map delC)) ∧
      delsGo r.slots none r.dels = delsGo r.slots (if k = 0 then none else r.dels[k-1]?) (r.dels.drop k)) (by simp) (by omega) ?_ rfl (by simp [upd]) (by simp [upd]) ?_ ?_ ?_
  · rintro k st t v ht ⟨b1, b3, a1, a2, a3, a4, a5, a6⟩
    rcases ht with rfl | rfl | rfl <;> exact ⟨b1, b3, by simpa [upd] using a1, by simpa using a2, by simpa [upd] using a3, by simpa using a4, by simpa [upd] using a5, a6⟩
  · simp [upd]
  · rintro k st hk ⟨b1, b3, a1, a2, a3, a4, a5, hgo⟩ hn h39 h38
    have hd : r.dels.drop k = r.dels[k] :: r.dels.drop (k + 1) := List.drop_eq_getElem_cons hk
    rw [hd, delsGo] at hgo
    cases c1 : belowB r.dels[k].flow 256
    case false =>
      rw [c1, Bool.false_and] at hgo
      have hz : (if delsGo r.slots none r.dels = true then (0 : Int) else 1) = 1 := by rw [hgo]; rfl
      rw [hz]
      repeat (first
        | (refine Tri.seq fun K hK => ?_)
        | (refine Tri.region ?_; simp [upd, hn, a1, a2, a3, a4, a5, h39, h38, hk, c1])
        | (refine Tri.draw (by kernel_rfl) (by decide +kernel) ?_; simp [upd, hn, a1, a2, a3, a4, a5, h39, h38, hk, c1])
        | (refine Tri.cond_true ?_ ?_; (focus simp [upd, hn, a1, a2, a3, a4, a5, h39, h38, hk, c1]; done))
        | (refine Tri.cond_false ?_ ?_; (focus simp [upd, hn, a1, a2, a3, a4, a5, h39, h38, hk, c1]; done))
        | (refine Tri.skip ?_; simp only [thenS, blockS])
        | (refine Tri.block_seq ?_)
        | (refine Tri.block_region ?_)
        | (refine Tri.block_cond ?_)
        | ((with_reducible refine CallK.pure (below_does _ _) (Wks.refl _) ?_); simp [upd, hn, a1, a2, a3, a4, a5, h39, h38, hk, c1])
        | (refine Tri.exit ?_; simp [upd, hn, a1, a2, a3, a4, a5, h39, h38, hk, c1]; first | (rename ∀ st, Tri _ _ _ st _ → _ => hK; first | (apply hK; clear hK) | (clear hK; rename ∀ st, Tri _ _ _ st _ → _ => hK; first | (apply hK; clear hK) | (clear hK; rename ∀ st, Tri _ _ _ st _ → _ => hK; first | (apply hK; clear hK) | (clear hK; rename ∀ st, Tri _ _ _ st _ → _ => hK; first | (apply hK; clear hK) | (clear hK; rename ∀ st, Tri _ _ _ st _ → _ => hK; first | (apply hK; clear hK) | (clear hK; rename ∀ st, Tri _ _ _ st _ → _ => hK; apply hK; clear hK)))))) | skip)
        | (intro β)
        | (rename ∀ st, Tri _ _ _ st _ → _ => hK; apply hK; clear hK))
      refine Tri.ret ⟨_, rfl, ?_⟩
      simp [upd]
      exact Wk.refl _
    cases c2 : belowB r.dels[k].frame 1048576
    case false =>
      rw [c1, c2, Bool.true_and, Bool.false_and] at hgo
      have hz : (if delsGo r.slots none r.dels = true then (0 : Int) else 1) = 1 := by rw [hgo]; rfl
      rw [hz]
      repeat (first
        | (refine Tri.seq fun K hK => ?_)
        | (refine Tri.region ?_; simp [upd, hn, a1, a2, a3, a4, a5, h39, h38, hk, c1, c2])
        | (refine Tri.draw (by kernel_rfl) (by decide +kernel) ?_; simp [upd, hn, a1, a2, a3, a4, a5, h39, h38, hk, c1, c2])
        | (refine Tri.cond_true ?_ ?_; (focus simp [upd, hn, a1, a2, a3, a4, a5, h39, h38, hk, c1, c2]; done))
        | (refine Tri.cond_false ?_ ?_; (focus simp [upd, hn, a1, a2, a3, a4, a5, h39, h38, hk, c1, c2]; done))
        | (refine Tri.skip ?_; simp only [thenS, blockS])
        | (refine Tri.block_seq ?_)
        | (refine Tri.block_region ?_)
        | (refine Tri.block_cond ?_)
        | ((with_reducible refine CallK.pure (below_does _ _) (Wks.refl _) ?_); simp [upd, hn, a1, a2, a3, a4, a5, h39, h38, hk, c1, c2])
        | (refine Tri.exit ?_; simp [upd, hn, a1, a2, a3, a4, a5, h39, h38, hk, c1, c2]; first | (rename ∀ st, Tri _ _ _ st _ → _ => hK; first | (apply hK; clear hK) | (clear hK; rename ∀ st, Tri _ _ _ st _ → _ => hK; first | (apply hK; clear hK) | (clear hK; rename ∀ st, Tri _ _ _ st _ → _ => hK; first | (apply hK; clear hK) | (clear hK; rename ∀ st, Tri _ _ _ st _ → _ => hK; first | (apply hK; clear hK) | (clear hK; rename ∀ st, Tri _ _ _ st _ → _ => hK; first | (apply hK; clear hK) | (clear hK; rename ∀ st, Tri _ _ _ st _ → _ => hK; apply hK; clear hK)))))) | skip)
        | (intro β)
        | (rename ∀ st, Tri _ _ _ st _ → _ => hK; apply hK; clear hK))
      refine Tri.ret ⟨_, rfl, ?_⟩
      simp [upd]
      exact Wk.refl _
    cases c3 : belowB r.dels[k].slot r.slots
    case false =>
      rw [c1, c2, c3, Bool.true_and, Bool.true_and, Bool.false_and] at hgo
      have hz : (if delsGo r.slots none r.dels = true then (0 : Int) else 1) = 1 := by rw [hgo]; rfl
      rw [hz]
      repeat (first
        | (refine Tri.seq fun K hK => ?_)
        | (refine Tri.region ?_; simp [upd, hn, a1, a2, a3, a4, a5, h39, h38, hk, c1, c2, c3])
        | (refine Tri.draw (by kernel_rfl) (by decide +kernel) ?_; simp [upd, hn, a1, a2, a3, a4, a5, h39, h38, hk, c1, c2, c3])
        | (refine Tri.cond_true ?_ ?_; (focus simp [upd, hn, a1, a2, a3, a4, a5, h39, h38, hk, c1, c2, c3]; done))
        | (refine Tri.cond_false ?_ ?_; (focus simp [upd, hn, a1, a2, a3, a4, a5, h39, h38, hk, c1, c2, c3]; done))
        | (refine Tri.skip ?_; simp only [thenS, blockS])
        | (refine Tri.block_seq ?_)
        | (refine Tri.block_region ?_)
        | (refine Tri.block_cond ?_)
        | ((with_reducible refine CallK.pure (below_does _ _) (Wks.refl _) ?_); simp [upd, hn, a1, a2, a3, a4, a5, h39, h38, hk, c1, c2, c3])
        | (refine Tri.exit ?_; simp [upd, hn, a1, a2, a3, a4, a5, h39, h38, hk, c1, c2, c3]; first | (rename ∀ st, Tri _ _ _ st _ → _ => hK; first | (apply hK; clear hK) | (clear hK; rename ∀ st, Tri _ _ _ st _ → _ => hK; first | (apply hK; clear hK) | (clear hK; rename ∀ st, Tri _ _ _ st _ → _ => hK; first | (apply hK; clear hK) | (clear hK; rename ∀ st, Tri _ _ _ st _ → _ => hK; first | (apply hK; clear hK) | (clear hK; rename ∀ st, Tri _ _ _ st _ → _ => hK; first | (apply hK; clear hK) | (clear hK; rename ∀ st, Tri _ _ _ st _ → _ => hK; apply hK; clear hK)))))) | skip)
        | (intro β)
        | (rename ∀ st, Tri _ _ _ st _ → _ => hK; apply hK; clear hK))
      refine Tri.ret ⟨_, rfl, ?_⟩
      simp [upd]
      exact Wk.refl _
    rw [c1, c2, c3, Bool.true_and, Bool.true_and, Bool.true_and] at hgo
    cases k with
    | zero =>
      simp only [if_true, beforesD, Bool.true_and] at hgo
      rw [hgo]
      repeat (first
        | (refine Tri.seq fun K hK => ?_)
        | (refine Tri.region ?_; simp [upd, hn, a1, a2, a3, a4, a5, h39, h38, hk, c1, c2, c3])
        | (refine Tri.draw (by kernel_rfl) (by decide +kernel) ?_; simp [upd, hn, a1, a2, a3, a4, a5, h39, h38, hk, c1, c2, c3])
        | (refine Tri.cond_true ?_ ?_; (focus simp [upd, hn, a1, a2, a3, a4, a5, h39, h38, hk, c1, c2, c3]; done))
        | (refine Tri.cond_false ?_ ?_; (focus simp [upd, hn, a1, a2, a3, a4, a5, h39, h38, hk, c1, c2, c3]; done))
        | (refine Tri.skip ?_; simp only [thenS, blockS])
        | (refine Tri.block_seq ?_)
        | (refine Tri.block_region ?_)
        | (refine Tri.block_cond ?_)
        | ((with_reducible refine CallK.pure (below_does _ _) (Wks.refl _) ?_); simp [upd, hn, a1, a2, a3, a4, a5, h39, h38, hk, c1, c2, c3])
        | ((with_reducible refine CallK.pure (compare_does _ _) (Wks.refl _) ?_); simp [upd, hn, a1, a2, a3, a4, a5, h39, h38, hk, c1, c2, c3])
        | ((with_reducible refine CallK.pure (or2_does _ _) (Wks.refl _) ?_); simp [upd, hn, a1, a2, a3, a4, a5, h39, h38, hk, c1, c2, c3])
        | (refine Tri.exit ?_; simp [upd, hn, a1, a2, a3, a4, a5, h39, h38, hk, c1, c2, c3]; first | (rename ∀ st, Tri _ _ _ st _ → _ => hK; first | (apply hK; clear hK) | (clear hK; rename ∀ st, Tri _ _ _ st _ → _ => hK; first | (apply hK; clear hK) | (clear hK; rename ∀ st, Tri _ _ _ st _ → _ => hK; first | (apply hK; clear hK) | (clear hK; rename ∀ st, Tri _ _ _ st _ → _ => hK; first | (apply hK; clear hK) | (clear hK; rename ∀ st, Tri _ _ _ st _ → _ => hK; first | (apply hK; clear hK) | (clear hK; rename ∀ st, Tri _ _ _ st _ → _ => hK; apply hK; clear hK)))))) | skip)
        | (intro β)
        | (rename ∀ st, Tri _ _ _ st _ → _ => hK; apply hK; clear hK))
      refine ⟨⟨b1, b3, ?_⟩, ?_⟩ <;> simp [upd, hn, a1, a2, a3, a4, a5, h39, h38, hk]
    | succ m =>
      have hm : m < r.dels.length := by omega
      have hw : IntKind.i64.wrap (m : Int) = m := wrap_i64 (by omega) (by omega)
      simp only [Nat.add_eq_zero_iff, Nat.one_ne_zero, and_false, if_false, Nat.add_sub_cancel, List.getElem?_eq_getElem hm, beforesD] at hgo
      have hp : (0 : Int) < (m : Int) + 1 := by omega
      have hp0 : (0 : Int) ≤ (m : Int) + 1 := by omega
      cases hb : decide (orI [cmpI r.dels[m].slot r.dels[m + 1].slot, cmpI r.dels[m].flow r.dels[m + 1].flow] < 0) <;> simp only [decide_eq_true_eq, decide_eq_false_iff_not] at hb
      case false =>
        rw [decide_eq_false hb, Bool.false_and] at hgo
        have hz : (if delsGo r.slots none r.dels = true then (0 : Int) else 1) = 1 := by rw [hgo]; rfl
        rw [hz]
        have hb' : 0 ≤ orI [cmpI r.dels[m].slot r.dels[m + 1].slot, cmpI r.dels[m].flow r.dels[m + 1].flow] := by omega
        repeat (first
          | (refine Tri.seq fun K hK => ?_)
          | (refine Tri.region ?_; simp [upd, hn, a1, a2, a3, a4, a5, h39, h38, hk, c1, c2, c3, hm, hw, hp, hp0, hb'])
          | (refine Tri.draw (by kernel_rfl) (by decide +kernel) ?_; simp [upd, hn, a1, a2, a3, a4, a5, h39, h38, hk, c1, c2, c3, hm, hw, hp, hp0, hb'])
          | (refine Tri.cond_true ?_ ?_; (focus simp [upd, hn, a1, a2, a3, a4, a5, h39, h38, hk, c1, c2, c3, hm, hw, hp, hp0, hb']; done))
          | (refine Tri.cond_false ?_ ?_; (focus simp [upd, hn, a1, a2, a3, a4, a5, h39, h38, hk, c1, c2, c3, hm, hw, hp, hp0, hb']; done))
          | (refine Tri.skip ?_; simp only [thenS, blockS])
          | (refine Tri.block_seq ?_)
          | (refine Tri.block_region ?_)
          | (refine Tri.block_cond ?_)
          | ((with_reducible refine CallK.pure (below_does _ _) (Wks.refl _) ?_); simp [upd, hn, a1, a2, a3, a4, a5, h39, h38, hk, c1, c2, c3, hm, hw, hp, hp0, hb'])
          | ((with_reducible refine CallK.pure (compare_does _ _) (Wks.refl _) ?_); simp [upd, hn, a1, a2, a3, a4, a5, h39, h38, hk, c1, c2, c3, hm, hw, hp, hp0, hb'])
          | ((with_reducible refine CallK.pure (or2_does _ _) (Wks.refl _) ?_); simp [upd, hn, a1, a2, a3, a4, a5, h39, h38, hk, c1, c2, c3, hm, hw, hp, hp0, hb'])
          | (refine Tri.exit ?_; simp [upd, hn, a1, a2, a3, a4, a5, h39, h38, hk, c1, c2, c3, hm, hw, hp, hp0, hb']; first | (rename ∀ st, Tri _ _ _ st _ → _ => hK; first | (apply hK; clear hK) | (clear hK; rename ∀ st, Tri _ _ _ st _ → _ => hK; first | (apply hK; clear hK) | (clear hK; rename ∀ st, Tri _ _ _ st _ → _ => hK; first | (apply hK; clear hK) | (clear hK; rename ∀ st, Tri _ _ _ st _ → _ => hK; first | (apply hK; clear hK) | (clear hK; rename ∀ st, Tri _ _ _ st _ → _ => hK; first | (apply hK; clear hK) | (clear hK; rename ∀ st, Tri _ _ _ st _ → _ => hK; apply hK; clear hK)))))) | skip)
          | (intro β)
          | (rename ∀ st, Tri _ _ _ st _ → _ => hK; apply hK; clear hK))
        refine Tri.ret ⟨_, rfl, ?_⟩
        simp [upd]
        exact Wk.refl _
      rw [decide_eq_true hb, Bool.true_and] at hgo
      have hb' : ¬ 0 ≤ orI [cmpI r.dels[m].slot r.dels[m + 1].slot, cmpI r.dels[m].flow r.dels[m + 1].flow] := by omega
      rw [hgo]
      repeat (first
        | (refine Tri.seq fun K hK => ?_)
        | (refine Tri.region ?_; simp [upd, hn, a1, a2, a3, a4, a5, h39, h38, hk, c1, c2, c3, hm, hw, hp, hp0, hb'])
        | (refine Tri.draw (by kernel_rfl) (by decide +kernel) ?_; simp [upd, hn, a1, a2, a3, a4, a5, h39, h38, hk, c1, c2, c3, hm, hw, hp, hp0, hb'])
        | (refine Tri.cond_true ?_ ?_; (focus simp [upd, hn, a1, a2, a3, a4, a5, h39, h38, hk, c1, c2, c3, hm, hw, hp, hp0, hb']; done))
        | (refine Tri.cond_false ?_ ?_; (focus simp [upd, hn, a1, a2, a3, a4, a5, h39, h38, hk, c1, c2, c3, hm, hw, hp, hp0, hb']; done))
        | (refine Tri.skip ?_; simp only [thenS, blockS])
        | (refine Tri.block_seq ?_)
        | (refine Tri.block_region ?_)
        | (refine Tri.block_cond ?_)
        | ((with_reducible refine CallK.pure (below_does _ _) (Wks.refl _) ?_); simp [upd, hn, a1, a2, a3, a4, a5, h39, h38, hk, c1, c2, c3, hm, hw, hp, hp0, hb'])
        | ((with_reducible refine CallK.pure (compare_does _ _) (Wks.refl _) ?_); simp [upd, hn, a1, a2, a3, a4, a5, h39, h38, hk, c1, c2, c3, hm, hw, hp, hp0, hb'])
        | ((with_reducible refine CallK.pure (or2_does _ _) (Wks.refl _) ?_); simp [upd, hn, a1, a2, a3, a4, a5, h39, h38, hk, c1, c2, c3, hm, hw, hp, hp0, hb'])
        | (refine Tri.exit ?_; simp [upd, hn, a1, a2, a3, a4, a5, h39, h38, hk, c1, c2, c3, hm, hw, hp, hp0, hb']; first | (rename ∀ st, Tri _ _ _ st _ → _ => hK; first | (apply hK; clear hK) | (clear hK; rename ∀ st, Tri _ _ _ st _ → _ => hK; first | (apply hK; clear hK) | (clear hK; rename ∀ st, Tri _ _ _ st _ → _ => hK; first | (apply hK; clear hK) | (clear hK; rename ∀ st, Tri _ _ _ st _ → _ => hK; first | (apply hK; clear hK) | (clear hK; rename ∀ st, Tri _ _ _ st _ → _ => hK; first | (apply hK; clear hK) | (clear hK; rename ∀ st, Tri _ _ _ st _ → _ => hK; apply hK; clear hK)))))) | skip)
        | (intro β)
        | (rename ∀ st, Tri _ _ _ st _ → _ => hK; apply hK; clear hK))
      refine ⟨⟨b1, b3, ?_⟩, ?_⟩ <;> simp [upd, hn, a1, a2, a3, a4, a5, h39, h38, hk]
  · rintro st ⟨b1, b3, a1, a2, a3, a4, a5, hgo⟩ hn
    rw [List.drop_length] at hgo
    apply hK
    repeat (first
      | (refine Tri.seq fun K hK => ?_)
      | (refine Tri.region ?_; simp [upd, hn])
      | (refine Tri.draw (by kernel_rfl) (by decide +kernel) ?_; simp [upd, hn])
      | (refine Tri.cond_true ?_ ?_; (focus simp [upd, hn]; done))
      | (refine Tri.cond_false ?_ ?_; (focus simp [upd, hn]; done))
      | (refine Tri.skip ?_; simp only [thenS, blockS])
      | (refine Tri.block_seq ?_)
      | (refine Tri.block_region ?_)
      | (refine Tri.block_cond ?_)
      | (refine Tri.exit ?_; simp [upd, hn]; first | (rename ∀ st, Tri _ _ _ st _ → _ => hK; first | (apply hK; clear hK) | (clear hK; rename ∀ st, Tri _ _ _ st _ → _ => hK; first | (apply hK; clear hK) | (clear hK; rename ∀ st, Tri _ _ _ st _ → _ => hK; first | (apply hK; clear hK) | (clear hK; rename ∀ st, Tri _ _ _ st _ → _ => hK; first | (apply hK; clear hK) | (clear hK; rename ∀ st, Tri _ _ _ st _ → _ => hK; first | (apply hK; clear hK) | (clear hK; rename ∀ st, Tri _ _ _ st _ → _ => hK; apply hK; clear hK)))))) | skip)
      | (intro β)
      | (rename ∀ st, Tri _ _ _ st _ → _ => hK; apply hK; clear hK))
    rw [hgo]
    refine Tri.ret ⟨_, rfl, ?_⟩
    simp [upd]
    exact Wk.refl _
end Go.Proofs.Ytngbpmiikpjiaaa
end
section
open Go Go.Vm
namespace Go.Proofs.Ytngbpmiikpjiaaa
/-! What it means that the attempts and the deliveries of a record are in order. -/
theorem u32w (n : Nat) : IntKind.u32.wrap (n : Int) = ((n % 4294967296 : Nat) : Int) := by
  simp [IntKind.wrap, IntKind.signed, IntKind.bits]
theorem seen_nat (m f : Nat) (hm : m < 4294967296) (hf : f < 32) : seen (m : Int) (f : Int) = m.testBit f := by
  have hb : IntKind.u32.bits = 32 := rfl
  unfold seen bitsV
  simp only [Int.toNat_natCast, hb]
  rw [Nat.min_eq_left (by omega)]
  have e : (m : Int).fdiv (2 ^ f) = ((m / 2 ^ f : Nat) : Int) := by rw [Int.fdiv_eq_ediv_of_nonneg _ (Int.pow_nonneg (by omega))]; simp
  have e1 : (1 : Int) = ((1 : Nat) : Int) := rfl
  have hlt : m / 2 ^ f < 4294967296 := Nat.lt_of_le_of_lt (Nat.div_le_self ..) hm
  rw [e]
  conv => lhs; lhs; rw [e1]
  rw [BitVec.ofInt_natCast, BitVec.ofInt_natCast, BitVec.toNat_and, BitVec.toNat_ofNat, BitVec.toNat_ofNat, hb, Nat.mod_eq_of_lt (show m / 2 ^ f < 2 ^ 32 from hlt), Nat.mod_eq_of_lt (show (1 : Nat) < 2 ^ 32 by decide), Nat.and_one_is_mod, u32w, Nat.mod_eq_of_lt (by omega), Nat.testBit_eq_decide_div_mod_eq]
  rcases Nat.mod_two_eq_zero_or_one (m / 2 ^ f) with h | h <;> simp [h]
theorem mark_nat (m f : Nat) (hm : m < 4294967296) (hf : f < 32) : mark (m : Int) (f : Int) = ((m ||| 2 ^ f : Nat) : Int) ∧ m ||| 2 ^ f < 4294967296 := by
  have hb : IntKind.u32.bits = 32 := rfl
  have hp : 2 ^ f < 2 ^ 32 := Nat.pow_lt_pow_right (by omega) hf
  have hor : m ||| 2 ^ f < 2 ^ 32 := Nat.or_lt_two_pow hm hp
  refine ⟨?_, hor⟩
  unfold mark bitsV
  simp only [Int.toNat_natCast, hb]
  rw [Nat.min_eq_left (by omega)]
  have e : (2 : Int) ^ f = ((2 ^ f : Nat) : Int) := by simp
  rw [e, u32w (2 ^ f), Nat.mod_eq_of_lt hp, BitVec.ofInt_natCast, BitVec.ofInt_natCast, BitVec.toNat_or, BitVec.toNat_ofNat, BitVec.toNat_ofNat, hb, Nat.mod_eq_of_lt (show m < 2 ^ 32 from hm), Nat.mod_eq_of_lt hp, u32w, Nat.mod_eq_of_lt hor]
/-- One attempt stands before another. -/
def ltA (a b : Att) : Prop := a.slot < b.slot ∨ a.slot = b.slot ∧ (a.cslot < b.cslot ∨ a.cslot = b.cslot ∧ (a.off < b.off ∨ a.off = b.off ∧ (a.frm < b.frm ∨ a.frm = b.frm ∧ (a.to < b.to ∨ a.to = b.to ∧ a.flow < b.flow))))
theorem cmpI_lt (x y : Int) : cmpI x y < 0 ↔ x < y := by unfold cmpI; split <;> (try split) <;> omega
theorem cmpI_eq (x y : Int) : cmpI x y = 0 ↔ x = y := by unfold cmpI; split <;> (try split) <;> omega
theorem orI_cmp (x y : Int) (l : List Int) : orI (cmpI x y :: l) < 0 ↔ x < y ∨ x = y ∧ orI l < 0 := by
  rw [orI]
  split
  · rename_i h; have := (cmpI_eq x y).1 h; omega
  · rename_i h; rw [cmpI_lt]; have : ¬ x = y := fun e => h ((cmpI_eq x y).2 e); omega
theorem cmpA_lt (a b : Att) : cmpA a b < 0 ↔ ltA a b := by
  unfold cmpA ltA
  simp only [orI_cmp]
  simp [orI]
theorem ltA_trans {a b c : Att} (h1 : ltA a b) (h2 : ltA b c) : ltA a c := by
  unfold ltA at *
  omega
theorem ltA_slot {a b : Att} (h : ltA a b) : a.slot ≤ b.slot := by
  unfold ltA at h
  omega
/-- What two attempts of a record, the first before the second, must not share. -/
def okA (a b : Att) : Prop := ltA a b ∧ ¬ (a.slot = b.slot ∧ a.frm = b.frm)
def AttsP (slots : Int) (l : List Att) : Prop := (∀ a ∈ l, attOk a slots = true) ∧ l.Pairwise okA
structure AtBits (pre : List Att) (s t : Int) : Prop where
  m : ∃ m : Nat, s = m ∧ m < 4294967296 ∧ ∀ f, m.testBit f = true ↔ ∃ a ∈ pre, a.slot = t ∧ a.frm = f
theorem attsGo_iff (slots : Int) : ∀ (l pre : List Att) (s t : Int), (∀ a ∈ pre, attOk a slots = true) → pre.Pairwise okA → AtBits pre s t → t = (match pre.getLast? with | none => -1 | some q => q.slot) →
    (attsGo slots pre.getLast? s t l = true ↔ (∀ a ∈ l, attOk a slots = true) ∧ (pre ++ l).Pairwise okA)
  | [], pre, s, t, _, hp, _, _ => by simp [attsGo, hp]
  | a :: r, pre, s, t, ho, hp, hbs, ht => by
    obtain ⟨m, rfl, hm, hbits⟩ := hbs.m
    have hlast : ∀ x ∈ pre, ∃ q, pre.getLast? = some q ∧ (x = q ∨ ltA x q) := by
      intro x hx
      obtain ⟨i, hi, rfl⟩ := List.getElem_of_mem hx
      have hne : pre ≠ [] := List.ne_nil_of_mem hx
      refine ⟨pre.getLast hne, List.getLast?_eq_some_getLast hne, ?_⟩
      rw [List.getLast_eq_getElem]
      by_cases e : i = pre.length - 1
      · left; simp [e]
      · right; exact (List.pairwise_iff_getElem.1 hp i (pre.length - 1) hi (by omega) (by omega)).1
    rw [attsGo]
    by_cases ha : attOk a slots = true
    case neg =>
      simp only [Bool.not_eq_true] at ha
      simp [ha]
    have hf := attOk_frm ha
    obtain ⟨f, hfe⟩ : ∃ f : Nat, a.frm = f := ⟨a.frm.toNat, by omega⟩
    have hf32 : f < 32 := by omega
    by_cases hb : befores pre.getLast? a = true
    case neg =>
      simp only [Bool.not_eq_true] at hb
      simp only [hb, Bool.false_and, Bool.and_false, Bool.false_eq_true, false_iff, not_and]
      intro _ hpw
      cases hl : pre.getLast? with
      | none => rw [hl] at hb; simp [befores] at hb
      | some q =>
        rw [hl] at hb
        simp only [befores, decide_eq_false_iff_not] at hb
        have hq : q ∈ pre := List.mem_of_getLast? hl
        exact hb ((cmpA_lt q a).2 ((List.pairwise_append.1 hpw).2.2 q hq a (by simp)).1)
    have hlt : ∀ x ∈ pre, ltA x a := by
      intro x hx
      obtain ⟨q, hq, h⟩ := hlast x hx
      rw [hq] at hb
      simp only [befores, decide_eq_true_eq] at hb
      have hqa := (cmpA_lt q a).1 hb
      rcases h with rfl | h
      · exact hqa
      · exact ltA_trans h hqa
    have hslot : ∀ x ∈ pre, x.slot = a.slot → a.slot = t := by
      intro x hx e
      obtain ⟨q, hq, h⟩ := hlast x hx
      rw [hq] at ht hb
      simp only at ht
      simp only [befores, decide_eq_true_eq] at hb
      have h1 := ltA_slot ((cmpA_lt q a).1 hb)
      rcases h with rfl | h
      · omega
      · have := ltA_slot h; omega
    obtain ⟨m', hm', hm'lt, hbits'⟩ : ∃ m' : Nat, (if a.slot = t then (m : Int) else 0) = m' ∧ m' < 4294967296 ∧ ∀ f, m'.testBit f = true ↔ ∃ x ∈ pre, x.slot = a.slot ∧ x.frm = f := by
      by_cases e : a.slot = t
      · exact ⟨m, by rw [if_pos e], hm, fun f => by rw [hbits f, e]⟩
      · refine ⟨0, by rw [if_neg e]; rfl, by omega, fun f => ?_⟩
        simp only [Nat.zero_testBit, Bool.false_eq_true, false_iff]
        rintro ⟨x, hx, h1, _⟩
        exact e (hslot x hx h1)
    rw [hm', hfe, seen_nat m' f hm'lt hf32, ha, hb, Bool.true_and, Bool.true_and]
    by_cases hs : m'.testBit f = true
    · rw [hs]
      simp only [Bool.not_true, Bool.false_and, Bool.false_eq_true, false_iff, not_and]
      intro _ hpw
      obtain ⟨x, hx, h1, h2⟩ := (hbits' f).1 hs
      exact ((List.pairwise_append.1 hpw).2.2 x hx a (by simp)).2 ⟨h1, by omega⟩
    simp only [Bool.not_eq_true] at hs
    rw [hs]
    obtain ⟨hmk, hmklt⟩ := mark_nat m' f hm'lt hf32
    have hpa : (pre ++ [a]).Pairwise okA := by
      refine List.pairwise_append.2 ⟨hp, by simp, fun x hx y hy => ?_⟩
      simp only [List.mem_singleton] at hy
      subst hy
      refine ⟨hlt x hx, fun h => ?_⟩
      have := (hbits' f).2 ⟨x, hx, h.1, by omega⟩
      rw [this] at hs; cases hs
    have ih := attsGo_iff slots r (pre ++ [a]) (mark m' f) a.slot (by
      intro x hx
      simp only [List.mem_append, List.mem_singleton] at hx
      rcases hx with hx | rfl
      · exact ho x hx
      · exact ha) hpa ⟨m' ||| 2 ^ f, hmk, hmklt, fun g => by
        rw [Nat.testBit_or, Bool.or_eq_true, hbits' g, Nat.testBit_two_pow]
        constructor
        · rintro (⟨x, hx, h⟩ | h)
          · exact ⟨x, by simp [hx], h⟩
          · simp only [decide_eq_true_eq] at h
            exact ⟨a, by simp, rfl, by omega⟩
        · rintro ⟨x, hx, h1, h2⟩
          simp only [List.mem_append, List.mem_singleton] at hx
          rcases hx with hx | rfl
          · exact .inl ⟨x, hx, h1, h2⟩
          · right; simp; omega⟩ (by simp)
    rw [List.getLast?_concat] at ih
    simp only [Bool.not_false, Bool.true_and]
    rw [ih]
    simp [ha]
theorem attsGo_AttsP (slots : Int) (l : List Att) : attsGo slots none 0 (-1) l = true ↔ AttsP slots l := by
  have := attsGo_iff slots l [] 0 (-1) (by simp) (by simp) ⟨0, rfl, by omega, fun f => by simp⟩ rfl
  simpa [AttsP] using this
def ltD (a b : Del) : Prop := a.slot < b.slot ∨ a.slot = b.slot ∧ a.flow < b.flow
def delOk (d : Del) (slots : Int) : Prop := 0 ≤ d.flow ∧ d.flow < 256 ∧ 0 ≤ d.frame ∧ d.frame < 1048576 ∧ 0 ≤ d.slot ∧ d.slot < slots
def DelsP (slots : Int) (l : List Del) : Prop := (∀ d ∈ l, delOk d slots) ∧ l.Pairwise ltD
theorem delsGo_iff (slots : Int) : ∀ (l : List Del) (p : Option Del), delsGo slots p l = true ↔ (∀ d ∈ l, delOk d slots) ∧ l.Pairwise ltD ∧ ∀ q, p = some q → ∀ d ∈ l, ltD q d
  | [], p => by simp [delsGo]
  | d :: r, p => by
    rw [delsGo]
    simp only [Bool.and_eq_true, delsGo_iff slots r (some d), belowB, decide_eq_true_eq, List.mem_cons, forall_eq_or_imp, List.pairwise_cons]
    have hb : beforesD p d = true ↔ ∀ q, p = some q → ltD q d := by
      cases p with
      | none => simp [beforesD]
      | some q =>
        simp only [beforesD, decide_eq_true_eq, orI_cmp, ltD, Option.some.injEq, forall_eq']
        simp [orI]
    rw [hb]
    constructor
    · rintro ⟨h1, h2, h3, h4, h5, h6, h7⟩
      have h7 := h7 d rfl
      exact ⟨⟨⟨h1.1, h1.2, h2.1, h2.2, h3.1, h3.2⟩, h5⟩, ⟨h7, h6⟩, fun q hq => ⟨h4 q hq, fun x hx => by have a := h4 q hq; have b := h7 x hx; unfold ltD at *; omega⟩⟩
    · rintro ⟨⟨h1, h5⟩, ⟨h7, h6⟩, h8⟩
      obtain ⟨a1, a2, a3, a4, a5, a6⟩ := h1
      exact ⟨⟨a1, a2⟩, ⟨a3, a4⟩, ⟨a5, a6⟩, fun q hq => (h8 q hq).1, h5, h6, fun q hq => by cases hq; exact h7⟩
structure InOrder (r : Rec) : Prop where
  s0 : 0 ≤ r.slots
  s1 : r.slots ≤ 4096
  al : r.atts.length ≤ 65536
  dl : r.dels.length ≤ 65536
  atts : AttsP r.slots r.atts
  dels : DelsP r.slots r.dels
theorem checkB_iff (r : Rec) : checkB r = true ↔ InOrder r := by
  unfold checkB
  simp only [Bool.and_eq_true, decide_eq_true_eq, attsGo_AttsP, delsGo_iff]
  constructor
  · rintro ⟨h1, h2, h3, h4, h5, h6, h7, _⟩
    exact ⟨h1, h2, h3, h4, h5, h6, h7⟩
  · rintro ⟨h1, h2, h3, h4, h5, h6, h7⟩
    exact ⟨h1, h2, h3, h4, h5, h6, h7, fun q hq => by cases hq⟩
theorem check_iff (r : Rec) : check r = 0 ↔ InOrder r := by
  rw [← checkB_iff]
  unfold check
  split <;> simp_all
end Go.Proofs.Ytngbpmiikpjiaaa
end
section
open Go Go.Vm
namespace Go.Proofs.Ytngbpmiikpjiaaa
set_option maxRecDepth 100000
set_option linter.unusedSimpArgs false
def zrec : Rec := ⟨0, true, [], true, []⟩
/-- A list that grows in a cell. -/
def GC (st : St) (c : C) (key e n : Nat) (es : List (List C)) : Prop :=
  (es = [] ∧ ∃ k own, c = .sl true k own []) ∨ (∃ b, es ≠ [] ∧ c = .sl false n (some (key, b)) es ∧ st.rw key = some (b, es.length, e, n))
theorem GC.wk {st : St} {c : C} {key e n : Nat} {es : List (List C)} (h : GC st c key e n es) : Wk (.c c) (.c (.sl es.isEmpty n none es)) := by
  rcases h with ⟨rfl, k, own, rfl⟩ | ⟨b, hne, rfl, hrw⟩
  · exact .nil _ _ _ _
  · have : es.isEmpty = false := by cases es <;> simp_all
    rw [this]
    exact .untag _ _ _ _
theorem GC.sl {st : St} {c : C} {key e n : Nat} {es : List (List C)} (h : GC st c key e n es) : ∃ nl n1 o1 es1, c = .sl nl n1 o1 es1 := by
  rcases h with ⟨rfl, k, own, rfl⟩ | ⟨b, hne, rfl, hrw⟩
  · exact ⟨_, _, _, _, rfl⟩
  · exact ⟨_, _, _, _, rfl⟩
theorem GC.isO {st : St} {c : C} {key e n : Nat} {es : List (List C)} (h : GC st c key e n es) : C.isO c = false := by
  rcases h with ⟨_, _, _, rfl⟩ | ⟨_, _, rfl, _⟩ <;> rfl
theorem GC.put {st : St} {c : C} {key e n : Nat} {es : List (List C)} (h : GC st c key e n es) (d : Option Tmp) (v : V) : GC (st.put d v) c key e n es := by
  unfold GC at h ⊢
  rw [put_rw]
  exact h
theorem check_lens {r : Rec} (h : check r = 0) : r.atts.length ≤ 65536 ∧ r.dels.length ≤ 65536 := by
  unfold check at h
  split at h
  · rename_i h2; simp only [checkB, Bool.and_eq_true, decide_eq_true_eq] at h2; exact ⟨h2.2.2.1, h2.2.2.2.1⟩
  · cases h
end Go.Proofs.Ytngbpmiikpjiaaa
end
section
open Go Go.Vm
namespace Go.Proofs.Ytngbpmiikpjiaaa
set_option maxRecDepth 100000
set_option maxHeartbeats 1000000
set_option linter.unusedSimpArgs false
attribute [local irreducible] Tri Does DoesB Rounds
def I1 (l : List Int) : List (List C) := l.map fun x => [.int .i64 x]
def runC (l : List Int) : C := .sl false 1 none (I1 l)
def runsC (l : List (List Int)) : List (List C) := l.map fun r => [runC r]
theorem end_nil (b12 b11 n : Nat) (own : Option (Nat × Nat)) (O : C) : DoesB Try.prog 76 [.c (.box 12 b12 0), .c (.box 11 b11 0)] [(12, b12, [.sl true n own []]), (11, b11, [O])] []
    (fun _ => (.tup [], [(12, b12, [.sl true 0 none []]), (11, b11, [O])], [])) := by
  refine DoesB.of_body Try.func76 rfl (by kernel_rfl) rfl rfl (by simp) (fun _ => rfl) fun E => ?_
  repeat (first
    | (refine Tri.seq fun K hK => ?_)
    | (refine Tri.region ?_; simp [upd])
    | (refine Tri.draw (by kernel_rfl) (by decide +kernel) ?_; simp [upd])
    | (refine Tri.cond_true ?_ ?_; (focus simp [upd]; done))
    | (refine Tri.cond_false ?_ ?_; (focus simp [upd]; done))
    | (refine Tri.skip ?_; simp only [thenS, blockS])
    | (refine Tri.block_seq ?_)
    | (refine Tri.block_region ?_)
    | (refine Tri.block_cond ?_)
    | (refine Tri.exit ?_; simp [upd]; first | (rename ∀ st, Tri _ _ _ st _ → _ => hK; first | (apply hK; clear hK) | (clear hK; rename ∀ st, Tri _ _ _ st _ → _ => hK; first | (apply hK; clear hK) | (clear hK; rename ∀ st, Tri _ _ _ st _ → _ => hK; first | (apply hK; clear hK) | (clear hK; rename ∀ st, Tri _ _ _ st _ → _ => hK; first | (apply hK; clear hK) | (clear hK; rename ∀ st, Tri _ _ _ st _ → _ => hK; first | (apply hK; clear hK) | (clear hK; rename ∀ st, Tri _ _ _ st _ → _ => hK; apply hK; clear hK)))))) | skip)
    | (intro β)
    | (rename ∀ st, Tri _ _ _ st _ → _ => hK; apply hK; clear hK))
  refine ⟨_, 0, [], rfl, Wk.refl _, ?_, trivial, by simp⟩
  simp [upd]
theorem end_first (b12 b11 n k b : Nat) (own : Option (Nat × Nat)) (es : List (List C)) (hl : 0 < es.length) : DoesB Try.prog 76 [.c (.box 12 b12 0), .c (.box 11 b11 0)] [(12, b12, [.sl false 1 (some (k, b)) es]), (11, b11, [.sl true n own []])] []
    (fun β => (.tup [], [(12, b12, [.sl true 0 none []]), (11, b11, [.sl false 1 (some (8, β)) [[.sl false 1 none es]]])], [(8, β, 1, 42, 1)])) := by
  refine DoesB.of_body Try.func76 rfl (by kernel_rfl) rfl rfl (by simp) (fun _ => rfl) fun E => ?_
  repeat (first
    | (refine Tri.seq fun K hK => ?_)
    | (refine Tri.region ?_; simp [upd, hl])
    | (refine Tri.draw (by kernel_rfl) (by decide +kernel) ?_; simp [upd, hl])
    | (refine Tri.cond_true ?_ ?_; (focus simp [upd, hl]; done))
    | (refine Tri.cond_false ?_ ?_; (focus simp [upd, hl]; done))
    | (refine Tri.skip ?_; simp only [thenS, blockS])
    | (refine Tri.block_seq ?_)
    | (refine Tri.block_region ?_)
    | (refine Tri.block_cond ?_)
    | (refine Tri.exit ?_; simp [upd, hl]; first | (rename ∀ st, Tri _ _ _ st _ → _ => hK; first | (apply hK; clear hK) | (clear hK; rename ∀ st, Tri _ _ _ st _ → _ => hK; first | (apply hK; clear hK) | (clear hK; rename ∀ st, Tri _ _ _ st _ → _ => hK; first | (apply hK; clear hK) | (clear hK; rename ∀ st, Tri _ _ _ st _ → _ => hK; first | (apply hK; clear hK) | (clear hK; rename ∀ st, Tri _ _ _ st _ → _ => hK; first | (apply hK; clear hK) | (clear hK; rename ∀ st, Tri _ _ _ st _ → _ => hK; apply hK; clear hK)))))) | skip)
    | (intro β)
    | (rename ∀ st, Tri _ _ _ st _ → _ => hK; apply hK; clear hK))
  exact ⟨_, β, [8], rfl, Wk.refl _, by simp [upd], by simp [upd], by simp⟩
theorem end_more (b12 b11 k b bo : Nat) (es : List (List C)) (os : List (List C)) (hl : 0 < es.length) (ho : os.length ≤ 1073741824) : DoesB Try.prog 76 [.c (.box 12 b12 0), .c (.box 11 b11 0)] [(12, b12, [.sl false 1 (some (k, b)) es]), (11, b11, [.sl false 1 (some (8, bo)) os])] [(8, bo, os.length, 42, 1)]
    (fun β => (.tup [], [(12, b12, [.sl true 0 none []]), (11, b11, [.sl false 1 (some (8, β)) (os ++ [[.sl false 1 none es]])])], [(8, β, os.length + 1, 42, 1)])) := by
  refine DoesB.of_body Try.func76 rfl (by kernel_rfl) rfl rfl (by simp) (fun _ => rfl) fun E => ?_
  have hb : (os.length + 1) * 24 ≤ 140737488355328 := by omega
  repeat (first
    | (refine Tri.seq fun K hK => ?_)
    | (refine Tri.region ?_; simp [upd, hl, hb])
    | (refine Tri.draw (by kernel_rfl) (by decide +kernel) ?_; simp [upd, hl, hb])
    | (refine Tri.cond_true ?_ ?_; (focus simp [upd, hl, hb]; done))
    | (refine Tri.cond_false ?_ ?_; (focus simp [upd, hl, hb]; done))
    | (refine Tri.skip ?_; simp only [thenS, blockS])
    | (refine Tri.block_seq ?_)
    | (refine Tri.block_region ?_)
    | (refine Tri.block_cond ?_)
    | (refine Tri.exit ?_; simp [upd, hl, hb]; first | (rename ∀ st, Tri _ _ _ st _ → _ => hK; first | (apply hK; clear hK) | (clear hK; rename ∀ st, Tri _ _ _ st _ → _ => hK; first | (apply hK; clear hK) | (clear hK; rename ∀ st, Tri _ _ _ st _ → _ => hK; first | (apply hK; clear hK) | (clear hK; rename ∀ st, Tri _ _ _ st _ → _ => hK; first | (apply hK; clear hK) | (clear hK; rename ∀ st, Tri _ _ _ st _ → _ => hK; first | (apply hK; clear hK) | (clear hK; rename ∀ st, Tri _ _ _ st _ → _ => hK; apply hK; clear hK)))))) | skip)
    | (intro β)
    | (rename ∀ st, Tri _ _ _ st _ → _ => hK; apply hK; clear hK))
  exact ⟨_, β, [8], rfl, Wk.refl _, by simp [upd], by simp [upd], by simp⟩
end Go.Proofs.Ytngbpmiikpjiaaa
end
section
open Go Go.Vm
namespace Go.Proofs.Ytngbpmiikpjiaaa
set_option maxRecDepth 100000
set_option maxHeartbeats 1000000
set_option linter.unusedSimpArgs false
attribute [local irreducible] Tri Does DoesB Rounds
def lossGo (frm to : Int) : List Int → List Att → List (List Int)
  | run, [] => if run = [] then [] else [run]
  | run, a :: r => if a.frm = frm ∧ a.to = to then (if a.out = 1 then (if run = [] then lossGo frm to [] r else run :: lossGo frm to [] r) else lossGo frm to (run ++ [a.slot]) r) else lossGo frm to run r
def attsOf (r : Rec) (flow frame : Int) : List Att := r.atts.filter fun a => a.flow == flow && a.frame == frame
def losses (r : Rec) (flow frame frm to : Int) : List (List Int) := lossGo frm to [] (attsOf r flow frame)
structure LI (frm to : Int) (l : List Att) (nl : Bool) (st : St) (b12 b11 : Nat) (R O : C) (run : List Int) (outs : List (List Int)) (k : Nat) : Prop where
  hn : st.n = 54
  s3 : st.sl 3 = .c (.int .i64 frm)
  s4 : st.sl 4 = .c (.int .i64 to)
  s12 : st.sl 12 = .c (.box 12 b12 0)
  s11 : st.sl 11 = .c (.box 11 b11 0)
  s13 : st.sl 13 = .c (.fn 76 [.box 12 b12 0, .box 11 b11 0])
  s20 : st.sl 20 = .c (.sl nl 8 none (l.map attC))
  x12 : st.bx 12 = some (b12, [R])
  x11 : st.bx 11 = some (b11, [O])
  gR : GC st R 30 3 1 (I1 run)
  gO : GC st O 8 42 1 (runsC outs)
  lr : run.length ≤ k
  lo : outs.length ≤ k
  eq : lossGo frm to [] l = outs ++ lossGo frm to run (l.drop k)
def LInv (frm to : Int) (l : List Att) (nl : Bool) (k : Nat) (st : St) : Prop := ∃ b12 b11 R O run outs, LI frm to l nl st b12 b11 R O run outs k
theorem losses_does (r : Rec) (flow frame frm to : Int) (hl : r.atts.length ≤ 1073741824) : Does Try.prog 51 [.agg (recC r), .c (.int .i64 flow), .c (.int .i64 frame), .c (.int .i64 frm), .c (.int .i64 to)]
    (.c (.sl (losses r flow frame frm to).isEmpty 1 none (runsC (losses r flow frame frm to)))) := by
  refine Does.of_body Try.func51 rfl (by kernel_rfl) rfl rfl (by simp) ?_
  intro E
  have hat := attempts_does r flow frame (by omega)
  have hal : (attsOf r flow frame).length ≤ r.atts.length := List.length_filter_le ..
  change Does Try.prog 30 _ (.c (.sl (attsOf r flow frame).isEmpty 8 none ((attsOf r flow frame).map attC))) at hat
  unfold losses
  generalize attsOf r flow frame = l at hat hal
  simp only [recC] at hat ⊢
  repeat (first
    | (refine Tri.seq fun K hK => ?_)
    | (refine Tri.region ?_; simp [upd])
    | (refine Tri.draw (by kernel_rfl) (by decide +kernel) ?_; simp [upd])
    | (refine Tri.cond_true ?_ ?_; (focus simp [upd]; done))
    | (refine Tri.cond_false ?_ ?_; (focus simp [upd]; done))
    | (refine Tri.skip ?_; simp only [thenS, blockS])
    | (refine Tri.block_seq ?_)
    | (refine Tri.block_region ?_)
    | (refine Tri.block_cond ?_)
    | ((with_reducible refine CallK.pure (hat) (Wks.refl _) ?_); simp [upd])
    | (refine Tri.exit ?_; simp [upd]; first | (rename ∀ st, Tri _ _ _ st _ → _ => hK; first | (apply hK; clear hK) | (clear hK; rename ∀ st, Tri _ _ _ st _ → _ => hK; first | (apply hK; clear hK) | (clear hK; rename ∀ st, Tri _ _ _ st _ → _ => hK; first | (apply hK; clear hK) | (clear hK; rename ∀ st, Tri _ _ _ st _ → _ => hK; first | (apply hK; clear hK) | (clear hK; rename ∀ st, Tri _ _ _ st _ → _ => hK; first | (apply hK; clear hK) | (clear hK; rename ∀ st, Tri _ _ _ st _ → _ => hK; apply hK; clear hK)))))) | skip)
    | (intro β)
    | (rename ∀ st, Tri _ _ _ st _ → _ => hK; apply hK; clear hK))
  refine Tri.range 22 21 23 50 54 rfl rfl l.length (LInv frm to l l.isEmpty) (by simp) (by omega) ?_ rfl (by simp [upd]) (by simp [upd]) ?_ ?_ ?_
  · rintro k st t v ht ⟨b12, b11, R, O, run, outs, h⟩
    refine ⟨b12, b11, R, O, run, outs, ?_⟩
    rcases ht with rfl | rfl | rfl <;> exact ⟨h.hn, by simpa [upd] using h.s3, by simpa [upd] using h.s4, by simpa [upd] using h.s12, by simpa [upd] using h.s11, by simpa [upd] using h.s13, by simpa [upd] using h.s20, h.x12, h.x11, h.gR.put _ _, h.gO.put _ _, h.lr, h.lo, h.eq⟩
  · refine ⟨_, _, .sl true 0 none [], .sl true 0 none [], [], [], ⟨rfl, by simp [upd], by simp [upd], by simp [upd] <;> exact rfl, by simp [upd] <;> exact rfl, by simp [upd], by simp [upd], by simp [upd], by simp [upd], .inl ⟨rfl, _, _, rfl⟩, .inl ⟨rfl, _, _, rfl⟩, by simp, by simp, rfl⟩⟩
  · rintro k st hk ⟨b12, b11, R, O, run, outs, ⟨hn, s3, s4, s12, s11, s13, s20, x12, x11, gR, gO, lr, lo, eq⟩⟩ - h22 h21
    have hd : l.drop k = l[k] :: l.drop (k + 1) := List.drop_eq_getElem_cons hk
    rw [hd, lossGo] at eq
    by_cases hc : l[k].frm = frm ∧ l[k].to = to
    case neg =>
      rw [if_neg hc] at eq
      cases e1 : (l[k].frm == frm)
      case false =>
        repeat (first
          | (refine Tri.seq fun K hK => ?_)
          | (refine Tri.region ?_; simp [upd, hn, s3, s4, s12, s11, s13, s20, x12, x11, h22, h21, hk, e1, bne])
          | (refine Tri.draw (by kernel_rfl) (by decide +kernel) ?_; simp [upd, hn, s3, s4, s12, s11, s13, s20, x12, x11, h22, h21, hk, e1, bne])
          | (refine Tri.cond_true ?_ ?_; (focus simp [upd, hn, s3, s4, s12, s11, s13, s20, x12, x11, h22, h21, hk, e1, bne]; done))
          | (refine Tri.cond_false ?_ ?_; (focus simp [upd, hn, s3, s4, s12, s11, s13, s20, x12, x11, h22, h21, hk, e1, bne]; done))
          | (refine Tri.skip ?_; simp only [thenS, blockS])
          | (refine Tri.block_seq ?_)
          | (refine Tri.block_region ?_)
          | (refine Tri.block_cond ?_)
          | (refine Tri.exit ?_; simp [upd, hn, s3, s4, s12, s11, s13, s20, x12, x11, h22, h21, hk, e1, bne]; first | (rename ∀ st, Tri _ _ _ st _ → _ => hK; first | (apply hK; clear hK) | (clear hK; rename ∀ st, Tri _ _ _ st _ → _ => hK; first | (apply hK; clear hK) | (clear hK; rename ∀ st, Tri _ _ _ st _ → _ => hK; first | (apply hK; clear hK) | (clear hK; rename ∀ st, Tri _ _ _ st _ → _ => hK; first | (apply hK; clear hK) | (clear hK; rename ∀ st, Tri _ _ _ st _ → _ => hK; first | (apply hK; clear hK) | (clear hK; rename ∀ st, Tri _ _ _ st _ → _ => hK; apply hK; clear hK)))))) | skip)
          | (intro β)
          | (rename ∀ st, Tri _ _ _ st _ → _ => hK; apply hK; clear hK))
        try simp [upd, h22, h21]
        refine ⟨b12, b11, R, O, run, outs, ⟨rfl, by simpa [upd] using s3, by simpa [upd] using s4, by simpa [upd] using s12, by simpa [upd] using s11, by simpa [upd] using s13, by simpa [upd] using s20, by simp [upd, x12] <;> exact rfl, by simp [upd, x11] <;> exact rfl, ?_, ?_, ?_, ?_, ?_⟩⟩
        · simpa [GC] using gR
        · simpa [GC] using gO
        · omega
        · omega
        · exact eq
      case true =>
        have e2 : (l[k].to == to) = false := by
          cases h : (l[k].to == to)
          · rfl
          · exact absurd ⟨by simpa using e1, by simpa using h⟩ hc
        repeat (first
          | (refine Tri.seq fun K hK => ?_)
          | (refine Tri.region ?_; simp [upd, hn, s3, s4, s12, s11, s13, s20, x12, x11, h22, h21, hk, e1, e2, bne])
          | (refine Tri.draw (by kernel_rfl) (by decide +kernel) ?_; simp [upd, hn, s3, s4, s12, s11, s13, s20, x12, x11, h22, h21, hk, e1, e2, bne])
          | (refine Tri.cond_true ?_ ?_; (focus simp [upd, hn, s3, s4, s12, s11, s13, s20, x12, x11, h22, h21, hk, e1, e2, bne]; done))
          | (refine Tri.cond_false ?_ ?_; (focus simp [upd, hn, s3, s4, s12, s11, s13, s20, x12, x11, h22, h21, hk, e1, e2, bne]; done))
          | (refine Tri.skip ?_; simp only [thenS, blockS])
          | (refine Tri.block_seq ?_)
          | (refine Tri.block_region ?_)
          | (refine Tri.block_cond ?_)
          | (refine Tri.exit ?_; simp [upd, hn, s3, s4, s12, s11, s13, s20, x12, x11, h22, h21, hk, e1, e2, bne]; first | (rename ∀ st, Tri _ _ _ st _ → _ => hK; first | (apply hK; clear hK) | (clear hK; rename ∀ st, Tri _ _ _ st _ → _ => hK; first | (apply hK; clear hK) | (clear hK; rename ∀ st, Tri _ _ _ st _ → _ => hK; first | (apply hK; clear hK) | (clear hK; rename ∀ st, Tri _ _ _ st _ → _ => hK; first | (apply hK; clear hK) | (clear hK; rename ∀ st, Tri _ _ _ st _ → _ => hK; first | (apply hK; clear hK) | (clear hK; rename ∀ st, Tri _ _ _ st _ → _ => hK; apply hK; clear hK)))))) | skip)
          | (intro β)
          | (rename ∀ st, Tri _ _ _ st _ → _ => hK; apply hK; clear hK))
        try simp [upd, h22, h21]
        refine ⟨b12, b11, R, O, run, outs, ⟨rfl, by simpa [upd] using s3, by simpa [upd] using s4, by simpa [upd] using s12, by simpa [upd] using s11, by simpa [upd] using s13, by simpa [upd] using s20, by simp [upd, x12] <;> exact rfl, by simp [upd, x11] <;> exact rfl, ?_, ?_, ?_, ?_, ?_⟩⟩
        · simpa [GC] using gR
        · simpa [GC] using gO
        · omega
        · omega
        · exact eq
    rw [if_pos hc] at eq
    have e1 : (l[k].frm == frm) = true := by simpa using hc.1
    have e2 : (l[k].to == to) = true := by simpa using hc.2
    cases e3 : (l[k].out == 1)
    case false =>
      rw [if_neg (by simpa using e3)] at eq
      rcases gR with ⟨hnil, k0, own, rfl⟩ | ⟨b, hne, rfl, hrw⟩
      · have hrun : run = [] := by simpa [I1] using hnil
        subst hrun
        repeat (first
          | (refine Tri.seq fun K hK => ?_)
          | (refine Tri.region ?_; simp [upd, hn, s3, s4, s12, s11, s13, s20, x12, x11, h22, h21, hk, e1, e2, e3, bne])
          | (refine Tri.draw (by kernel_rfl) (by decide +kernel) ?_; simp [upd, hn, s3, s4, s12, s11, s13, s20, x12, x11, h22, h21, hk, e1, e2, e3, bne])
          | (refine Tri.cond_true ?_ ?_; (focus simp [upd, hn, s3, s4, s12, s11, s13, s20, x12, x11, h22, h21, hk, e1, e2, e3, bne]; done))
          | (refine Tri.cond_false ?_ ?_; (focus simp [upd, hn, s3, s4, s12, s11, s13, s20, x12, x11, h22, h21, hk, e1, e2, e3, bne]; done))
          | (refine Tri.skip ?_; simp only [thenS, blockS])
          | (refine Tri.block_seq ?_)
          | (refine Tri.block_region ?_)
          | (refine Tri.block_cond ?_)
          | (refine Tri.exit ?_; simp [upd, hn, s3, s4, s12, s11, s13, s20, x12, x11, h22, h21, hk, e1, e2, e3, bne]; first | (rename ∀ st, Tri _ _ _ st _ → _ => hK; first | (apply hK; clear hK) | (clear hK; rename ∀ st, Tri _ _ _ st _ → _ => hK; first | (apply hK; clear hK) | (clear hK; rename ∀ st, Tri _ _ _ st _ → _ => hK; first | (apply hK; clear hK) | (clear hK; rename ∀ st, Tri _ _ _ st _ → _ => hK; first | (apply hK; clear hK) | (clear hK; rename ∀ st, Tri _ _ _ st _ → _ => hK; first | (apply hK; clear hK) | (clear hK; rename ∀ st, Tri _ _ _ st _ → _ => hK; apply hK; clear hK)))))) | skip)
          | (intro β)
          | (rename ∀ st, Tri _ _ _ st _ → _ => hK; apply hK; clear hK))
        try simp [upd, h22, h21]
        refine ⟨b12, b11, .sl false 1 (some (30, β)) (I1 [l[k].slot]), O, [l[k].slot], outs, ⟨rfl, by simpa [upd] using s3, by simpa [upd] using s4, by simpa [upd] using s12, by simpa [upd] using s11, by simpa [upd] using s13, by simpa [upd] using s20, by simp [upd, x12] <;> exact rfl, by simp [upd, x11] <;> exact rfl, ?_, ?_, ?_, ?_, ?_⟩⟩
        · exact .inr ⟨β, by simp [I1], rfl, by simp [upd, I1]⟩
        · simpa [GC, upd] using gO
        · simp
        · omega
        · simpa using eq
      · have hb : ((I1 run).length + 1) * 8 ≤ 140737488355328 := by simp [I1]; omega
        have hb2 : (I1 run).length = run.length := by simp [I1]
        repeat (first
          | (refine Tri.seq fun K hK => ?_)
          | (refine Tri.region ?_; simp [upd, hn, s3, s4, s12, s11, s13, s20, x12, x11, h22, h21, hk, e1, e2, e3, hrw, hb, bne])
          | (refine Tri.draw (by kernel_rfl) (by decide +kernel) ?_; simp [upd, hn, s3, s4, s12, s11, s13, s20, x12, x11, h22, h21, hk, e1, e2, e3, hrw, hb, bne])
          | (refine Tri.cond_true ?_ ?_; (focus simp [upd, hn, s3, s4, s12, s11, s13, s20, x12, x11, h22, h21, hk, e1, e2, e3, hrw, hb, bne]; done))
          | (refine Tri.cond_false ?_ ?_; (focus simp [upd, hn, s3, s4, s12, s11, s13, s20, x12, x11, h22, h21, hk, e1, e2, e3, hrw, hb, bne]; done))
          | (refine Tri.skip ?_; simp only [thenS, blockS])
          | (refine Tri.block_seq ?_)
          | (refine Tri.block_region ?_)
          | (refine Tri.block_cond ?_)
          | (refine Tri.exit ?_; simp [upd, hn, s3, s4, s12, s11, s13, s20, x12, x11, h22, h21, hk, e1, e2, e3, hrw, hb, bne]; first | (rename ∀ st, Tri _ _ _ st _ → _ => hK; first | (apply hK; clear hK) | (clear hK; rename ∀ st, Tri _ _ _ st _ → _ => hK; first | (apply hK; clear hK) | (clear hK; rename ∀ st, Tri _ _ _ st _ → _ => hK; first | (apply hK; clear hK) | (clear hK; rename ∀ st, Tri _ _ _ st _ → _ => hK; first | (apply hK; clear hK) | (clear hK; rename ∀ st, Tri _ _ _ st _ → _ => hK; first | (apply hK; clear hK) | (clear hK; rename ∀ st, Tri _ _ _ st _ → _ => hK; apply hK; clear hK)))))) | skip)
          | (intro β)
          | (rename ∀ st, Tri _ _ _ st _ → _ => hK; apply hK; clear hK))
        try simp [upd, h22, h21]
        refine ⟨b12, b11, .sl false 1 (some (30, β)) (I1 run ++ [[.int .i64 l[k].slot]]), O, run ++ [l[k].slot], outs, ⟨rfl, by simpa [upd] using s3, by simpa [upd] using s4, by simpa [upd] using s12, by simpa [upd] using s11, by simpa [upd] using s13, by simpa [upd] using s20, by simp [upd, x12] <;> exact rfl, by simp [upd, x11] <;> exact rfl, ?_, ?_, ?_, ?_, ?_⟩⟩
        · exact .inr ⟨β, by simp [I1], by simp [I1], by simp [upd, I1]⟩
        · simpa [GC, upd] using gO
        · simp; omega
        · omega
        · simpa using eq
    case true =>
      rw [if_pos (by simpa using e3)] at eq
      rcases gR with ⟨hnil, k0, own, rfl⟩ | ⟨b, hne, rfl, hrw⟩
      · have hrun : run = [] := by simpa [I1] using hnil
        subst hrun
        rw [if_pos rfl] at eq
        repeat (first
          | (refine Tri.seq fun K hK => ?_)
          | (refine Tri.region ?_; simp [upd, hn, s3, s4, s12, s11, s13, s20, x12, x11, h22, h21, hk, e1, e2, e3, bne])
          | (refine Tri.draw (by kernel_rfl) (by decide +kernel) ?_; simp [upd, hn, s3, s4, s12, s11, s13, s20, x12, x11, h22, h21, hk, e1, e2, e3, bne])
          | (refine Tri.cond_true ?_ ?_; (focus simp [upd, hn, s3, s4, s12, s11, s13, s20, x12, x11, h22, h21, hk, e1, e2, e3, bne]; done))
          | (refine Tri.cond_false ?_ ?_; (focus simp [upd, hn, s3, s4, s12, s11, s13, s20, x12, x11, h22, h21, hk, e1, e2, e3, bne]; done))
          | (refine Tri.skip ?_; simp only [thenS, blockS])
          | (refine Tri.block_seq ?_)
          | (refine Tri.block_region ?_)
          | (refine Tri.block_cond ?_)
          | (refine CallK.boxes (end_nil b12 b11 k0 own O) (Wks.refl _) ?_ ?_ ?_; (focus (simp [upd, x12, x11]; done)); (focus (simp; done)); simp [upd, hn, s3, s4, s12, s11, s13, s20, x12, x11, h22, h21, hk, e1, e2, e3, bne])
          | (refine Tri.exit ?_; simp [upd, hn, s3, s4, s12, s11, s13, s20, x12, x11, h22, h21, hk, e1, e2, e3, bne]; first | (rename ∀ st, Tri _ _ _ st _ → _ => hK; first | (apply hK; clear hK) | (clear hK; rename ∀ st, Tri _ _ _ st _ → _ => hK; first | (apply hK; clear hK) | (clear hK; rename ∀ st, Tri _ _ _ st _ → _ => hK; first | (apply hK; clear hK) | (clear hK; rename ∀ st, Tri _ _ _ st _ → _ => hK; first | (apply hK; clear hK) | (clear hK; rename ∀ st, Tri _ _ _ st _ → _ => hK; first | (apply hK; clear hK) | (clear hK; rename ∀ st, Tri _ _ _ st _ → _ => hK; apply hK; clear hK)))))) | skip)
          | (intro β)
          | (rename ∀ st, Tri _ _ _ st _ → _ => hK; apply hK; clear hK))
        try simp [upd, h22, h21]
        refine ⟨b12, b11, .sl true 0 none [], O, [], outs, ⟨rfl, by simpa [upd] using s3, by simpa [upd] using s4, by simpa [upd] using s12, by simpa [upd] using s11, by simpa [upd] using s13, by simpa [upd] using s20, by simp [upd, x12] <;> exact rfl, by simp [upd, x11] <;> exact rfl, ?_, ?_, ?_, ?_, ?_⟩⟩
        · exact .inl ⟨rfl, _, _, rfl⟩
        · simpa [GC, upd] using gO
        · simp
        · omega
        · exact eq
      · have hrun : run ≠ [] := by intro e; subst e; exact hne rfl
        have hl2 : 0 < (I1 run).length := by cases run <;> simp_all [I1]
        rw [if_neg hrun] at eq
        rcases gO with ⟨hnil, k0, own, rfl⟩ | ⟨bo, hneo, rfl, hrwo⟩
        · have hout : outs = [] := by simpa [runsC] using hnil
          subst hout
          repeat (first
            | (refine Tri.seq fun K hK => ?_)
            | (refine Tri.region ?_; simp [upd, hn, s3, s4, s12, s11, s13, s20, x12, x11, h22, h21, hk, e1, e2, e3, bne])
            | (refine Tri.draw (by kernel_rfl) (by decide +kernel) ?_; simp [upd, hn, s3, s4, s12, s11, s13, s20, x12, x11, h22, h21, hk, e1, e2, e3, bne])
            | (refine Tri.cond_true ?_ ?_; (focus simp [upd, hn, s3, s4, s12, s11, s13, s20, x12, x11, h22, h21, hk, e1, e2, e3, bne]; done))
            | (refine Tri.cond_false ?_ ?_; (focus simp [upd, hn, s3, s4, s12, s11, s13, s20, x12, x11, h22, h21, hk, e1, e2, e3, bne]; done))
            | (refine Tri.skip ?_; simp only [thenS, blockS])
            | (refine Tri.block_seq ?_)
            | (refine Tri.block_region ?_)
            | (refine Tri.block_cond ?_)
            | (refine CallK.boxed (end_first b12 b11 k0 30 b own (I1 run) hl2) [12, 11] [] [8] (fun _ => .tup []) (Wks.refl _) (by simp [upd, x12, x11]) trivial (by simp) (by simp) (fun _ => Wk.refl _) (fun _ => rfl) (by simp) ?_; intro β; simp [upd, hn, s3, s4, s12, s11, s13, s20, x12, x11, h22, h21, hk, e1, e2, e3, bne])
            | (refine Tri.exit ?_; simp [upd, hn, s3, s4, s12, s11, s13, s20, x12, x11, h22, h21, hk, e1, e2, e3, bne]; first | (rename ∀ st, Tri _ _ _ st _ → _ => hK; first | (apply hK; clear hK) | (clear hK; rename ∀ st, Tri _ _ _ st _ → _ => hK; first | (apply hK; clear hK) | (clear hK; rename ∀ st, Tri _ _ _ st _ → _ => hK; first | (apply hK; clear hK) | (clear hK; rename ∀ st, Tri _ _ _ st _ → _ => hK; first | (apply hK; clear hK) | (clear hK; rename ∀ st, Tri _ _ _ st _ → _ => hK; first | (apply hK; clear hK) | (clear hK; rename ∀ st, Tri _ _ _ st _ → _ => hK; apply hK; clear hK)))))) | skip)
            | (intro β)
            | (rename ∀ st, Tri _ _ _ st _ → _ => hK; apply hK; clear hK))
          try simp [upd, h22, h21]
          refine ⟨b12, b11, .sl true 0 none [], .sl false 1 (some (8, β)) [[.sl false 1 none (I1 run)]], [], [run], ⟨rfl, by simpa [upd] using s3, by simpa [upd] using s4, by simpa [upd] using s12, by simpa [upd] using s11, by simpa [upd] using s13, by simpa [upd] using s20, by simp [upd, x12] <;> exact rfl, by simp [upd, x11] <;> exact rfl, ?_, ?_, ?_, ?_, ?_⟩⟩
          · exact .inl ⟨rfl, _, _, rfl⟩
          · exact .inr ⟨β, by simp [runsC], by simp [runsC, runC], by simp [upd, runsC]⟩
          · simp
          · simp
          · exact eq
        · have ho2 : (runsC outs).length ≤ 1073741824 := by simp [runsC]; omega
          repeat (first
            | (refine Tri.seq fun K hK => ?_)
            | (refine Tri.region ?_; simp [upd, hn, s3, s4, s12, s11, s13, s20, x12, x11, h22, h21, hk, e1, e2, e3, bne])
            | (refine Tri.draw (by kernel_rfl) (by decide +kernel) ?_; simp [upd, hn, s3, s4, s12, s11, s13, s20, x12, x11, h22, h21, hk, e1, e2, e3, bne])
            | (refine Tri.cond_true ?_ ?_; (focus simp [upd, hn, s3, s4, s12, s11, s13, s20, x12, x11, h22, h21, hk, e1, e2, e3, bne]; done))
            | (refine Tri.cond_false ?_ ?_; (focus simp [upd, hn, s3, s4, s12, s11, s13, s20, x12, x11, h22, h21, hk, e1, e2, e3, bne]; done))
            | (refine Tri.skip ?_; simp only [thenS, blockS])
            | (refine Tri.block_seq ?_)
            | (refine Tri.block_region ?_)
            | (refine Tri.block_cond ?_)
            | (refine CallK.boxed (end_more b12 b11 30 b bo (I1 run) (runsC outs) hl2 ho2) [12, 11] [8] [8] (fun _ => .tup []) (Wks.refl _) (by simp [upd, x12, x11]) (by simp [upd, hrwo]) (by simp) (by simp) (fun _ => Wk.refl _) (fun _ => rfl) (by simp) ?_; intro β; simp [upd, hn, s3, s4, s12, s11, s13, s20, x12, x11, h22, h21, hk, e1, e2, e3, bne])
            | (refine Tri.exit ?_; simp [upd, hn, s3, s4, s12, s11, s13, s20, x12, x11, h22, h21, hk, e1, e2, e3, bne]; first | (rename ∀ st, Tri _ _ _ st _ → _ => hK; first | (apply hK; clear hK) | (clear hK; rename ∀ st, Tri _ _ _ st _ → _ => hK; first | (apply hK; clear hK) | (clear hK; rename ∀ st, Tri _ _ _ st _ → _ => hK; first | (apply hK; clear hK) | (clear hK; rename ∀ st, Tri _ _ _ st _ → _ => hK; first | (apply hK; clear hK) | (clear hK; rename ∀ st, Tri _ _ _ st _ → _ => hK; first | (apply hK; clear hK) | (clear hK; rename ∀ st, Tri _ _ _ st _ → _ => hK; apply hK; clear hK)))))) | skip)
            | (intro β)
            | (rename ∀ st, Tri _ _ _ st _ → _ => hK; apply hK; clear hK))
          try simp [upd, h22, h21]
          refine ⟨b12, b11, .sl true 0 none [], .sl false 1 (some (8, β)) (runsC outs ++ [[.sl false 1 none (I1 run)]]), [], outs ++ [run], ⟨rfl, by simpa [upd] using s3, by simpa [upd] using s4, by simpa [upd] using s12, by simpa [upd] using s11, by simpa [upd] using s13, by simpa [upd] using s20, by simp [upd, x12] <;> exact rfl, by simp [upd, x11] <;> exact rfl, ?_, ?_, ?_, ?_, ?_⟩⟩
          · exact .inl ⟨rfl, _, _, rfl⟩
          · exact .inr ⟨β, by simp [runsC], by simp [runsC, runC], by simp [upd, runsC]⟩
          · simp
          · simp; omega
          · simpa using eq
  · rintro st ⟨b12, b11, R, O, run, outs, ⟨hn, s3, s4, s12, s11, s13, s20, x12, x11, gR, gO, lr, lo, eq⟩⟩ -
    rw [List.drop_length, lossGo] at eq
    apply hK
    have ret : ∀ (st : St) (O : C) (outs : List (List Int)), GC st O 8 42 1 (runsC outs) → Wk (.c O) (.c (.sl outs.isEmpty 1 none (runsC outs))) := fun st O outs h => by simpa [runsC] using h.wk
    have iO : C.isO O = false := gO.isO
    simp only [C.isO] at iO
    rcases gR with ⟨hnil, k0, own, rfl⟩ | ⟨b, hne, rfl, hrw⟩
    · have hrun : run = [] := by simpa [I1] using hnil
      subst hrun
      rw [if_pos rfl, List.append_nil] at eq
      rw [eq]
      repeat (first
        | (refine Tri.seq fun K hK => ?_)
        | (refine Tri.region ?_; simp [upd, hn, s3, s4, s12, s11, s13, s20, x12, x11, iO])
        | (refine Tri.draw (by kernel_rfl) (by decide +kernel) ?_; simp [upd, hn, s3, s4, s12, s11, s13, s20, x12, x11, iO])
        | (refine Tri.cond_true ?_ ?_; (focus simp [upd, hn, s3, s4, s12, s11, s13, s20, x12, x11, iO]; done))
        | (refine Tri.cond_false ?_ ?_; (focus simp [upd, hn, s3, s4, s12, s11, s13, s20, x12, x11, iO]; done))
        | (refine Tri.skip ?_; simp only [thenS, blockS])
        | (refine Tri.block_seq ?_)
        | (refine Tri.block_region ?_)
        | (refine Tri.block_cond ?_)
        | (refine CallK.boxes (end_nil b12 b11 k0 own O) (Wks.refl _) ?_ ?_ ?_; (focus (simp [upd, x12, x11]; done)); (focus (simp; done)); simp [upd, hn, s3, s4, s12, s11, s13, s20, x12, x11, iO])
        | (refine Tri.exit ?_; simp [upd, hn, s3, s4, s12, s11, s13, s20, x12, x11, iO]; first | (rename ∀ st, Tri _ _ _ st _ → _ => hK; first | (apply hK; clear hK) | (clear hK; rename ∀ st, Tri _ _ _ st _ → _ => hK; first | (apply hK; clear hK) | (clear hK; rename ∀ st, Tri _ _ _ st _ → _ => hK; first | (apply hK; clear hK) | (clear hK; rename ∀ st, Tri _ _ _ st _ → _ => hK; first | (apply hK; clear hK) | (clear hK; rename ∀ st, Tri _ _ _ st _ → _ => hK; first | (apply hK; clear hK) | (clear hK; rename ∀ st, Tri _ _ _ st _ → _ => hK; apply hK; clear hK)))))) | skip)
        | (intro β)
        | (rename ∀ st, Tri _ _ _ st _ → _ => hK; apply hK; clear hK))
      refine Tri.ret ⟨_, rfl, ?_⟩
      simp [upd]
      exact ret st _ _ gO
    · have hrun : run ≠ [] := by intro e; subst e; exact hne rfl
      have hl2 : 0 < (I1 run).length := by cases run <;> simp_all [I1]
      rw [if_neg hrun] at eq
      rw [eq]
      rcases gO with ⟨hnil, k0, own, rfl⟩ | ⟨bo, hneo, rfl, hrwo⟩
      · have hout : outs = [] := by simpa [runsC] using hnil
        subst hout
        repeat (first
          | (refine Tri.seq fun K hK => ?_)
          | (refine Tri.region ?_; simp [upd, hn, s3, s4, s12, s11, s13, s20, x12, x11])
          | (refine Tri.draw (by kernel_rfl) (by decide +kernel) ?_; simp [upd, hn, s3, s4, s12, s11, s13, s20, x12, x11])
          | (refine Tri.cond_true ?_ ?_; (focus simp [upd, hn, s3, s4, s12, s11, s13, s20, x12, x11]; done))
          | (refine Tri.cond_false ?_ ?_; (focus simp [upd, hn, s3, s4, s12, s11, s13, s20, x12, x11]; done))
          | (refine Tri.skip ?_; simp only [thenS, blockS])
          | (refine Tri.block_seq ?_)
          | (refine Tri.block_region ?_)
          | (refine Tri.block_cond ?_)
          | (refine CallK.boxed (end_first b12 b11 k0 30 b own (I1 run) hl2) [12, 11] [] [8] (fun _ => .tup []) (Wks.refl _) (by simp [upd, x12, x11]) trivial (by simp) (by simp) (fun _ => Wk.refl _) (fun _ => rfl) (by simp) ?_; intro β; simp [upd, hn, s3, s4, s12, s11, s13, s20, x12, x11])
          | (refine Tri.exit ?_; simp [upd, hn, s3, s4, s12, s11, s13, s20, x12, x11]; first | (rename ∀ st, Tri _ _ _ st _ → _ => hK; first | (apply hK; clear hK) | (clear hK; rename ∀ st, Tri _ _ _ st _ → _ => hK; first | (apply hK; clear hK) | (clear hK; rename ∀ st, Tri _ _ _ st _ → _ => hK; first | (apply hK; clear hK) | (clear hK; rename ∀ st, Tri _ _ _ st _ → _ => hK; first | (apply hK; clear hK) | (clear hK; rename ∀ st, Tri _ _ _ st _ → _ => hK; first | (apply hK; clear hK) | (clear hK; rename ∀ st, Tri _ _ _ st _ → _ => hK; apply hK; clear hK)))))) | skip)
          | (intro β)
          | (rename ∀ st, Tri _ _ _ st _ → _ => hK; apply hK; clear hK))
        refine Tri.ret ⟨_, rfl, ?_⟩
        simp [upd, runsC, runC]
        exact .untag _ _ _ _
      · have ho2 : (runsC outs).length ≤ 1073741824 := by simp [runsC]; omega
        repeat (first
          | (refine Tri.seq fun K hK => ?_)
          | (refine Tri.region ?_; simp [upd, hn, s3, s4, s12, s11, s13, s20, x12, x11])
          | (refine Tri.draw (by kernel_rfl) (by decide +kernel) ?_; simp [upd, hn, s3, s4, s12, s11, s13, s20, x12, x11])
          | (refine Tri.cond_true ?_ ?_; (focus simp [upd, hn, s3, s4, s12, s11, s13, s20, x12, x11]; done))
          | (refine Tri.cond_false ?_ ?_; (focus simp [upd, hn, s3, s4, s12, s11, s13, s20, x12, x11]; done))
          | (refine Tri.skip ?_; simp only [thenS, blockS])
          | (refine Tri.block_seq ?_)
          | (refine Tri.block_region ?_)
          | (refine Tri.block_cond ?_)
          | (refine CallK.boxed (end_more b12 b11 30 b bo (I1 run) (runsC outs) hl2 ho2) [12, 11] [8] [8] (fun _ => .tup []) (Wks.refl _) (by simp [upd, x12, x11]) (by simp [upd, hrwo]) (by simp) (by simp) (fun _ => Wk.refl _) (fun _ => rfl) (by simp) ?_; intro β; simp [upd, hn, s3, s4, s12, s11, s13, s20, x12, x11])
          | (refine Tri.exit ?_; simp [upd, hn, s3, s4, s12, s11, s13, s20, x12, x11]; first | (rename ∀ st, Tri _ _ _ st _ → _ => hK; first | (apply hK; clear hK) | (clear hK; rename ∀ st, Tri _ _ _ st _ → _ => hK; first | (apply hK; clear hK) | (clear hK; rename ∀ st, Tri _ _ _ st _ → _ => hK; first | (apply hK; clear hK) | (clear hK; rename ∀ st, Tri _ _ _ st _ → _ => hK; first | (apply hK; clear hK) | (clear hK; rename ∀ st, Tri _ _ _ st _ → _ => hK; first | (apply hK; clear hK) | (clear hK; rename ∀ st, Tri _ _ _ st _ → _ => hK; apply hK; clear hK)))))) | skip)
          | (intro β)
          | (rename ∀ st, Tri _ _ _ st _ → _ => hK; apply hK; clear hK))
        refine Tri.ret ⟨_, rfl, ?_⟩
        have hem : (outs ++ [run]).isEmpty = false := by cases outs <;> rfl
        rw [hem]
        simp [upd, runsC, runC]
        exact .untag _ _ _ _
end Go.Proofs.Ytngbpmiikpjiaaa
end
section
open Go Go.Vm
namespace Go.Proofs.Ytngbpmiikpjiaaa
set_option maxRecDepth 100000
set_option maxHeartbeats 1000000
set_option linter.unusedSimpArgs false
attribute [local irreducible] Tri Does DoesB Rounds
theorem few_does (r : Rec) : Does Try.prog 39 [.agg (recC r)] (.c (.bool (decide (r.atts.length ≤ 150) && decide (r.dels.length ≤ 100)))) := by
  refine Does.of_body Try.func39 rfl (by kernel_rfl) rfl rfl (by simp) ?_
  intro E
  simp only [recC]
  by_cases h1 : (r.atts.length : Int) ≤ 150
  · have e1 : decide (r.atts.length ≤ 150) = true := by simpa using (by omega : r.atts.length ≤ 150)
    rw [e1, Bool.true_and]
    repeat (first
      | (refine Tri.seq fun K hK => ?_)
      | (refine Tri.region ?_; simp [upd, h1])
      | (refine Tri.draw (by kernel_rfl) (by decide +kernel) ?_; simp [upd, h1])
      | (refine Tri.cond_true ?_ ?_; (focus simp [upd, h1]; done))
      | (refine Tri.cond_false ?_ ?_; (focus simp [upd, h1]; done))
      | (refine Tri.skip ?_; simp only [thenS, blockS])
      | (refine Tri.block_seq ?_)
      | (refine Tri.block_region ?_)
      | (refine Tri.block_cond ?_)
      | (refine Tri.exit ?_; simp [upd, h1]; first | (rename ∀ st, Tri _ _ _ st _ → _ => hK; first | (apply hK; clear hK) | (clear hK; rename ∀ st, Tri _ _ _ st _ → _ => hK; first | (apply hK; clear hK) | (clear hK; rename ∀ st, Tri _ _ _ st _ → _ => hK; first | (apply hK; clear hK) | (clear hK; rename ∀ st, Tri _ _ _ st _ → _ => hK; first | (apply hK; clear hK) | (clear hK; rename ∀ st, Tri _ _ _ st _ → _ => hK; first | (apply hK; clear hK) | (clear hK; rename ∀ st, Tri _ _ _ st _ → _ => hK; apply hK; clear hK)))))) | skip)
      | (intro β)
      | (rename ∀ st, Tri _ _ _ st _ → _ => hK; apply hK; clear hK))
    refine Tri.ret ⟨_, rfl, ?_⟩
    simp [upd]
    exact Wk.of_eq (by congr 2; simp; omega)
  · have e1 : decide (r.atts.length ≤ 150) = false := by simpa using (by omega : ¬ r.atts.length ≤ 150)
    rw [e1, Bool.false_and]
    repeat (first
      | (refine Tri.seq fun K hK => ?_)
      | (refine Tri.region ?_; simp [upd, h1])
      | (refine Tri.draw (by kernel_rfl) (by decide +kernel) ?_; simp [upd, h1])
      | (refine Tri.cond_true ?_ ?_; (focus simp [upd, h1]; done))
      | (refine Tri.cond_false ?_ ?_; (focus simp [upd, h1]; done))
      | (refine Tri.skip ?_; simp only [thenS, blockS])
      | (refine Tri.block_seq ?_)
      | (refine Tri.block_region ?_)
      | (refine Tri.block_cond ?_)
      | (refine Tri.exit ?_; simp [upd, h1]; first | (rename ∀ st, Tri _ _ _ st _ → _ => hK; first | (apply hK; clear hK) | (clear hK; rename ∀ st, Tri _ _ _ st _ → _ => hK; first | (apply hK; clear hK) | (clear hK; rename ∀ st, Tri _ _ _ st _ → _ => hK; first | (apply hK; clear hK) | (clear hK; rename ∀ st, Tri _ _ _ st _ → _ => hK; first | (apply hK; clear hK) | (clear hK; rename ∀ st, Tri _ _ _ st _ → _ => hK; first | (apply hK; clear hK) | (clear hK; rename ∀ st, Tri _ _ _ st _ → _ => hK; apply hK; clear hK)))))) | skip)
      | (intro β)
      | (rename ∀ st, Tri _ _ _ st _ → _ => hK; apply hK; clear hK))
    refine Tri.ret ⟨_, rfl, ?_⟩
    simp [upd]
    exact Wk.refl _
theorem equalI_does (x y : List Int) (n1 n2 : Bool) (hl : x.length ≤ 1073741824) : Does Try.prog 38 [.c (.sl n1 1 none (I1 x)), .c (.sl n2 1 none (I1 y))] (.c (.bool (x == y))) := by
  refine Does.of_body Try.func38 rfl (by kernel_rfl) rfl rfl (by simp) ?_
  intro E
  unfold I1
  cases g : ((x.length : Int) == (y.length : Int))
  case false =>
    have e : (x == y) = false := by
      cases h : (x == y)
      · rfl
      · rw [eq_of_beq h] at g; simp at g
    rw [e]
    repeat (first
      | (refine Tri.seq fun K hK => ?_)
      | (refine Tri.region ?_; simp [upd, g, bne])
      | (refine Tri.draw (by kernel_rfl) (by decide +kernel) ?_; simp [upd, g, bne])
      | (refine Tri.cond_true ?_ ?_; (focus simp [upd, g, bne]; done))
      | (refine Tri.cond_false ?_ ?_; (focus simp [upd, g, bne]; done))
      | (refine Tri.skip ?_; simp only [thenS, blockS])
      | (refine Tri.block_seq ?_)
      | (refine Tri.block_region ?_)
      | (refine Tri.block_cond ?_)
      | (refine Tri.exit ?_; simp [upd, g, bne]; first | (rename ∀ st, Tri _ _ _ st _ → _ => hK; first | (apply hK; clear hK) | (clear hK; rename ∀ st, Tri _ _ _ st _ → _ => hK; first | (apply hK; clear hK) | (clear hK; rename ∀ st, Tri _ _ _ st _ → _ => hK; first | (apply hK; clear hK) | (clear hK; rename ∀ st, Tri _ _ _ st _ → _ => hK; first | (apply hK; clear hK) | (clear hK; rename ∀ st, Tri _ _ _ st _ → _ => hK; first | (apply hK; clear hK) | (clear hK; rename ∀ st, Tri _ _ _ st _ → _ => hK; apply hK; clear hK)))))) | skip)
      | (intro β)
      | (rename ∀ st, Tri _ _ _ st _ → _ => hK; apply hK; clear hK))
    refine Tri.ret ⟨_, rfl, ?_⟩
    simp [upd]
    exact Wk.refl _
  have el : x.length = y.length := by
    have : (x.length : Int) = (y.length : Int) := by simpa using g
    omega
  repeat (first
    | (refine Tri.seq fun K hK => ?_)
    | (refine Tri.region ?_; simp [upd, g, bne])
    | (refine Tri.draw (by kernel_rfl) (by decide +kernel) ?_; simp [upd, g, bne])
    | (refine Tri.cond_true ?_ ?_; (focus simp [upd, g, bne]; done))
    | (refine Tri.cond_false ?_ ?_; (focus simp [upd, g, bne]; done))
    | (refine Tri.skip ?_; simp only [thenS, blockS])
    | (refine Tri.block_seq ?_)
    | (refine Tri.block_region ?_)
    | (refine Tri.block_cond ?_)
    | (refine Tri.exit ?_; simp [upd, g, bne]; first | (rename ∀ st, Tri _ _ _ st _ → _ => hK; first | (apply hK; clear hK) | (clear hK; rename ∀ st, Tri _ _ _ st _ → _ => hK; first | (apply hK; clear hK) | (clear hK; rename ∀ st, Tri _ _ _ st _ → _ => hK; first | (apply hK; clear hK) | (clear hK; rename ∀ st, Tri _ _ _ st _ → _ => hK; first | (apply hK; clear hK) | (clear hK; rename ∀ st, Tri _ _ _ st _ → _ => hK; first | (apply hK; clear hK) | (clear hK; rename ∀ st, Tri _ _ _ st _ → _ => hK; apply hK; clear hK)))))) | skip)
    | (intro β)
    | (rename ∀ st, Tri _ _ _ st _ → _ => hK; apply hK; clear hK))
  refine Tri.range 13 12 14 25 26 rfl rfl x.length (fun k st => st.sl 0 = .c (.sl n1 1 none (x.map fun x => [.int .i64 x])) ∧ st.sl 1 = .c (.sl n2 1 none (y.map fun x => [.int .i64 x])) ∧ x.take k = y.take k) (by simp) (by omega) ?_ rfl (by simp [upd]) (by simp [upd]) ?_ ?_ ?_
  · rintro k st t v ht ⟨a1, a2, a3⟩
    rcases ht with rfl | rfl | rfl <;> exact ⟨by simpa [upd] using a1, by simpa [upd] using a2, a3⟩
  · exact ⟨by simp [upd], by simp [upd], by simp⟩
  · rintro k st hk ⟨a1, a2, a3⟩ hn h13 h12
    have hj : k < y.length := by omega
    cases he : (x[k] == y[k])
    case false =>
      have e : (x == y) = false := by
        cases h : (x == y)
        · rfl
        · exfalso
          have := eq_of_beq h
          subst this
          simp at he
      rw [e]
      repeat (first
        | (refine Tri.seq fun K hK => ?_)
        | (refine Tri.region ?_; simp [upd, hn, a1, a2, h13, h12, hk, hj, he, bne])
        | (refine Tri.draw (by kernel_rfl) (by decide +kernel) ?_; simp [upd, hn, a1, a2, h13, h12, hk, hj, he, bne])
        | (refine Tri.cond_true ?_ ?_; (focus simp [upd, hn, a1, a2, h13, h12, hk, hj, he, bne]; done))
        | (refine Tri.cond_false ?_ ?_; (focus simp [upd, hn, a1, a2, h13, h12, hk, hj, he, bne]; done))
        | (refine Tri.skip ?_; simp only [thenS, blockS])
        | (refine Tri.block_seq ?_)
        | (refine Tri.block_region ?_)
        | (refine Tri.block_cond ?_)
        | (refine Tri.exit ?_; simp [upd, hn, a1, a2, h13, h12, hk, hj, he, bne]; first | (rename ∀ st, Tri _ _ _ st _ → _ => hK; first | (apply hK; clear hK) | (clear hK; rename ∀ st, Tri _ _ _ st _ → _ => hK; first | (apply hK; clear hK) | (clear hK; rename ∀ st, Tri _ _ _ st _ → _ => hK; first | (apply hK; clear hK) | (clear hK; rename ∀ st, Tri _ _ _ st _ → _ => hK; first | (apply hK; clear hK) | (clear hK; rename ∀ st, Tri _ _ _ st _ → _ => hK; first | (apply hK; clear hK) | (clear hK; rename ∀ st, Tri _ _ _ st _ → _ => hK; apply hK; clear hK)))))) | skip)
        | (intro β)
        | (rename ∀ st, Tri _ _ _ st _ → _ => hK; apply hK; clear hK))
      refine Tri.ret ⟨_, rfl, ?_⟩
      simp [upd]
      exact Wk.refl _
    have heq : x[k] = y[k] := eq_of_beq he
    repeat (first
      | (refine Tri.seq fun K hK => ?_)
      | (refine Tri.region ?_; simp [upd, hn, a1, a2, h13, h12, hk, hj, he, bne])
      | (refine Tri.draw (by kernel_rfl) (by decide +kernel) ?_; simp [upd, hn, a1, a2, h13, h12, hk, hj, he, bne])
      | (refine Tri.cond_true ?_ ?_; (focus simp [upd, hn, a1, a2, h13, h12, hk, hj, he, bne]; done))
      | (refine Tri.cond_false ?_ ?_; (focus simp [upd, hn, a1, a2, h13, h12, hk, hj, he, bne]; done))
      | (refine Tri.skip ?_; simp only [thenS, blockS])
      | (refine Tri.block_seq ?_)
      | (refine Tri.block_region ?_)
      | (refine Tri.block_cond ?_)
      | (refine Tri.exit ?_; simp [upd, hn, a1, a2, h13, h12, hk, hj, he, bne]; first | (rename ∀ st, Tri _ _ _ st _ → _ => hK; first | (apply hK; clear hK) | (clear hK; rename ∀ st, Tri _ _ _ st _ → _ => hK; first | (apply hK; clear hK) | (clear hK; rename ∀ st, Tri _ _ _ st _ → _ => hK; first | (apply hK; clear hK) | (clear hK; rename ∀ st, Tri _ _ _ st _ → _ => hK; first | (apply hK; clear hK) | (clear hK; rename ∀ st, Tri _ _ _ st _ → _ => hK; first | (apply hK; clear hK) | (clear hK; rename ∀ st, Tri _ _ _ st _ → _ => hK; apply hK; clear hK)))))) | skip)
      | (intro β)
      | (rename ∀ st, Tri _ _ _ st _ → _ => hK; apply hK; clear hK))
    try simp [upd, h13, h12, a1, a2]
    rw [List.take_succ_eq_append_getElem hk, List.take_succ_eq_append_getElem hj, a3, heq]
  · rintro st ⟨a1, a2, a3⟩ hn
    rw [List.take_length, el, List.take_length] at a3
    rename ∀ st, Tri _ _ _ st _ → _ => hK
    apply hK
    rw [a3]
    repeat (first
      | (refine Tri.seq fun K hK => ?_)
      | (refine Tri.region ?_; simp [upd, hn])
      | (refine Tri.draw (by kernel_rfl) (by decide +kernel) ?_; simp [upd, hn])
      | (refine Tri.cond_true ?_ ?_; (focus simp [upd, hn]; done))
      | (refine Tri.cond_false ?_ ?_; (focus simp [upd, hn]; done))
      | (refine Tri.skip ?_; simp only [thenS, blockS])
      | (refine Tri.block_seq ?_)
      | (refine Tri.block_region ?_)
      | (refine Tri.block_cond ?_)
      | (refine Tri.exit ?_; simp [upd, hn]; first | (rename ∀ st, Tri _ _ _ st _ → _ => hK; first | (apply hK; clear hK) | (clear hK; rename ∀ st, Tri _ _ _ st _ → _ => hK; first | (apply hK; clear hK) | (clear hK; rename ∀ st, Tri _ _ _ st _ → _ => hK; first | (apply hK; clear hK) | (clear hK; rename ∀ st, Tri _ _ _ st _ → _ => hK; first | (apply hK; clear hK) | (clear hK; rename ∀ st, Tri _ _ _ st _ → _ => hK; first | (apply hK; clear hK) | (clear hK; rename ∀ st, Tri _ _ _ st _ → _ => hK; apply hK; clear hK)))))) | skip)
      | (intro β)
      | (rename ∀ st, Tri _ _ _ st _ → _ => hK; apply hK; clear hK))
    refine Tri.ret ⟨_, rfl, ?_⟩
    simp [upd]
    exact Wk.refl _
theorem cloneA_does (l : List Att) (nl : Bool) (hnl : nl = true → l = []) (hl : l.length ≤ 1073741824) : Does Try.prog 44 [.c (.sl nl 8 none (l.map attC))] (.c (.sl nl 8 none (l.map attC))) := by
  refine Does.of_body Try.func44 rfl (by kernel_rfl) rfl rfl (by simp) ?_
  intro E
  cases nl
  case true =>
    have := hnl rfl
    subst this
    repeat (first
      | (refine Tri.seq fun K hK => ?_)
      | (refine Tri.region ?_; simp [upd])
      | (refine Tri.draw (by kernel_rfl) (by decide +kernel) ?_; simp [upd])
      | (refine Tri.cond_true ?_ ?_; (focus simp [upd]; done))
      | (refine Tri.cond_false ?_ ?_; (focus simp [upd]; done))
      | (refine Tri.skip ?_; simp only [thenS, blockS])
      | (refine Tri.block_seq ?_)
      | (refine Tri.block_region ?_)
      | (refine Tri.block_cond ?_)
      | (refine Tri.exit ?_; simp [upd]; first | (rename ∀ st, Tri _ _ _ st _ → _ => hK; first | (apply hK; clear hK) | (clear hK; rename ∀ st, Tri _ _ _ st _ → _ => hK; first | (apply hK; clear hK) | (clear hK; rename ∀ st, Tri _ _ _ st _ → _ => hK; first | (apply hK; clear hK) | (clear hK; rename ∀ st, Tri _ _ _ st _ → _ => hK; first | (apply hK; clear hK) | (clear hK; rename ∀ st, Tri _ _ _ st _ → _ => hK; first | (apply hK; clear hK) | (clear hK; rename ∀ st, Tri _ _ _ st _ → _ => hK; apply hK; clear hK)))))) | skip)
      | (intro β)
      | (rename ∀ st, Tri _ _ _ st _ → _ => hK; apply hK; clear hK))
    refine Tri.ret ⟨_, rfl, ?_⟩
    simp [upd]
    exact .nil _ _ _ _
  have hs : (l.map attC).map (fun x => x.map C.strip) = l.map attC := by simp
  have hb : l.length * 64 ≤ 140737488355328 := by omega
  repeat (first
    | (refine Tri.seq fun K hK => ?_)
    | (refine Tri.region ?_; simp [upd, hs, hb])
    | (refine Tri.draw (by kernel_rfl) (by decide +kernel) ?_; simp [upd, hs, hb])
    | (refine Tri.cond_true ?_ ?_; (focus simp [upd, hs, hb]; done))
    | (refine Tri.cond_false ?_ ?_; (focus simp [upd, hs, hb]; done))
    | (refine Tri.skip ?_; simp only [thenS, blockS])
    | (refine Tri.block_seq ?_)
    | (refine Tri.block_region ?_)
    | (refine Tri.block_cond ?_)
    | (refine Tri.exit ?_; simp [upd, hs, hb]; first | (rename ∀ st, Tri _ _ _ st _ → _ => hK; first | (apply hK; clear hK) | (clear hK; rename ∀ st, Tri _ _ _ st _ → _ => hK; first | (apply hK; clear hK) | (clear hK; rename ∀ st, Tri _ _ _ st _ → _ => hK; first | (apply hK; clear hK) | (clear hK; rename ∀ st, Tri _ _ _ st _ → _ => hK; first | (apply hK; clear hK) | (clear hK; rename ∀ st, Tri _ _ _ st _ → _ => hK; first | (apply hK; clear hK) | (clear hK; rename ∀ st, Tri _ _ _ st _ → _ => hK; apply hK; clear hK)))))) | skip)
    | (intro β)
    | (rename ∀ st, Tri _ _ _ st _ → _ => hK; apply hK; clear hK))
  refine Tri.ret ⟨_, rfl, ?_⟩
  simp [upd]
  exact .untag _ _ _ _
theorem cloneD_does (l : List Del) (nl : Bool) (hnl : nl = true → l = []) (hl : l.length ≤ 1073741824) : Does Try.prog 45 [.c (.sl nl 3 none (l.map delC))] (.c (.sl nl 3 none (l.map delC))) := by
  refine Does.of_body Try.func45 rfl (by kernel_rfl) rfl rfl (by simp) ?_
  intro E
  cases nl
  case true =>
    have := hnl rfl
    subst this
    repeat (first
      | (refine Tri.seq fun K hK => ?_)
      | (refine Tri.region ?_; simp [upd])
      | (refine Tri.draw (by kernel_rfl) (by decide +kernel) ?_; simp [upd])
      | (refine Tri.cond_true ?_ ?_; (focus simp [upd]; done))
      | (refine Tri.cond_false ?_ ?_; (focus simp [upd]; done))
      | (refine Tri.skip ?_; simp only [thenS, blockS])
      | (refine Tri.block_seq ?_)
      | (refine Tri.block_region ?_)
      | (refine Tri.block_cond ?_)
      | (refine Tri.exit ?_; simp [upd]; first | (rename ∀ st, Tri _ _ _ st _ → _ => hK; first | (apply hK; clear hK) | (clear hK; rename ∀ st, Tri _ _ _ st _ → _ => hK; first | (apply hK; clear hK) | (clear hK; rename ∀ st, Tri _ _ _ st _ → _ => hK; first | (apply hK; clear hK) | (clear hK; rename ∀ st, Tri _ _ _ st _ → _ => hK; first | (apply hK; clear hK) | (clear hK; rename ∀ st, Tri _ _ _ st _ → _ => hK; first | (apply hK; clear hK) | (clear hK; rename ∀ st, Tri _ _ _ st _ → _ => hK; apply hK; clear hK)))))) | skip)
      | (intro β)
      | (rename ∀ st, Tri _ _ _ st _ → _ => hK; apply hK; clear hK))
    refine Tri.ret ⟨_, rfl, ?_⟩
    simp [upd]
    exact .nil _ _ _ _
  have hs : (l.map delC).map (fun x => x.map C.strip) = l.map delC := by simp
  have hb : l.length * 24 ≤ 140737488355328 := by omega
  repeat (first
    | (refine Tri.seq fun K hK => ?_)
    | (refine Tri.region ?_; simp [upd, hs, hb])
    | (refine Tri.draw (by kernel_rfl) (by decide +kernel) ?_; simp [upd, hs, hb])
    | (refine Tri.cond_true ?_ ?_; (focus simp [upd, hs, hb]; done))
    | (refine Tri.cond_false ?_ ?_; (focus simp [upd, hs, hb]; done))
    | (refine Tri.skip ?_; simp only [thenS, blockS])
    | (refine Tri.block_seq ?_)
    | (refine Tri.block_region ?_)
    | (refine Tri.block_cond ?_)
    | (refine Tri.exit ?_; simp [upd, hs, hb]; first | (rename ∀ st, Tri _ _ _ st _ → _ => hK; first | (apply hK; clear hK) | (clear hK; rename ∀ st, Tri _ _ _ st _ → _ => hK; first | (apply hK; clear hK) | (clear hK; rename ∀ st, Tri _ _ _ st _ → _ => hK; first | (apply hK; clear hK) | (clear hK; rename ∀ st, Tri _ _ _ st _ → _ => hK; first | (apply hK; clear hK) | (clear hK; rename ∀ st, Tri _ _ _ st _ → _ => hK; first | (apply hK; clear hK) | (clear hK; rename ∀ st, Tri _ _ _ st _ → _ => hK; apply hK; clear hK)))))) | skip)
    | (intro β)
    | (rename ∀ st, Tri _ _ _ st _ → _ => hK; apply hK; clear hK))
  refine Tri.ret ⟨_, rfl, ?_⟩
  simp [upd]
  exact .untag _ _ _ _
end Go.Proofs.Ytngbpmiikpjiaaa
end
section
open Go Go.Vm
namespace Go.Proofs.Ytngbpmiikpjiaaa
set_option maxRecDepth 100000
set_option maxHeartbeats 4000000
set_option linter.unusedSimpArgs false
attribute [local irreducible] Tri Does DoesB Rounds
structure RecOk (r : Rec) : Prop where
  an : r.an = true → r.atts = []
  dn : r.dn = true → r.dels = []
  al : r.atts.length ≤ 1073741824
  dl : r.dels.length ≤ 1073741824
theorem cp_does (r : Rec) (h : RecOk r) : Does Try.prog 13 [.agg (recC r)] (.agg (recC r)) := by
  refine Does.of_body Try.func13 rfl (by kernel_rfl) rfl rfl (by simp) ?_
  intro E
  have ca := cloneA_does r.atts r.an h.an h.al
  have cd := cloneD_does r.dels r.dn h.dn h.dl
  simp only [recC]
  repeat (first
    | (refine Tri.seq fun K hK => ?_)
    | (refine Tri.region ?_; simp [upd])
    | (refine Tri.draw (by kernel_rfl) (by decide +kernel) ?_; simp [upd])
    | (refine Tri.cond_true ?_ ?_; (focus simp [upd]; done))
    | (refine Tri.cond_false ?_ ?_; (focus simp [upd]; done))
    | (refine Tri.skip ?_; simp only [thenS, blockS])
    | (refine Tri.block_seq ?_)
    | (refine Tri.block_region ?_)
    | (refine Tri.block_cond ?_)
    | ((with_reducible refine CallK.pure (ca) (Wks.refl _) ?_); simp [upd])
    | ((with_reducible refine CallK.pure (cd) (Wks.refl _) ?_); simp [upd])
    | (refine Tri.exit ?_; simp [upd]; first | (rename ∀ st, Tri _ _ _ st _ → _ => hK; first | (apply hK; clear hK) | (clear hK; rename ∀ st, Tri _ _ _ st _ → _ => hK; first | (apply hK; clear hK) | (clear hK; rename ∀ st, Tri _ _ _ st _ → _ => hK; first | (apply hK; clear hK) | (clear hK; rename ∀ st, Tri _ _ _ st _ → _ => hK; first | (apply hK; clear hK) | (clear hK; rename ∀ st, Tri _ _ _ st _ → _ => hK; first | (apply hK; clear hK) | (clear hK; rename ∀ st, Tri _ _ _ st _ → _ => hK; apply hK; clear hK)))))) | skip)
    | (intro β)
    | (rename ∀ st, Tri _ _ _ st _ → _ => hK; apply hK; clear hK))
  refine Tri.ret ⟨.agg (recC r), by simp [upd, recC], ?_⟩
  exact Wk.refl _
end Go.Proofs.Ytngbpmiikpjiaaa
end
section
namespace Go.Vm

/-- Types whose cells are all i64, field behind field. -/
def flatI (P : Program) : Nat → TypeId → Bool
  | 0, _ => false
  | d + 1, t => match P.underlying t with
    | some (.int .i64) => true
    | some (.struct fs) => fs.toList.all (fun f => flatI P d f.type) && (fs.toList.foldl (fun (o : Option Nat) f => match o with
        | some k => if f.offset = k then some (k + P.cellsOf f.type) else none
        | none => none) (some 0) == some (P.cellsOf t))
    | _ => false

section
variable {H : Type} {enc : TypeId × Value → H} {P : Program} {w : World} {base : Nat} {spare : Nat → Bool} {held : Bool}

theorem mapM_all {α β : Type} {f : α → Option β} : ∀ {l : List α} {r : List β}, l.mapM f = some r → ∀ x ∈ l, ∃ y, f x = some y
  | [], _, _, x, hx => by cases hx
  | a :: l, r, h, x, hx => by
    simp only [List.mapM_cons, Option.bind_eq_bind, Option.bind_eq_some_iff] at h
    obtain ⟨y, hy, z, hz, _⟩ := h
    rcases List.mem_cons.1 hx with rfl | hx
    · exact ⟨y, hy⟩
    · exact mapM_all hz x hx

theorem cover_fold : ∀ (fs : List Field) (k n : Nat), fs.foldl (fun (o : Option Nat) f => match o with
        | some k => if f.offset = k then some (k + P.cellsOf f.type) else none
        | none => none) (some k) = some n → k ≤ n ∧ ∀ i, k ≤ i → i < n → ∃ f ∈ fs, f.offset ≤ i ∧ i < f.offset + P.cellsOf f.type
  | [], k, n, h => by
    simp at h
    subst h
    exact ⟨Nat.le_refl _, fun i h1 h2 => by omega⟩
  | f :: fs, k, n, h => by
    simp only [List.foldl_cons] at h
    split at h
    · rename_i e
      obtain ⟨h1, h2⟩ := cover_fold fs _ n h
      refine ⟨by omega, fun i hi hn => ?_⟩
      by_cases hlt : i < k + P.cellsOf f.type
      · exact ⟨f, List.mem_cons_self .., by omega, by omega⟩
      · obtain ⟨g, hg, h3⟩ := h2 i (by omega) hn
        exact ⟨g, List.mem_cons_of_mem _ hg, h3⟩
    · exfalso
      have : ∀ (l : List Field), l.foldl (fun (o : Option Nat) f => match o with
        | some k => if f.offset = k then some (k + P.cellsOf f.type) else none
        | none => none) none = none := fun l => by induction l with
        | nil => rfl
        | cons a l ih => simpa using ih
      rw [this] at h
      cases h

theorem trod_flat : ∀ (d fuel : Nat) (t : TypeId) (cs : List Value) (x : DataW H × List MemPlace), flatI P d t = true → DataW.trod enc P w base spare held fuel t cs = some x → ∀ (i : Nat) (c : Value), cs[i]? = some c → ∃ z, c = .int .i64 z
  | 0, _, _, _, _, hf, _ => by cases hf
  | d + 1, fuel, t, cs, x, hf, h => by
    unfold flatI at hf
    split at hf
    · rename_i hu
      intro i c hc
      obtain ⟨n, rfl, _⟩ := DataW.trod_int hu h
      have := List.mem_of_getElem? hc
      simp at this
      exact ⟨n, this⟩
    · rename_i fs hu
      simp only [Bool.and_eq_true, beq_iff_eq, List.all_eq_true] at hf
      obtain ⟨hall, hcov⟩ := hf
      obtain ⟨xs, n, rfl, _, hlen, hxl, hfld⟩ := DataW.trod_struct hu h
      intro i c hc
      have hi := (List.getElem?_eq_some_iff.1 hc).1
      obtain ⟨f, hfm, h1, h2⟩ := (cover_fold fs.toList 0 (P.cellsOf t) hcov).2 i (Nat.zero_le _) (by omega)
      obtain ⟨j, hj⟩ := List.mem_iff_getElem?.1 hfm
      have hj' : fs[j]? = some f := by simpa using hj
      have hjl : j < xs.length := by rw [hxl]; exact (Array.getElem?_eq_some_iff.1 hj').1
      have := hfld j f hj'
      rw [List.getElem?_eq_getElem hjl] at this
      exact trod_flat d n f.type _ _ (hall f hfm) this (i - f.offset) c (by
        rw [List.getElem?_take, if_pos (by omega), List.getElem?_drop]
        rw [show f.offset + (i - f.offset) = i by omega]
        exact hc)
    · cases hf

theorem addr_add (a : Addr) (h : a.spot = none) (k : Nat) : a.add k = ⟨a.block, a.off + k, none⟩ := by
  obtain ⟨b, o, s⟩ := a
  simp only at h
  subst h
  exact Addr.add_none b o k

theorem cell_size {a : Addr} {v : Value} (h : w.cell? a = some v) : a.block < w.heap.size := by
  unfold World.cell? at h
  split at h
  · rename_i hb; exact (Array.getElem?_eq_some_iff.1 hb).1
  · cases h

theorem open_flat_slice {d t e n fuel : Nat} {v : Value} {x : DataW H × List MemPlace} (ht : P.underlying t = some (.slice e)) (hfl : flatI P d e = true) (hn : P.cellsOf e = n)
    (h : DataW.trod enc P w base spare held fuel t [v] = some x) (hspot : ∀ a len cap, v = .slice (some a) len cap → a.spot = none) :
    ∃ (nl : Bool) (zs : List (List Int)), (nl = true → zs = []) ∧ (∀ z ∈ zs, z.length = n) ∧ zs.length ≤ maxLen ∧ CR (fun b _ => b < w.heap.size) w v (.sl nl n none (zs.map fun z => z.map (C.int .i64))) := by
  rcases Deep.open_slice ht h with ⟨h0, _⟩ | ⟨a, len, cap, m, f2, D, Pl, hcs, hb, hl, hm, hmm, hx, hi⟩
  · cases h0
    exact ⟨true, [], fun _ => rfl, by simp, by simp, .nil _ _⟩
  · cases hcs
    have hsp := hspot a len cap rfl
    have hml : len ≤ m := by rw [hmm]; split <;> omega
    have hex : ∀ i, i < len → ∃ z : List Int, z.length = n ∧ ∀ j (hj : j < z.length), w.cell? ⟨a.block, a.off + (i * n + j), none⟩ = some (.int .i64 z[j]) := fun i hil => by
      obtain ⟨cs', hc, htr⟩ := hi i (by omega)
      rw [hn] at hc
      obtain ⟨_, hcl, hat⟩ := World.cells?_some hc
      have hflat := trod_flat d f2 e cs' _ hfl htr
      have hsub : ∃ z : List Int, cs' = z.map (Value.int .i64) := by
        clear hat hc htr hcl
        induction cs' with
        | nil => exact ⟨[], rfl⟩
        | cons c cs' ih =>
          obtain ⟨y, hy⟩ := hflat 0 c rfl
          obtain ⟨z, hz⟩ := ih fun i c hc => hflat (i + 1) c (by simpa using hc)
          exact ⟨y :: z, by rw [hy, hz]; rfl⟩
      obtain ⟨z, rfl⟩ := hsub
      refine ⟨z, by simpa using hcl, fun j hj => ?_⟩
      have hlz : z.length = n := by simpa using hcl
      have := hat j (by omega)
      rw [Deep.add_add, addr_add a hsp] at this
      rw [this]
      simp [hj]
    obtain ⟨Z, hZ⟩ := Deep.choose_lt hex
    let zs := (List.range len).map Z
    have hzl : zs.length = len := by simp [zs]
    have hzn : ∀ z ∈ zs, z.length = n := fun z hz => by
      obtain ⟨i, hi, rfl⟩ := List.mem_map.1 hz
      exact (hZ i (List.mem_range.1 hi)).1
    refine ⟨false, zs, by simp, hzn, by rw [hzl]; omega, ?_⟩
    have hav : a = ⟨a.block, a.off, none⟩ := by obtain ⟨b, o, s⟩ := a; simp only at hsp; subst hsp; rfl
    have hcell : ∀ k, k < zs.flatten.length → ∃ y, zs.flatten[k]? = some y ∧ w.cell? ⟨a.block, a.off + k, none⟩ = some (.int .i64 y) := fun k hk => by
      have hlen := length_flatten_uniform zs hzn
      rw [hlen, hzl] at hk
      have hn0 : 0 < n := by
        rcases Nat.eq_zero_or_pos n with e | e
        · subst e; omega
        · exact e
      have hil : k / n < len := Nat.div_lt_of_lt_mul (by rw [Nat.mul_comm]; exact hk)
      obtain ⟨h1, h2⟩ := hZ (k / n) hil
      have hj : k % n < (Z (k / n)).length := by rw [h1]; exact Nat.mod_lt _ hn0
      have hkk : k / n * n + k % n = k := by rw [Nat.mul_comm]; exact Nat.div_add_mod k n
      have := getElem?_flatten_uniform zs (k / n) (k % n) (Z (k / n)) hzn (by simp [zs, hil]) (Nat.mod_lt _ hn0)
      rw [hkk, List.getElem?_eq_getElem hj] at this
      have h3 := h2 (k % n) hj
      rw [hkk] at h3
      exact ⟨_, this, h3⟩
    have hflat : (zs.map fun z => z.map (C.int .i64)).flatten = zs.flatten.map (C.int .i64) := by rw [List.map_flatten]
    have := CR.sl (F := fun b _ => b < w.heap.size) (w := w) a.block a.off cap n none (zs.map fun z => z.map (C.int .i64)) (zs.flatten.map (Value.int .i64)) (by simp [hzl]; exact hl)
      (fun e he => by obtain ⟨z, hz, rfl⟩ := List.mem_map.1 he; simpa using hzn z hz)
      (by simp only [List.length_map]; exact length_flatten_uniform zs hzn)
      (fun k hk => by
        obtain ⟨y, _, h2⟩ := hcell k (by rw [List.length_map] at hk; exact hk)
        exact cell_size (a := ⟨a.block, a.off + k, none⟩) h2)
      (fun k hk => by
        obtain ⟨y, h1, h2⟩ := hcell k (by rw [List.length_map] at hk; exact hk)
        rw [h2, List.getElem?_map, h1]; rfl)
      (fun v hv => by obtain ⟨z, _, rfl⟩ := List.mem_map.1 hv; rfl)
      (fun k hk => by
        obtain ⟨y, h1, h2⟩ := hcell k (by rw [List.length_map] at hk; exact hk)
        rw [hflat, getD_eq, getD_eq, List.getElem?_map, List.getElem?_map, h1]
        exact .int _ _)
      (fun key b' e => by cases e)
    rw [List.length_map, hzl] at this
    rw [hav]
    exact this
end
end Go.Vm
end
section
open Go Go.Vm
namespace Go.Proofs.Ytngbpmiikpjiaaa
set_option maxRecDepth 100000
def mkAtt (z : List Int) : Att := ⟨z.getD 0 0, z.getD 1 0, z.getD 2 0, z.getD 3 0, z.getD 4 0, z.getD 5 0, z.getD 6 0, z.getD 7 0⟩
def mkDel (z : List Int) : Del := ⟨z.getD 0 0, z.getD 1 0, z.getD 2 0⟩
theorem mkAtt_C (z : List Int) (h : z.length = 8) : z.map (C.int .i64) = attC (mkAtt z) := by
  match z, h with
  | [a, b, c, d, e, f, g, i], _ => rfl
theorem mkDel_C (z : List Int) (h : z.length = 3) : z.map (C.int .i64) = delC (mkDel z) := by
  match z, h with
  | [a, b, c], _ => rfl
theorem flat45 : flatI Try.prog 8 66 = true := by kernel_rfl
theorem flat62 : flatI Try.prog 8 54 = true := by kernel_rfl
theorem u28 : ∃ f0 f1, Try.prog.underlying 28 = some (.struct #[f0, f1]) ∧ f0.type = 3 ∧ f0.offset = 0 ∧ f1.type = 26 ∧ f1.offset = 1 := ⟨_, _, rfl, rfl, rfl, rfl, rfl⟩
theorem u26 : ∃ f0 f1, Try.prog.underlying 26 = some (.struct #[f0, f1]) ∧ f0.type = 23 ∧ f0.offset = 0 ∧ f1.type = 24 ∧ f1.offset = 1 := ⟨_, _, rfl, rfl, rfl, rfl, rfl⟩
theorem u23 : Try.prog.underlying 23 = some (.slice 66) := by kernel_rfl
theorem u24 : Try.prog.underlying 24 = some (.slice 54) := by kernel_rfl
theorem c45 : Try.prog.cellsOf 66 = 8 := by kernel_rfl
theorem c62 : Try.prog.cellsOf 54 = 3 := by kernel_rfl
theorem c28 : Try.prog.cellsOf 28 = 3 := by kernel_rfl
theorem c26 : Try.prog.cellsOf 26 = 2 := by kernel_rfl
theorem c3 : Try.prog.cellsOf 3 = 1 := by kernel_rfl
theorem c23 : Try.prog.cellsOf 23 = 1 := by kernel_rfl
theorem c24 : Try.prog.cellsOf 24 = 1 := by kernel_rfl
theorem ct28 : Try.prog.cellTypes Try.prog.depth 28 = some [3, 23, 24] := by kernel_rfl
section
variable {H : Type} {enc : TypeId × Value → H} {w : World} {base : Nat} {spare : Nat → Bool} {held : Bool}
theorem open_rec {b0 : Nat} {v : Value} {d : DataW H} {ps : List MemPlace} (hval : Value.okWide Try.prog w .any b0 28 v) (h : DataW.Trod enc Try.prog w base spare held 28 v d ps) :
    ∃ r : Rec, (r.an = true → r.atts = []) ∧ (r.dn = true → r.dels = []) ∧ r.atts.length ≤ maxLen ∧ r.dels.length ≤ maxLen ∧ VR (fun b _ => b < w.heap.size) w v (.agg (recC r)) := by
  obtain ⟨f0, f1, hu, t0, o0, t1, o1⟩ := u28
  obtain ⟨g0, g1, hu2, s0, p0, s1, p1⟩ := u26
  unfold Value.okWide at hval
  rw [hu] at hval
  obtain ⟨cs, rfl, hsz, ts, hts, _, hok⟩ := hval
  rw [ct28] at hts
  cases hts
  rw [c28] at hsz
  obtain ⟨fuel, hf⟩ := h
  obtain ⟨l⟩ := cs
  match l, hsz with
  | [x0, x1, x2], _ =>
    obtain ⟨xs, n, _, _, hlen, hxl, hfld⟩ := DataW.trod_struct hu hf
    have hx0 := hfld 0 f0 rfl
    have hx1 := hfld 1 f1 rfl
    rw [t0, o0, c3] at hx0
    rw [t1, o1, c26] at hx1
    simp only [Value.cells, List.drop, List.take] at hx0 hx1
    rw [List.getElem?_eq_getElem (by rw [hxl]; simp)] at hx0 hx1
    obtain ⟨sl, e0, _⟩ := DataW.trod_int (k := .i64) (by kernel_rfl) hx0
    cases e0
    obtain ⟨ys, n2, _, _, hlen2, hyl, hfld2⟩ := DataW.trod_struct hu2 hx1
    have hy0 := hfld2 0 g0 rfl
    have hy1 := hfld2 1 g1 rfl
    rw [s0, p0, c23] at hy0
    rw [s1, p1, c24] at hy1
    simp only [List.drop, List.take] at hy0 hy1
    rw [List.getElem?_eq_getElem (by rw [hyl]; simp)] at hy0 hy1
    have k1 : Cell.okWide Try.prog w .any b0 23 x1 := by
      obtain ⟨u, hu', hk⟩ := hok 1 x1 rfl
      cases hu'
      exact hk
    have k2 : Cell.okWide Try.prog w .any b0 24 x2 := by
      obtain ⟨u, hu', hk⟩ := hok 2 x2 rfl
      cases hu'
      exact hk
    obtain ⟨nl1, zs1, hn1, hz1, hl1, hr1⟩ := open_flat_slice u23 flat45 c45 hy0 (fun a len cap e => by
      subst e
      simp only [Cell.okWide, Cell.ok, u23] at k1
      exact k1.2.2.2.1)
    obtain ⟨nl2, zs2, hn2, hz2, hl2, hr2⟩ := open_flat_slice u24 flat62 c62 hy1 (fun a len cap e => by
      subst e
      simp only [Cell.okWide, Cell.ok, u24] at k2
      exact k2.2.2.2.1)
    have e1 : (zs1.map fun z => z.map (C.int .i64)) = (zs1.map mkAtt).map attC := by
      rw [List.map_map]
      exact List.map_congr_left fun z hz => mkAtt_C z (hz1 z hz)
    have e2 : (zs2.map fun z => z.map (C.int .i64)) = (zs2.map mkDel).map delC := by
      rw [List.map_map]
      exact List.map_congr_left fun z hz => mkDel_C z (hz2 z hz)
    rw [e1] at hr1
    rw [e2] at hr2
    refine ⟨⟨sl, nl1, zs1.map mkAtt, nl2, zs2.map mkDel⟩, fun e => by rw [hn1 e]; rfl, fun e => by rw [hn2 e]; rfl, by simpa using hl1, by simpa using hl2, .agg _ _ rfl fun k hk => ?_⟩
    match k, hk with
    | 0, _ => exact .int _ _
    | 1, _ => exact hr1
    | 2, _ => exact hr2
end
end Go.Proofs.Ytngbpmiikpjiaaa
end
section
namespace Go.Vm
open Go.ChangeShapes Go.WideShapes Go.ChangeAt Go.RowKit
section
variable {H : Type} {enc : TypeId × Value → H} {P : Program}
/-- The frame of a row whose call leaves every older block as it was: its arguments are read again in the new world. -/
theorem post_below {f : Func} {s : ChangeSpec} {W W' : World} {args : Array Value} {v : Value} {ds gs : List (DataW H)} {all pa pv : List MemPlace}
    (hW : DataW.Whole enc P f.params.toList s.vars false W args.toList ds gs all) (hb : Below W.heap.size W W') (hall : all = pa ++ pv)
    (hres : ∀ (b : Nat) (sp : Nat → Bool) (hd : Bool), DataW.TrodAll enc P W' b sp hd f.resultTypes.toList (v.resultList f.resultTypes.size) (s.fn H (ds ++ gs)).results [])
    (hargs : ∀ sp : Nat → Bool, (∀ p ∈ all, sp p.block = true) → DataW.TrodAll enc P W' 0 sp true f.params.toList args.toList (s.fn H (ds ++ gs)).args pa)
    (hvars : ∀ sp : Nat → Bool, (∀ p ∈ all, sp p.block = true) → DataW.TrodVars enc P W' sp s.vars (s.fn H (ds ++ gs)).vars pv)
    (hok : ∀ (j : Nat) (t : TypeId) (r : Value), f.resultTypes[j]? = some t → (v.resultList f.resultTypes.size)[j]? = some r → Value.okWide P W' .any 0 t r) :
    s.post enc P f false true false false W args v W' := by
  have hlt := hW.lt
  have hold := fun (p : MemPlace) (hp : p ∈ all) => show (fun b => decide (b < W.heap.size)) p.block = true from decide_eq_true (hlt p hp)
  subst hall
  refine ⟨ds, gs, _, [], pa, pv, hW, hres _ _ _, hargs _ hold, hvars _ hold, hb.frame _, fun _ => ?_⟩
  obtain ⟨_, _, _, _, _, hz, hn⟩ := hW
  refine ⟨hok, _, _, ([] ++ pa) ++ pv, ⟨[] ++ pa, pv, trodAll_append (hargs _ fun _ _ => rfl) (hres _ _ _), hvars _ fun _ _ => rfl, rfl, fun b off hp => ?_, fun ha => by cases ha⟩, fun p hp _ => by simpa using hp⟩
  have hm : MemPlace.cell b off ∈ pa ++ pv := by simpa using hp
  rw [hb.frozen (p := ⟨b, off, none⟩) (hlt _ hm)]
  exact hz b off hm
end
end Go.Vm
end
