/- The types of the translation: kinds, zero values. Printed by facts.py, proved by the kernel. -/
import Derived.Test.YtpneikbihcoaaabProg
import Derived.Test.YtpneikbihcoaaabVm18
import Derived.KernelRfl
namespace Go.Proofs.Ytpneikbihcoaaab.Vm
set_option linter.unusedVariables false
@[simp] theorem tk2 : tk Try.prog 2 = some (TK.int IntKind.i64, 1) := by kernel_rfl
@[simp] theorem zav2 : zav Try.prog 2 = some (AV.int IntKind.i64 (0)) := by kernel_rfl
@[simp] theorem aggT2 : aggT Try.prog 2 = false := by kernel_rfl
@[simp] theorem tk3 : tk Try.prog 3 = some (TK.int IntKind.i64, 1) := by kernel_rfl
@[simp] theorem zav3 : zav Try.prog 3 = some (AV.int IntKind.i64 (0)) := by kernel_rfl
@[simp] theorem aggT3 : aggT Try.prog 3 = false := by kernel_rfl
@[simp] theorem tk4 : tk Try.prog 4 = some (TK.bool, 1) := by kernel_rfl
@[simp] theorem zav4 : zav Try.prog 4 = some (AV.bool false) := by kernel_rfl
@[simp] theorem aggT4 : aggT Try.prog 4 = false := by kernel_rfl
@[simp] theorem boolT4 : boolT Try.prog 4 = true := by kernel_rfl
@[simp] theorem tk5 : tk Try.prog 5 = some (TK.int IntKind.u8, 1) := by kernel_rfl
@[simp] theorem zav5 : zav Try.prog 5 = some (AV.int IntKind.u8 (0)) := by kernel_rfl
@[simp] theorem aggT5 : aggT Try.prog 5 = false := by kernel_rfl
@[simp] theorem tk6 : tk Try.prog 6 = some (TK.int IntKind.u8, 1) := by kernel_rfl
@[simp] theorem zav6 : zav Try.prog 6 = some (AV.int IntKind.u8 (0)) := by kernel_rfl
@[simp] theorem aggT6 : aggT Try.prog 6 = false := by kernel_rfl
@[simp] theorem tk7 : tk Try.prog 7 = some (TK.struct [(0, 1, false), (1, 1, false), (2, 1, false), (3, 1, false)], 4) := by kernel_rfl
@[simp] theorem zav7 : zav Try.prog 7 = some (AV.agg [AV.int IntKind.i64 (0), AV.int IntKind.i64 (0), AV.bool false, AV.int IntKind.u8 (0)]) := by kernel_rfl
@[simp] theorem aggT7 : aggT Try.prog 7 = true := by kernel_rfl
@[simp] theorem tk8 : tk Try.prog 8 = some (TK.struct [(0, 1, false), (1, 1, false), (2, 1, false), (3, 1, false)], 4) := by kernel_rfl
@[simp] theorem zav8 : zav Try.prog 8 = some (AV.agg [AV.int IntKind.i64 (0), AV.int IntKind.i64 (0), AV.bool false, AV.int IntKind.u8 (0)]) := by kernel_rfl
@[simp] theorem aggT8 : aggT Try.prog 8 = true := by kernel_rfl
@[simp] theorem tk9 : tk Try.prog 9 = some (TK.str, 1) := by kernel_rfl
@[simp] theorem zav9 : zav Try.prog 9 = some (AV.str { data := { toList := [] } }) := by kernel_rfl
@[simp] theorem aggT9 : aggT Try.prog 9 = false := by kernel_rfl
@[simp] theorem tk10 : tk Try.prog 10 = some (TK.str, 1) := by kernel_rfl
@[simp] theorem zav10 : zav Try.prog 10 = some (AV.str { data := { toList := [] } }) := by kernel_rfl
@[simp] theorem aggT10 : aggT Try.prog 10 = false := by kernel_rfl
@[simp] theorem tk11 : tk Try.prog 11 = some (TK.str, 1) := by kernel_rfl
@[simp] theorem zav11 : zav Try.prog 11 = some (AV.str { data := { toList := [] } }) := by kernel_rfl
@[simp] theorem aggT11 : aggT Try.prog 11 = false := by kernel_rfl
@[simp] theorem tk12 : tk Try.prog 12 = some (TK.int IntKind.u64, 1) := by kernel_rfl
@[simp] theorem zav12 : zav Try.prog 12 = some (AV.int IntKind.u64 (0)) := by kernel_rfl
@[simp] theorem aggT12 : aggT Try.prog 12 = false := by kernel_rfl
@[simp] theorem tk13 : tk Try.prog 13 = some (TK.struct [(0, 1, false), (1, 1, false)], 2) := by kernel_rfl
@[simp] theorem zav13 : zav Try.prog 13 = some (AV.agg [AV.str { data := { toList := [] } }, AV.int IntKind.u64 (0)]) := by kernel_rfl
@[simp] theorem aggT13 : aggT Try.prog 13 = true := by kernel_rfl
@[simp] theorem tk14 : tk Try.prog 14 = some (TK.struct [(0, 1, false), (1, 1, false)], 2) := by kernel_rfl
@[simp] theorem zav14 : zav Try.prog 14 = some (AV.agg [AV.str { data := { toList := [] } }, AV.int IntKind.u64 (0)]) := by kernel_rfl
@[simp] theorem aggT14 : aggT Try.prog 14 = true := by kernel_rfl
@[simp] theorem tk15 : tk Try.prog 15 = some (TK.ptr, 1) := by kernel_rfl
@[simp] theorem zav15 : zav Try.prog 15 = some AV.nilP := by kernel_rfl
@[simp] theorem ptrT15 : ptrT Try.prog 15 = true := by kernel_rfl
@[simp] theorem tk16 : tk Try.prog 16 = some (TK.ptr, 1) := by kernel_rfl
@[simp] theorem zav16 : zav Try.prog 16 = some AV.nilP := by kernel_rfl
@[simp] theorem ptrT16 : ptrT Try.prog 16 = true := by kernel_rfl
@[simp] theorem tk17 : tk Try.prog 17 = some (TK.ptr, 1) := by kernel_rfl
@[simp] theorem zav17 : zav Try.prog 17 = some AV.nilP := by kernel_rfl
@[simp] theorem ptrT17 : ptrT Try.prog 17 = true := by kernel_rfl
@[simp] theorem tk18 : tk Try.prog 18 = some (TK.struct [(0, 1, false)], 1) := by kernel_rfl
@[simp] theorem zav18 : zav Try.prog 18 = some (AV.agg [AV.nilP]) := by kernel_rfl
@[simp] theorem aggT18 : aggT Try.prog 18 = true := by kernel_rfl
@[simp] theorem tk19 : tk Try.prog 19 = some (TK.struct [(0, 1, false)], 1) := by kernel_rfl
@[simp] theorem zav19 : zav Try.prog 19 = some (AV.agg [AV.nilP]) := by kernel_rfl
@[simp] theorem aggT19 : aggT Try.prog 19 = true := by kernel_rfl
@[simp] theorem tk21 : tk Try.prog 21 = some (TK.int IntKind.i32, 1) := by kernel_rfl
@[simp] theorem zav21 : zav Try.prog 21 = some (AV.int IntKind.i32 (0)) := by kernel_rfl
@[simp] theorem aggT21 : aggT Try.prog 21 = false := by kernel_rfl
@[simp] theorem tk22 : tk Try.prog 22 = some (TK.slice 38 2 16, 1) := by kernel_rfl
@[simp] theorem zav22 : zav Try.prog 22 = some AV.nilS := by kernel_rfl
@[simp] theorem aggT22 : aggT Try.prog 22 = false := by kernel_rfl
@[simp] theorem tk23 : tk Try.prog 23 = some (TK.int IntKind.u64, 1) := by kernel_rfl
@[simp] theorem zav23 : zav Try.prog 23 = some (AV.int IntKind.u64 (0)) := by kernel_rfl
@[simp] theorem aggT23 : aggT Try.prog 23 = false := by kernel_rfl
@[simp] theorem tk26 : tk Try.prog 26 = some (TK.slice 30 3 32, 1) := by kernel_rfl
@[simp] theorem zav26 : zav Try.prog 26 = some AV.nilS := by kernel_rfl
@[simp] theorem aggT26 : aggT Try.prog 26 = false := by kernel_rfl
@[simp] theorem tk28 : tk Try.prog 28 = some (TK.int IntKind.u32, 1) := by kernel_rfl
@[simp] theorem zav28 : zav Try.prog 28 = some (AV.int IntKind.u32 (0)) := by kernel_rfl
@[simp] theorem aggT28 : aggT Try.prog 28 = false := by kernel_rfl
@[simp] theorem tk29 : tk Try.prog 29 = some (TK.struct [(0, 1, false), (1, 1, false), (2, 1, false)], 3) := by kernel_rfl
@[simp] theorem zav29 : zav Try.prog 29 = some (AV.agg [AV.int IntKind.u32 (0), AV.int IntKind.u32 (0), AV.nilS]) := by kernel_rfl
@[simp] theorem aggT29 : aggT Try.prog 29 = true := by kernel_rfl
@[simp] theorem tk30 : tk Try.prog 30 = some (TK.struct [(0, 1, false), (1, 1, false), (2, 1, false)], 3) := by kernel_rfl
@[simp] theorem zav30 : zav Try.prog 30 = some (AV.agg [AV.int IntKind.u32 (0), AV.int IntKind.u32 (0), AV.nilS]) := by kernel_rfl
@[simp] theorem aggT30 : aggT Try.prog 30 = true := by kernel_rfl
@[simp] theorem tk34 : tk Try.prog 34 = some (TK.slice 23 1 8, 1) := by kernel_rfl
@[simp] theorem zav34 : zav Try.prog 34 = some AV.nilS := by kernel_rfl
@[simp] theorem aggT34 : aggT Try.prog 34 = false := by kernel_rfl
@[simp] theorem tk37 : tk Try.prog 37 = some (TK.struct [(0, 1, false), (1, 1, false)], 2) := by kernel_rfl
@[simp] theorem zav37 : zav Try.prog 37 = some (AV.agg [AV.int IntKind.u64 (0), AV.int IntKind.u64 (0)]) := by kernel_rfl
@[simp] theorem aggT37 : aggT Try.prog 37 = true := by kernel_rfl
@[simp] theorem tk38 : tk Try.prog 38 = some (TK.struct [(0, 1, false), (1, 1, false)], 2) := by kernel_rfl
@[simp] theorem zav38 : zav Try.prog 38 = some (AV.agg [AV.int IntKind.u64 (0), AV.int IntKind.u64 (0)]) := by kernel_rfl
@[simp] theorem aggT38 : aggT Try.prog 38 = true := by kernel_rfl
@[simp] theorem tk54 : tk Try.prog 54 = some (TK.int IntKind.u64, 1) := by kernel_rfl
@[simp] theorem zav54 : zav Try.prog 54 = some (AV.int IntKind.u64 (0)) := by kernel_rfl
@[simp] theorem aggT54 : aggT Try.prog 54 = false := by kernel_rfl
@[simp] theorem tk59 : tk Try.prog 59 = some (TK.slice 22 1 24, 1) := by kernel_rfl
@[simp] theorem zav59 : zav Try.prog 59 = some AV.nilS := by kernel_rfl
@[simp] theorem aggT59 : aggT Try.prog 59 = false := by kernel_rfl
@[simp] theorem tk61 : tk Try.prog 61 = some (TK.int IntKind.i64, 1) := by kernel_rfl
@[simp] theorem zav61 : zav Try.prog 61 = some (AV.int IntKind.i64 (0)) := by kernel_rfl
@[simp] theorem aggT61 : aggT Try.prog 61 = false := by kernel_rfl
@[simp] theorem tk70 : tk Try.prog 70 = some (TK.int IntKind.u64, 1) := by kernel_rfl
@[simp] theorem zav70 : zav Try.prog 70 = some (AV.int IntKind.u64 (0)) := by kernel_rfl
@[simp] theorem aggT70 : aggT Try.prog 70 = false := by kernel_rfl
@[simp] theorem tk74 : tk Try.prog 74 = some (TK.ptr, 1) := by kernel_rfl
@[simp] theorem zav74 : zav Try.prog 74 = some AV.nilP := by kernel_rfl
@[simp] theorem ptrT74 : ptrT Try.prog 74 = true := by kernel_rfl
@[simp] theorem tk76 : tk Try.prog 76 = some (TK.ptr, 1) := by kernel_rfl
@[simp] theorem zav76 : zav Try.prog 76 = some AV.nilP := by kernel_rfl
@[simp] theorem ptrT76 : ptrT Try.prog 76 = true := by kernel_rfl
@[simp] theorem tk80 : tk Try.prog 80 = some (TK.struct [(0, 1, false), (1, 1, false), (2, 1, false), (3, 1, false)], 4) := by kernel_rfl
@[simp] theorem zav80 : zav Try.prog 80 = some (AV.agg [AV.nilP, AV.nilP, AV.nilP, AV.str { data := { toList := [] } }]) := by kernel_rfl
@[simp] theorem aggT80 : aggT Try.prog 80 = true := by kernel_rfl
@[simp] theorem tk81 : tk Try.prog 81 = some (TK.struct [(0, 1, false), (1, 1, false), (2, 1, false), (3, 1, false)], 4) := by kernel_rfl
@[simp] theorem zav81 : zav Try.prog 81 = some (AV.agg [AV.nilP, AV.nilP, AV.nilP, AV.str { data := { toList := [] } }]) := by kernel_rfl
@[simp] theorem aggT81 : aggT Try.prog 81 = true := by kernel_rfl
@[simp] theorem tk82 : tk Try.prog 82 = some (TK.arr 0 16 1, 0) := by kernel_rfl
@[simp] theorem zav82 : zav Try.prog 82 = some (AV.agg []) := by kernel_rfl
@[simp] theorem aggT82 : aggT Try.prog 82 = true := by kernel_rfl
@[simp] theorem tk83 : tk Try.prog 83 = some (TK.struct [(0, 0, true)], 0) := by kernel_rfl
@[simp] theorem zav83 : zav Try.prog 83 = some (AV.agg [AV.agg []]) := by kernel_rfl
@[simp] theorem aggT83 : aggT Try.prog 83 = true := by kernel_rfl
@[simp] theorem tk84 : tk Try.prog 84 = some (TK.struct [(0, 0, true)], 0) := by kernel_rfl
@[simp] theorem zav84 : zav Try.prog 84 = some (AV.agg [AV.agg []]) := by kernel_rfl
@[simp] theorem aggT84 : aggT Try.prog 84 = true := by kernel_rfl
@[simp] theorem tk86 : tk Try.prog 86 = some (TK.int IntKind.u8, 1) := by kernel_rfl
@[simp] theorem zav86 : zav Try.prog 86 = some (AV.int IntKind.u8 (0)) := by kernel_rfl
@[simp] theorem aggT86 : aggT Try.prog 86 = false := by kernel_rfl
@[simp] theorem tk87 : tk Try.prog 87 = some (TK.int IntKind.u8, 1) := by kernel_rfl
@[simp] theorem zav87 : zav Try.prog 87 = some (AV.int IntKind.u8 (0)) := by kernel_rfl
@[simp] theorem aggT87 : aggT Try.prog 87 = false := by kernel_rfl
@[simp] theorem tk89 : tk Try.prog 89 = some (TK.ptr, 1) := by kernel_rfl
@[simp] theorem zav89 : zav Try.prog 89 = some AV.nilP := by kernel_rfl
@[simp] theorem ptrT89 : ptrT Try.prog 89 = true := by kernel_rfl
@[simp] theorem tk90 : tk Try.prog 90 = some (TK.int IntKind.i32, 1) := by kernel_rfl
@[simp] theorem zav90 : zav Try.prog 90 = some (AV.int IntKind.i32 (0)) := by kernel_rfl
@[simp] theorem aggT90 : aggT Try.prog 90 = false := by kernel_rfl
@[simp] theorem tk91 : tk Try.prog 91 = some (TK.int IntKind.i32, 1) := by kernel_rfl
@[simp] theorem zav91 : zav Try.prog 91 = some (AV.int IntKind.i32 (0)) := by kernel_rfl
@[simp] theorem aggT91 : aggT Try.prog 91 = false := by kernel_rfl
@[simp] theorem tk92 : tk Try.prog 92 = some (TK.struct [(0, 1, false), (1, 1, false), (2, 1, false), (3, 1, false), (4, 1, false), (5, 1, false), (6, 1, false), (7, 1, false), (8, 1, false), (9, 1, false), (10, 1, false)], 11) := by kernel_rfl
@[simp] theorem zav92 : zav Try.prog 92 = some (AV.agg [AV.int IntKind.u64 (0), AV.int IntKind.u64 (0), AV.int IntKind.u32 (0), AV.int IntKind.u8 (0), AV.int IntKind.u8 (0), AV.int IntKind.u8 (0), AV.int IntKind.u8 (0), AV.any, AV.nilP, AV.int IntKind.i32 (0), AV.int IntKind.i32 (0)]) := by kernel_rfl
@[simp] theorem aggT92 : aggT Try.prog 92 = true := by kernel_rfl
@[simp] theorem tk93 : tk Try.prog 93 = some (TK.struct [(0, 1, false), (1, 1, false), (2, 1, false), (3, 1, false), (4, 1, false), (5, 1, false), (6, 1, false), (7, 1, false), (8, 1, false), (9, 1, false), (10, 1, false)], 11) := by kernel_rfl
@[simp] theorem zav93 : zav Try.prog 93 = some (AV.agg [AV.int IntKind.u64 (0), AV.int IntKind.u64 (0), AV.int IntKind.u32 (0), AV.int IntKind.u8 (0), AV.int IntKind.u8 (0), AV.int IntKind.u8 (0), AV.int IntKind.u8 (0), AV.any, AV.nilP, AV.int IntKind.i32 (0), AV.int IntKind.i32 (0)]) := by kernel_rfl
@[simp] theorem aggT93 : aggT Try.prog 93 = true := by kernel_rfl
end Go.Proofs.Ytpneikbihcoaaab.Vm
