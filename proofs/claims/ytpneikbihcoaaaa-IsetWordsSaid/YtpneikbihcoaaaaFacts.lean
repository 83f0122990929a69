/- The types of the translation: kinds, zero values. Printed by facts.py, proved by the kernel. -/
import Derived.Test.YtpneikbihcoaaaaProg
import Derived.Test.YtpneikbihcoaaaaVm18
import Derived.KernelRfl
namespace Go.Proofs.Ytpneikbihcoaaaa.Vm
set_option linter.unusedVariables false
@[simp] theorem tk2 : tk Try.prog 2 = some (TK.int IntKind.i64, 1) := by kernel_rfl
@[simp] theorem zav2 : zav Try.prog 2 = some (AV.int IntKind.i64 (0)) := by kernel_rfl
@[simp] theorem aggT2 : aggT Try.prog 2 = false := by kernel_rfl
@[simp] theorem tk3 : tk Try.prog 3 = some (TK.int IntKind.i64, 1) := by kernel_rfl
@[simp] theorem zav3 : zav Try.prog 3 = some (AV.int IntKind.i64 (0)) := by kernel_rfl
@[simp] theorem aggT3 : aggT Try.prog 3 = false := by kernel_rfl
@[simp] theorem tk4 : tk Try.prog 4 = some (TK.bool, 1) := by kernel_rfl
@[simp] theorem zav4 : zav Try.prog 4 = some (AV.bool false) := by kernel_rfl
@[simp] theorem aggT4 : aggT Try.prog 4 = false := by kernel_rfl
@[simp] theorem boolT4 : boolT Try.prog 4 = true := by kernel_rfl
@[simp] theorem tk5 : tk Try.prog 5 = some (TK.int IntKind.u8, 1) := by kernel_rfl
@[simp] theorem zav5 : zav Try.prog 5 = some (AV.int IntKind.u8 (0)) := by kernel_rfl
@[simp] theorem aggT5 : aggT Try.prog 5 = false := by kernel_rfl
@[simp] theorem tk6 : tk Try.prog 6 = some (TK.int IntKind.u8, 1) := by kernel_rfl
@[simp] theorem zav6 : zav Try.prog 6 = some (AV.int IntKind.u8 (0)) := by kernel_rfl
@[simp] theorem aggT6 : aggT Try.prog 6 = false := by kernel_rfl
@[simp] theorem tk7 : tk Try.prog 7 = some (TK.struct [(0, 1, false), (1, 1, false), (2, 1, false), (3, 1, false)], 4) := by kernel_rfl
@[simp] theorem zav7 : zav Try.prog 7 = some (AV.agg [AV.int IntKind.i64 (0), AV.int IntKind.i64 (0), AV.bool false, AV.int IntKind.u8 (0)]) := by kernel_rfl
@[simp] theorem aggT7 : aggT Try.prog 7 = true := by kernel_rfl
@[simp] theorem tk8 : tk Try.prog 8 = some (TK.struct [(0, 1, false), (1, 1, false), (2, 1, false), (3, 1, false)], 4) := by kernel_rfl
@[simp] theorem zav8 : zav Try.prog 8 = some (AV.agg [AV.int IntKind.i64 (0), AV.int IntKind.i64 (0), AV.bool false, AV.int IntKind.u8 (0)]) := by kernel_rfl
@[simp] theorem aggT8 : aggT Try.prog 8 = true := by kernel_rfl
@[simp] theorem tk9 : tk Try.prog 9 = some (TK.str, 1) := by kernel_rfl
@[simp] theorem zav9 : zav Try.prog 9 = some (AV.str { data := { toList := [] } }) := by kernel_rfl
@[simp] theorem aggT9 : aggT Try.prog 9 = false := by kernel_rfl
@[simp] theorem tk10 : tk Try.prog 10 = some (TK.str, 1) := by kernel_rfl
@[simp] theorem zav10 : zav Try.prog 10 = some (AV.str { data := { toList := [] } }) := by kernel_rfl
@[simp] theorem aggT10 : aggT Try.prog 10 = false := by kernel_rfl
@[simp] theorem tk11 : tk Try.prog 11 = some (TK.str, 1) := by kernel_rfl
@[simp] theorem zav11 : zav Try.prog 11 = some (AV.str { data := { toList := [] } }) := by kernel_rfl
@[simp] theorem aggT11 : aggT Try.prog 11 = false := by kernel_rfl
@[simp] theorem tk12 : tk Try.prog 12 = some (TK.int IntKind.u64, 1) := by kernel_rfl
@[simp] theorem zav12 : zav Try.prog 12 = some (AV.int IntKind.u64 (0)) := by kernel_rfl
@[simp] theorem aggT12 : aggT Try.prog 12 = false := by kernel_rfl
@[simp] theorem tk13 : tk Try.prog 13 = some (TK.struct [(0, 1, false), (1, 1, false)], 2) := by kernel_rfl
@[simp] theorem zav13 : zav Try.prog 13 = some (AV.agg [AV.str { data := { toList := [] } }, AV.int IntKind.u64 (0)]) := by kernel_rfl
@[simp] theorem aggT13 : aggT Try.prog 13 = true := by kernel_rfl
@[simp] theorem tk14 : tk Try.prog 14 = some (TK.struct [(0, 1, false), (1, 1, false)], 2) := by kernel_rfl
@[simp] theorem zav14 : zav Try.prog 14 = some (AV.agg [AV.str { data := { toList := [] } }, AV.int IntKind.u64 (0)]) := by kernel_rfl
@[simp] theorem aggT14 : aggT Try.prog 14 = true := by kernel_rfl
@[simp] theorem tk15 : tk Try.prog 15 = some (TK.ptr, 1) := by kernel_rfl
@[simp] theorem zav15 : zav Try.prog 15 = some AV.nilP := by kernel_rfl
@[simp] theorem ptrT15 : ptrT Try.prog 15 = true := by kernel_rfl
@[simp] theorem tk16 : tk Try.prog 16 = some (TK.ptr, 1) := by kernel_rfl
@[simp] theorem zav16 : zav Try.prog 16 = some AV.nilP := by kernel_rfl
@[simp] theorem ptrT16 : ptrT Try.prog 16 = true := by kernel_rfl
@[simp] theorem tk17 : tk Try.prog 17 = some (TK.ptr, 1) := by kernel_rfl
@[simp] theorem zav17 : zav Try.prog 17 = some AV.nilP := by kernel_rfl
@[simp] theorem ptrT17 : ptrT Try.prog 17 = true := by kernel_rfl
@[simp] theorem tk18 : tk Try.prog 18 = some (TK.struct [(0, 1, false)], 1) := by kernel_rfl
@[simp] theorem zav18 : zav Try.prog 18 = some (AV.agg [AV.nilP]) := by kernel_rfl
@[simp] theorem aggT18 : aggT Try.prog 18 = true := by kernel_rfl
@[simp] theorem tk19 : tk Try.prog 19 = some (TK.struct [(0, 1, false)], 1) := by kernel_rfl
@[simp] theorem zav19 : zav Try.prog 19 = some (AV.agg [AV.nilP]) := by kernel_rfl
@[simp] theorem aggT19 : aggT Try.prog 19 = true := by kernel_rfl
@[simp] theorem tk21 : tk Try.prog 21 = some (TK.int IntKind.i32, 1) := by kernel_rfl
@[simp] theorem zav21 : zav Try.prog 21 = some (AV.int IntKind.i32 (0)) := by kernel_rfl
@[simp] theorem aggT21 : aggT Try.prog 21 = false := by kernel_rfl
@[simp] theorem tk22 : tk Try.prog 22 = some (TK.int IntKind.u32, 1) := by kernel_rfl
@[simp] theorem zav22 : zav Try.prog 22 = some (AV.int IntKind.u32 (0)) := by kernel_rfl
@[simp] theorem aggT22 : aggT Try.prog 22 = false := by kernel_rfl
@[simp] theorem tk23 : tk Try.prog 23 = some (TK.arr 16 22 1, 16) := by kernel_rfl
@[simp] theorem zav23 : zav Try.prog 23 = some (AV.agg [AV.int IntKind.u32 (0), AV.int IntKind.u32 (0), AV.int IntKind.u32 (0), AV.int IntKind.u32 (0), AV.int IntKind.u32 (0), AV.int IntKind.u32 (0), AV.int IntKind.u32 (0), AV.int IntKind.u32 (0), AV.int IntKind.u32 (0), AV.int IntKind.u32 (0), AV.int IntKind.u32 (0), AV.int IntKind.u32 (0), AV.int IntKind.u32 (0), AV.int IntKind.u32 (0), AV.int IntKind.u32 (0), AV.int IntKind.u32 (0)]) := by kernel_rfl
@[simp] theorem aggT23 : aggT Try.prog 23 = true := by kernel_rfl
@[simp] theorem tk24 : tk Try.prog 24 = some (TK.arr 16 22 1, 16) := by kernel_rfl
@[simp] theorem zav24 : zav Try.prog 24 = some (AV.agg [AV.int IntKind.u32 (0), AV.int IntKind.u32 (0), AV.int IntKind.u32 (0), AV.int IntKind.u32 (0), AV.int IntKind.u32 (0), AV.int IntKind.u32 (0), AV.int IntKind.u32 (0), AV.int IntKind.u32 (0), AV.int IntKind.u32 (0), AV.int IntKind.u32 (0), AV.int IntKind.u32 (0), AV.int IntKind.u32 (0), AV.int IntKind.u32 (0), AV.int IntKind.u32 (0), AV.int IntKind.u32 (0), AV.int IntKind.u32 (0)]) := by kernel_rfl
@[simp] theorem aggT24 : aggT Try.prog 24 = true := by kernel_rfl
@[simp] theorem tk25 : tk Try.prog 25 = some (TK.int IntKind.u64, 1) := by kernel_rfl
@[simp] theorem zav25 : zav Try.prog 25 = some (AV.int IntKind.u64 (0)) := by kernel_rfl
@[simp] theorem aggT25 : aggT Try.prog 25 = false := by kernel_rfl
@[simp] theorem tk41 : tk Try.prog 41 = some (TK.int IntKind.i64, 1) := by kernel_rfl
@[simp] theorem zav41 : zav Try.prog 41 = some (AV.int IntKind.i64 (0)) := by kernel_rfl
@[simp] theorem aggT41 : aggT Try.prog 41 = false := by kernel_rfl
@[simp] theorem tk50 : tk Try.prog 50 = some (TK.struct [(0, 16, true), (16, 1, false), (17, 1, false), (18, 1, false), (19, 1, false)], 20) := by kernel_rfl
@[simp] theorem zav50 : zav Try.prog 50 = some (AV.agg [AV.agg [AV.int IntKind.u32 (0), AV.int IntKind.u32 (0), AV.int IntKind.u32 (0), AV.int IntKind.u32 (0), AV.int IntKind.u32 (0), AV.int IntKind.u32 (0), AV.int IntKind.u32 (0), AV.int IntKind.u32 (0), AV.int IntKind.u32 (0), AV.int IntKind.u32 (0), AV.int IntKind.u32 (0), AV.int IntKind.u32 (0), AV.int IntKind.u32 (0), AV.int IntKind.u32 (0), AV.int IntKind.u32 (0), AV.int IntKind.u32 (0)], AV.int IntKind.i64 (0), AV.int IntKind.i64 (0), AV.int IntKind.u64 (0), AV.int IntKind.u64 (0)]) := by kernel_rfl
@[simp] theorem aggT50 : aggT Try.prog 50 = true := by kernel_rfl
@[simp] theorem tk51 : tk Try.prog 51 = some (TK.struct [(0, 16, true), (16, 1, false), (17, 1, false), (18, 1, false), (19, 1, false)], 20) := by kernel_rfl
@[simp] theorem zav51 : zav Try.prog 51 = some (AV.agg [AV.agg [AV.int IntKind.u32 (0), AV.int IntKind.u32 (0), AV.int IntKind.u32 (0), AV.int IntKind.u32 (0), AV.int IntKind.u32 (0), AV.int IntKind.u32 (0), AV.int IntKind.u32 (0), AV.int IntKind.u32 (0), AV.int IntKind.u32 (0), AV.int IntKind.u32 (0), AV.int IntKind.u32 (0), AV.int IntKind.u32 (0), AV.int IntKind.u32 (0), AV.int IntKind.u32 (0), AV.int IntKind.u32 (0), AV.int IntKind.u32 (0)], AV.int IntKind.i64 (0), AV.int IntKind.i64 (0), AV.int IntKind.u64 (0), AV.int IntKind.u64 (0)]) := by kernel_rfl
@[simp] theorem aggT51 : aggT Try.prog 51 = true := by kernel_rfl
@[simp] theorem tk53 : tk Try.prog 53 = some (TK.slice 68 2 16, 1) := by kernel_rfl
@[simp] theorem zav53 : zav Try.prog 53 = some AV.nilS := by kernel_rfl
@[simp] theorem aggT53 : aggT Try.prog 53 = false := by kernel_rfl
@[simp] theorem tk57 : tk Try.prog 57 = some (TK.slice 25 1 8, 1) := by kernel_rfl
@[simp] theorem zav57 : zav Try.prog 57 = some AV.nilS := by kernel_rfl
@[simp] theorem aggT57 : aggT Try.prog 57 = false := by kernel_rfl
@[simp] theorem tk67 : tk Try.prog 67 = some (TK.struct [(0, 1, false), (1, 1, false)], 2) := by kernel_rfl
@[simp] theorem zav67 : zav Try.prog 67 = some (AV.agg [AV.int IntKind.u64 (0), AV.int IntKind.u64 (0)]) := by kernel_rfl
@[simp] theorem aggT67 : aggT Try.prog 67 = true := by kernel_rfl
@[simp] theorem tk68 : tk Try.prog 68 = some (TK.struct [(0, 1, false), (1, 1, false)], 2) := by kernel_rfl
@[simp] theorem zav68 : zav Try.prog 68 = some (AV.agg [AV.int IntKind.u64 (0), AV.int IntKind.u64 (0)]) := by kernel_rfl
@[simp] theorem aggT68 : aggT Try.prog 68 = true := by kernel_rfl
@[simp] theorem tk76 : tk Try.prog 76 = some (TK.arr 9 9 1, 9) := by kernel_rfl
@[simp] theorem zav76 : zav Try.prog 76 = some (AV.agg [AV.str { data := { toList := [] } }, AV.str { data := { toList := [] } }, AV.str { data := { toList := [] } }, AV.str { data := { toList := [] } }, AV.str { data := { toList := [] } }, AV.str { data := { toList := [] } }, AV.str { data := { toList := [] } }, AV.str { data := { toList := [] } }, AV.str { data := { toList := [] } }]) := by kernel_rfl
@[simp] theorem aggT76 : aggT Try.prog 76 = true := by kernel_rfl
@[simp] theorem tk79 : tk Try.prog 79 = some (TK.slice 9 1 16, 1) := by kernel_rfl
@[simp] theorem zav79 : zav Try.prog 79 = some AV.nilS := by kernel_rfl
@[simp] theorem aggT79 : aggT Try.prog 79 = false := by kernel_rfl
@[simp] theorem tk80 : tk Try.prog 80 = some (TK.slice 5 1 1, 1) := by kernel_rfl
@[simp] theorem zav80 : zav Try.prog 80 = some AV.nilS := by kernel_rfl
@[simp] theorem aggT80 : aggT Try.prog 80 = false := by kernel_rfl
@[simp] theorem tk81 : tk Try.prog 81 = some (TK.int IntKind.u64, 1) := by kernel_rfl
@[simp] theorem zav81 : zav Try.prog 81 = some (AV.int IntKind.u64 (0)) := by kernel_rfl
@[simp] theorem aggT81 : aggT Try.prog 81 = false := by kernel_rfl
@[simp] theorem tk82 : tk Try.prog 82 = some (TK.slice 85 3 32, 1) := by kernel_rfl
@[simp] theorem zav82 : zav Try.prog 82 = some AV.nilS := by kernel_rfl
@[simp] theorem aggT82 : aggT Try.prog 82 = false := by kernel_rfl
@[simp] theorem tk84 : tk Try.prog 84 = some (TK.struct [(0, 1, false), (1, 1, false), (2, 1, false)], 3) := by kernel_rfl
@[simp] theorem zav84 : zav Try.prog 84 = some (AV.agg [AV.int IntKind.u32 (0), AV.int IntKind.u32 (0), AV.nilS]) := by kernel_rfl
@[simp] theorem aggT84 : aggT Try.prog 84 = true := by kernel_rfl
@[simp] theorem tk85 : tk Try.prog 85 = some (TK.struct [(0, 1, false), (1, 1, false), (2, 1, false)], 3) := by kernel_rfl
@[simp] theorem zav85 : zav Try.prog 85 = some (AV.agg [AV.int IntKind.u32 (0), AV.int IntKind.u32 (0), AV.nilS]) := by kernel_rfl
@[simp] theorem aggT85 : aggT Try.prog 85 = true := by kernel_rfl
@[simp] theorem tk97 : tk Try.prog 97 = some (TK.slice 53 1 24, 1) := by kernel_rfl
@[simp] theorem zav97 : zav Try.prog 97 = some AV.nilS := by kernel_rfl
@[simp] theorem aggT97 : aggT Try.prog 97 = false := by kernel_rfl
@[simp] theorem tk99 : tk Try.prog 99 = some (TK.int IntKind.i64, 1) := by kernel_rfl
@[simp] theorem zav99 : zav Try.prog 99 = some (AV.int IntKind.i64 (0)) := by kernel_rfl
@[simp] theorem aggT99 : aggT Try.prog 99 = false := by kernel_rfl
@[simp] theorem tk107 : tk Try.prog 107 = some (TK.int IntKind.u64, 1) := by kernel_rfl
@[simp] theorem zav107 : zav Try.prog 107 = some (AV.int IntKind.u64 (0)) := by kernel_rfl
@[simp] theorem aggT107 : aggT Try.prog 107 = false := by kernel_rfl
@[simp] theorem tk111 : tk Try.prog 111 = some (TK.ptr, 1) := by kernel_rfl
@[simp] theorem zav111 : zav Try.prog 111 = some AV.nilP := by kernel_rfl
@[simp] theorem ptrT111 : ptrT Try.prog 111 = true := by kernel_rfl
@[simp] theorem tk113 : tk Try.prog 113 = some (TK.ptr, 1) := by kernel_rfl
@[simp] theorem zav113 : zav Try.prog 113 = some AV.nilP := by kernel_rfl
@[simp] theorem ptrT113 : ptrT Try.prog 113 = true := by kernel_rfl
@[simp] theorem tk117 : tk Try.prog 117 = some (TK.struct [(0, 1, false), (1, 1, false), (2, 1, false), (3, 1, false)], 4) := by kernel_rfl
@[simp] theorem zav117 : zav Try.prog 117 = some (AV.agg [AV.nilP, AV.nilP, AV.nilP, AV.str { data := { toList := [] } }]) := by kernel_rfl
@[simp] theorem aggT117 : aggT Try.prog 117 = true := by kernel_rfl
@[simp] theorem tk118 : tk Try.prog 118 = some (TK.struct [(0, 1, false), (1, 1, false), (2, 1, false), (3, 1, false)], 4) := by kernel_rfl
@[simp] theorem zav118 : zav Try.prog 118 = some (AV.agg [AV.nilP, AV.nilP, AV.nilP, AV.str { data := { toList := [] } }]) := by kernel_rfl
@[simp] theorem aggT118 : aggT Try.prog 118 = true := by kernel_rfl
@[simp] theorem tk119 : tk Try.prog 119 = some (TK.arr 0 16 1, 0) := by kernel_rfl
@[simp] theorem zav119 : zav Try.prog 119 = some (AV.agg []) := by kernel_rfl
@[simp] theorem aggT119 : aggT Try.prog 119 = true := by kernel_rfl
@[simp] theorem tk120 : tk Try.prog 120 = some (TK.struct [(0, 0, true)], 0) := by kernel_rfl
@[simp] theorem zav120 : zav Try.prog 120 = some (AV.agg [AV.agg []]) := by kernel_rfl
@[simp] theorem aggT120 : aggT Try.prog 120 = true := by kernel_rfl
@[simp] theorem tk121 : tk Try.prog 121 = some (TK.struct [(0, 0, true)], 0) := by kernel_rfl
@[simp] theorem zav121 : zav Try.prog 121 = some (AV.agg [AV.agg []]) := by kernel_rfl
@[simp] theorem aggT121 : aggT Try.prog 121 = true := by kernel_rfl
@[simp] theorem tk123 : tk Try.prog 123 = some (TK.int IntKind.u8, 1) := by kernel_rfl
@[simp] theorem zav123 : zav Try.prog 123 = some (AV.int IntKind.u8 (0)) := by kernel_rfl
@[simp] theorem aggT123 : aggT Try.prog 123 = false := by kernel_rfl
@[simp] theorem tk124 : tk Try.prog 124 = some (TK.int IntKind.u8, 1) := by kernel_rfl
@[simp] theorem zav124 : zav Try.prog 124 = some (AV.int IntKind.u8 (0)) := by kernel_rfl
@[simp] theorem aggT124 : aggT Try.prog 124 = false := by kernel_rfl
@[simp] theorem tk126 : tk Try.prog 126 = some (TK.ptr, 1) := by kernel_rfl
@[simp] theorem zav126 : zav Try.prog 126 = some AV.nilP := by kernel_rfl
@[simp] theorem ptrT126 : ptrT Try.prog 126 = true := by kernel_rfl
@[simp] theorem tk127 : tk Try.prog 127 = some (TK.int IntKind.i32, 1) := by kernel_rfl
@[simp] theorem zav127 : zav Try.prog 127 = some (AV.int IntKind.i32 (0)) := by kernel_rfl
@[simp] theorem aggT127 : aggT Try.prog 127 = false := by kernel_rfl
@[simp] theorem tk128 : tk Try.prog 128 = some (TK.int IntKind.i32, 1) := by kernel_rfl
@[simp] theorem zav128 : zav Try.prog 128 = some (AV.int IntKind.i32 (0)) := by kernel_rfl
@[simp] theorem aggT128 : aggT Try.prog 128 = false := by kernel_rfl
@[simp] theorem tk129 : tk Try.prog 129 = some (TK.struct [(0, 1, false), (1, 1, false), (2, 1, false), (3, 1, false), (4, 1, false), (5, 1, false), (6, 1, false), (7, 1, false), (8, 1, false), (9, 1, false), (10, 1, false)], 11) := by kernel_rfl
@[simp] theorem zav129 : zav Try.prog 129 = some (AV.agg [AV.int IntKind.u64 (0), AV.int IntKind.u64 (0), AV.int IntKind.u32 (0), AV.int IntKind.u8 (0), AV.int IntKind.u8 (0), AV.int IntKind.u8 (0), AV.int IntKind.u8 (0), AV.any, AV.nilP, AV.int IntKind.i32 (0), AV.int IntKind.i32 (0)]) := by kernel_rfl
@[simp] theorem aggT129 : aggT Try.prog 129 = true := by kernel_rfl
@[simp] theorem tk130 : tk Try.prog 130 = some (TK.struct [(0, 1, false), (1, 1, false), (2, 1, false), (3, 1, false), (4, 1, false), (5, 1, false), (6, 1, false), (7, 1, false), (8, 1, false), (9, 1, false), (10, 1, false)], 11) := by kernel_rfl
@[simp] theorem zav130 : zav Try.prog 130 = some (AV.agg [AV.int IntKind.u64 (0), AV.int IntKind.u64 (0), AV.int IntKind.u32 (0), AV.int IntKind.u8 (0), AV.int IntKind.u8 (0), AV.int IntKind.u8 (0), AV.int IntKind.u8 (0), AV.any, AV.nilP, AV.int IntKind.i32 (0), AV.int IntKind.i32 (0)]) := by kernel_rfl
@[simp] theorem aggT130 : aggT Try.prog 130 = true := by kernel_rfl
end Go.Proofs.Ytpneikbihcoaaaa.Vm
