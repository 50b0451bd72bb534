/- What the types of this translation are, as the runs over abstract states ask it. Printed by tys.py. -/
import Derived.Test.YtkcoepeeamooiaaAb3
import Derived.Test.YtkcoepeeamooiaaProg
import Derived.KernelRfl
set_option maxRecDepth 100000
namespace Go.Proofs
open Go Go.Ab
theorem Try.ty1 : tyOf Try.prog 1 = some { k := .func, size := 1, bytes := 8, zero := [.nilf] } := by kernel_rfl
theorem Try.ty2 : tyOf Try.prog 2 = some { k := .int .i64, size := 1, bytes := 8, zero := [.d (.int .i64 0)] } := by kernel_rfl
theorem Try.ty3 : tyOf Try.prog 3 = some { k := .int .i64, size := 1, bytes := 8, zero := [.d (.int .i64 0)] } := by kernel_rfl
theorem Try.ty4 : tyOf Try.prog 4 = some { k := .bool, size := 1, bytes := 1, zero := [.d (.bool false)] } := by kernel_rfl
theorem Try.ty5 : tyOf Try.prog 5 = some { k := .int .u8, size := 1, bytes := 1, zero := [.d (.int .u8 0)] } := by kernel_rfl
theorem Try.ty6 : tyOf Try.prog 6 = some { k := .int .u8, size := 1, bytes := 1, zero := [.d (.int .u8 0)] } := by kernel_rfl
theorem Try.ty7 : tyOf Try.prog 7 = some { k := .struct [(0, 2, 1), (1, 3, 1), (2, 4, 1), (3, 6, 1)], size := 4, bytes := 24, zero := [.d (.int .i64 0), .d (.int .i64 0), .d (.bool false), .d (.int .u8 0)] } := by kernel_rfl
theorem Try.ty8 : tyOf Try.prog 8 = some { k := .struct [(0, 2, 1), (1, 3, 1), (2, 4, 1), (3, 6, 1)], size := 4, bytes := 24, zero := [.d (.int .i64 0), .d (.int .i64 0), .d (.bool false), .d (.int .u8 0)] } := by kernel_rfl
theorem Try.ty9 : tyOf Try.prog 9 = some { k := .str, size := 1, bytes := 16, zero := [.d (.str ByteArray.empty)] } := by kernel_rfl
theorem Try.ty10 : tyOf Try.prog 10 = some { k := .str, size := 1, bytes := 16, zero := [.d (.str ByteArray.empty)] } := by kernel_rfl
theorem Try.ty11 : tyOf Try.prog 11 = some { k := .str, size := 1, bytes := 16, zero := [.d (.str ByteArray.empty)] } := by kernel_rfl
theorem Try.ty12 : tyOf Try.prog 12 = some { k := .int .u64, size := 1, bytes := 8, zero := [.d (.int .u64 0)] } := by kernel_rfl
theorem Try.ty13 : tyOf Try.prog 13 = some { k := .struct [(0, 9, 1), (1, 12, 1)], size := 2, bytes := 24, zero := [.d (.str ByteArray.empty), .d (.int .u64 0)] } := by kernel_rfl
theorem Try.ty14 : tyOf Try.prog 14 = some { k := .struct [(0, 9, 1), (1, 12, 1)], size := 2, bytes := 24, zero := [.d (.str ByteArray.empty), .d (.int .u64 0)] } := by kernel_rfl
theorem Try.ty15 : tyOf Try.prog 15 = some { k := .ptr 77, size := 1, bytes := 8, zero := [.nilp] } := by kernel_rfl
theorem Try.ty16 : tyOf Try.prog 16 = some { k := .ptr 80, size := 1, bytes := 8, zero := [.nilp] } := by kernel_rfl
theorem Try.ty17 : tyOf Try.prog 17 = some { k := .ptr 90, size := 1, bytes := 8, zero := [.nilp] } := by kernel_rfl
theorem Try.ty18 : tyOf Try.prog 18 = some { k := .struct [(0, 17, 1)], size := 1, bytes := 8, zero := [.nilp] } := by kernel_rfl
theorem Try.ty19 : tyOf Try.prog 19 = some { k := .struct [(0, 17, 1)], size := 1, bytes := 8, zero := [.nilp] } := by kernel_rfl
theorem Try.ty21 : tyOf Try.prog 21 = some { k := .int .i32, size := 1, bytes := 4, zero := [.d (.int .i32 0)] } := by kernel_rfl
theorem Try.ty22 : tyOf Try.prog 22 = some { k := .int .u64, size := 1, bytes := 8, zero := [.d (.int .u64 0)] } := by kernel_rfl
theorem Try.ty23 : tyOf Try.prog 23 = some { k := .slice 3, size := 1, bytes := 24, zero := [.nils] } := by kernel_rfl
theorem Try.ty24 : tyOf Try.prog 24 = some { k := .slice 2, size := 1, bytes := 24, zero := [.nils] } := by kernel_rfl
theorem Try.ty25 : tyOf Try.prog 25 = some { k := .struct [(0, 2, 1), (1, 3, 1), (2, 3, 1), (3, 3, 1), (4, 3, 1), (5, 2, 1), (6, 2, 1), (7, 2, 1), (8, 22, 1), (9, 22, 1), (10, 23, 1), (11, 24, 1)], size := 12, bytes := 128, zero := [.d (.int .i64 0), .d (.int .i64 0), .d (.int .i64 0), .d (.int .i64 0), .d (.int .i64 0), .d (.int .i64 0), .d (.int .i64 0), .d (.int .i64 0), .d (.int .u64 0), .d (.int .u64 0), .nils, .nils] } := by kernel_rfl
theorem Try.ty26 : tyOf Try.prog 26 = some { k := .struct [(0, 2, 1), (1, 3, 1), (2, 3, 1), (3, 3, 1), (4, 3, 1), (5, 2, 1), (6, 2, 1), (7, 2, 1), (8, 22, 1), (9, 22, 1), (10, 23, 1), (11, 24, 1)], size := 12, bytes := 128, zero := [.d (.int .i64 0), .d (.int .i64 0), .d (.int .i64 0), .d (.int .i64 0), .d (.int .i64 0), .d (.int .i64 0), .d (.int .i64 0), .d (.int .i64 0), .d (.int .u64 0), .d (.int .u64 0), .nils, .nils] } := by kernel_rfl
theorem Try.ty27 : tyOf Try.prog 27 = some { k := .func, size := 1, bytes := 8, zero := [.nilf] } := by kernel_rfl
theorem Try.ty28 : tyOf Try.prog 28 = some { k := .slice 5, size := 1, bytes := 24, zero := [.nils] } := by kernel_rfl
theorem Try.ty29 : tyOf Try.prog 29 = some { k := .int .i64, size := 1, bytes := 8, zero := [.d (.int .i64 0)] } := by kernel_rfl
theorem Try.ty31 : tyOf Try.prog 31 = some { k := .func, size := 1, bytes := 8, zero := [.nilf] } := by kernel_rfl
theorem Try.ty32 : tyOf Try.prog 32 = some { k := .func, size := 1, bytes := 8, zero := [.nilf] } := by kernel_rfl
theorem Try.ty34 : tyOf Try.prog 34 = some { k := .func, size := 1, bytes := 8, zero := [.nilf] } := by kernel_rfl
theorem Try.ty35 : tyOf Try.prog 35 = some { k := .func, size := 1, bytes := 8, zero := [.nilf] } := by kernel_rfl
theorem Try.ty36 : tyOf Try.prog 36 = some { k := .func, size := 1, bytes := 8, zero := [.nilf] } := by kernel_rfl
theorem Try.ty37 : tyOf Try.prog 37 = some { k := .func, size := 1, bytes := 8, zero := [.nilf] } := by kernel_rfl
theorem Try.ty38 : tyOf Try.prog 38 = some { k := .func, size := 1, bytes := 8, zero := [.nilf] } := by kernel_rfl
theorem Try.ty39 : tyOf Try.prog 39 = some { k := .func, size := 1, bytes := 8, zero := [.nilf] } := by kernel_rfl
theorem Try.ty40 : tyOf Try.prog 40 = some { k := .int .u16, size := 1, bytes := 2, zero := [.d (.int .u16 0)] } := by kernel_rfl
theorem Try.ty41 : tyOf Try.prog 41 = some { k := .func, size := 1, bytes := 8, zero := [.nilf] } := by kernel_rfl
theorem Try.ty42 : tyOf Try.prog 42 = some { k := .func, size := 1, bytes := 8, zero := [.nilf] } := by kernel_rfl
theorem Try.ty43 : tyOf Try.prog 43 = some { k := .array 10 2, size := 10, bytes := 80, zero := [.d (.int .i64 0), .d (.int .i64 0), .d (.int .i64 0), .d (.int .i64 0), .d (.int .i64 0), .d (.int .i64 0), .d (.int .i64 0), .d (.int .i64 0), .d (.int .i64 0), .d (.int .i64 0)] } := by kernel_rfl
theorem Try.ty44 : tyOf Try.prog 44 = some { k := .func, size := 1, bytes := 8, zero := [.nilf] } := by kernel_rfl
theorem Try.ty45 : tyOf Try.prog 45 = some { k := .slice 24, size := 1, bytes := 24, zero := [.nils] } := by kernel_rfl
theorem Try.ty46 : tyOf Try.prog 46 = some { k := .func, size := 1, bytes := 8, zero := [.nilf] } := by kernel_rfl
theorem Try.ty47 : tyOf Try.prog 47 = some { k := .func, size := 1, bytes := 8, zero := [.nilf] } := by kernel_rfl
theorem Try.ty48 : tyOf Try.prog 48 = some { k := .func, size := 1, bytes := 8, zero := [.nilf] } := by kernel_rfl
theorem Try.ty49 : tyOf Try.prog 49 = some { k := .func, size := 1, bytes := 8, zero := [.nilf] } := by kernel_rfl
theorem Try.ty50 : tyOf Try.prog 50 = some { k := .func, size := 1, bytes := 8, zero := [.nilf] } := by kernel_rfl
theorem Try.ty51 : tyOf Try.prog 51 = some { k := .array 3 24, size := 3, bytes := 72, zero := [.nils, .nils, .nils] } := by kernel_rfl
theorem Try.ty53 : tyOf Try.prog 53 = some { k := .func, size := 1, bytes := 8, zero := [.nilf] } := by kernel_rfl
theorem Try.ty54 : tyOf Try.prog 54 = some { k := .func, size := 1, bytes := 8, zero := [.nilf] } := by kernel_rfl
theorem Try.ty55 : tyOf Try.prog 55 = some { k := .func, size := 1, bytes := 8, zero := [.nilf] } := by kernel_rfl
theorem Try.ty56 : tyOf Try.prog 56 = some { k := .func, size := 1, bytes := 8, zero := [.nilf] } := by kernel_rfl
theorem Try.ty57 : tyOf Try.prog 57 = some { k := .func, size := 1, bytes := 8, zero := [.nilf] } := by kernel_rfl
theorem Try.ty58 : tyOf Try.prog 58 = some { k := .func, size := 1, bytes := 8, zero := [.nilf] } := by kernel_rfl
theorem Try.ty59 : tyOf Try.prog 59 = some { k := .func, size := 1, bytes := 8, zero := [.nilf] } := by kernel_rfl
theorem Try.ty60 : tyOf Try.prog 60 = some { k := .func, size := 1, bytes := 8, zero := [.nilf] } := by kernel_rfl
theorem Try.ty61 : tyOf Try.prog 61 = some { k := .func, size := 1, bytes := 8, zero := [.nilf] } := by kernel_rfl
theorem Try.ty62 : tyOf Try.prog 62 = some { k := .func, size := 1, bytes := 8, zero := [.nilf] } := by kernel_rfl
theorem Try.ty63 : tyOf Try.prog 63 = some { k := .func, size := 1, bytes := 8, zero := [.nilf] } := by kernel_rfl
theorem Try.ty65 : tyOf Try.prog 65 = some { k := .func, size := 1, bytes := 8, zero := [.nilf] } := by kernel_rfl
theorem Try.ty67 : tyOf Try.prog 67 = some { k := .func, size := 1, bytes := 8, zero := [.nilf] } := by kernel_rfl
theorem Try.ty68 : tyOf Try.prog 68 = some { k := .func, size := 1, bytes := 8, zero := [.nilf] } := by kernel_rfl
theorem Try.ty69 : tyOf Try.prog 69 = some { k := .func, size := 1, bytes := 8, zero := [.nilf] } := by kernel_rfl
theorem Try.ty70 : tyOf Try.prog 70 = some { k := .func, size := 1, bytes := 8, zero := [.nilf] } := by kernel_rfl
theorem Try.ty71 : tyOf Try.prog 71 = some { k := .int .u64, size := 1, bytes := 8, zero := [.d (.int .u64 0)] } := by kernel_rfl
theorem Try.ty72 : tyOf Try.prog 72 = some { k := .func, size := 1, bytes := 8, zero := [.nilf] } := by kernel_rfl
theorem Try.ty73 : tyOf Try.prog 73 = some { k := .func, size := 1, bytes := 8, zero := [.nilf] } := by kernel_rfl
theorem Try.ty74 : tyOf Try.prog 74 = some { k := .func, size := 1, bytes := 8, zero := [.nilf] } := by kernel_rfl
theorem Try.ty75 : tyOf Try.prog 75 = some { k := .func, size := 1, bytes := 8, zero := [.nilf] } := by kernel_rfl
theorem Try.ty76 : tyOf Try.prog 76 = some { k := .struct [(0, 17, 1), (1, 17, 1), (2, 17, 1), (3, 9, 1)], size := 4, bytes := 40, zero := [.nilp, .nilp, .nilp, .d (.str ByteArray.empty)] } := by kernel_rfl
theorem Try.ty77 : tyOf Try.prog 77 = some { k := .struct [(0, 17, 1), (1, 17, 1), (2, 17, 1), (3, 9, 1)], size := 4, bytes := 40, zero := [.nilp, .nilp, .nilp, .d (.str ByteArray.empty)] } := by kernel_rfl
theorem Try.ty78 : tyOf Try.prog 78 = some { k := .array 0 16, size := 0, bytes := 0, zero := [] } := by kernel_rfl
theorem Try.ty81 : tyOf Try.prog 81 = some { k := .func, size := 1, bytes := 8, zero := [.nilf] } := by kernel_rfl
theorem Try.ty82 : tyOf Try.prog 82 = some { k := .int .u32, size := 1, bytes := 4, zero := [.d (.int .u32 0)] } := by kernel_rfl
theorem Try.ty83 : tyOf Try.prog 83 = some { k := .int .u8, size := 1, bytes := 1, zero := [.d (.int .u8 0)] } := by kernel_rfl
theorem Try.ty84 : tyOf Try.prog 84 = some { k := .int .u8, size := 1, bytes := 1, zero := [.d (.int .u8 0)] } := by kernel_rfl
theorem Try.ty85 : tyOf Try.prog 85 = some { k := .func, size := 1, bytes := 8, zero := [.nilf] } := by kernel_rfl
theorem Try.ty86 : tyOf Try.prog 86 = some { k := .ptr 5, size := 1, bytes := 8, zero := [.nilp] } := by kernel_rfl
theorem Try.ty87 : tyOf Try.prog 87 = some { k := .int .i32, size := 1, bytes := 4, zero := [.d (.int .i32 0)] } := by kernel_rfl
theorem Try.ty88 : tyOf Try.prog 88 = some { k := .int .i32, size := 1, bytes := 4, zero := [.d (.int .i32 0)] } := by kernel_rfl
theorem Try.ty89 : tyOf Try.prog 89 = some { k := .struct [(0, 12, 1), (1, 12, 1), (2, 82, 1), (3, 83, 1), (4, 5, 1), (5, 5, 1), (6, 84, 1), (7, 85, 1), (8, 86, 1), (9, 87, 1), (10, 88, 1)], size := 11, bytes := 48, zero := [.d (.int .u64 0), .d (.int .u64 0), .d (.int .u32 0), .d (.int .u8 0), .d (.int .u8 0), .d (.int .u8 0), .d (.int .u8 0), .nilf, .nilp, .d (.int .i32 0), .d (.int .i32 0)] } := by kernel_rfl
theorem Try.ty90 : tyOf Try.prog 90 = some { k := .struct [(0, 12, 1), (1, 12, 1), (2, 82, 1), (3, 83, 1), (4, 5, 1), (5, 5, 1), (6, 84, 1), (7, 85, 1), (8, 86, 1), (9, 87, 1), (10, 88, 1)], size := 11, bytes := 48, zero := [.d (.int .u64 0), .d (.int .u64 0), .d (.int .u32 0), .d (.int .u8 0), .d (.int .u8 0), .d (.int .u8 0), .d (.int .u8 0), .nilf, .nilp, .d (.int .i32 0), .d (.int .i32 0)] } := by kernel_rfl
theorem Try.en3 : entry Try.prog 3 = true := by kernel_rfl
theorem Try.en4 : entry Try.prog 4 = true := by kernel_rfl
theorem Try.en5 : entry Try.prog 5 = true := by kernel_rfl
theorem Try.en6 : entry Try.prog 6 = true := by kernel_rfl
theorem Try.en7 : entry Try.prog 7 = true := by kernel_rfl
theorem Try.en8 : entry Try.prog 8 = true := by kernel_rfl
theorem Try.en9 : entry Try.prog 9 = true := by kernel_rfl
theorem Try.en10 : entry Try.prog 10 = true := by kernel_rfl
theorem Try.en11 : entry Try.prog 11 = true := by kernel_rfl
theorem Try.en12 : entry Try.prog 12 = true := by kernel_rfl
theorem Try.en13 : entry Try.prog 13 = true := by kernel_rfl
theorem Try.en14 : entry Try.prog 14 = true := by kernel_rfl
theorem Try.en15 : entry Try.prog 15 = true := by kernel_rfl
theorem Try.en16 : entry Try.prog 16 = true := by kernel_rfl
theorem Try.en17 : entry Try.prog 17 = true := by kernel_rfl
theorem Try.en18 : entry Try.prog 18 = true := by kernel_rfl
theorem Try.en19 : entry Try.prog 19 = true := by kernel_rfl
theorem Try.en20 : entry Try.prog 20 = true := by kernel_rfl
theorem Try.en21 : entry Try.prog 21 = true := by kernel_rfl
theorem Try.en22 : entry Try.prog 22 = true := by kernel_rfl
theorem Try.en23 : entry Try.prog 23 = true := by kernel_rfl
theorem Try.en24 : entry Try.prog 24 = true := by kernel_rfl
theorem Try.en25 : entry Try.prog 25 = true := by kernel_rfl
theorem Try.en26 : entry Try.prog 26 = true := by kernel_rfl
theorem Try.en27 : entry Try.prog 27 = true := by kernel_rfl
theorem Try.en28 : entry Try.prog 28 = true := by kernel_rfl
theorem Try.en29 : entry Try.prog 29 = true := by kernel_rfl
theorem Try.en30 : entry Try.prog 30 = true := by kernel_rfl
theorem Try.en31 : entry Try.prog 31 = true := by kernel_rfl
theorem Try.en32 : entry Try.prog 32 = true := by kernel_rfl
theorem Try.en33 : entry Try.prog 33 = true := by kernel_rfl
theorem Try.en34 : entry Try.prog 34 = true := by kernel_rfl
theorem Try.en35 : entry Try.prog 35 = true := by kernel_rfl
theorem Try.en36 : entry Try.prog 36 = true := by kernel_rfl
theorem Try.en37 : entry Try.prog 37 = true := by kernel_rfl
theorem Try.en38 : entry Try.prog 38 = true := by kernel_rfl
theorem Try.en39 : entry Try.prog 39 = true := by kernel_rfl
theorem Try.en40 : entry Try.prog 40 = true := by kernel_rfl
theorem Try.en41 : entry Try.prog 41 = true := by kernel_rfl
theorem Try.en42 : entry Try.prog 42 = true := by kernel_rfl
theorem Try.en43 : entry Try.prog 43 = true := by kernel_rfl
theorem Try.en44 : entry Try.prog 44 = true := by kernel_rfl
theorem Try.en45 : entry Try.prog 45 = true := by kernel_rfl
theorem Try.en46 : entry Try.prog 46 = true := by kernel_rfl
theorem Try.en47 : entry Try.prog 47 = true := by kernel_rfl
theorem Try.en48 : entry Try.prog 48 = true := by kernel_rfl
theorem Try.en49 : entry Try.prog 49 = true := by kernel_rfl
def Try.tys : List (Nat × TI) := [(1, { k := .func, size := 1, bytes := 8, zero := [.nilf] }),
  (2, { k := .int .i64, size := 1, bytes := 8, zero := [.d (.int .i64 0)] }),
  (3, { k := .int .i64, size := 1, bytes := 8, zero := [.d (.int .i64 0)] }),
  (4, { k := .bool, size := 1, bytes := 1, zero := [.d (.bool false)] }),
  (5, { k := .int .u8, size := 1, bytes := 1, zero := [.d (.int .u8 0)] }),
  (6, { k := .int .u8, size := 1, bytes := 1, zero := [.d (.int .u8 0)] }),
  (7, { k := .struct [(0, 2, 1), (1, 3, 1), (2, 4, 1), (3, 6, 1)], size := 4, bytes := 24, zero := [.d (.int .i64 0), .d (.int .i64 0), .d (.bool false), .d (.int .u8 0)] }),
  (8, { k := .struct [(0, 2, 1), (1, 3, 1), (2, 4, 1), (3, 6, 1)], size := 4, bytes := 24, zero := [.d (.int .i64 0), .d (.int .i64 0), .d (.bool false), .d (.int .u8 0)] }),
  (9, { k := .str, size := 1, bytes := 16, zero := [.d (.str ByteArray.empty)] }),
  (10, { k := .str, size := 1, bytes := 16, zero := [.d (.str ByteArray.empty)] }),
  (11, { k := .str, size := 1, bytes := 16, zero := [.d (.str ByteArray.empty)] }),
  (12, { k := .int .u64, size := 1, bytes := 8, zero := [.d (.int .u64 0)] }),
  (13, { k := .struct [(0, 9, 1), (1, 12, 1)], size := 2, bytes := 24, zero := [.d (.str ByteArray.empty), .d (.int .u64 0)] }),
  (14, { k := .struct [(0, 9, 1), (1, 12, 1)], size := 2, bytes := 24, zero := [.d (.str ByteArray.empty), .d (.int .u64 0)] }),
  (15, { k := .ptr 77, size := 1, bytes := 8, zero := [.nilp] }),
  (16, { k := .ptr 80, size := 1, bytes := 8, zero := [.nilp] }),
  (17, { k := .ptr 90, size := 1, bytes := 8, zero := [.nilp] }),
  (18, { k := .struct [(0, 17, 1)], size := 1, bytes := 8, zero := [.nilp] }),
  (19, { k := .struct [(0, 17, 1)], size := 1, bytes := 8, zero := [.nilp] }),
  (21, { k := .int .i32, size := 1, bytes := 4, zero := [.d (.int .i32 0)] }),
  (22, { k := .int .u64, size := 1, bytes := 8, zero := [.d (.int .u64 0)] }),
  (23, { k := .slice 3, size := 1, bytes := 24, zero := [.nils] }),
  (24, { k := .slice 2, size := 1, bytes := 24, zero := [.nils] }),
  (25, { k := .struct [(0, 2, 1), (1, 3, 1), (2, 3, 1), (3, 3, 1), (4, 3, 1), (5, 2, 1), (6, 2, 1), (7, 2, 1), (8, 22, 1), (9, 22, 1), (10, 23, 1), (11, 24, 1)], size := 12, bytes := 128, zero := [.d (.int .i64 0), .d (.int .i64 0), .d (.int .i64 0), .d (.int .i64 0), .d (.int .i64 0), .d (.int .i64 0), .d (.int .i64 0), .d (.int .i64 0), .d (.int .u64 0), .d (.int .u64 0), .nils, .nils] }),
  (26, { k := .struct [(0, 2, 1), (1, 3, 1), (2, 3, 1), (3, 3, 1), (4, 3, 1), (5, 2, 1), (6, 2, 1), (7, 2, 1), (8, 22, 1), (9, 22, 1), (10, 23, 1), (11, 24, 1)], size := 12, bytes := 128, zero := [.d (.int .i64 0), .d (.int .i64 0), .d (.int .i64 0), .d (.int .i64 0), .d (.int .i64 0), .d (.int .i64 0), .d (.int .i64 0), .d (.int .i64 0), .d (.int .u64 0), .d (.int .u64 0), .nils, .nils] }),
  (27, { k := .func, size := 1, bytes := 8, zero := [.nilf] }),
  (28, { k := .slice 5, size := 1, bytes := 24, zero := [.nils] }),
  (29, { k := .int .i64, size := 1, bytes := 8, zero := [.d (.int .i64 0)] }),
  (31, { k := .func, size := 1, bytes := 8, zero := [.nilf] }),
  (32, { k := .func, size := 1, bytes := 8, zero := [.nilf] }),
  (34, { k := .func, size := 1, bytes := 8, zero := [.nilf] }),
  (35, { k := .func, size := 1, bytes := 8, zero := [.nilf] }),
  (36, { k := .func, size := 1, bytes := 8, zero := [.nilf] }),
  (37, { k := .func, size := 1, bytes := 8, zero := [.nilf] }),
  (38, { k := .func, size := 1, bytes := 8, zero := [.nilf] }),
  (39, { k := .func, size := 1, bytes := 8, zero := [.nilf] }),
  (40, { k := .int .u16, size := 1, bytes := 2, zero := [.d (.int .u16 0)] }),
  (41, { k := .func, size := 1, bytes := 8, zero := [.nilf] }),
  (42, { k := .func, size := 1, bytes := 8, zero := [.nilf] }),
  (43, { k := .array 10 2, size := 10, bytes := 80, zero := [.d (.int .i64 0), .d (.int .i64 0), .d (.int .i64 0), .d (.int .i64 0), .d (.int .i64 0), .d (.int .i64 0), .d (.int .i64 0), .d (.int .i64 0), .d (.int .i64 0), .d (.int .i64 0)] }),
  (44, { k := .func, size := 1, bytes := 8, zero := [.nilf] }),
  (45, { k := .slice 24, size := 1, bytes := 24, zero := [.nils] }),
  (46, { k := .func, size := 1, bytes := 8, zero := [.nilf] }),
  (47, { k := .func, size := 1, bytes := 8, zero := [.nilf] }),
  (48, { k := .func, size := 1, bytes := 8, zero := [.nilf] }),
  (49, { k := .func, size := 1, bytes := 8, zero := [.nilf] }),
  (50, { k := .func, size := 1, bytes := 8, zero := [.nilf] }),
  (51, { k := .array 3 24, size := 3, bytes := 72, zero := [.nils, .nils, .nils] }),
  (53, { k := .func, size := 1, bytes := 8, zero := [.nilf] }),
  (54, { k := .func, size := 1, bytes := 8, zero := [.nilf] }),
  (55, { k := .func, size := 1, bytes := 8, zero := [.nilf] }),
  (56, { k := .func, size := 1, bytes := 8, zero := [.nilf] }),
  (57, { k := .func, size := 1, bytes := 8, zero := [.nilf] }),
  (58, { k := .func, size := 1, bytes := 8, zero := [.nilf] }),
  (59, { k := .func, size := 1, bytes := 8, zero := [.nilf] }),
  (60, { k := .func, size := 1, bytes := 8, zero := [.nilf] }),
  (61, { k := .func, size := 1, bytes := 8, zero := [.nilf] }),
  (62, { k := .func, size := 1, bytes := 8, zero := [.nilf] }),
  (63, { k := .func, size := 1, bytes := 8, zero := [.nilf] }),
  (65, { k := .func, size := 1, bytes := 8, zero := [.nilf] }),
  (67, { k := .func, size := 1, bytes := 8, zero := [.nilf] }),
  (68, { k := .func, size := 1, bytes := 8, zero := [.nilf] }),
  (69, { k := .func, size := 1, bytes := 8, zero := [.nilf] }),
  (70, { k := .func, size := 1, bytes := 8, zero := [.nilf] }),
  (71, { k := .int .u64, size := 1, bytes := 8, zero := [.d (.int .u64 0)] }),
  (72, { k := .func, size := 1, bytes := 8, zero := [.nilf] }),
  (73, { k := .func, size := 1, bytes := 8, zero := [.nilf] }),
  (74, { k := .func, size := 1, bytes := 8, zero := [.nilf] }),
  (75, { k := .func, size := 1, bytes := 8, zero := [.nilf] }),
  (76, { k := .struct [(0, 17, 1), (1, 17, 1), (2, 17, 1), (3, 9, 1)], size := 4, bytes := 40, zero := [.nilp, .nilp, .nilp, .d (.str ByteArray.empty)] }),
  (77, { k := .struct [(0, 17, 1), (1, 17, 1), (2, 17, 1), (3, 9, 1)], size := 4, bytes := 40, zero := [.nilp, .nilp, .nilp, .d (.str ByteArray.empty)] }),
  (78, { k := .array 0 16, size := 0, bytes := 0, zero := [] }),
  (81, { k := .func, size := 1, bytes := 8, zero := [.nilf] }),
  (82, { k := .int .u32, size := 1, bytes := 4, zero := [.d (.int .u32 0)] }),
  (83, { k := .int .u8, size := 1, bytes := 1, zero := [.d (.int .u8 0)] }),
  (84, { k := .int .u8, size := 1, bytes := 1, zero := [.d (.int .u8 0)] }),
  (85, { k := .func, size := 1, bytes := 8, zero := [.nilf] }),
  (86, { k := .ptr 5, size := 1, bytes := 8, zero := [.nilp] }),
  (87, { k := .int .i32, size := 1, bytes := 4, zero := [.d (.int .i32 0)] }),
  (88, { k := .int .i32, size := 1, bytes := 4, zero := [.d (.int .i32 0)] }),
  (89, { k := .struct [(0, 12, 1), (1, 12, 1), (2, 82, 1), (3, 83, 1), (4, 5, 1), (5, 5, 1), (6, 84, 1), (7, 85, 1), (8, 86, 1), (9, 87, 1), (10, 88, 1)], size := 11, bytes := 48, zero := [.d (.int .u64 0), .d (.int .u64 0), .d (.int .u32 0), .d (.int .u8 0), .d (.int .u8 0), .d (.int .u8 0), .d (.int .u8 0), .nilf, .nilp, .d (.int .i32 0), .d (.int .i32 0)] }),
  (90, { k := .struct [(0, 12, 1), (1, 12, 1), (2, 82, 1), (3, 83, 1), (4, 5, 1), (5, 5, 1), (6, 84, 1), (7, 85, 1), (8, 86, 1), (9, 87, 1), (10, 88, 1)], size := 11, bytes := 48, zero := [.d (.int .u64 0), .d (.int .u64 0), .d (.int .u32 0), .d (.int .u8 0), .d (.int .u8 0), .d (.int .u8 0), .d (.int .u8 0), .nilf, .nilp, .d (.int .i32 0), .d (.int .i32 0)] })]
def Try.ty (t : TypeId) : Option TI := tfind t Try.tys
theorem Try.tyOK : ∀ t i, Try.ty t = some i → tyOf Try.prog t = some i := fun t i h => tfind_ok (by
  simp only [Try.tys, List.forall_mem_cons]
  exact ⟨Try.ty1, Try.ty2, Try.ty3, Try.ty4, Try.ty5, Try.ty6, Try.ty7, Try.ty8, Try.ty9, Try.ty10, Try.ty11, Try.ty12, Try.ty13, Try.ty14, Try.ty15, Try.ty16, Try.ty17, Try.ty18, Try.ty19, Try.ty21, Try.ty22, Try.ty23, Try.ty24, Try.ty25, Try.ty26, Try.ty27, Try.ty28, Try.ty29, Try.ty31, Try.ty32, Try.ty34, Try.ty35, Try.ty36, Try.ty37, Try.ty38, Try.ty39, Try.ty40, Try.ty41, Try.ty42, Try.ty43, Try.ty44, Try.ty45, Try.ty46, Try.ty47, Try.ty48, Try.ty49, Try.ty50, Try.ty51, Try.ty53, Try.ty54, Try.ty55, Try.ty56, Try.ty57, Try.ty58, Try.ty59, Try.ty60, Try.ty61, Try.ty62, Try.ty63, Try.ty65, Try.ty67, Try.ty68, Try.ty69, Try.ty70, Try.ty71, Try.ty72, Try.ty73, Try.ty74, Try.ty75, Try.ty76, Try.ty77, Try.ty78, Try.ty81, Try.ty82, Try.ty83, Try.ty84, Try.ty85, Try.ty86, Try.ty87, Try.ty88, Try.ty89, Try.ty90, fun _ h => by cases h⟩) h
end Go.Proofs
