/- The program's types, as the abstract layer wants them. -/
import Derived.Test.YtolefphdldmlkaaProg
import Derived.Test.YtolefphdldmlkaaBLt
namespace Go.Proofs.Ytolefphdldmlkaa.AL
open Go Go.Proofs

def tab : TTab := fun t => match t with
  | 1 => some ⟨.func, 1, 8, [.nilFunc]⟩
  | 2 => some ⟨.int .i64, 1, 8, [(.int .i64 0)]⟩
  | 3 => some ⟨.int .i64, 1, 8, [(.int .i64 0)]⟩
  | 4 => some ⟨.bool, 1, 1, [(.bool false)]⟩
  | 5 => some ⟨.int .u8, 1, 1, [(.int .u8 0)]⟩
  | 9 => some ⟨.string, 1, 16, [(.string ⟨#[]⟩)]⟩
  | 12 => some ⟨.int .u64, 1, 8, [(.int .u64 0)]⟩
  | 17 => some ⟨.ptr 136, 1, 8, [(.pointer none)]⟩
  | 21 => some ⟨.int .i32, 1, 4, [(.int .i32 0)]⟩
  | 22 => some ⟨.slice 34, 1, 24, [(.slice none 0 0)]⟩
  | 23 => some ⟨.func, 1, 8, [.nilFunc]⟩
  | 24 => some ⟨.ptr 82, 1, 8, [(.pointer none)]⟩
  | 25 => some ⟨.int .i64, 1, 8, [(.int .i64 0)]⟩
  | 27 => some ⟨.func, 1, 8, [.nilFunc]⟩
  | 28 => some ⟨.array 20 5, 20, 20, (List.replicate 20 (.int .u8 0))⟩
  | 29 => some ⟨.array 4 5, 4, 4, [(.int .u8 0), (.int .u8 0), (.int .u8 0), (.int .u8 0)]⟩
  | 30 => some ⟨.struct [(0, 3), (1, 3), (2, 3), (3, 3), (4, 3), (5, 29)], 9, 48, [(.int .i64 0), (.int .i64 0), (.int .i64 0), (.int .i64 0), (.int .i64 0), (.int .u8 0), (.int .u8 0), (.int .u8 0), (.int .u8 0)]⟩
  | 31 => some ⟨.struct [(0, 3), (1, 3), (2, 3), (3, 3), (4, 3), (5, 29)], 9, 48, [(.int .i64 0), (.int .i64 0), (.int .i64 0), (.int .i64 0), (.int .i64 0), (.int .u8 0), (.int .u8 0), (.int .u8 0), (.int .u8 0)]⟩
  | 32 => some ⟨.slice 4, 1, 24, [(.slice none 0 0)]⟩
  | 33 => some ⟨.struct [(0, 3), (1, 3), (2, 5), (3, 4), (4, 31), (13, 32)], 14, 96, [(.int .i64 0), (.int .i64 0), (.int .u8 0), (.bool false), (.int .i64 0), (.int .i64 0), (.int .i64 0), (.int .i64 0), (.int .i64 0), (.int .u8 0), (.int .u8 0), (.int .u8 0), (.int .u8 0), (.slice none 0 0)]⟩
  | 34 => some ⟨.struct [(0, 3), (1, 3), (2, 5), (3, 4), (4, 31), (13, 32)], 14, 96, [(.int .i64 0), (.int .i64 0), (.int .u8 0), (.bool false), (.int .i64 0), (.int .i64 0), (.int .i64 0), (.int .i64 0), (.int .i64 0), (.int .u8 0), (.int .u8 0), (.int .u8 0), (.int .u8 0), (.slice none 0 0)]⟩
  | 35 => some ⟨.func, 1, 8, [.nilFunc]⟩
  | 36 => some ⟨.func, 1, 8, [.nilFunc]⟩
  | 37 => some ⟨.slice 5, 1, 24, [(.slice none 0 0)]⟩
  | 38 => some ⟨.func, 1, 8, [.nilFunc]⟩
  | 39 => some ⟨.func, 1, 8, [.nilFunc]⟩
  | 40 => some ⟨.func, 1, 8, [.nilFunc]⟩
  | 41 => some ⟨.func, 1, 8, [.nilFunc]⟩
  | 42 => some ⟨.func, 1, 8, [.nilFunc]⟩
  | 43 => some ⟨.func, 1, 8, [.nilFunc]⟩
  | 44 => some ⟨.ptr 94, 1, 8, [(.pointer none)]⟩
  | 46 => some ⟨.func, 1, 8, [.nilFunc]⟩
  | 47 => some ⟨.func, 1, 8, [.nilFunc]⟩
  | 48 => some ⟨.func, 1, 8, [.nilFunc]⟩
  | 49 => some ⟨.func, 1, 8, [.nilFunc]⟩
  | 50 => some ⟨.func, 1, 8, [.nilFunc]⟩
  | 52 => some ⟨.func, 1, 8, [.nilFunc]⟩
  | 53 => some ⟨.func, 1, 8, [.nilFunc]⟩
  | 54 => some ⟨.func, 1, 8, [.nilFunc]⟩
  | 55 => some ⟨.func, 1, 8, [.nilFunc]⟩
  | 56 => some ⟨.func, 1, 8, [.nilFunc]⟩
  | 57 => some ⟨.func, 1, 8, [.nilFunc]⟩
  | 58 => some ⟨.func, 1, 8, [.nilFunc]⟩
  | 59 => some ⟨.func, 1, 8, [.nilFunc]⟩
  | 60 => some ⟨.slice 3, 1, 24, [(.slice none 0 0)]⟩
  | 61 => some ⟨.func, 1, 8, [.nilFunc]⟩
  | 62 => some ⟨.struct [(0, 3), (1, 37)], 2, 32, [(.int .i64 0), (.slice none 0 0)]⟩
  | 63 => some ⟨.struct [(0, 3), (1, 37)], 2, 32, [(.int .i64 0), (.slice none 0 0)]⟩
  | 64 => some ⟨.func, 1, 8, [.nilFunc]⟩
  | 65 => some ⟨.slice 31, 1, 24, [(.slice none 0 0)]⟩
  | 66 => some ⟨.slice 108, 1, 24, [(.slice none 0 0)]⟩
  | 68 => some ⟨.func, 1, 8, [.nilFunc]⟩
  | 69 => some ⟨.slice 63, 1, 24, [(.slice none 0 0)]⟩
  | 70 => some ⟨.func, 1, 8, [.nilFunc]⟩
  | 71 => some ⟨.func, 1, 8, [.nilFunc]⟩
  | 72 => some ⟨.func, 1, 8, [.nilFunc]⟩
  | 74 => some ⟨.func, 1, 8, [.nilFunc]⟩
  | 75 => some ⟨.func, 1, 8, [.nilFunc]⟩
  | 76 => some ⟨.func, 1, 8, [.nilFunc]⟩
  | 77 => some ⟨.func, 1, 8, [.nilFunc]⟩
  | 78 => some ⟨.func, 1, 8, [.nilFunc]⟩
  | 79 => some ⟨.slice 84, 1, 24, [(.slice none 0 0)]⟩
  | 80 => some ⟨.slice 89, 1, 24, [(.slice none 0 0)]⟩
  | 81 => some ⟨.struct [(0, 79), (1, 80), (2, 4), (3, 4), (4, 3), (5, 3)], 6, 72, [(.slice none 0 0), (.slice none 0 0), (.bool false), (.bool false), (.int .i64 0), (.int .i64 0)]⟩
  | 82 => some ⟨.struct [(0, 79), (1, 80), (2, 4), (3, 4), (4, 3), (5, 3)], 6, 72, [(.slice none 0 0), (.slice none 0 0), (.bool false), (.bool false), (.int .i64 0), (.int .i64 0)]⟩
  | 83 => some ⟨.struct [(0, 37), (1, 4), (2, 3), (3, 60)], 4, 64, [(.slice none 0 0), (.bool false), (.int .i64 0), (.slice none 0 0)]⟩
  | 84 => some ⟨.struct [(0, 37), (1, 4), (2, 3), (3, 60)], 4, 64, [(.slice none 0 0), (.bool false), (.int .i64 0), (.slice none 0 0)]⟩
  | 85 => some ⟨.func, 1, 8, [.nilFunc]⟩
  | 86 => some ⟨.ptr 84, 1, 8, [(.pointer none)]⟩
  | 87 => some ⟨.func, 1, 8, [.nilFunc]⟩
  | 88 => some ⟨.struct [(0, 3), (1, 37)], 2, 32, [(.int .i64 0), (.slice none 0 0)]⟩
  | 89 => some ⟨.struct [(0, 3), (1, 37)], 2, 32, [(.int .i64 0), (.slice none 0 0)]⟩
  | 90 => some ⟨.slice 60, 1, 24, [(.slice none 0 0)]⟩
  | 91 => some ⟨.slice 37, 1, 24, [(.slice none 0 0)]⟩
  | 92 => some ⟨.slice 112, 1, 24, [(.slice none 0 0)]⟩
  | 93 => some ⟨.struct [(0, 91), (1, 32), (2, 92), (3, 60), (4, 90), (5, 4), (6, 4), (7, 3), (8, 3)], 9, 144, [(.slice none 0 0), (.slice none 0 0), (.slice none 0 0), (.slice none 0 0), (.slice none 0 0), (.bool false), (.bool false), (.int .i64 0), (.int .i64 0)]⟩
  | 94 => some ⟨.struct [(0, 91), (1, 32), (2, 92), (3, 60), (4, 90), (5, 4), (6, 4), (7, 3), (8, 3)], 9, 144, [(.slice none 0 0), (.slice none 0 0), (.slice none 0 0), (.slice none 0 0), (.slice none 0 0), (.bool false), (.bool false), (.int .i64 0), (.int .i64 0)]⟩
  | 95 => some ⟨.func, 1, 8, [.nilFunc]⟩
  | 96 => some ⟨.func, 1, 8, [.nilFunc]⟩
  | 97 => some ⟨.func, 1, 8, [.nilFunc]⟩
  | 98 => some ⟨.func, 1, 8, [.nilFunc]⟩
  | 99 => some ⟨.func, 1, 8, [.nilFunc]⟩
  | 100 => some ⟨.func, 1, 8, [.nilFunc]⟩
  | 101 => some ⟨.func, 1, 8, [.nilFunc]⟩
  | 102 => some ⟨.map 3 100, 1, 8, [(.map none)]⟩
  | 103 => some ⟨.ptr 105, 1, 8, [(.pointer none)]⟩
  | 106 => some ⟨.func, 1, 8, [.nilFunc]⟩
  | 107 => some ⟨.struct [(0, 3), (1, 5)], 2, 16, [(.int .i64 0), (.int .u8 0)]⟩
  | 108 => some ⟨.struct [(0, 3), (1, 5)], 2, 16, [(.int .i64 0), (.int .u8 0)]⟩
  | 109 => some ⟨.func, 1, 8, [.nilFunc]⟩
  | 110 => some ⟨.func, 1, 8, [.nilFunc]⟩
  | 111 => some ⟨.func, 1, 8, [.nilFunc]⟩
  | 112 => some ⟨.struct [(0, 3), (1, 37)], 2, 32, [(.int .i64 0), (.slice none 0 0)]⟩
  | 113 => some ⟨.func, 1, 8, [.nilFunc]⟩
  | 114 => some ⟨.func, 1, 8, [.nilFunc]⟩
  | 115 => some ⟨.func, 1, 8, [.nilFunc]⟩
  | 116 => some ⟨.func, 1, 8, [.nilFunc]⟩
  | 118 => some ⟨.func, 1, 8, [.nilFunc]⟩
  | 119 => some ⟨.func, 1, 8, [.nilFunc]⟩
  | 120 => some ⟨.func, 1, 8, [.nilFunc]⟩
  | 121 => some ⟨.func, 1, 8, [.nilFunc]⟩
  | 122 => some ⟨.func, 1, 8, [.nilFunc]⟩
  | 128 => some ⟨.int .u32, 1, 4, [(.int .u32 0)]⟩
  | 131 => some ⟨.func, 1, 8, [.nilFunc]⟩
  | 132 => some ⟨.ptr 5, 1, 8, [(.pointer none)]⟩
  | _ => none

theorem ti1 : tiOf Try.prog 1 = some ⟨.func, 1, 8, [.nilFunc]⟩ := by kernel_rfl
theorem ti2 : tiOf Try.prog 2 = some ⟨.int .i64, 1, 8, [(.int .i64 0)]⟩ := by kernel_rfl
theorem ti3 : tiOf Try.prog 3 = some ⟨.int .i64, 1, 8, [(.int .i64 0)]⟩ := by kernel_rfl
theorem ti4 : tiOf Try.prog 4 = some ⟨.bool, 1, 1, [(.bool false)]⟩ := by kernel_rfl
theorem ti5 : tiOf Try.prog 5 = some ⟨.int .u8, 1, 1, [(.int .u8 0)]⟩ := by kernel_rfl
theorem ti9 : tiOf Try.prog 9 = some ⟨.string, 1, 16, [(.string ⟨#[]⟩)]⟩ := by kernel_rfl
theorem ti12 : tiOf Try.prog 12 = some ⟨.int .u64, 1, 8, [(.int .u64 0)]⟩ := by kernel_rfl
theorem ti17 : tiOf Try.prog 17 = some ⟨.ptr 136, 1, 8, [(.pointer none)]⟩ := by kernel_rfl
theorem ti21 : tiOf Try.prog 21 = some ⟨.int .i32, 1, 4, [(.int .i32 0)]⟩ := by kernel_rfl
theorem ti22 : tiOf Try.prog 22 = some ⟨.slice 34, 1, 24, [(.slice none 0 0)]⟩ := by kernel_rfl
theorem ti23 : tiOf Try.prog 23 = some ⟨.func, 1, 8, [.nilFunc]⟩ := by kernel_rfl
theorem ti24 : tiOf Try.prog 24 = some ⟨.ptr 82, 1, 8, [(.pointer none)]⟩ := by kernel_rfl
theorem ti25 : tiOf Try.prog 25 = some ⟨.int .i64, 1, 8, [(.int .i64 0)]⟩ := by kernel_rfl
theorem ti27 : tiOf Try.prog 27 = some ⟨.func, 1, 8, [.nilFunc]⟩ := by kernel_rfl
theorem ti28 : tiOf Try.prog 28 = some ⟨.array 20 5, 20, 20, (List.replicate 20 (.int .u8 0))⟩ := by kernel_rfl
theorem ti29 : tiOf Try.prog 29 = some ⟨.array 4 5, 4, 4, [(.int .u8 0), (.int .u8 0), (.int .u8 0), (.int .u8 0)]⟩ := by kernel_rfl
theorem ti30 : tiOf Try.prog 30 = some ⟨.struct [(0, 3), (1, 3), (2, 3), (3, 3), (4, 3), (5, 29)], 9, 48, [(.int .i64 0), (.int .i64 0), (.int .i64 0), (.int .i64 0), (.int .i64 0), (.int .u8 0), (.int .u8 0), (.int .u8 0), (.int .u8 0)]⟩ := by kernel_rfl
theorem ti31 : tiOf Try.prog 31 = some ⟨.struct [(0, 3), (1, 3), (2, 3), (3, 3), (4, 3), (5, 29)], 9, 48, [(.int .i64 0), (.int .i64 0), (.int .i64 0), (.int .i64 0), (.int .i64 0), (.int .u8 0), (.int .u8 0), (.int .u8 0), (.int .u8 0)]⟩ := by kernel_rfl
theorem ti32 : tiOf Try.prog 32 = some ⟨.slice 4, 1, 24, [(.slice none 0 0)]⟩ := by kernel_rfl
theorem ti33 : tiOf Try.prog 33 = some ⟨.struct [(0, 3), (1, 3), (2, 5), (3, 4), (4, 31), (13, 32)], 14, 96, [(.int .i64 0), (.int .i64 0), (.int .u8 0), (.bool false), (.int .i64 0), (.int .i64 0), (.int .i64 0), (.int .i64 0), (.int .i64 0), (.int .u8 0), (.int .u8 0), (.int .u8 0), (.int .u8 0), (.slice none 0 0)]⟩ := by kernel_rfl
theorem ti34 : tiOf Try.prog 34 = some ⟨.struct [(0, 3), (1, 3), (2, 5), (3, 4), (4, 31), (13, 32)], 14, 96, [(.int .i64 0), (.int .i64 0), (.int .u8 0), (.bool false), (.int .i64 0), (.int .i64 0), (.int .i64 0), (.int .i64 0), (.int .i64 0), (.int .u8 0), (.int .u8 0), (.int .u8 0), (.int .u8 0), (.slice none 0 0)]⟩ := by kernel_rfl
theorem ti35 : tiOf Try.prog 35 = some ⟨.func, 1, 8, [.nilFunc]⟩ := by kernel_rfl
theorem ti36 : tiOf Try.prog 36 = some ⟨.func, 1, 8, [.nilFunc]⟩ := by kernel_rfl
theorem ti37 : tiOf Try.prog 37 = some ⟨.slice 5, 1, 24, [(.slice none 0 0)]⟩ := by kernel_rfl
theorem ti38 : tiOf Try.prog 38 = some ⟨.func, 1, 8, [.nilFunc]⟩ := by kernel_rfl
theorem ti39 : tiOf Try.prog 39 = some ⟨.func, 1, 8, [.nilFunc]⟩ := by kernel_rfl
theorem ti40 : tiOf Try.prog 40 = some ⟨.func, 1, 8, [.nilFunc]⟩ := by kernel_rfl
theorem ti41 : tiOf Try.prog 41 = some ⟨.func, 1, 8, [.nilFunc]⟩ := by kernel_rfl
theorem ti42 : tiOf Try.prog 42 = some ⟨.func, 1, 8, [.nilFunc]⟩ := by kernel_rfl
theorem ti43 : tiOf Try.prog 43 = some ⟨.func, 1, 8, [.nilFunc]⟩ := by kernel_rfl
theorem ti44 : tiOf Try.prog 44 = some ⟨.ptr 94, 1, 8, [(.pointer none)]⟩ := by kernel_rfl
theorem ti46 : tiOf Try.prog 46 = some ⟨.func, 1, 8, [.nilFunc]⟩ := by kernel_rfl
theorem ti47 : tiOf Try.prog 47 = some ⟨.func, 1, 8, [.nilFunc]⟩ := by kernel_rfl
theorem ti48 : tiOf Try.prog 48 = some ⟨.func, 1, 8, [.nilFunc]⟩ := by kernel_rfl
theorem ti49 : tiOf Try.prog 49 = some ⟨.func, 1, 8, [.nilFunc]⟩ := by kernel_rfl
theorem ti50 : tiOf Try.prog 50 = some ⟨.func, 1, 8, [.nilFunc]⟩ := by kernel_rfl
theorem ti52 : tiOf Try.prog 52 = some ⟨.func, 1, 8, [.nilFunc]⟩ := by kernel_rfl
theorem ti53 : tiOf Try.prog 53 = some ⟨.func, 1, 8, [.nilFunc]⟩ := by kernel_rfl
theorem ti54 : tiOf Try.prog 54 = some ⟨.func, 1, 8, [.nilFunc]⟩ := by kernel_rfl
theorem ti55 : tiOf Try.prog 55 = some ⟨.func, 1, 8, [.nilFunc]⟩ := by kernel_rfl
theorem ti56 : tiOf Try.prog 56 = some ⟨.func, 1, 8, [.nilFunc]⟩ := by kernel_rfl
theorem ti57 : tiOf Try.prog 57 = some ⟨.func, 1, 8, [.nilFunc]⟩ := by kernel_rfl
theorem ti58 : tiOf Try.prog 58 = some ⟨.func, 1, 8, [.nilFunc]⟩ := by kernel_rfl
theorem ti59 : tiOf Try.prog 59 = some ⟨.func, 1, 8, [.nilFunc]⟩ := by kernel_rfl
theorem ti60 : tiOf Try.prog 60 = some ⟨.slice 3, 1, 24, [(.slice none 0 0)]⟩ := by kernel_rfl
theorem ti61 : tiOf Try.prog 61 = some ⟨.func, 1, 8, [.nilFunc]⟩ := by kernel_rfl
theorem ti62 : tiOf Try.prog 62 = some ⟨.struct [(0, 3), (1, 37)], 2, 32, [(.int .i64 0), (.slice none 0 0)]⟩ := by kernel_rfl
theorem ti63 : tiOf Try.prog 63 = some ⟨.struct [(0, 3), (1, 37)], 2, 32, [(.int .i64 0), (.slice none 0 0)]⟩ := by kernel_rfl
theorem ti64 : tiOf Try.prog 64 = some ⟨.func, 1, 8, [.nilFunc]⟩ := by kernel_rfl
theorem ti65 : tiOf Try.prog 65 = some ⟨.slice 31, 1, 24, [(.slice none 0 0)]⟩ := by kernel_rfl
theorem ti66 : tiOf Try.prog 66 = some ⟨.slice 108, 1, 24, [(.slice none 0 0)]⟩ := by kernel_rfl
theorem ti68 : tiOf Try.prog 68 = some ⟨.func, 1, 8, [.nilFunc]⟩ := by kernel_rfl
theorem ti69 : tiOf Try.prog 69 = some ⟨.slice 63, 1, 24, [(.slice none 0 0)]⟩ := by kernel_rfl
theorem ti70 : tiOf Try.prog 70 = some ⟨.func, 1, 8, [.nilFunc]⟩ := by kernel_rfl
theorem ti71 : tiOf Try.prog 71 = some ⟨.func, 1, 8, [.nilFunc]⟩ := by kernel_rfl
theorem ti72 : tiOf Try.prog 72 = some ⟨.func, 1, 8, [.nilFunc]⟩ := by kernel_rfl
theorem ti74 : tiOf Try.prog 74 = some ⟨.func, 1, 8, [.nilFunc]⟩ := by kernel_rfl
theorem ti75 : tiOf Try.prog 75 = some ⟨.func, 1, 8, [.nilFunc]⟩ := by kernel_rfl
theorem ti76 : tiOf Try.prog 76 = some ⟨.func, 1, 8, [.nilFunc]⟩ := by kernel_rfl
theorem ti77 : tiOf Try.prog 77 = some ⟨.func, 1, 8, [.nilFunc]⟩ := by kernel_rfl
theorem ti78 : tiOf Try.prog 78 = some ⟨.func, 1, 8, [.nilFunc]⟩ := by kernel_rfl
theorem ti79 : tiOf Try.prog 79 = some ⟨.slice 84, 1, 24, [(.slice none 0 0)]⟩ := by kernel_rfl
theorem ti80 : tiOf Try.prog 80 = some ⟨.slice 89, 1, 24, [(.slice none 0 0)]⟩ := by kernel_rfl
theorem ti81 : tiOf Try.prog 81 = some ⟨.struct [(0, 79), (1, 80), (2, 4), (3, 4), (4, 3), (5, 3)], 6, 72, [(.slice none 0 0), (.slice none 0 0), (.bool false), (.bool false), (.int .i64 0), (.int .i64 0)]⟩ := by kernel_rfl
theorem ti82 : tiOf Try.prog 82 = some ⟨.struct [(0, 79), (1, 80), (2, 4), (3, 4), (4, 3), (5, 3)], 6, 72, [(.slice none 0 0), (.slice none 0 0), (.bool false), (.bool false), (.int .i64 0), (.int .i64 0)]⟩ := by kernel_rfl
theorem ti83 : tiOf Try.prog 83 = some ⟨.struct [(0, 37), (1, 4), (2, 3), (3, 60)], 4, 64, [(.slice none 0 0), (.bool false), (.int .i64 0), (.slice none 0 0)]⟩ := by kernel_rfl
theorem ti84 : tiOf Try.prog 84 = some ⟨.struct [(0, 37), (1, 4), (2, 3), (3, 60)], 4, 64, [(.slice none 0 0), (.bool false), (.int .i64 0), (.slice none 0 0)]⟩ := by kernel_rfl
theorem ti85 : tiOf Try.prog 85 = some ⟨.func, 1, 8, [.nilFunc]⟩ := by kernel_rfl
theorem ti86 : tiOf Try.prog 86 = some ⟨.ptr 84, 1, 8, [(.pointer none)]⟩ := by kernel_rfl
theorem ti87 : tiOf Try.prog 87 = some ⟨.func, 1, 8, [.nilFunc]⟩ := by kernel_rfl
theorem ti88 : tiOf Try.prog 88 = some ⟨.struct [(0, 3), (1, 37)], 2, 32, [(.int .i64 0), (.slice none 0 0)]⟩ := by kernel_rfl
theorem ti89 : tiOf Try.prog 89 = some ⟨.struct [(0, 3), (1, 37)], 2, 32, [(.int .i64 0), (.slice none 0 0)]⟩ := by kernel_rfl
theorem ti90 : tiOf Try.prog 90 = some ⟨.slice 60, 1, 24, [(.slice none 0 0)]⟩ := by kernel_rfl
theorem ti91 : tiOf Try.prog 91 = some ⟨.slice 37, 1, 24, [(.slice none 0 0)]⟩ := by kernel_rfl
theorem ti92 : tiOf Try.prog 92 = some ⟨.slice 112, 1, 24, [(.slice none 0 0)]⟩ := by kernel_rfl
theorem ti93 : tiOf Try.prog 93 = some ⟨.struct [(0, 91), (1, 32), (2, 92), (3, 60), (4, 90), (5, 4), (6, 4), (7, 3), (8, 3)], 9, 144, [(.slice none 0 0), (.slice none 0 0), (.slice none 0 0), (.slice none 0 0), (.slice none 0 0), (.bool false), (.bool false), (.int .i64 0), (.int .i64 0)]⟩ := by kernel_rfl
theorem ti94 : tiOf Try.prog 94 = some ⟨.struct [(0, 91), (1, 32), (2, 92), (3, 60), (4, 90), (5, 4), (6, 4), (7, 3), (8, 3)], 9, 144, [(.slice none 0 0), (.slice none 0 0), (.slice none 0 0), (.slice none 0 0), (.slice none 0 0), (.bool false), (.bool false), (.int .i64 0), (.int .i64 0)]⟩ := by kernel_rfl
theorem ti95 : tiOf Try.prog 95 = some ⟨.func, 1, 8, [.nilFunc]⟩ := by kernel_rfl
theorem ti96 : tiOf Try.prog 96 = some ⟨.func, 1, 8, [.nilFunc]⟩ := by kernel_rfl
theorem ti97 : tiOf Try.prog 97 = some ⟨.func, 1, 8, [.nilFunc]⟩ := by kernel_rfl
theorem ti98 : tiOf Try.prog 98 = some ⟨.func, 1, 8, [.nilFunc]⟩ := by kernel_rfl
theorem ti99 : tiOf Try.prog 99 = some ⟨.func, 1, 8, [.nilFunc]⟩ := by kernel_rfl
theorem ti100 : tiOf Try.prog 100 = some ⟨.func, 1, 8, [.nilFunc]⟩ := by kernel_rfl
theorem ti101 : tiOf Try.prog 101 = some ⟨.func, 1, 8, [.nilFunc]⟩ := by kernel_rfl
theorem ti102 : tiOf Try.prog 102 = some ⟨.map 3 100, 1, 8, [(.map none)]⟩ := by kernel_rfl
theorem ti103 : tiOf Try.prog 103 = some ⟨.ptr 105, 1, 8, [(.pointer none)]⟩ := by kernel_rfl
theorem ti106 : tiOf Try.prog 106 = some ⟨.func, 1, 8, [.nilFunc]⟩ := by kernel_rfl
theorem ti107 : tiOf Try.prog 107 = some ⟨.struct [(0, 3), (1, 5)], 2, 16, [(.int .i64 0), (.int .u8 0)]⟩ := by kernel_rfl
theorem ti108 : tiOf Try.prog 108 = some ⟨.struct [(0, 3), (1, 5)], 2, 16, [(.int .i64 0), (.int .u8 0)]⟩ := by kernel_rfl
theorem ti109 : tiOf Try.prog 109 = some ⟨.func, 1, 8, [.nilFunc]⟩ := by kernel_rfl
theorem ti110 : tiOf Try.prog 110 = some ⟨.func, 1, 8, [.nilFunc]⟩ := by kernel_rfl
theorem ti111 : tiOf Try.prog 111 = some ⟨.func, 1, 8, [.nilFunc]⟩ := by kernel_rfl
theorem ti112 : tiOf Try.prog 112 = some ⟨.struct [(0, 3), (1, 37)], 2, 32, [(.int .i64 0), (.slice none 0 0)]⟩ := by kernel_rfl
theorem ti113 : tiOf Try.prog 113 = some ⟨.func, 1, 8, [.nilFunc]⟩ := by kernel_rfl
theorem ti114 : tiOf Try.prog 114 = some ⟨.func, 1, 8, [.nilFunc]⟩ := by kernel_rfl
theorem ti115 : tiOf Try.prog 115 = some ⟨.func, 1, 8, [.nilFunc]⟩ := by kernel_rfl
theorem ti116 : tiOf Try.prog 116 = some ⟨.func, 1, 8, [.nilFunc]⟩ := by kernel_rfl
theorem ti118 : tiOf Try.prog 118 = some ⟨.func, 1, 8, [.nilFunc]⟩ := by kernel_rfl
theorem ti119 : tiOf Try.prog 119 = some ⟨.func, 1, 8, [.nilFunc]⟩ := by kernel_rfl
theorem ti120 : tiOf Try.prog 120 = some ⟨.func, 1, 8, [.nilFunc]⟩ := by kernel_rfl
theorem ti121 : tiOf Try.prog 121 = some ⟨.func, 1, 8, [.nilFunc]⟩ := by kernel_rfl
theorem ti122 : tiOf Try.prog 122 = some ⟨.func, 1, 8, [.nilFunc]⟩ := by kernel_rfl
theorem ti128 : tiOf Try.prog 128 = some ⟨.int .u32, 1, 4, [(.int .u32 0)]⟩ := by kernel_rfl
theorem ti131 : tiOf Try.prog 131 = some ⟨.func, 1, 8, [.nilFunc]⟩ := by kernel_rfl
theorem ti132 : tiOf Try.prog 132 = some ⟨.ptr 5, 1, 8, [(.pointer none)]⟩ := by kernel_rfl

theorem hT : TOk Try.prog tab := by
  intro t i h
  unfold tab at h
  split at h
  · obtain rfl := Option.some.inj h; exact ti1
  · obtain rfl := Option.some.inj h; exact ti2
  · obtain rfl := Option.some.inj h; exact ti3
  · obtain rfl := Option.some.inj h; exact ti4
  · obtain rfl := Option.some.inj h; exact ti5
  · obtain rfl := Option.some.inj h; exact ti9
  · obtain rfl := Option.some.inj h; exact ti12
  · obtain rfl := Option.some.inj h; exact ti17
  · obtain rfl := Option.some.inj h; exact ti21
  · obtain rfl := Option.some.inj h; exact ti22
  · obtain rfl := Option.some.inj h; exact ti23
  · obtain rfl := Option.some.inj h; exact ti24
  · obtain rfl := Option.some.inj h; exact ti25
  · obtain rfl := Option.some.inj h; exact ti27
  · obtain rfl := Option.some.inj h; exact ti28
  · obtain rfl := Option.some.inj h; exact ti29
  · obtain rfl := Option.some.inj h; exact ti30
  · obtain rfl := Option.some.inj h; exact ti31
  · obtain rfl := Option.some.inj h; exact ti32
  · obtain rfl := Option.some.inj h; exact ti33
  · obtain rfl := Option.some.inj h; exact ti34
  · obtain rfl := Option.some.inj h; exact ti35
  · obtain rfl := Option.some.inj h; exact ti36
  · obtain rfl := Option.some.inj h; exact ti37
  · obtain rfl := Option.some.inj h; exact ti38
  · obtain rfl := Option.some.inj h; exact ti39
  · obtain rfl := Option.some.inj h; exact ti40
  · obtain rfl := Option.some.inj h; exact ti41
  · obtain rfl := Option.some.inj h; exact ti42
  · obtain rfl := Option.some.inj h; exact ti43
  · obtain rfl := Option.some.inj h; exact ti44
  · obtain rfl := Option.some.inj h; exact ti46
  · obtain rfl := Option.some.inj h; exact ti47
  · obtain rfl := Option.some.inj h; exact ti48
  · obtain rfl := Option.some.inj h; exact ti49
  · obtain rfl := Option.some.inj h; exact ti50
  · obtain rfl := Option.some.inj h; exact ti52
  · obtain rfl := Option.some.inj h; exact ti53
  · obtain rfl := Option.some.inj h; exact ti54
  · obtain rfl := Option.some.inj h; exact ti55
  · obtain rfl := Option.some.inj h; exact ti56
  · obtain rfl := Option.some.inj h; exact ti57
  · obtain rfl := Option.some.inj h; exact ti58
  · obtain rfl := Option.some.inj h; exact ti59
  · obtain rfl := Option.some.inj h; exact ti60
  · obtain rfl := Option.some.inj h; exact ti61
  · obtain rfl := Option.some.inj h; exact ti62
  · obtain rfl := Option.some.inj h; exact ti63
  · obtain rfl := Option.some.inj h; exact ti64
  · obtain rfl := Option.some.inj h; exact ti65
  · obtain rfl := Option.some.inj h; exact ti66
  · obtain rfl := Option.some.inj h; exact ti68
  · obtain rfl := Option.some.inj h; exact ti69
  · obtain rfl := Option.some.inj h; exact ti70
  · obtain rfl := Option.some.inj h; exact ti71
  · obtain rfl := Option.some.inj h; exact ti72
  · obtain rfl := Option.some.inj h; exact ti74
  · obtain rfl := Option.some.inj h; exact ti75
  · obtain rfl := Option.some.inj h; exact ti76
  · obtain rfl := Option.some.inj h; exact ti77
  · obtain rfl := Option.some.inj h; exact ti78
  · obtain rfl := Option.some.inj h; exact ti79
  · obtain rfl := Option.some.inj h; exact ti80
  · obtain rfl := Option.some.inj h; exact ti81
  · obtain rfl := Option.some.inj h; exact ti82
  · obtain rfl := Option.some.inj h; exact ti83
  · obtain rfl := Option.some.inj h; exact ti84
  · obtain rfl := Option.some.inj h; exact ti85
  · obtain rfl := Option.some.inj h; exact ti86
  · obtain rfl := Option.some.inj h; exact ti87
  · obtain rfl := Option.some.inj h; exact ti88
  · obtain rfl := Option.some.inj h; exact ti89
  · obtain rfl := Option.some.inj h; exact ti90
  · obtain rfl := Option.some.inj h; exact ti91
  · obtain rfl := Option.some.inj h; exact ti92
  · obtain rfl := Option.some.inj h; exact ti93
  · obtain rfl := Option.some.inj h; exact ti94
  · obtain rfl := Option.some.inj h; exact ti95
  · obtain rfl := Option.some.inj h; exact ti96
  · obtain rfl := Option.some.inj h; exact ti97
  · obtain rfl := Option.some.inj h; exact ti98
  · obtain rfl := Option.some.inj h; exact ti99
  · obtain rfl := Option.some.inj h; exact ti100
  · obtain rfl := Option.some.inj h; exact ti101
  · obtain rfl := Option.some.inj h; exact ti102
  · obtain rfl := Option.some.inj h; exact ti103
  · obtain rfl := Option.some.inj h; exact ti106
  · obtain rfl := Option.some.inj h; exact ti107
  · obtain rfl := Option.some.inj h; exact ti108
  · obtain rfl := Option.some.inj h; exact ti109
  · obtain rfl := Option.some.inj h; exact ti110
  · obtain rfl := Option.some.inj h; exact ti111
  · obtain rfl := Option.some.inj h; exact ti112
  · obtain rfl := Option.some.inj h; exact ti113
  · obtain rfl := Option.some.inj h; exact ti114
  · obtain rfl := Option.some.inj h; exact ti115
  · obtain rfl := Option.some.inj h; exact ti116
  · obtain rfl := Option.some.inj h; exact ti118
  · obtain rfl := Option.some.inj h; exact ti119
  · obtain rfl := Option.some.inj h; exact ti120
  · obtain rfl := Option.some.inj h; exact ti121
  · obtain rfl := Option.some.inj h; exact ti122
  · obtain rfl := Option.some.inj h; exact ti128
  · obtain rfl := Option.some.inj h; exact ti131
  · obtain rfl := Option.some.inj h; exact ti132
  · exact absurd h (by simp)

theorem follows_mixed : Try.prog.follows .mixedOrders = true := by kernel_rfl

abbrev f_law06_DiskPlain : FuncId := 3
theorem F_law06_DiskPlain : type_of% Try.func3 := Try.func3
theorem N_law06_DiskPlain : type_of% Try.ntmps3 := Try.ntmps3
abbrev f_law06_DiskKeeps : FuncId := 4
theorem F_law06_DiskKeeps : type_of% Try.func4 := Try.func4
theorem N_law06_DiskKeeps : type_of% Try.ntmps4 := Try.ntmps4
abbrev f_law06_DiskDoes : FuncId := 5
theorem F_law06_DiskDoes : type_of% Try.func5 := Try.func5
theorem N_law06_DiskDoes : type_of% Try.ntmps5 := Try.ntmps5
abbrev f_law06_DiskRots : FuncId := 6
theorem F_law06_DiskRots : type_of% Try.func6 := Try.func6
theorem N_law06_DiskRots : type_of% Try.ntmps6 := Try.ntmps6
abbrev f_law06_DiskCrashes : FuncId := 7
theorem F_law06_DiskCrashes : type_of% Try.func7 := Try.func7
theorem N_law06_DiskCrashes : type_of% Try.ntmps7 := Try.ntmps7
abbrev f_law06_DiskNone : FuncId := 8
theorem F_law06_DiskNone : type_of% Try.func8 := Try.func8
theorem N_law06_DiskNone : type_of% Try.ntmps8 := Try.ntmps8
abbrev f_law09_KeepPuts : FuncId := 9
theorem F_law09_KeepPuts : type_of% Try.func9 := Try.func9
theorem N_law09_KeepPuts : type_of% Try.ntmps9 := Try.ntmps9
abbrev f_law09_KeepEach : FuncId := 10
theorem F_law09_KeepEach : type_of% Try.func10 := Try.func10
theorem N_law09_KeepEach : type_of% Try.ntmps10 := Try.ntmps10
abbrev f_law09_KeepMends : FuncId := 11
theorem F_law09_KeepMends : type_of% Try.func11 := Try.func11
theorem N_law09_KeepMends : type_of% Try.ntmps11 := Try.ntmps11
abbrev f_law09_KeepDoes : FuncId := 12
theorem F_law09_KeepDoes : type_of% Try.func12 := Try.func12
theorem N_law09_KeepDoes : type_of% Try.ntmps12 := Try.ntmps12
abbrev f_law06_awake : FuncId := 13
theorem F_law06_awake : type_of% Try.func13 := Try.func13
theorem N_law06_awake : type_of% Try.ntmps13 := Try.ntmps13
abbrev f_disk_New : FuncId := 14
theorem F_disk_New : type_of% Try.func14 := Try.func14
theorem N_disk_New : type_of% Try.ntmps14 := Try.ntmps14
abbrev f_disk_Disk_Flush : FuncId := 15
theorem F_disk_Disk_Flush : type_of% Try.func15 := Try.func15
theorem N_disk_Disk_Flush : type_of% Try.ntmps15 := Try.ntmps15
abbrev f_disk_Disk_Write : FuncId := 16
theorem F_disk_Disk_Write : type_of% Try.func16 := Try.func16
theorem N_disk_Disk_Write : type_of% Try.ntmps16 := Try.ntmps16
abbrev f_law06_Sector : FuncId := 17
theorem F_law06_Sector : type_of% Try.func17 := Try.func17
theorem N_law06_Sector : type_of% Try.ntmps17 := Try.ntmps17
abbrev f_law06_has : FuncId := 18
theorem F_law06_has : type_of% Try.func18 := Try.func18
theorem N_law06_has : type_of% Try.ntmps18 := Try.ntmps18
abbrev f_law06_Does : FuncId := 19
theorem F_law06_Does : type_of% Try.func19 := Try.func19
theorem N_law06_Does : type_of% Try.ntmps19 := Try.ntmps19
abbrev f_disk_Disk_Crash : FuncId := 20
theorem F_disk_Disk_Crash : type_of% Try.func20 := Try.func20
theorem N_disk_Disk_Crash : type_of% Try.ntmps20 := Try.ntmps20
abbrev f_ref06_New : FuncId := 21
theorem F_ref06_New : type_of% Try.func21 := Try.func21
theorem N_ref06_New : type_of% Try.ntmps21 := Try.ntmps21
abbrev f_law06_did : FuncId := 22
theorem F_law06_did : type_of% Try.func22 := Try.func22
theorem N_law06_did : type_of% Try.ntmps22 := Try.ntmps22
abbrev f_law06_same : FuncId := 23
theorem F_law06_same : type_of% Try.func23 := Try.func23
theorem N_law06_same : type_of% Try.ntmps23 := Try.ntmps23
abbrev f_disk_Disk_Copy : FuncId := 24
theorem F_disk_Disk_Copy : type_of% Try.func24 := Try.func24
theorem N_disk_Disk_Copy : type_of% Try.ntmps24 := Try.ntmps24
abbrev f_disk_Disk_Read : FuncId := 25
theorem F_disk_Disk_Read : type_of% Try.func25 := Try.func25
theorem N_disk_Disk_Read : type_of% Try.ntmps25 := Try.ntmps25
abbrev f_disk_Disk_Fault : FuncId := 26
theorem F_disk_Disk_Fault : type_of% Try.func26 := Try.func26
theorem N_disk_Disk_Fault : type_of% Try.ntmps26 := Try.ntmps26
abbrev f_ref04_Same : FuncId := 27
theorem F_ref04_Same : type_of% Try.func27 := Try.func27
theorem N_ref04_Same : type_of% Try.ntmps27 := Try.ntmps27
abbrev f_disk_Disk_Arm : FuncId := 28
theorem F_disk_Disk_Arm : type_of% Try.func28 := Try.func28
theorem N_disk_Disk_Arm : type_of% Try.ntmps28 := Try.ntmps28
abbrev f_disk_Disk_Len : FuncId := 29
theorem F_disk_Disk_Len : type_of% Try.func29 := Try.func29
theorem N_disk_Disk_Len : type_of% Try.ntmps29 := Try.ntmps29
abbrev f_disk_Disk_Ops : FuncId := 30
theorem F_disk_Disk_Ops : type_of% Try.func30 := Try.func30
theorem N_disk_Disk_Ops : type_of% Try.ntmps30 := Try.ntmps30
abbrev f_disk_Disk_Dead : FuncId := 31
theorem F_disk_Disk_Dead : type_of% Try.func31 := Try.func31
theorem N_disk_Disk_Dead : type_of% Try.ntmps31 := Try.ntmps31
abbrev f_law09_awake : FuncId := 32
theorem F_law09_awake : type_of% Try.func32 := Try.func32
theorem N_law09_awake : type_of% Try.ntmps32 := Try.ntmps32
abbrev f_keep_One : FuncId := 33
theorem F_keep_One : type_of% Try.func33 := Try.func33
theorem N_keep_One : type_of% Try.ntmps33 := Try.ntmps33
abbrev f_law09_spoilt : FuncId := 34
theorem F_law09_spoilt : type_of% Try.func34 := Try.func34
theorem N_law09_spoilt : type_of% Try.ntmps34 := Try.ntmps34
abbrev f_law09_puts : FuncId := 35
theorem F_law09_puts : type_of% Try.func35 := Try.func35
theorem N_law09_puts : type_of% Try.ntmps35 := Try.ntmps35
abbrev f_keep_All : FuncId := 36
theorem F_keep_All : type_of% Try.func36 := Try.func36
theorem N_keep_All : type_of% Try.ntmps36 := Try.ntmps36
abbrev f_keep_Mend : FuncId := 37
theorem F_keep_Mend : type_of% Try.func37 := Try.func37
theorem N_keep_Mend : type_of% Try.ntmps37 := Try.ntmps37
abbrev f_ref09_All : FuncId := 38
theorem F_ref09_All : type_of% Try.func38 := Try.func38
theorem N_ref09_All : type_of% Try.ntmps38 := Try.ntmps38
abbrev f_law09_alike : FuncId := 39
theorem F_law09_alike : type_of% Try.func39 := Try.func39
theorem N_law09_alike : type_of% Try.ntmps39 := Try.ntmps39
abbrev f_ref09_Mend : FuncId := 40
theorem F_ref09_Mend : type_of% Try.func40 := Try.func40
theorem N_ref09_Mend : type_of% Try.ntmps40 := Try.ntmps40
abbrev f_disk_Disk_lives : FuncId := 41
theorem F_disk_Disk_lives : type_of% Try.func41 := Try.func41
theorem N_disk_Disk_lives : type_of% Try.ntmps41 := Try.ntmps41
abbrev f_disk_Disk_crash : FuncId := 42
theorem F_disk_Disk_crash : type_of% Try.func42 := Try.func42
theorem N_disk_Disk_crash : type_of% Try.ntmps42 := Try.ntmps42
abbrev f_disk_Disk_has : FuncId := 43
theorem F_disk_Disk_has : type_of% Try.func43 := Try.func43
theorem N_disk_Disk_has : type_of% Try.ntmps43 := Try.ntmps43
abbrev f_slices_Clone_byte : FuncId := 44
theorem F_slices_Clone_byte : type_of% Try.func44 := Try.func44
theorem N_slices_Clone_byte : type_of% Try.ntmps44 := Try.ntmps44
abbrev f_ref06_Disk_Write : FuncId := 45
theorem F_ref06_Disk_Write : type_of% Try.func45 := Try.func45
theorem N_ref06_Disk_Write : type_of% Try.ntmps45 := Try.ntmps45
abbrev f_ref06_Disk_Flush : FuncId := 46
theorem F_ref06_Disk_Flush : type_of% Try.func46 := Try.func46
theorem N_ref06_Disk_Flush : type_of% Try.ntmps46 := Try.ntmps46
abbrev f_ref06_Disk_Fault : FuncId := 47
theorem F_ref06_Disk_Fault : type_of% Try.func47 := Try.func47
theorem N_ref06_Disk_Fault : type_of% Try.ntmps47 := Try.ntmps47
abbrev f_ref06_Disk_Crash : FuncId := 48
theorem F_ref06_Disk_Crash : type_of% Try.func48 := Try.func48
theorem N_ref06_Disk_Crash : type_of% Try.ntmps48 := Try.ntmps48
abbrev f_ref06_Disk_Read : FuncId := 49
theorem F_ref06_Disk_Read : type_of% Try.func49 := Try.func49
theorem N_ref06_Disk_Read : type_of% Try.ntmps49 := Try.ntmps49
abbrev f_slices_Clone_disk_cell : FuncId := 50
theorem F_slices_Clone_disk_cell : type_of% Try.func50 := Try.func50
theorem N_slices_Clone_disk_cell : type_of% Try.ntmps50 := Try.ntmps50
abbrev f_slices_Clone_disk_write : FuncId := 51
theorem F_slices_Clone_disk_write : type_of% Try.func51 := Try.func51
theorem N_slices_Clone_disk_write : type_of% Try.ntmps51 := Try.ntmps51
abbrev f_slices_Backward_disk_write : FuncId := 52
theorem F_slices_Backward_disk_write : type_of% Try.func52 := Try.func52
theorem N_slices_Backward_disk_write : type_of% Try.ntmps52 := Try.ntmps52
abbrev f_disk_Disk_may : FuncId := 53
theorem F_disk_Disk_may : type_of% Try.func53 := Try.func53
theorem N_disk_Disk_may : type_of% Try.ntmps53 := Try.ntmps53
abbrev f_disk_Disk_rot : FuncId := 54
theorem F_disk_Disk_rot : type_of% Try.func54 := Try.func54
theorem N_disk_Disk_rot : type_of% Try.ntmps54 := Try.ntmps54
abbrev f_disk_Disk_blank : FuncId := 55
theorem F_disk_Disk_blank : type_of% Try.func55 := Try.func55
theorem N_disk_Disk_blank : type_of% Try.ntmps55 := Try.ntmps55
abbrev f_disk_Disk_lose : FuncId := 56
theorem F_disk_Disk_lose : type_of% Try.func56 := Try.func56
theorem N_disk_Disk_lose : type_of% Try.ntmps56 := Try.ntmps56
abbrev f_disk_Disk_drop : FuncId := 57
theorem F_disk_Disk_drop : type_of% Try.func57 := Try.func57
theorem N_disk_Disk_drop : type_of% Try.ntmps57 := Try.ntmps57
abbrev f_disk_Disk_miss : FuncId := 58
theorem F_disk_Disk_miss : type_of% Try.func58 := Try.func58
theorem N_disk_Disk_miss : type_of% Try.ntmps58 := Try.ntmps58
abbrev f_keep_hand_one : FuncId := 59
theorem F_keep_hand_one : type_of% Try.func59 := Try.func59
theorem N_keep_hand_one : type_of% Try.ntmps59 := Try.ntmps59
abbrev f_keep_each : FuncId := 60
theorem F_keep_each : type_of% Try.func60 := Try.func60
theorem N_keep_each : type_of% Try.ntmps60 := Try.ntmps60
abbrev f_keep_hand_mend : FuncId := 61
theorem F_keep_hand_mend : type_of% Try.func61 := Try.func61
theorem N_keep_hand_mend : type_of% Try.ntmps61 := Try.ntmps61
abbrev f_ref09_One : FuncId := 62
theorem F_ref09_One : type_of% Try.func62 := Try.func62
theorem N_ref09_One : type_of% Try.ntmps62 := Try.ntmps62
abbrev f_disk_Disk_done : FuncId := 63
theorem F_disk_Disk_done : type_of% Try.func63 := Try.func63
theorem N_disk_Disk_done : type_of% Try.ntmps63 := Try.ntmps63
abbrev f_ref06_Disk_dies : FuncId := 64
theorem F_ref06_Disk_dies : type_of% Try.func64 := Try.func64
theorem N_ref06_Disk_dies : type_of% Try.ntmps64 := Try.ntmps64
abbrev f_ref06_Disk_does : FuncId := 65
theorem F_ref06_Disk_does : type_of% Try.func65 := Try.func65
theorem N_ref06_Disk_does : type_of% Try.ntmps65 := Try.ntmps65
abbrev f_ref06_Disk_settle : FuncId := 66
theorem F_ref06_Disk_settle : type_of% Try.func66 := Try.func66
theorem N_ref06_Disk_settle : type_of% Try.ntmps66 := Try.ntmps66
abbrev f_ref06_differ : FuncId := 67
theorem F_ref06_differ : type_of% Try.func67 := Try.func67
theorem N_ref06_differ : type_of% Try.ntmps67 := Try.ntmps67
abbrev f_slices_Backward_disk_write_1 : FuncId := 68
theorem F_slices_Backward_disk_write_1 : type_of% Try.func68 := Try.func68
theorem N_slices_Backward_disk_write_1 : type_of% Try.ntmps68 := Try.ntmps68
abbrev f_disk_Disk_settle : FuncId := 69
theorem F_disk_Disk_settle : type_of% Try.func69 := Try.func69
theorem N_disk_Disk_settle : type_of% Try.ntmps69 := Try.ntmps69
abbrev f_slices_Clone_int : FuncId := 70
theorem F_slices_Clone_int : type_of% Try.func70 := Try.func70
theorem N_slices_Clone_int : type_of% Try.ntmps70 := Try.ntmps70
abbrev f_keep_hand_once : FuncId := 71
theorem F_keep_hand_once : type_of% Try.func71 := Try.func71
theorem N_keep_hand_once : type_of% Try.ntmps71 := Try.ntmps71
abbrev f_keep_hand_has : FuncId := 72
theorem F_keep_hand_has : type_of% Try.func72 := Try.func72
theorem N_keep_hand_has : type_of% Try.ntmps72 := Try.ntmps72
abbrev f_slices_DeleteFunc_disk_write : FuncId := 73
theorem F_slices_DeleteFunc_disk_write : type_of% Try.func73 := Try.func73
theorem N_slices_DeleteFunc_disk_write : type_of% Try.ntmps73 := Try.ntmps73
abbrev f_disk_Disk_settle_1 : FuncId := 74
theorem F_disk_Disk_settle_1 : type_of% Try.func74 := Try.func74
theorem N_disk_Disk_settle_1 : type_of% Try.ntmps74 := Try.ntmps74
abbrev f_bytes_Equal : FuncId := 75
theorem F_bytes_Equal : type_of% Try.func75 := Try.func75
theorem N_bytes_Equal : type_of% Try.ntmps75 := Try.ntmps75
abbrev f_slices_IndexFunc_disk_write : FuncId := 76
theorem F_slices_IndexFunc_disk_write : type_of% Try.func76 := Try.func76
theorem N_slices_IndexFunc_disk_write : type_of% Try.ntmps76 := Try.ntmps76
abbrev t_i64 : TypeId := 3
abbrev t_bool : TypeId := 4
abbrev t_u8 : TypeId := 5
abbrev t_string : TypeId := 9
abbrev t_u64 : TypeId := 12
abbrev t_i32 : TypeId := 21
abbrev t_s_law06_Op : TypeId := 22
abbrev t_p_disk_Disk : TypeId := 24
abbrev t_api_Errno : TypeId := 25
abbrev t_a20_u8 : TypeId := 28
abbrev t_a4_u8 : TypeId := 29
abbrev t_api_Fault : TypeId := 31
abbrev t_s_bool : TypeId := 32
abbrev t_law06_Op : TypeId := 34
abbrev t_s_u8 : TypeId := 37
abbrev t_p_ref06_Disk : TypeId := 44
abbrev t_s_i64 : TypeId := 60
abbrev t_api_Put : TypeId := 63
abbrev t_s_api_Fault : TypeId := 65
abbrev t_s_law09_Want : TypeId := 66
abbrev t_s_api_Put : TypeId := 69
abbrev t_s_disk_cell : TypeId := 79
abbrev t_s_disk_write : TypeId := 80
abbrev t_disk_Disk : TypeId := 82
abbrev t_disk_cell : TypeId := 84
abbrev t_p_disk_cell : TypeId := 86
abbrev t_disk_write : TypeId := 89
abbrev t_s_s_i64 : TypeId := 90
abbrev t_s_s_u8 : TypeId := 91
abbrev t_s_ref06_Wait : TypeId := 92
abbrev t_ref06_Disk : TypeId := 94
abbrev t_p_keep_hand : TypeId := 103
abbrev t_keep_hand : TypeId := 105
abbrev t_law09_Want : TypeId := 108
abbrev t_ref06_Wait : TypeId := 112
abbrev t_u32 : TypeId := 128
abbrev t_p_u8 : TypeId := 132

end Go.Proofs.Ytolefphdldmlkaa.AL
