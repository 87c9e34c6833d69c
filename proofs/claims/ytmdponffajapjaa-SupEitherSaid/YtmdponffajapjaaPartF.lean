/- A part of the proof. -/
import Derived.Test.YtmdponffajapjaaProg
import Derived.Test.YtmdponffajapjaaPartE
/- The program's types, as the abstract layer wants them. -/
namespace Go.Proofs.Ytmdponffajapjaa.AL
open Go Go.Proofs

def tab : TTab := fun t => match t with
  | 1 => some ⟨.func, 1, 8, [.nilFunc]⟩
  | 2 => some ⟨.int .i64, 1, 8, [(.int .i64 0)]⟩
  | 3 => some ⟨.int .i64, 1, 8, [(.int .i64 0)]⟩
  | 4 => some ⟨.bool, 1, 1, [(.bool false)]⟩
  | 5 => some ⟨.int .u8, 1, 1, [(.int .u8 0)]⟩
  | 9 => some ⟨.string, 1, 16, [(.string ⟨#[]⟩)]⟩
  | 12 => some ⟨.int .u64, 1, 8, [(.int .u64 0)]⟩
  | 17 => some ⟨.ptr 166, 1, 8, [(.pointer none)]⟩
  | 21 => some ⟨.int .i32, 1, 4, [(.int .i32 0)]⟩
  | 22 => some ⟨.struct [(0, 3), (1, 3), (2, 3), (3, 3)], 4, 32, [(.int .i64 0), (.int .i64 0), (.int .i64 0), (.int .i64 0)]⟩
  | 23 => some ⟨.struct [(0, 3), (1, 3), (2, 3), (3, 3)], 4, 32, [(.int .i64 0), (.int .i64 0), (.int .i64 0), (.int .i64 0)]⟩
  | 24 => some ⟨.struct [(0, 3), (1, 3), (2, 3), (3, 3), (4, 3), (5, 3), (6, 3), (7, 3), (8, 23)], 12, 96, (List.replicate 12 (.int .i64 0))⟩
  | 25 => some ⟨.struct [(0, 3), (1, 3), (2, 3), (3, 3), (4, 3), (5, 3), (6, 3), (7, 3), (8, 23)], 12, 96, (List.replicate 12 (.int .i64 0))⟩
  | 26 => some ⟨.slice 5, 1, 24, [(.slice none 0 0)]⟩
  | 27 => some ⟨.func, 1, 8, [.nilFunc]⟩
  | 28 => some ⟨.int .i64, 1, 8, [(.int .i64 0)]⟩
  | 30 => some ⟨.func, 1, 8, [.nilFunc]⟩
  | 31 => some ⟨.func, 1, 8, [.nilFunc]⟩
  | 33 => some ⟨.func, 1, 8, [.nilFunc]⟩
  | 34 => some ⟨.func, 1, 8, [.nilFunc]⟩
  | 35 => some ⟨.func, 1, 8, [.nilFunc]⟩
  | 36 => some ⟨.slice 26, 1, 24, [(.slice none 0 0)]⟩
  | 37 => some ⟨.func, 1, 8, [.nilFunc]⟩
  | 38 => some ⟨.func, 1, 8, [.nilFunc]⟩
  | 39 => some ⟨.array 4 4, 4, 4, [(.bool false), (.bool false), (.bool false), (.bool false)]⟩
  | 40 => some ⟨.ptr 85, 1, 8, [(.pointer none)]⟩
  | 42 => some ⟨.func, 1, 8, [.nilFunc]⟩
  | 43 => some ⟨.func, 1, 8, [.nilFunc]⟩
  | 44 => some ⟨.func, 1, 8, [.nilFunc]⟩
  | 45 => some ⟨.array 4 5, 4, 4, [(.int .u8 0), (.int .u8 0), (.int .u8 0), (.int .u8 0)]⟩
  | 46 => some ⟨.struct [(0, 3), (1, 3), (2, 3), (3, 3), (4, 3), (5, 45)], 9, 48, [(.int .i64 0), (.int .i64 0), (.int .i64 0), (.int .i64 0), (.int .i64 0), (.int .u8 0), (.int .u8 0), (.int .u8 0), (.int .u8 0)]⟩
  | 47 => some ⟨.struct [(0, 3), (1, 3), (2, 3), (3, 3), (4, 3), (5, 45)], 9, 48, [(.int .i64 0), (.int .i64 0), (.int .i64 0), (.int .i64 0), (.int .i64 0), (.int .u8 0), (.int .u8 0), (.int .u8 0), (.int .u8 0)]⟩
  | 49 => some ⟨.func, 1, 8, [.nilFunc]⟩
  | 50 => some ⟨.func, 1, 8, [.nilFunc]⟩
  | 51 => some ⟨.func, 1, 8, [.nilFunc]⟩
  | 52 => some ⟨.slice 4, 1, 24, [(.slice none 0 0)]⟩
  | 53 => some ⟨.func, 1, 8, [.nilFunc]⟩
  | 54 => some ⟨.func, 1, 8, [.nilFunc]⟩
  | 55 => some ⟨.func, 1, 8, [.nilFunc]⟩
  | 56 => some ⟨.func, 1, 8, [.nilFunc]⟩
  | 57 => some ⟨.struct [(0, 26)], 1, 24, [(.slice none 0 0)]⟩
  | 58 => some ⟨.struct [(0, 26)], 1, 24, [(.slice none 0 0)]⟩
  | 59 => some ⟨.func, 1, 8, [.nilFunc]⟩
  | 60 => some ⟨.ptr 25, 1, 8, [(.pointer none)]⟩
  | 61 => some ⟨.ptr 3, 1, 8, [(.pointer none)]⟩
  | 62 => some ⟨.func, 1, 8, [.nilFunc]⟩
  | 63 => some ⟨.func, 1, 8, [.nilFunc]⟩
  | 64 => some ⟨.func, 1, 8, [.nilFunc]⟩
  | 65 => some ⟨.func, 1, 8, [.nilFunc]⟩
  | 66 => some ⟨.struct [(0, 3), (1, 3), (2, 3), (3, 3), (4, 3), (5, 26)], 6, 64, [(.int .i64 0), (.int .i64 0), (.int .i64 0), (.int .i64 0), (.int .i64 0), (.slice none 0 0)]⟩
  | 67 => some ⟨.struct [(0, 3), (1, 3), (2, 3), (3, 3), (4, 3), (5, 26)], 6, 64, [(.int .i64 0), (.int .i64 0), (.int .i64 0), (.int .i64 0), (.int .i64 0), (.slice none 0 0)]⟩
  | 68 => some ⟨.slice 3, 1, 24, [(.slice none 0 0)]⟩
  | 69 => some ⟨.func, 1, 8, [.nilFunc]⟩
  | 71 => some ⟨.func, 1, 8, [.nilFunc]⟩
  | 72 => some ⟨.ptr 106, 1, 8, [(.pointer none)]⟩
  | 73 => some ⟨.func, 1, 8, [.nilFunc]⟩
  | 75 => some ⟨.func, 1, 8, [.nilFunc]⟩
  | 77 => some ⟨.func, 1, 8, [.nilFunc]⟩
  | 78 => some ⟨.func, 1, 8, [.nilFunc]⟩
  | 79 => some ⟨.func, 1, 8, [.nilFunc]⟩
  | 80 => some ⟨.func, 1, 8, [.nilFunc]⟩
  | 81 => some ⟨.func, 1, 8, [.nilFunc]⟩
  | 82 => some ⟨.slice 87, 1, 24, [(.slice none 0 0)]⟩
  | 83 => some ⟨.slice 126, 1, 24, [(.slice none 0 0)]⟩
  | 84 => some ⟨.struct [(0, 82), (1, 83), (2, 4), (3, 4), (4, 3), (5, 3)], 6, 72, [(.slice none 0 0), (.slice none 0 0), (.bool false), (.bool false), (.int .i64 0), (.int .i64 0)]⟩
  | 85 => some ⟨.struct [(0, 82), (1, 83), (2, 4), (3, 4), (4, 3), (5, 3)], 6, 72, [(.slice none 0 0), (.slice none 0 0), (.bool false), (.bool false), (.int .i64 0), (.int .i64 0)]⟩
  | 86 => some ⟨.struct [(0, 26), (1, 4), (2, 3), (3, 68)], 4, 64, [(.slice none 0 0), (.bool false), (.int .i64 0), (.slice none 0 0)]⟩
  | 87 => some ⟨.struct [(0, 26), (1, 4), (2, 3), (3, 68)], 4, 64, [(.slice none 0 0), (.bool false), (.int .i64 0), (.slice none 0 0)]⟩
  | 88 => some ⟨.slice 90, 1, 24, [(.slice none 0 0)]⟩
  | 89 => some ⟨.struct [(0, 3), (1, 26)], 2, 32, [(.int .i64 0), (.slice none 0 0)]⟩
  | 90 => some ⟨.struct [(0, 3), (1, 26)], 2, 32, [(.int .i64 0), (.slice none 0 0)]⟩
  | 91 => some ⟨.func, 1, 8, [.nilFunc]⟩
  | 92 => some ⟨.func, 1, 8, [.nilFunc]⟩
  | 93 => some ⟨.func, 1, 8, [.nilFunc]⟩
  | 94 => some ⟨.map 3 92, 1, 8, [(.map none)]⟩
  | 95 => some ⟨.func, 1, 8, [.nilFunc]⟩
  | 96 => some ⟨.slice 61, 1, 24, [(.slice none 0 0)]⟩
  | 97 => some ⟨.ptr 58, 1, 8, [(.pointer none)]⟩
  | 98 => some ⟨.func, 1, 8, [.nilFunc]⟩
  | 99 => some ⟨.int .u64, 1, 8, [(.int .u64 0)]⟩
  | 100 => some ⟨.func, 1, 8, [.nilFunc]⟩
  | 101 => some ⟨.func, 1, 8, [.nilFunc]⟩
  | 102 => some ⟨.func, 1, 8, [.nilFunc]⟩
  | 103 => some ⟨.func, 1, 8, [.nilFunc]⟩
  | 104 => some ⟨.func, 1, 8, [.nilFunc]⟩
  | 105 => some ⟨.func, 1, 8, [.nilFunc]⟩
  | 106 => some ⟨.struct [(0, 26)], 1, 24, [(.slice none 0 0)]⟩
  | 108 => some ⟨.func, 1, 8, [.nilFunc]⟩
  | 109 => some ⟨.func, 1, 8, [.nilFunc]⟩
  | 110 => some ⟨.func, 1, 8, [.nilFunc]⟩
  | 112 => some ⟨.func, 1, 8, [.nilFunc]⟩
  | 113 => some ⟨.func, 1, 8, [.nilFunc]⟩
  | 114 => some ⟨.func, 1, 8, [.nilFunc]⟩
  | 115 => some ⟨.func, 1, 8, [.nilFunc]⟩
  | 116 => some ⟨.func, 1, 8, [.nilFunc]⟩
  | 117 => some ⟨.ptr 119, 1, 8, [(.pointer none)]⟩
  | 118 => some ⟨.struct [(0, 40), (1, 3)], 2, 16, [(.pointer none), (.int .i64 0)]⟩
  | 119 => some ⟨.struct [(0, 40), (1, 3)], 2, 16, [(.pointer none), (.int .i64 0)]⟩
  | 120 => some ⟨.ptr 87, 1, 8, [(.pointer none)]⟩
  | 121 => some ⟨.func, 1, 8, [.nilFunc]⟩
  | 122 => some ⟨.func, 1, 8, [.nilFunc]⟩
  | 123 => some ⟨.func, 1, 8, [.nilFunc]⟩
  | 124 => some ⟨.func, 1, 8, [.nilFunc]⟩
  | 125 => some ⟨.struct [(0, 3), (1, 26)], 2, 32, [(.int .i64 0), (.slice none 0 0)]⟩
  | 126 => some ⟨.struct [(0, 3), (1, 26)], 2, 32, [(.int .i64 0), (.slice none 0 0)]⟩
  | 127 => some ⟨.func, 1, 8, [.nilFunc]⟩
  | 128 => some ⟨.func, 1, 8, [.nilFunc]⟩
  | 129 => some ⟨.func, 1, 8, [.nilFunc]⟩
  | 130 => some ⟨.func, 1, 8, [.nilFunc]⟩
  | 131 => some ⟨.int .u64, 1, 8, [(.int .u64 0)]⟩
  | 132 => some ⟨.func, 1, 8, [.nilFunc]⟩
  | 134 => some ⟨.func, 1, 8, [.nilFunc]⟩
  | 136 => some ⟨.func, 1, 8, [.nilFunc]⟩
  | 137 => some ⟨.func, 1, 8, [.nilFunc]⟩
  | 138 => some ⟨.func, 1, 8, [.nilFunc]⟩
  | 139 => some ⟨.func, 1, 8, [.nilFunc]⟩
  | 140 => some ⟨.func, 1, 8, [.nilFunc]⟩
  | 141 => some ⟨.func, 1, 8, [.nilFunc]⟩
  | 142 => some ⟨.func, 1, 8, [.nilFunc]⟩
  | 143 => some ⟨.func, 1, 8, [.nilFunc]⟩
  | 144 => some ⟨.func, 1, 8, [.nilFunc]⟩
  | 145 => some ⟨.func, 1, 8, [.nilFunc]⟩
  | 146 => some ⟨.func, 1, 8, [.nilFunc]⟩
  | 147 => some ⟨.func, 1, 8, [.nilFunc]⟩
  | 148 => some ⟨.ptr 152, 1, 8, [(.pointer none)]⟩
  | 149 => some ⟨.func, 1, 8, [.nilFunc]⟩
  | 150 => some ⟨.int .u32, 1, 4, [(.int .u32 0)]⟩
  | 151 => some ⟨.array 256 150, 256, 1024, (List.replicate 256 (.int .u32 0))⟩
  | 152 => some ⟨.array 256 150, 256, 1024, (List.replicate 256 (.int .u32 0))⟩
  | 153 => some ⟨.func, 1, 8, [.nilFunc]⟩
  | 161 => some ⟨.func, 1, 8, [.nilFunc]⟩
  | 162 => some ⟨.ptr 5, 1, 8, [(.pointer none)]⟩
  | 165 => some ⟨.struct [(0, 12), (1, 12), (2, 150), (3, 159), (4, 5), (5, 5), (6, 160), (7, 161), (8, 162), (9, 163), (10, 164)], 11, 48, [(.int .u64 0), (.int .u64 0), (.int .u32 0), (.int .u8 0), (.int .u8 0), (.int .u8 0), (.int .u8 0), .nilFunc, (.pointer none), (.int .i32 0), (.int .i32 0)]⟩
  | _ => none

theorem ti1 : tiOf Try.prog 1 = some ⟨.func, 1, 8, [.nilFunc]⟩ := by kernel_rfl
theorem ti2 : tiOf Try.prog 2 = some ⟨.int .i64, 1, 8, [(.int .i64 0)]⟩ := by kernel_rfl
theorem ti3 : tiOf Try.prog 3 = some ⟨.int .i64, 1, 8, [(.int .i64 0)]⟩ := by kernel_rfl
theorem ti4 : tiOf Try.prog 4 = some ⟨.bool, 1, 1, [(.bool false)]⟩ := by kernel_rfl
theorem ti5 : tiOf Try.prog 5 = some ⟨.int .u8, 1, 1, [(.int .u8 0)]⟩ := by kernel_rfl
theorem ti9 : tiOf Try.prog 9 = some ⟨.string, 1, 16, [(.string ⟨#[]⟩)]⟩ := by kernel_rfl
theorem ti12 : tiOf Try.prog 12 = some ⟨.int .u64, 1, 8, [(.int .u64 0)]⟩ := by kernel_rfl
theorem ti17 : tiOf Try.prog 17 = some ⟨.ptr 166, 1, 8, [(.pointer none)]⟩ := by kernel_rfl
theorem ti21 : tiOf Try.prog 21 = some ⟨.int .i32, 1, 4, [(.int .i32 0)]⟩ := by kernel_rfl
theorem ti22 : tiOf Try.prog 22 = some ⟨.struct [(0, 3), (1, 3), (2, 3), (3, 3)], 4, 32, [(.int .i64 0), (.int .i64 0), (.int .i64 0), (.int .i64 0)]⟩ := by kernel_rfl
theorem ti23 : tiOf Try.prog 23 = some ⟨.struct [(0, 3), (1, 3), (2, 3), (3, 3)], 4, 32, [(.int .i64 0), (.int .i64 0), (.int .i64 0), (.int .i64 0)]⟩ := by kernel_rfl
theorem ti24 : tiOf Try.prog 24 = some ⟨.struct [(0, 3), (1, 3), (2, 3), (3, 3), (4, 3), (5, 3), (6, 3), (7, 3), (8, 23)], 12, 96, (List.replicate 12 (.int .i64 0))⟩ := by kernel_rfl
theorem ti25 : tiOf Try.prog 25 = some ⟨.struct [(0, 3), (1, 3), (2, 3), (3, 3), (4, 3), (5, 3), (6, 3), (7, 3), (8, 23)], 12, 96, (List.replicate 12 (.int .i64 0))⟩ := by kernel_rfl
theorem ti26 : tiOf Try.prog 26 = some ⟨.slice 5, 1, 24, [(.slice none 0 0)]⟩ := by kernel_rfl
theorem ti27 : tiOf Try.prog 27 = some ⟨.func, 1, 8, [.nilFunc]⟩ := by kernel_rfl
theorem ti28 : tiOf Try.prog 28 = some ⟨.int .i64, 1, 8, [(.int .i64 0)]⟩ := by kernel_rfl
theorem ti30 : tiOf Try.prog 30 = some ⟨.func, 1, 8, [.nilFunc]⟩ := by kernel_rfl
theorem ti31 : tiOf Try.prog 31 = some ⟨.func, 1, 8, [.nilFunc]⟩ := by kernel_rfl
theorem ti33 : tiOf Try.prog 33 = some ⟨.func, 1, 8, [.nilFunc]⟩ := by kernel_rfl
theorem ti34 : tiOf Try.prog 34 = some ⟨.func, 1, 8, [.nilFunc]⟩ := by kernel_rfl
theorem ti35 : tiOf Try.prog 35 = some ⟨.func, 1, 8, [.nilFunc]⟩ := by kernel_rfl
theorem ti36 : tiOf Try.prog 36 = some ⟨.slice 26, 1, 24, [(.slice none 0 0)]⟩ := by kernel_rfl
theorem ti37 : tiOf Try.prog 37 = some ⟨.func, 1, 8, [.nilFunc]⟩ := by kernel_rfl
theorem ti38 : tiOf Try.prog 38 = some ⟨.func, 1, 8, [.nilFunc]⟩ := by kernel_rfl
theorem ti39 : tiOf Try.prog 39 = some ⟨.array 4 4, 4, 4, [(.bool false), (.bool false), (.bool false), (.bool false)]⟩ := by kernel_rfl
theorem ti40 : tiOf Try.prog 40 = some ⟨.ptr 85, 1, 8, [(.pointer none)]⟩ := by kernel_rfl
theorem ti42 : tiOf Try.prog 42 = some ⟨.func, 1, 8, [.nilFunc]⟩ := by kernel_rfl
theorem ti43 : tiOf Try.prog 43 = some ⟨.func, 1, 8, [.nilFunc]⟩ := by kernel_rfl
theorem ti44 : tiOf Try.prog 44 = some ⟨.func, 1, 8, [.nilFunc]⟩ := by kernel_rfl
theorem ti45 : tiOf Try.prog 45 = some ⟨.array 4 5, 4, 4, [(.int .u8 0), (.int .u8 0), (.int .u8 0), (.int .u8 0)]⟩ := by kernel_rfl
theorem ti46 : tiOf Try.prog 46 = some ⟨.struct [(0, 3), (1, 3), (2, 3), (3, 3), (4, 3), (5, 45)], 9, 48, [(.int .i64 0), (.int .i64 0), (.int .i64 0), (.int .i64 0), (.int .i64 0), (.int .u8 0), (.int .u8 0), (.int .u8 0), (.int .u8 0)]⟩ := by kernel_rfl
theorem ti47 : tiOf Try.prog 47 = some ⟨.struct [(0, 3), (1, 3), (2, 3), (3, 3), (4, 3), (5, 45)], 9, 48, [(.int .i64 0), (.int .i64 0), (.int .i64 0), (.int .i64 0), (.int .i64 0), (.int .u8 0), (.int .u8 0), (.int .u8 0), (.int .u8 0)]⟩ := by kernel_rfl
theorem ti49 : tiOf Try.prog 49 = some ⟨.func, 1, 8, [.nilFunc]⟩ := by kernel_rfl
theorem ti50 : tiOf Try.prog 50 = some ⟨.func, 1, 8, [.nilFunc]⟩ := by kernel_rfl
theorem ti51 : tiOf Try.prog 51 = some ⟨.func, 1, 8, [.nilFunc]⟩ := by kernel_rfl
theorem ti52 : tiOf Try.prog 52 = some ⟨.slice 4, 1, 24, [(.slice none 0 0)]⟩ := by kernel_rfl
theorem ti53 : tiOf Try.prog 53 = some ⟨.func, 1, 8, [.nilFunc]⟩ := by kernel_rfl
theorem ti54 : tiOf Try.prog 54 = some ⟨.func, 1, 8, [.nilFunc]⟩ := by kernel_rfl
theorem ti55 : tiOf Try.prog 55 = some ⟨.func, 1, 8, [.nilFunc]⟩ := by kernel_rfl
theorem ti56 : tiOf Try.prog 56 = some ⟨.func, 1, 8, [.nilFunc]⟩ := by kernel_rfl
theorem ti57 : tiOf Try.prog 57 = some ⟨.struct [(0, 26)], 1, 24, [(.slice none 0 0)]⟩ := by kernel_rfl
theorem ti58 : tiOf Try.prog 58 = some ⟨.struct [(0, 26)], 1, 24, [(.slice none 0 0)]⟩ := by kernel_rfl
theorem ti59 : tiOf Try.prog 59 = some ⟨.func, 1, 8, [.nilFunc]⟩ := by kernel_rfl
theorem ti60 : tiOf Try.prog 60 = some ⟨.ptr 25, 1, 8, [(.pointer none)]⟩ := by kernel_rfl
theorem ti61 : tiOf Try.prog 61 = some ⟨.ptr 3, 1, 8, [(.pointer none)]⟩ := by kernel_rfl
theorem ti62 : tiOf Try.prog 62 = some ⟨.func, 1, 8, [.nilFunc]⟩ := by kernel_rfl
theorem ti63 : tiOf Try.prog 63 = some ⟨.func, 1, 8, [.nilFunc]⟩ := by kernel_rfl
theorem ti64 : tiOf Try.prog 64 = some ⟨.func, 1, 8, [.nilFunc]⟩ := by kernel_rfl
theorem ti65 : tiOf Try.prog 65 = some ⟨.func, 1, 8, [.nilFunc]⟩ := by kernel_rfl
theorem ti66 : tiOf Try.prog 66 = some ⟨.struct [(0, 3), (1, 3), (2, 3), (3, 3), (4, 3), (5, 26)], 6, 64, [(.int .i64 0), (.int .i64 0), (.int .i64 0), (.int .i64 0), (.int .i64 0), (.slice none 0 0)]⟩ := by kernel_rfl
theorem ti67 : tiOf Try.prog 67 = some ⟨.struct [(0, 3), (1, 3), (2, 3), (3, 3), (4, 3), (5, 26)], 6, 64, [(.int .i64 0), (.int .i64 0), (.int .i64 0), (.int .i64 0), (.int .i64 0), (.slice none 0 0)]⟩ := by kernel_rfl
theorem ti68 : tiOf Try.prog 68 = some ⟨.slice 3, 1, 24, [(.slice none 0 0)]⟩ := by kernel_rfl
theorem ti69 : tiOf Try.prog 69 = some ⟨.func, 1, 8, [.nilFunc]⟩ := by kernel_rfl
theorem ti71 : tiOf Try.prog 71 = some ⟨.func, 1, 8, [.nilFunc]⟩ := by kernel_rfl
theorem ti72 : tiOf Try.prog 72 = some ⟨.ptr 106, 1, 8, [(.pointer none)]⟩ := by kernel_rfl
theorem ti73 : tiOf Try.prog 73 = some ⟨.func, 1, 8, [.nilFunc]⟩ := by kernel_rfl
theorem ti75 : tiOf Try.prog 75 = some ⟨.func, 1, 8, [.nilFunc]⟩ := by kernel_rfl
theorem ti77 : tiOf Try.prog 77 = some ⟨.func, 1, 8, [.nilFunc]⟩ := by kernel_rfl
theorem ti78 : tiOf Try.prog 78 = some ⟨.func, 1, 8, [.nilFunc]⟩ := by kernel_rfl
theorem ti79 : tiOf Try.prog 79 = some ⟨.func, 1, 8, [.nilFunc]⟩ := by kernel_rfl
theorem ti80 : tiOf Try.prog 80 = some ⟨.func, 1, 8, [.nilFunc]⟩ := by kernel_rfl
theorem ti81 : tiOf Try.prog 81 = some ⟨.func, 1, 8, [.nilFunc]⟩ := by kernel_rfl
theorem ti82 : tiOf Try.prog 82 = some ⟨.slice 87, 1, 24, [(.slice none 0 0)]⟩ := by kernel_rfl
theorem ti83 : tiOf Try.prog 83 = some ⟨.slice 126, 1, 24, [(.slice none 0 0)]⟩ := by kernel_rfl
theorem ti84 : tiOf Try.prog 84 = some ⟨.struct [(0, 82), (1, 83), (2, 4), (3, 4), (4, 3), (5, 3)], 6, 72, [(.slice none 0 0), (.slice none 0 0), (.bool false), (.bool false), (.int .i64 0), (.int .i64 0)]⟩ := by kernel_rfl
theorem ti85 : tiOf Try.prog 85 = some ⟨.struct [(0, 82), (1, 83), (2, 4), (3, 4), (4, 3), (5, 3)], 6, 72, [(.slice none 0 0), (.slice none 0 0), (.bool false), (.bool false), (.int .i64 0), (.int .i64 0)]⟩ := by kernel_rfl
theorem ti86 : tiOf Try.prog 86 = some ⟨.struct [(0, 26), (1, 4), (2, 3), (3, 68)], 4, 64, [(.slice none 0 0), (.bool false), (.int .i64 0), (.slice none 0 0)]⟩ := by kernel_rfl
theorem ti87 : tiOf Try.prog 87 = some ⟨.struct [(0, 26), (1, 4), (2, 3), (3, 68)], 4, 64, [(.slice none 0 0), (.bool false), (.int .i64 0), (.slice none 0 0)]⟩ := by kernel_rfl
theorem ti88 : tiOf Try.prog 88 = some ⟨.slice 90, 1, 24, [(.slice none 0 0)]⟩ := by kernel_rfl
theorem ti89 : tiOf Try.prog 89 = some ⟨.struct [(0, 3), (1, 26)], 2, 32, [(.int .i64 0), (.slice none 0 0)]⟩ := by kernel_rfl
theorem ti90 : tiOf Try.prog 90 = some ⟨.struct [(0, 3), (1, 26)], 2, 32, [(.int .i64 0), (.slice none 0 0)]⟩ := by kernel_rfl
theorem ti91 : tiOf Try.prog 91 = some ⟨.func, 1, 8, [.nilFunc]⟩ := by kernel_rfl
theorem ti92 : tiOf Try.prog 92 = some ⟨.func, 1, 8, [.nilFunc]⟩ := by kernel_rfl
theorem ti93 : tiOf Try.prog 93 = some ⟨.func, 1, 8, [.nilFunc]⟩ := by kernel_rfl
theorem ti94 : tiOf Try.prog 94 = some ⟨.map 3 92, 1, 8, [(.map none)]⟩ := by kernel_rfl
theorem ti95 : tiOf Try.prog 95 = some ⟨.func, 1, 8, [.nilFunc]⟩ := by kernel_rfl
theorem ti96 : tiOf Try.prog 96 = some ⟨.slice 61, 1, 24, [(.slice none 0 0)]⟩ := by kernel_rfl
theorem ti97 : tiOf Try.prog 97 = some ⟨.ptr 58, 1, 8, [(.pointer none)]⟩ := by kernel_rfl
theorem ti98 : tiOf Try.prog 98 = some ⟨.func, 1, 8, [.nilFunc]⟩ := by kernel_rfl
theorem ti99 : tiOf Try.prog 99 = some ⟨.int .u64, 1, 8, [(.int .u64 0)]⟩ := by kernel_rfl
theorem ti100 : tiOf Try.prog 100 = some ⟨.func, 1, 8, [.nilFunc]⟩ := by kernel_rfl
theorem ti101 : tiOf Try.prog 101 = some ⟨.func, 1, 8, [.nilFunc]⟩ := by kernel_rfl
theorem ti102 : tiOf Try.prog 102 = some ⟨.func, 1, 8, [.nilFunc]⟩ := by kernel_rfl
theorem ti103 : tiOf Try.prog 103 = some ⟨.func, 1, 8, [.nilFunc]⟩ := by kernel_rfl
theorem ti104 : tiOf Try.prog 104 = some ⟨.func, 1, 8, [.nilFunc]⟩ := by kernel_rfl
theorem ti105 : tiOf Try.prog 105 = some ⟨.func, 1, 8, [.nilFunc]⟩ := by kernel_rfl
theorem ti106 : tiOf Try.prog 106 = some ⟨.struct [(0, 26)], 1, 24, [(.slice none 0 0)]⟩ := by kernel_rfl
theorem ti108 : tiOf Try.prog 108 = some ⟨.func, 1, 8, [.nilFunc]⟩ := by kernel_rfl
theorem ti109 : tiOf Try.prog 109 = some ⟨.func, 1, 8, [.nilFunc]⟩ := by kernel_rfl
theorem ti110 : tiOf Try.prog 110 = some ⟨.func, 1, 8, [.nilFunc]⟩ := by kernel_rfl
theorem ti112 : tiOf Try.prog 112 = some ⟨.func, 1, 8, [.nilFunc]⟩ := by kernel_rfl
theorem ti113 : tiOf Try.prog 113 = some ⟨.func, 1, 8, [.nilFunc]⟩ := by kernel_rfl
theorem ti114 : tiOf Try.prog 114 = some ⟨.func, 1, 8, [.nilFunc]⟩ := by kernel_rfl
theorem ti115 : tiOf Try.prog 115 = some ⟨.func, 1, 8, [.nilFunc]⟩ := by kernel_rfl
theorem ti116 : tiOf Try.prog 116 = some ⟨.func, 1, 8, [.nilFunc]⟩ := by kernel_rfl
theorem ti117 : tiOf Try.prog 117 = some ⟨.ptr 119, 1, 8, [(.pointer none)]⟩ := by kernel_rfl
theorem ti118 : tiOf Try.prog 118 = some ⟨.struct [(0, 40), (1, 3)], 2, 16, [(.pointer none), (.int .i64 0)]⟩ := by kernel_rfl
theorem ti119 : tiOf Try.prog 119 = some ⟨.struct [(0, 40), (1, 3)], 2, 16, [(.pointer none), (.int .i64 0)]⟩ := by kernel_rfl
theorem ti120 : tiOf Try.prog 120 = some ⟨.ptr 87, 1, 8, [(.pointer none)]⟩ := by kernel_rfl
theorem ti121 : tiOf Try.prog 121 = some ⟨.func, 1, 8, [.nilFunc]⟩ := by kernel_rfl
theorem ti122 : tiOf Try.prog 122 = some ⟨.func, 1, 8, [.nilFunc]⟩ := by kernel_rfl
theorem ti123 : tiOf Try.prog 123 = some ⟨.func, 1, 8, [.nilFunc]⟩ := by kernel_rfl
theorem ti124 : tiOf Try.prog 124 = some ⟨.func, 1, 8, [.nilFunc]⟩ := by kernel_rfl
theorem ti125 : tiOf Try.prog 125 = some ⟨.struct [(0, 3), (1, 26)], 2, 32, [(.int .i64 0), (.slice none 0 0)]⟩ := by kernel_rfl
theorem ti126 : tiOf Try.prog 126 = some ⟨.struct [(0, 3), (1, 26)], 2, 32, [(.int .i64 0), (.slice none 0 0)]⟩ := by kernel_rfl
theorem ti127 : tiOf Try.prog 127 = some ⟨.func, 1, 8, [.nilFunc]⟩ := by kernel_rfl
theorem ti128 : tiOf Try.prog 128 = some ⟨.func, 1, 8, [.nilFunc]⟩ := by kernel_rfl
theorem ti129 : tiOf Try.prog 129 = some ⟨.func, 1, 8, [.nilFunc]⟩ := by kernel_rfl
theorem ti130 : tiOf Try.prog 130 = some ⟨.func, 1, 8, [.nilFunc]⟩ := by kernel_rfl
theorem ti131 : tiOf Try.prog 131 = some ⟨.int .u64, 1, 8, [(.int .u64 0)]⟩ := by kernel_rfl
theorem ti132 : tiOf Try.prog 132 = some ⟨.func, 1, 8, [.nilFunc]⟩ := by kernel_rfl
theorem ti134 : tiOf Try.prog 134 = some ⟨.func, 1, 8, [.nilFunc]⟩ := by kernel_rfl
theorem ti136 : tiOf Try.prog 136 = some ⟨.func, 1, 8, [.nilFunc]⟩ := by kernel_rfl
theorem ti137 : tiOf Try.prog 137 = some ⟨.func, 1, 8, [.nilFunc]⟩ := by kernel_rfl
theorem ti138 : tiOf Try.prog 138 = some ⟨.func, 1, 8, [.nilFunc]⟩ := by kernel_rfl
theorem ti139 : tiOf Try.prog 139 = some ⟨.func, 1, 8, [.nilFunc]⟩ := by kernel_rfl
theorem ti140 : tiOf Try.prog 140 = some ⟨.func, 1, 8, [.nilFunc]⟩ := by kernel_rfl
theorem ti141 : tiOf Try.prog 141 = some ⟨.func, 1, 8, [.nilFunc]⟩ := by kernel_rfl
theorem ti142 : tiOf Try.prog 142 = some ⟨.func, 1, 8, [.nilFunc]⟩ := by kernel_rfl
theorem ti143 : tiOf Try.prog 143 = some ⟨.func, 1, 8, [.nilFunc]⟩ := by kernel_rfl
theorem ti144 : tiOf Try.prog 144 = some ⟨.func, 1, 8, [.nilFunc]⟩ := by kernel_rfl
theorem ti145 : tiOf Try.prog 145 = some ⟨.func, 1, 8, [.nilFunc]⟩ := by kernel_rfl
theorem ti146 : tiOf Try.prog 146 = some ⟨.func, 1, 8, [.nilFunc]⟩ := by kernel_rfl
theorem ti147 : tiOf Try.prog 147 = some ⟨.func, 1, 8, [.nilFunc]⟩ := by kernel_rfl
theorem ti148 : tiOf Try.prog 148 = some ⟨.ptr 152, 1, 8, [(.pointer none)]⟩ := by kernel_rfl
theorem ti149 : tiOf Try.prog 149 = some ⟨.func, 1, 8, [.nilFunc]⟩ := by kernel_rfl
theorem ti150 : tiOf Try.prog 150 = some ⟨.int .u32, 1, 4, [(.int .u32 0)]⟩ := by kernel_rfl
theorem ti151 : tiOf Try.prog 151 = some ⟨.array 256 150, 256, 1024, (List.replicate 256 (.int .u32 0))⟩ := by kernel_rfl
theorem ti152 : tiOf Try.prog 152 = some ⟨.array 256 150, 256, 1024, (List.replicate 256 (.int .u32 0))⟩ := by kernel_rfl
theorem ti153 : tiOf Try.prog 153 = some ⟨.func, 1, 8, [.nilFunc]⟩ := by kernel_rfl
theorem ti161 : tiOf Try.prog 161 = some ⟨.func, 1, 8, [.nilFunc]⟩ := by kernel_rfl
theorem ti162 : tiOf Try.prog 162 = some ⟨.ptr 5, 1, 8, [(.pointer none)]⟩ := by kernel_rfl
theorem ti165 : tiOf Try.prog 165 = some ⟨.struct [(0, 12), (1, 12), (2, 150), (3, 159), (4, 5), (5, 5), (6, 160), (7, 161), (8, 162), (9, 163), (10, 164)], 11, 48, [(.int .u64 0), (.int .u64 0), (.int .u32 0), (.int .u8 0), (.int .u8 0), (.int .u8 0), (.int .u8 0), .nilFunc, (.pointer none), (.int .i32 0), (.int .i32 0)]⟩ := by kernel_rfl

theorem hT : TOk Try.prog tab := by
  intro t i h
  unfold tab at h
  split at h
  · obtain rfl := Option.some.inj h; exact ti1
  · obtain rfl := Option.some.inj h; exact ti2
  · obtain rfl := Option.some.inj h; exact ti3
  · obtain rfl := Option.some.inj h; exact ti4
  · obtain rfl := Option.some.inj h; exact ti5
  · obtain rfl := Option.some.inj h; exact ti9
  · obtain rfl := Option.some.inj h; exact ti12
  · obtain rfl := Option.some.inj h; exact ti17
  · obtain rfl := Option.some.inj h; exact ti21
  · obtain rfl := Option.some.inj h; exact ti22
  · obtain rfl := Option.some.inj h; exact ti23
  · obtain rfl := Option.some.inj h; exact ti24
  · obtain rfl := Option.some.inj h; exact ti25
  · obtain rfl := Option.some.inj h; exact ti26
  · obtain rfl := Option.some.inj h; exact ti27
  · obtain rfl := Option.some.inj h; exact ti28
  · obtain rfl := Option.some.inj h; exact ti30
  · obtain rfl := Option.some.inj h; exact ti31
  · obtain rfl := Option.some.inj h; exact ti33
  · obtain rfl := Option.some.inj h; exact ti34
  · obtain rfl := Option.some.inj h; exact ti35
  · obtain rfl := Option.some.inj h; exact ti36
  · obtain rfl := Option.some.inj h; exact ti37
  · obtain rfl := Option.some.inj h; exact ti38
  · obtain rfl := Option.some.inj h; exact ti39
  · obtain rfl := Option.some.inj h; exact ti40
  · obtain rfl := Option.some.inj h; exact ti42
  · obtain rfl := Option.some.inj h; exact ti43
  · obtain rfl := Option.some.inj h; exact ti44
  · obtain rfl := Option.some.inj h; exact ti45
  · obtain rfl := Option.some.inj h; exact ti46
  · obtain rfl := Option.some.inj h; exact ti47
  · obtain rfl := Option.some.inj h; exact ti49
  · obtain rfl := Option.some.inj h; exact ti50
  · obtain rfl := Option.some.inj h; exact ti51
  · obtain rfl := Option.some.inj h; exact ti52
  · obtain rfl := Option.some.inj h; exact ti53
  · obtain rfl := Option.some.inj h; exact ti54
  · obtain rfl := Option.some.inj h; exact ti55
  · obtain rfl := Option.some.inj h; exact ti56
  · obtain rfl := Option.some.inj h; exact ti57
  · obtain rfl := Option.some.inj h; exact ti58
  · obtain rfl := Option.some.inj h; exact ti59
  · obtain rfl := Option.some.inj h; exact ti60
  · obtain rfl := Option.some.inj h; exact ti61
  · obtain rfl := Option.some.inj h; exact ti62
  · obtain rfl := Option.some.inj h; exact ti63
  · obtain rfl := Option.some.inj h; exact ti64
  · obtain rfl := Option.some.inj h; exact ti65
  · obtain rfl := Option.some.inj h; exact ti66
  · obtain rfl := Option.some.inj h; exact ti67
  · obtain rfl := Option.some.inj h; exact ti68
  · obtain rfl := Option.some.inj h; exact ti69
  · obtain rfl := Option.some.inj h; exact ti71
  · obtain rfl := Option.some.inj h; exact ti72
  · obtain rfl := Option.some.inj h; exact ti73
  · obtain rfl := Option.some.inj h; exact ti75
  · obtain rfl := Option.some.inj h; exact ti77
  · obtain rfl := Option.some.inj h; exact ti78
  · obtain rfl := Option.some.inj h; exact ti79
  · obtain rfl := Option.some.inj h; exact ti80
  · obtain rfl := Option.some.inj h; exact ti81
  · obtain rfl := Option.some.inj h; exact ti82
  · obtain rfl := Option.some.inj h; exact ti83
  · obtain rfl := Option.some.inj h; exact ti84
  · obtain rfl := Option.some.inj h; exact ti85
  · obtain rfl := Option.some.inj h; exact ti86
  · obtain rfl := Option.some.inj h; exact ti87
  · obtain rfl := Option.some.inj h; exact ti88
  · obtain rfl := Option.some.inj h; exact ti89
  · obtain rfl := Option.some.inj h; exact ti90
  · obtain rfl := Option.some.inj h; exact ti91
  · obtain rfl := Option.some.inj h; exact ti92
  · obtain rfl := Option.some.inj h; exact ti93
  · obtain rfl := Option.some.inj h; exact ti94
  · obtain rfl := Option.some.inj h; exact ti95
  · obtain rfl := Option.some.inj h; exact ti96
  · obtain rfl := Option.some.inj h; exact ti97
  · obtain rfl := Option.some.inj h; exact ti98
  · obtain rfl := Option.some.inj h; exact ti99
  · obtain rfl := Option.some.inj h; exact ti100
  · obtain rfl := Option.some.inj h; exact ti101
  · obtain rfl := Option.some.inj h; exact ti102
  · obtain rfl := Option.some.inj h; exact ti103
  · obtain rfl := Option.some.inj h; exact ti104
  · obtain rfl := Option.some.inj h; exact ti105
  · obtain rfl := Option.some.inj h; exact ti106
  · obtain rfl := Option.some.inj h; exact ti108
  · obtain rfl := Option.some.inj h; exact ti109
  · obtain rfl := Option.some.inj h; exact ti110
  · obtain rfl := Option.some.inj h; exact ti112
  · obtain rfl := Option.some.inj h; exact ti113
  · obtain rfl := Option.some.inj h; exact ti114
  · obtain rfl := Option.some.inj h; exact ti115
  · obtain rfl := Option.some.inj h; exact ti116
  · obtain rfl := Option.some.inj h; exact ti117
  · obtain rfl := Option.some.inj h; exact ti118
  · obtain rfl := Option.some.inj h; exact ti119
  · obtain rfl := Option.some.inj h; exact ti120
  · obtain rfl := Option.some.inj h; exact ti121
  · obtain rfl := Option.some.inj h; exact ti122
  · obtain rfl := Option.some.inj h; exact ti123
  · obtain rfl := Option.some.inj h; exact ti124
  · obtain rfl := Option.some.inj h; exact ti125
  · obtain rfl := Option.some.inj h; exact ti126
  · obtain rfl := Option.some.inj h; exact ti127
  · obtain rfl := Option.some.inj h; exact ti128
  · obtain rfl := Option.some.inj h; exact ti129
  · obtain rfl := Option.some.inj h; exact ti130
  · obtain rfl := Option.some.inj h; exact ti131
  · obtain rfl := Option.some.inj h; exact ti132
  · obtain rfl := Option.some.inj h; exact ti134
  · obtain rfl := Option.some.inj h; exact ti136
  · obtain rfl := Option.some.inj h; exact ti137
  · obtain rfl := Option.some.inj h; exact ti138
  · obtain rfl := Option.some.inj h; exact ti139
  · obtain rfl := Option.some.inj h; exact ti140
  · obtain rfl := Option.some.inj h; exact ti141
  · obtain rfl := Option.some.inj h; exact ti142
  · obtain rfl := Option.some.inj h; exact ti143
  · obtain rfl := Option.some.inj h; exact ti144
  · obtain rfl := Option.some.inj h; exact ti145
  · obtain rfl := Option.some.inj h; exact ti146
  · obtain rfl := Option.some.inj h; exact ti147
  · obtain rfl := Option.some.inj h; exact ti148
  · obtain rfl := Option.some.inj h; exact ti149
  · obtain rfl := Option.some.inj h; exact ti150
  · obtain rfl := Option.some.inj h; exact ti151
  · obtain rfl := Option.some.inj h; exact ti152
  · obtain rfl := Option.some.inj h; exact ti153
  · obtain rfl := Option.some.inj h; exact ti161
  · obtain rfl := Option.some.inj h; exact ti162
  · obtain rfl := Option.some.inj h; exact ti165
  · exact absurd h (by simp)

theorem follows_mixed : Try.prog.follows .mixedOrders = true := by kernel_rfl

abbrev f_law10_SupTells : FuncId := 3
theorem F_law10_SupTells : type_of% Try.func3 := Try.func3
theorem N_law10_SupTells : type_of% Try.ntmps3 := Try.ntmps3
abbrev f_law10_SupPicks : FuncId := 4
theorem F_law10_SupPicks : type_of% Try.func4 := Try.func4
theorem N_law10_SupPicks : type_of% Try.ntmps4 := Try.ntmps4
abbrev f_law10_SupLeft : FuncId := 5
theorem F_law10_SupLeft : type_of% Try.func5 := Try.func5
theorem N_law10_SupLeft : type_of% Try.ntmps5 := Try.ntmps5
abbrev f_law10_SupFew : FuncId := 6
theorem F_law10_SupFew : type_of% Try.func6 := Try.func6
theorem N_law10_SupFew : type_of% Try.ntmps6 := Try.ntmps6
abbrev f_law10_SupEither : FuncId := 7
theorem F_law10_SupEither : type_of% Try.func7 := Try.func7
theorem N_law10_SupEither : type_of% Try.ntmps7 := Try.ntmps7
abbrev f_law10_awake : FuncId := 8
theorem F_law10_awake : type_of% Try.func8 := Try.func8
theorem N_law10_awake : type_of% Try.ntmps8 := Try.ntmps8
abbrev f_sup_Sector : FuncId := 9
theorem F_sup_Sector : type_of% Try.func9 := Try.func9
theorem N_sup_Sector : type_of% Try.ntmps9 := Try.ntmps9
abbrev f_ref10_Sector : FuncId := 10
theorem F_ref10_Sector : type_of% Try.func10 := Try.func10
theorem N_ref10_Sector : type_of% Try.ntmps10 := Try.ntmps10
abbrev f_ref04_Same : FuncId := 11
theorem F_ref04_Same : type_of% Try.func11 := Try.func11
theorem N_ref04_Same : type_of% Try.ntmps11 := Try.ntmps11
abbrev f_sup_Told : FuncId := 12
theorem F_sup_Told : type_of% Try.func12 := Try.func12
theorem N_sup_Told : type_of% Try.ntmps12 := Try.ntmps12
abbrev f_ref10_Told : FuncId := 13
theorem F_ref10_Told : type_of% Try.func13 := Try.func13
theorem N_ref10_Told : type_of% Try.ntmps13 := Try.ntmps13
abbrev f_sup_May : FuncId := 14
theorem F_sup_May : type_of% Try.func14 := Try.func14
theorem N_sup_May : type_of% Try.ntmps14 := Try.ntmps14
abbrev f_ref10_May : FuncId := 15
theorem F_ref10_May : type_of% Try.func15 := Try.func15
theorem N_ref10_May : type_of% Try.ntmps15 := Try.ntmps15
abbrev f_sup_Pick : FuncId := 16
theorem F_sup_Pick : type_of% Try.func16 := Try.func16
theorem N_sup_Pick : type_of% Try.ntmps16 := Try.ntmps16
abbrev f_ref10_Pick : FuncId := 17
theorem F_ref10_Pick : type_of% Try.func17 := Try.func17
theorem N_ref10_Pick : type_of% Try.ntmps17 := Try.ntmps17
abbrev f_disk_New : FuncId := 18
theorem F_disk_New : type_of% Try.func18 := Try.func18
theorem N_disk_New : type_of% Try.ntmps18 := Try.ntmps18
abbrev f_sup_Install : FuncId := 19
theorem F_sup_Install : type_of% Try.func19 := Try.func19
theorem N_sup_Install : type_of% Try.ntmps19 := Try.ntmps19
abbrev f_disk_Disk_Fault : FuncId := 20
theorem F_disk_Disk_Fault : type_of% Try.func20 := Try.func20
theorem N_disk_Disk_Fault : type_of% Try.ntmps20 := Try.ntmps20
abbrev f_sup_Read : FuncId := 21
theorem F_sup_Read : type_of% Try.func21 := Try.func21
theorem N_sup_Read : type_of% Try.ntmps21 := Try.ntmps21
abbrev f_disk_Disk_Arm : FuncId := 22
theorem F_disk_Disk_Arm : type_of% Try.func22 := Try.func22
theorem N_disk_Disk_Arm : type_of% Try.ntmps22 := Try.ntmps22
abbrev f_disk_Disk_Crash : FuncId := 23
theorem F_disk_Disk_Crash : type_of% Try.func23 := Try.func23
theorem N_disk_Disk_Crash : type_of% Try.ntmps23 := Try.ntmps23
abbrev f_law10_one : FuncId := 24
theorem F_law10_one : type_of% Try.func24 := Try.func24
theorem N_law10_one : type_of% Try.ntmps24 := Try.ntmps24
abbrev f_sup_walk : FuncId := 25
theorem F_sup_walk : type_of% Try.func25 := Try.func25
theorem N_sup_walk : type_of% Try.ntmps25 := Try.ntmps25
abbrev f_sup_Sector_1 : FuncId := 26
theorem F_sup_Sector_1 : type_of% Try.func26 := Try.func26
theorem N_sup_Sector_1 : type_of% Try.ntmps26 := Try.ntmps26
abbrev f_code_Out_Num : FuncId := 27
theorem F_code_Out_Num : type_of% Try.func27 := Try.func27
theorem N_code_Out_Num : type_of% Try.ntmps27 := Try.ntmps27
abbrev f_block_Seal : FuncId := 28
theorem F_block_Seal : type_of% Try.func28 := Try.func28
theorem N_block_Seal : type_of% Try.ntmps28 := Try.ntmps28
abbrev f_code_Out_All : FuncId := 29
theorem F_code_Out_All : type_of% Try.func29 := Try.func29
theorem N_code_Out_All : type_of% Try.ntmps29 := Try.ntmps29
abbrev f_ref05_Num : FuncId := 30
theorem F_ref05_Num : type_of% Try.func30 := Try.func30
theorem N_ref05_Num : type_of% Try.ntmps30 := Try.ntmps30
abbrev f_ref07_Seal : FuncId := 31
theorem F_ref07_Seal : type_of% Try.func31 := Try.func31
theorem N_ref07_Seal : type_of% Try.ntmps31 := Try.ntmps31
abbrev f_block_Open : FuncId := 32
theorem F_block_Open : type_of% Try.func32 := Try.func32
theorem N_block_Open : type_of% Try.ntmps32 := Try.ntmps32
abbrev f_code_NewIn : FuncId := 33
theorem F_code_NewIn : type_of% Try.func33 := Try.func33
theorem N_code_NewIn : type_of% Try.ntmps33 := Try.ntmps33
abbrev f_sup_Told_1 : FuncId := 34
theorem F_sup_Told_1 : type_of% Try.func34 := Try.func34
theorem N_sup_Told_1 : type_of% Try.ntmps34 := Try.ntmps34
abbrev f_code_In_Num : FuncId := 35
theorem F_code_In_Num : type_of% Try.func35 := Try.func35
theorem N_code_In_Num : type_of% Try.ntmps35 := Try.ntmps35
abbrev f_bytes_Equal : FuncId := 36
theorem F_bytes_Equal : type_of% Try.func36 := Try.func36
theorem N_bytes_Equal : type_of% Try.ntmps36 := Try.ntmps36
abbrev f_ref07_Open : FuncId := 37
theorem F_ref07_Open : type_of% Try.func37 := Try.func37
theorem N_ref07_Open : type_of% Try.ntmps37 := Try.ntmps37
abbrev f_ref05_GetNum : FuncId := 38
theorem F_ref05_GetNum : type_of% Try.func38 := Try.func38
theorem N_ref05_GetNum : type_of% Try.ntmps38 := Try.ntmps38
abbrev f_sup_word : FuncId := 39
theorem F_sup_word : type_of% Try.func39 := Try.func39
theorem N_sup_word : type_of% Try.ntmps39 := Try.ntmps39
abbrev f_geo_May : FuncId := 40
theorem F_geo_May : type_of% Try.func40 := Try.func40
theorem N_geo_May : type_of% Try.ntmps40 := Try.ntmps40
abbrev f_geo_Room : FuncId := 41
theorem F_geo_Room : type_of% Try.func41 := Try.func41
theorem N_geo_Room : type_of% Try.ntmps41 := Try.ntmps41
abbrev f_ref08_May : FuncId := 42
theorem F_ref08_May : type_of% Try.func42 := Try.func42
theorem N_ref08_May : type_of% Try.ntmps42 := Try.ntmps42
abbrev f_ref10_word : FuncId := 43
theorem F_ref10_word : type_of% Try.func43 := Try.func43
theorem N_ref10_word : type_of% Try.ntmps43 := Try.ntmps43
abbrev f_keep_All : FuncId := 44
theorem F_keep_All : type_of% Try.func44 := Try.func44
theorem N_keep_All : type_of% Try.ntmps44 := Try.ntmps44
abbrev f_disk_Disk_may : FuncId := 45
theorem F_disk_Disk_may : type_of% Try.func45 := Try.func45
theorem N_disk_Disk_may : type_of% Try.ntmps45 := Try.ntmps45
abbrev f_disk_Disk_rot : FuncId := 46
theorem F_disk_Disk_rot : type_of% Try.func46 := Try.func46
theorem N_disk_Disk_rot : type_of% Try.ntmps46 := Try.ntmps46
abbrev f_disk_Disk_blank : FuncId := 47
theorem F_disk_Disk_blank : type_of% Try.func47 := Try.func47
theorem N_disk_Disk_blank : type_of% Try.ntmps47 := Try.ntmps47
abbrev f_disk_Disk_lose : FuncId := 48
theorem F_disk_Disk_lose : type_of% Try.func48 := Try.func48
theorem N_disk_Disk_lose : type_of% Try.ntmps48 := Try.ntmps48
abbrev f_disk_Disk_drop : FuncId := 49
theorem F_disk_Disk_drop : type_of% Try.func49 := Try.func49
theorem N_disk_Disk_drop : type_of% Try.ntmps49 := Try.ntmps49
abbrev f_disk_Disk_miss : FuncId := 50
theorem F_disk_Disk_miss : type_of% Try.func50 := Try.func50
theorem N_disk_Disk_miss : type_of% Try.ntmps50 := Try.ntmps50
abbrev f_disk_Disk_Dead : FuncId := 51
theorem F_disk_Disk_Dead : type_of% Try.func51 := Try.func51
theorem N_disk_Disk_Dead : type_of% Try.ntmps51 := Try.ntmps51
abbrev f_disk_Disk_Read : FuncId := 52
theorem F_disk_Disk_Read : type_of% Try.func52 := Try.func52
theorem N_disk_Disk_Read : type_of% Try.ntmps52 := Try.ntmps52
abbrev f_disk_Disk_crash : FuncId := 53
theorem F_disk_Disk_crash : type_of% Try.func53 := Try.func53
theorem N_disk_Disk_crash : type_of% Try.ntmps53 := Try.ntmps53
abbrev f_code_Out_put : FuncId := 54
theorem F_code_Out_put : type_of% Try.func54 := Try.func54
theorem N_code_Out_put : type_of% Try.ntmps54 := Try.ntmps54
abbrev f_block_numbers : FuncId := 55
theorem F_block_numbers : type_of% Try.func55 := Try.func55
theorem N_block_numbers : type_of% Try.ntmps55 := Try.ntmps55
abbrev f_block_lay : FuncId := 56
theorem F_block_lay : type_of% Try.func56 := Try.func56
theorem N_block_lay : type_of% Try.ntmps56 := Try.ntmps56
abbrev f_crc_Seal : FuncId := 57
theorem F_crc_Seal : type_of% Try.func57 := Try.func57
theorem N_crc_Seal : type_of% Try.ntmps57 := Try.ntmps57
abbrev f_slices_Clone_byte : FuncId := 58
theorem F_slices_Clone_byte : type_of% Try.func58 := Try.func58
theorem N_slices_Clone_byte : type_of% Try.ntmps58 := Try.ntmps58
abbrev f_ref05_digits : FuncId := 59
theorem F_ref05_digits : type_of% Try.func59 := Try.func59
theorem N_ref05_digits : type_of% Try.ntmps59 := Try.ntmps59
abbrev f_ref07_numbers : FuncId := 60
theorem F_ref07_numbers : type_of% Try.func60 := Try.func60
theorem N_ref07_numbers : type_of% Try.ntmps60 := Try.ntmps60
abbrev f_ref07_word : FuncId := 61
theorem F_ref07_word : type_of% Try.func61 := Try.func61
theorem N_ref07_word : type_of% Try.ntmps61 := Try.ntmps61
abbrev f_ref04_Seal : FuncId := 62
theorem F_ref04_Seal : type_of% Try.func62 := Try.func62
theorem N_ref04_Seal : type_of% Try.ntmps62 := Try.ntmps62
abbrev f_block_number : FuncId := 63
theorem F_block_number : type_of% Try.func63 := Try.func63
theorem N_block_number : type_of% Try.ntmps63 := Try.ntmps63
abbrev f_crc_Whole : FuncId := 64
theorem F_crc_Whole : type_of% Try.func64 := Try.func64
theorem N_crc_Whole : type_of% Try.ntmps64 := Try.ntmps64
abbrev f_bytes_Clone : FuncId := 65
theorem F_bytes_Clone : type_of% Try.func65 := Try.func65
theorem N_bytes_Clone : type_of% Try.ntmps65 := Try.ntmps65
abbrev f_code_In_num : FuncId := 66
theorem F_code_In_num : type_of% Try.func66 := Try.func66
theorem N_code_In_num : type_of% Try.ntmps66 := Try.ntmps66
abbrev f_ref07_read : FuncId := 67
theorem F_ref07_read : type_of% Try.func67 := Try.func67
theorem N_ref07_read : type_of% Try.ntmps67 := Try.ntmps67
abbrev f_ref05_run : FuncId := 68
theorem F_ref05_run : type_of% Try.func68 := Try.func68
theorem N_ref05_run : type_of% Try.ntmps68 := Try.ntmps68
abbrev f_ref05_halves : FuncId := 69
theorem F_ref05_halves : type_of% Try.func69 := Try.func69
theorem N_ref05_halves : type_of% Try.ntmps69 := Try.ntmps69
abbrev f_geo_in : FuncId := 70
theorem F_geo_in : type_of% Try.func70 := Try.func70
theorem N_geo_in : type_of% Try.ntmps70 := Try.ntmps70
abbrev f_geo_sectors : FuncId := 71
theorem F_geo_sectors : type_of% Try.func71 := Try.func71
theorem N_geo_sectors : type_of% Try.ntmps71 := Try.ntmps71
abbrev f_geo_of : FuncId := 72
theorem F_geo_of : type_of% Try.func72 := Try.func72
theorem N_geo_of : type_of% Try.ntmps72 := Try.ntmps72
abbrev f_geo_Room_1 : FuncId := 73
theorem F_geo_Room_1 : type_of% Try.func73 := Try.func73
theorem N_geo_Room_1 : type_of% Try.ntmps73 := Try.ntmps73
abbrev f_keep_each : FuncId := 74
theorem F_keep_each : type_of% Try.func74 := Try.func74
theorem N_keep_each : type_of% Try.ntmps74 := Try.ntmps74
abbrev f_keep_hand_one : FuncId := 75
theorem F_keep_hand_one : type_of% Try.func75 := Try.func75
theorem N_keep_hand_one : type_of% Try.ntmps75 := Try.ntmps75
abbrev f_disk_Disk_has : FuncId := 76
theorem F_disk_Disk_has : type_of% Try.func76 := Try.func76
theorem N_disk_Disk_has : type_of% Try.ntmps76 := Try.ntmps76
abbrev f_disk_Disk_settle : FuncId := 77
theorem F_disk_Disk_settle : type_of% Try.func77 := Try.func77
theorem N_disk_Disk_settle : type_of% Try.ntmps77 := Try.ntmps77
abbrev f_slices_Clone_int : FuncId := 78
theorem F_slices_Clone_int : type_of% Try.func78 := Try.func78
theorem N_slices_Clone_int : type_of% Try.ntmps78 := Try.ntmps78
abbrev f_slices_Backward_disk_write : FuncId := 79
theorem F_slices_Backward_disk_write : type_of% Try.func79 := Try.func79
theorem N_slices_Backward_disk_write : type_of% Try.ntmps79 := Try.ntmps79
abbrev f_disk_Disk_done : FuncId := 80
theorem F_disk_Disk_done : type_of% Try.func80 := Try.func80
theorem N_disk_Disk_done : type_of% Try.ntmps80 := Try.ntmps80
abbrev f_code_digits : FuncId := 81
theorem F_code_digits : type_of% Try.func81 := Try.func81
theorem N_code_digits : type_of% Try.ntmps81 := Try.ntmps81
abbrev f_block_words : FuncId := 82
theorem F_block_words : type_of% Try.func82 := Try.func82
theorem N_block_words : type_of% Try.ntmps82 := Try.ntmps82
abbrev f_slices_Concat_byte : FuncId := 83
theorem F_slices_Concat_byte : type_of% Try.func83 := Try.func83
theorem N_slices_Concat_byte : type_of% Try.ntmps83 := Try.ntmps83
abbrev f_crc_four : FuncId := 84
theorem F_crc_four : type_of% Try.func84 := Try.func84
theorem N_crc_four : type_of% Try.ntmps84 := Try.ntmps84
abbrev f_crc_Sum : FuncId := 85
theorem F_crc_Sum : type_of% Try.func85 := Try.func85
theorem N_crc_Sum : type_of% Try.ntmps85 := Try.ntmps85
abbrev f_ref04_Sum : FuncId := 86
theorem F_ref04_Sum : type_of% Try.func86 := Try.func86
theorem N_ref04_Sum : type_of% Try.ntmps86 := Try.ntmps86
abbrev f_slices_Equal_byte : FuncId := 87
theorem F_slices_Equal_byte : type_of% Try.func87 := Try.func87
theorem N_slices_Equal_byte : type_of% Try.ntmps87 := Try.ntmps87
abbrev f_code_In_look : FuncId := 88
theorem F_code_In_look : type_of% Try.func88 := Try.func88
theorem N_code_In_look : type_of% Try.ntmps88 := Try.ntmps88
abbrev f_geo_logged : FuncId := 89
theorem F_geo_logged : type_of% Try.func89 := Try.func89
theorem N_geo_logged : type_of% Try.ntmps89 := Try.ntmps89
abbrev f_geo_wide : FuncId := 90
theorem F_geo_wide : type_of% Try.func90 := Try.func90
theorem N_geo_wide : type_of% Try.ntmps90 := Try.ntmps90
abbrev f_keep_hand_once : FuncId := 91
theorem F_keep_hand_once : type_of% Try.func91 := Try.func91
theorem N_keep_hand_once : type_of% Try.ntmps91 := Try.ntmps91
abbrev f_disk_Disk_Len : FuncId := 92
theorem F_disk_Disk_Len : type_of% Try.func92 := Try.func92
theorem N_disk_Disk_Len : type_of% Try.ntmps92 := Try.ntmps92
abbrev f_slices_DeleteFunc_disk_write : FuncId := 93
theorem F_slices_DeleteFunc_disk_write : type_of% Try.func93 := Try.func93
theorem N_slices_DeleteFunc_disk_write : type_of% Try.ntmps93 := Try.ntmps93
abbrev f_disk_Disk_settle_1 : FuncId := 94
theorem F_disk_Disk_settle_1 : type_of% Try.func94 := Try.func94
theorem N_disk_Disk_settle_1 : type_of% Try.ntmps94 := Try.ntmps94
abbrev f_slices_Backward_disk_write_1 : FuncId := 95
theorem F_slices_Backward_disk_write_1 : type_of% Try.func95 := Try.func95
theorem N_slices_Backward_disk_write_1 : type_of% Try.ntmps95 := Try.ntmps95
abbrev f_code_digits_1 : FuncId := 96
theorem F_code_digits_1 : type_of% Try.func96 := Try.func96
theorem N_code_digits_1 : type_of% Try.ntmps96 := Try.ntmps96
abbrev f_slices_Grow_byte : FuncId := 97
theorem F_slices_Grow_byte : type_of% Try.func97 := Try.func97
theorem N_slices_Grow_byte : type_of% Try.ntmps97 := Try.ntmps97
abbrev f_crc_More : FuncId := 98
theorem F_crc_More : type_of% Try.func98 := Try.func98
theorem N_crc_More : type_of% Try.ntmps98 := Try.ntmps98
abbrev f_ref04_differ : FuncId := 99
theorem F_ref04_differ : type_of% Try.func99 := Try.func99
theorem N_ref04_differ : type_of% Try.ntmps99 := Try.ntmps99
abbrev f_disk_Disk_Write : FuncId := 100
theorem F_disk_Disk_Write : type_of% Try.func100 := Try.func100
theorem N_disk_Disk_Write : type_of% Try.ntmps100 := Try.ntmps100
abbrev f_disk_Disk_Flush : FuncId := 101
theorem F_disk_Disk_Flush : type_of% Try.func101 := Try.func101
theorem N_disk_Disk_Flush : type_of% Try.ntmps101 := Try.ntmps101
abbrev f_keep_hand_has : FuncId := 102
theorem F_keep_hand_has : type_of% Try.func102 := Try.func102
theorem N_keep_hand_has : type_of% Try.ntmps102 := Try.ntmps102
abbrev f_slices_IndexFunc_disk_write : FuncId := 103
theorem F_slices_IndexFunc_disk_write : type_of% Try.func103 := Try.func103
theorem N_slices_IndexFunc_disk_write : type_of% Try.ntmps103 := Try.ntmps103
abbrev f_crc_made : FuncId := 104
theorem F_crc_made : type_of% Try.func104 := Try.func104
theorem N_crc_made : type_of% Try.ntmps104 := Try.ntmps104
abbrev f_disk_Disk_lives : FuncId := 105
theorem F_disk_Disk_lives : type_of% Try.func105 := Try.func105
theorem N_disk_Disk_lives : type_of% Try.ntmps105 := Try.ntmps105
abbrev f_code_In_Left : FuncId := 121
theorem F_code_In_Left : type_of% Try.func121 := Try.func121
theorem N_code_In_Left : type_of% Try.ntmps121 := Try.ntmps121
abbrev f_code_Out_Int : FuncId := 122
theorem F_code_Out_Int : type_of% Try.func122 := Try.func122
theorem N_code_Out_Int : type_of% Try.ntmps122 := Try.ntmps122
abbrev f_keep_hand_mend : FuncId := 123
theorem F_keep_hand_mend : type_of% Try.func123 := Try.func123
theorem N_keep_hand_mend : type_of% Try.ntmps123 := Try.ntmps123
abbrev t_i64 : TypeId := 3
abbrev t_bool : TypeId := 4
abbrev t_u8 : TypeId := 5
abbrev t_string : TypeId := 9
abbrev t_u64 : TypeId := 12
abbrev t_i32 : TypeId := 21
abbrev t_api_Geo : TypeId := 23
abbrev t_api_Super : TypeId := 25
abbrev t_s_u8 : TypeId := 26
abbrev t_api_Errno : TypeId := 28
abbrev t_s_s_u8 : TypeId := 36
abbrev t_a4_bool : TypeId := 39
abbrev t_p_disk_Disk : TypeId := 40
abbrev t_a4_u8 : TypeId := 45
abbrev t_api_Fault : TypeId := 47
abbrev t_s_bool : TypeId := 52
abbrev t_code_Out : TypeId := 58
abbrev t_p_api_Super : TypeId := 60
abbrev t_p_i64 : TypeId := 61
abbrev t_api_Block : TypeId := 67
abbrev t_s_i64 : TypeId := 68
abbrev t_p_code_In : TypeId := 72
abbrev t_s_disk_cell : TypeId := 82
abbrev t_s_disk_write : TypeId := 83
abbrev t_disk_Disk : TypeId := 85
abbrev t_disk_cell : TypeId := 87
abbrev t_s_api_Put : TypeId := 88
abbrev t_api_Put : TypeId := 90
abbrev t_s_p_i64 : TypeId := 96
abbrev t_p_code_Out : TypeId := 97
abbrev t_code_In : TypeId := 106
abbrev t_p_keep_hand : TypeId := 117
abbrev t_keep_hand : TypeId := 119
abbrev t_p_disk_cell : TypeId := 120
abbrev t_disk_write : TypeId := 126
abbrev t_iter_Seq_byte : TypeId := 129
abbrev t_p_crc_steps : TypeId := 148
abbrev t_u32 : TypeId := 150
abbrev t_a256_u32 : TypeId := 151
abbrev t_crc_steps : TypeId := 152
abbrev t_p_u8 : TypeId := 162
abbrev t_uint64 : TypeId := 99

end Go.Proofs.Ytmdponffajapjaa.AL

/- The layer 06 (disk): a device as a plain value; its small functions walked. -/
namespace Go.Proofs.Ytmdponffajapjaa.AL
open Go Go.Proofs

abbrev u8 (b : UInt8) : PV := .raw (.int .u8 (b.toNat : Int))
abbrev Bytes := List UInt8
def bx (l : Bytes) : List (List PV) := l.map fun b => [u8 b]
abbrev bP (l : Bytes) : PV := .sl 1 (bx l)
abbrev bA (l : Bytes) : AV := .p (bP l)
def ix (l : List Int) : List (List PV) := l.map fun n => [.raw (.int .i64 n)]
abbrev iP (l : List Int) : PV := .sl 1 (ix l)

structure Cell where
  s : Bytes
  lost : Bool
  drop : Int
  miss : List Int
  deriving Inhabited, DecidableEq
def Cell.pv (c : Cell) : List PV := [bP c.s, .raw (.bool c.lost), .raw (.int .i64 c.drop), iP c.miss]
structure Wr where
  at_ : Int
  s : Bytes
  deriving Inhabited, DecidableEq
def Wr.pv (x : Wr) : List PV := [.raw (.int .i64 x.at_), bP x.s]
structure Dev where
  cells : List Cell
  waits : List Wr
  armed : Bool
  dead : Bool
  left : Int
  ops : Int
  deriving DecidableEq

def cx (l : List Cell) : List (List PV) := l.map Cell.pv
def wx (l : List Wr) : List (List PV) := l.map Wr.pv
abbrev devC (D : Dev) (b c : Nat) : ABlk := .cells t_disk_Disk [.msl b 4 0 D.cells.length, .msl c 2 0 D.waits.length, bl D.armed, bl D.dead, i64 D.left, i64 D.ops]
abbrev devH (D : Dev) : List ABlk := [devC D 1 2, .row t_disk_cell 4 (cx D.cells), .row t_disk_write 2 (wx D.waits)]

theorem disk_Len (D : Dev) : AFm Try.prog 3 f_disk_Disk_Len [.ref 0 0] (devH D) (Pure (i64 D.cells.length) (devH D)) := by
  refine af_bodyM 3 hT F_disk_Disk_Len rfl rfl N_disk_Disk_Len rfl rfl ?_
  refine aw_seq (aw_region hT ?_)
  refine aw_seq (aw_seq (aw_region hT ?_))
  refine aw_cond ?_
  refine aw_skip ?_
  refine aw_seq (aw_region hT ?_)
  refine aw_ret ?_
  exact retPick [0, 1, 2] ⟨rfl, rfl⟩ rfl

theorem disk_Dead (D : Dev) : AFm Try.prog 3 f_disk_Disk_Dead [.ref 0 0] (devH D) (Pure (bl D.dead) (devH D)) := by
  refine af_bodyM 3 hT F_disk_Disk_Dead rfl rfl N_disk_Disk_Dead rfl rfl ?_
  refine aw_seq (aw_region hT ?_)
  refine aw_seq (aw_region hT ?_)
  refine aw_ret ?_
  exact retPick [0, 1, 2] ⟨rfl, rfl⟩ rfl

def Dev.has (D : Dev) (a : Int) : Bool := decide (a ≥ 0) && decide (a < (D.cells.length : Int))

theorem disk_has (D : Dev) (a : Int) : AFm Try.prog 3 f_disk_Disk_has [.ref 0 0, i64 a] (devH D) (Pure (bl (D.has a)) (devH D)) := by
  refine af_bodyM 3 hT F_disk_Disk_has rfl rfl N_disk_Disk_has rfl rfl ?_
  refine aw_seq (aw_region hT ?_)
  unfold Dev.has
  refine aw_seq (aw_region hT ?_)
  refine boolI (fun h => ?_) (fun h => ?_)
  · refine callP (af_in [0, 1, 2] (disk_Len D) rfl rfl rfl) ?_
    refine aw_ret ?_
    refine retPick [0, 1, 2] ⟨?_, rfl⟩ rfl
    rw [h]; rfl
  · refine aw_ret ?_
    refine retPick [0, 1, 2] ⟨?_, rfl⟩ rfl
    rw [h]; rfl

def Dev.arm (D : Dev) (n : Int) : Dev := { D with armed := decide (n ≥ 0), left := n }

theorem disk_Arm (D : Dev) (n : Int) : AFm Try.prog 3 f_disk_Disk_Arm [.ref 0 0, i64 n] (devH D) (Pure (.tup []) (devH (D.arm n))) := by
  refine af_bodyM 3 hT F_disk_Disk_Arm rfl rfl N_disk_Disk_Arm rfl rfl ?_
  refine aw_seq (aw_region hT ?_)
  refine aw_cond ?_
  refine aw_region hT ?_
  exact retPick [0, 1, 2] ⟨rfl, rfl⟩ rfl

/-- A write or a flush is counted; false: it dies. -/
def Dev.lives (D : Dev) : Dev := { D with dead := D.dead || (D.armed && D.left == 0), left := IntKind.i64.wrap (D.left - 1) }

theorem disk_lives (D : Dev) : AFm Try.prog 3 f_disk_Disk_lives [.ref 0 0] (devH D) (Pure (bl (!D.lives.dead)) (devH D.lives)) := by
  refine af_bodyM 3 hT F_disk_Disk_lives rfl rfl N_disk_Disk_lives rfl rfl ?_
  refine aw_seq (aw_region hT ?_)
  refine aw_cut ⟨⟨29, [(0, .ref 0 0)]⟩, devH { D with dead := D.dead || (D.armed && D.left == 0) }⟩ True (aw_seq (aw_region hT ?_)) (fun _ => ?_)
  · refine boolI (fun h => ?_) (fun h => ?_)
    · refine aw_cond (boolI (fun h2 => ?_) (fun h2 => ?_))
      · refine aw_region hT ?_
        refine ⟨?_, trivial⟩
        have h2 : (D.left == 0) = true := h2
        rw [h, h2, Bool.true_and, Bool.or_true]
        exact wk_pick [0, 1, 2] [0] rfl
      · refine aw_skip ⟨?_, trivial⟩
        have h2 : (D.left == 0) = false := h2
        rw [h, h2, Bool.true_and, Bool.or_false]
        exact wk_pick [0, 1, 2] [0] rfl
    · refine aw_cond ?_
      refine aw_skip ⟨?_, trivial⟩
      rw [h, Bool.false_and, Bool.or_false]
      exact wk_pick [0, 1, 2] [0] rfl
  · refine aw_seq (aw_region hT ?_)
    refine aw_seq (aw_region hT ?_)
    refine aw_ret ?_
    exact retPick [0, 1, 2] ⟨rfl, rfl⟩ rfl
end Go.Proofs.Ytmdponffajapjaa.AL

/- The layer 06 (disk): lists are cloned; a write that waits is done; a crash. -/
namespace Go.Proofs.Ytmdponffajapjaa.AL
open Go Go.Proofs

theorem bx_len (l : Bytes) : (bx l).length = l.length := by simp [bx]
theorem bx_nil {l : Bytes} (h : bx l = []) : l = [] := by cases l with | nil => rfl | cons a r => simp [bx] at h
theorem ix_len (l : List Int) : (ix l).length = l.length := by simp [ix]
theorem cx_len (l : List Cell) : (cx l).length = l.length := by simp [cx]
theorem wx_len (l : List Wr) : (wx l).length = l.length := by simp [wx]

theorem clone_u8 (l : Bytes) (hl : l.length ≤ 1000000) : AF Try.prog f_slices_Clone_byte [bA l] [] (Pure (bA l) []) := by
  have hb := bx_len l
  generalize hx : bx l = xs at hb
  show AF Try.prog f_slices_Clone_byte [.p (.sl 1 (bx l))] [] (Pure (.p (.sl 1 (bx l))) [])
  rw [hx]
  refine af_frz (t := t_u8) (n := xs.length) ?_ rfl
  refine af_body hT F_slices_Clone_byte rfl rfl N_slices_Clone_byte rfl ?_
  refine aw_seq (aw_region hT ?_)
  refine aw_seq (aw_seq (aw_region hT ?_))
  intro b hn
  refine aw_cond (boolI (fun h => ?_) (fun h => ?_))
  · refine aw_seq (aw_region hT ?_)
    refine aw_ret ?_
    rw [hn h]
    exact retNil t_u8 1 ⟨rfl, rfl⟩
  · refine aw_skip ?_
    refine aw_seq (aw_region hT ?_)
    refine ⟨rfl, ⟨?_, ?_⟩, ?_⟩
    · show (0 + xs.length) * 1 ≤ _; omega
    · show 0 + xs.length ≤ _; omega
    refine aw_ret ?_
    exact retPick [1] ⟨rfl, rfl⟩ rfl

theorem clone_i64 (l : List Int) (hl : l.length ≤ 1000000) : AF Try.prog f_slices_Clone_int [.p (iP l)] [] (Pure (.msl 0 1 0 l.length) [.row t_i64 1 (ix l)]) := by
  have hb := ix_len l
  rw [← hb]
  show AF Try.prog f_slices_Clone_int [.p (.sl 1 (ix l))] [] (Pure (.msl 0 1 0 (ix l).length) [.row t_i64 1 (ix l)])
  generalize ix l = xs at hb
  refine af_body hT F_slices_Clone_int rfl rfl N_slices_Clone_int rfl ?_
  refine aw_seq (aw_region hT ?_)
  refine aw_seq (aw_seq (aw_region hT ?_))
  intro b hn
  refine aw_cond (boolI (fun h => ?_) (fun h => ?_))
  · refine aw_seq (aw_region hT ?_)
    refine aw_ret ?_
    rw [hn h]
    exact retNil t_i64 1 ⟨rfl, rfl⟩
  · refine aw_skip ?_
    refine aw_seq (aw_region hT ?_)
    refine ⟨rfl, ⟨?_, ?_⟩, ?_⟩
    · show (0 + xs.length) * 8 ≤ _; omega
    · show 0 + xs.length ≤ _; omega
    refine aw_ret ?_
    exact retPick [1] ⟨rfl, rfl⟩ rfl

/-- A write is done. -/
def doneL (l : List Cell) (x : Wr) : List Cell := match l[x.at_.toNat]? with
  | some c => l.set x.at_.toNat { c with s := x.s, lost := false }
  | none => l
def Dev.done (D : Dev) (x : Wr) : Dev := { D with cells := doneL D.cells x }
theorem doneL_len (l : List Cell) (x : Wr) : (doneL l x).length = l.length := by unfold doneL; split <;> simp

theorem cx_get {l : List Cell} {i : Nat} {c : Cell} (h : l[i]? = some c) : (cx l)[i]? = some c.pv := by rw [cx, List.getElem?_map, h]; rfl
theorem cx_set (l : List Cell) (i : Nat) (c : Cell) : cx (l.set i c) = (cx l).set i c.pv := by simp [cx, List.map_set]
theorem wx_get {l : List Wr} {i : Nat} {c : Wr} (h : l[i]? = some c) : (wx l)[i]? = some c.pv := by rw [wx, List.getElem?_map, h]; rfl

theorem doneL_some {l : List Cell} {x : Wr} {c : Cell} (h : l[x.at_.toNat]? = some c) : doneL l x = l.set x.at_.toNat { c with s := x.s, lost := false } := by
  unfold doneL; rw [h]

theorem disk_done (D : Dev) (x : Wr) (h0 : 0 ≤ x.at_) (h1 : x.at_.toNat < D.cells.length) : AFm Try.prog 3 f_disk_Disk_done [.ref 0 0, .agg [i64 x.at_, bA x.s]] (devH D) (Pure (.tup []) (devH (D.done x))) := by
  have hc := List.getElem?_eq_getElem h1
  generalize D.cells[x.at_.toNat] = c at hc
  have e : (D.done x).cells = D.cells.set x.at_.toNat { c with s := x.s, lost := false } := doneL_some hc
  have el : (D.done x).cells.length = D.cells.length := doneL_len _ _
  have hlt : x.at_ < (D.cells.length : Int) := by omega
  have g1 : (cx D.cells)[0 + x.at_.toNat]? = some c.pv := by rw [Nat.zero_add]; exact cx_get hc
  have g2 : ∀ e, ((cx D.cells).set (0 + x.at_.toNat) e)[0 + x.at_.toNat]? = some e := fun e => by
    rw [Nat.zero_add]; exact List.getElem?_set_self (by rw [cx_len]; exact h1)
  refine af_bodyM 3 hT F_disk_Disk_done rfl rfl N_disk_Disk_done rfl rfl ?_
  refine aw_seq (aw_region hT ?_)
  refine aw_wk (wk_boxL 3 [.raw (.int .i64 x.at_), bP x.s] rfl rfl) ?_
  refine aw_draw [16, 19] [] hT follows_mixed (by rfl) ?_
  refine ⟨⟨h0, hlt⟩, ?_⟩
  refine optI g1 ?_
  refine ⟨⟨h0, hlt⟩, ?_⟩
  refine optI (g2 _) ?_
  refine ⟨rfl, ?_⟩
  refine retPick [0, 1, 2] ⟨rfl, ?_⟩ rfl
  have el' : ((D.done x).cells.length : Int) = D.cells.length := by rw [el]
  show [devC D 1 2, .row t_disk_cell 4 (((cx D.cells).set (0 + x.at_.toNat) _).set (0 + x.at_.toNat) _), .row t_disk_write 2 (wx D.waits)] = [devC (D.done x) 1 2, .row t_disk_cell 4 (cx (D.done x).cells), .row t_disk_write 2 (wx D.waits)]
  rw [show devC (D.done x) 1 2 = devC D 1 2 by unfold devC; rw [el]; rfl, e, cx_set, List.set_set, Nat.zero_add]
  rfl
end Go.Proofs.Ytmdponffajapjaa.AL

/- The layer 06 (disk): a crash, a flush. -/
namespace Go.Proofs.Ytmdponffajapjaa.AL
open Go Go.Proofs

def kx (l : List Bool) : List (List PV) := l.map fun b => [.raw (.bool b)]
theorem kx_len (l : List Bool) : (kx l).length = l.length := by simp [kx]

/-- Is the i-th write kept? -/
def kept (keep : List Bool) (i : Nat) : Bool := decide (0 < keep.length) && keep.getD (i % keep.length) false
def crashC (W : List Wr) (keep : List Bool) : Nat → List Cell → List Cell
  | 0, cs => cs
  | i + 1, cs => match kept keep i with
    | true => doneL (crashC W keep i cs) (W.getD i ⟨0, []⟩)
    | false => crashC W keep i cs
theorem crashC_len (W : List Wr) (keep : List Bool) (cs : List Cell) : ∀ i, (crashC W keep i cs).length = cs.length
  | 0 => rfl
  | i + 1 => by
    unfold crashC; split
    · rw [doneL_len, crashC_len W keep cs i]
    · exact crashC_len W keep cs i
/-- What waits is done, as far as it is kept, and forgotten. -/
def Dev.drain (D : Dev) (keep : List Bool) : Dev := { D with cells := crashC D.waits keep D.waits.length D.cells, waits := [] }
def Dev.waitsIn (D : Dev) : Prop := ∀ x ∈ D.waits, 0 ≤ x.at_ ∧ x.at_ < (D.cells.length : Int)

theorem wrap64 (n : Int) (h0 : -9223372036854775808 ≤ n) (h : n ≤ 9223372036854775807) : IntKind.i64.wrap n = n := by
  rw [IntKind.wrap_i64]; omega

theorem disk_crash (D : Dev) (keep : List Bool) (hw : D.waitsIn) (hn : D.waits.length ≤ 1000000) : AFm Try.prog 1 f_disk_Disk_crash [.ref 0 0, .p (.sl 1 (kx keep))] (devH D) (Pure (.tup []) (devH (D.drain keep))) := by
  refine af_bodyM 1 hT F_disk_Disk_crash rfl rfl N_disk_Disk_crash rfl rfl ?_
  refine aw_seq (aw_seq (aw_region hT ?_))
  refine aw_block ?_
  refine aw_loopW (fun n s => ∃ (i : Nat) (j : Int) (C : List Cell), n + i = D.waits.length ∧ j = i ∧ C = crashC D.waits keep i D.cells ∧ s = ⟨⟨35, [(0, .ref 0 0), (1, .p (.sl 1 (kx keep))), (9, .msl 2 2 0 D.waits.length), (10, i64 D.waits.length), (11, i64 j)]⟩, devH { D with cells := C }⟩) D.waits.length ⟨⟨35, _⟩, [_, _, _]⟩ (wk_pick [0, 1, 2] [0, 1, 9, 10, 11] rfl) ⟨0, _, _, by omega, rfl, rfl, rfl⟩ ?_
  rintro n s ⟨i, j, C, hni, rfl, hC, rfl⟩
  refine aw_seq (aw_region hT ?_)
  refine aw_seq (aw_cond (boolI (fun h => ?_) (fun h => ?_)))
  · have hi : i < D.waits.length := by
      have := of_decide_eq_true (show decide ((i : Int) < (D.waits.length : Int)) = true from h)
      omega
    have hx := List.getElem?_eq_getElem hi
    have hin := hw _ (List.getElem_mem hi)
    generalize D.waits[i] = x at hx hin
    have hCl : C.length = D.cells.length := by rw [hC, crashC_len]
    refine aw_skip ?_
    refine aw_seq (aw_block (aw_seq (aw_region hT ?_)))
    refine ⟨⟨Int.natCast_nonneg _, of_decide_eq_true h⟩, ?_⟩
    refine optI (show (wx D.waits)[0 + ((i : Nat) : Int).toNat]? = some x.pv by rw [Nat.zero_add, Int.toNat_natCast]; exact wx_get hx) ?_
    refine aw_seq (aw_region hT ?_)
    have out : ∀ b, kept keep i = b → (match b with | true => doneL C x | false => C) = crashC D.waits keep (i + 1) D.cells := fun b hb => by
      have hxd : D.waits.getD i ⟨0, []⟩ = x := by rw [List.getD_eq_getElem?_getD, hx]; rfl
      unfold crashC; rw [hb, hxd, ← hC]
    refine boolI (fun h1 => ?_) (fun h1 => ?_)
    · have h1' : 0 < keep.length := by
        have : ((kx keep).length : Int) > 0 := of_decide_eq_true h1
        rw [kx_len] at this; omega
      have e1 : ((i : Int).tmod ((kx keep).length : Int)) = ((i % keep.length : Nat) : Int) := by
        rw [kx_len, Int.tmod_eq_emod_of_nonneg (Int.natCast_nonneg _)]; exact (Int.natCast_emod i keep.length).symm
      have hlt : i % keep.length < keep.length := Nat.mod_lt _ h1'
      have hk := List.getElem?_eq_getElem hlt
      generalize keep[i % keep.length] = b at hk
      have hkept : kept keep i = b := by
        unfold kept; rw [List.getD_eq_getElem?_getD, hk, decide_eq_true h1']; rfl
      refine chkI (b := decide (((kx keep).length : Int) ≠ 0)) (decide_eq_true (by rw [kx_len]; omega)) ?_
      refine ⟨by rw [e1]; omega, optI (show (kx keep)[((i : Int).tmod ((kx keep).length : Int)).toNat]? = some [.raw (.bool b)] by
        rw [e1, Int.toNat_natCast, kx, List.getElem?_map, hk]; rfl) ?_⟩
      refine aw_cond (boolI (fun hb => ?_) (fun hb => ?_))
      · refine aw_region hT ?_
        refine callP (af_in [0, 1, 2] (disk_done { D with cells := C } x hin.1 (by show x.at_.toNat < C.length; omega)) rfl rfl rfl) ?_
        refine aw_region hT ?_
        refine ⟨n - 1, by omega, _, wk_pick [0, 1, 2] [0, 1, 9, 10, 11] rfl, i + 1, _, doneL C x, by omega, ?_, ?_, rfl⟩
        · rw [wrap64 _ (by omega) (by omega)]; rfl
        · exact (out _ (hkept.trans hb))
      · refine aw_skip ?_
        refine aw_region hT ?_
        refine ⟨n - 1, by omega, _, wk_pick [0, 1, 2] [0, 1, 9, 10, 11] rfl, i + 1, _, C, by omega, ?_, ?_, rfl⟩
        · rw [wrap64 _ (by omega) (by omega)]; rfl
        · exact (out _ (hkept.trans hb))
    · have hk : kept keep i = false := by
        have : ¬ ((kx keep).length : Int) > 0 := of_decide_eq_false h1
        rw [kx_len] at this
        unfold kept; rw [decide_eq_false (by omega)]; rfl
      refine aw_cond ?_
      refine aw_skip ?_
      refine aw_region hT ?_
      refine ⟨n - 1, by omega, _, wk_pick [0, 1, 2] [0, 1, 9, 10, 11] rfl, i + 1, _, C, by omega, ?_, ?_, rfl⟩
      · rw [wrap64 _ (by omega) (by omega)]; rfl
      · exact (out _ hk)
  · refine aw_exit ?_
    refine aw_region hT ?_
    have hi : i = D.waits.length := by
      have : ¬ ((i : Int) < (D.waits.length : Int)) := of_decide_eq_false h
      omega
    refine ⟨_, _, Wk.trans (wk_phantom t_disk_write 2) (Wk.trans (wk_cells 0 [.msl 1 4 0 C.length, .msl 3 2 0 0, bl D.armed, bl D.dead, i64 D.left, i64 D.ops] rfl ⟨.inl rfl, .inr (.inr (.inl ⟨3, 2, 0, rfl, rfl⟩)), .inl rfl, .inl rfl, .inl rfl, .inl rfl, trivial⟩) (wk_pick [0, 1, 3] [0] rfl)), rfl, ?_⟩
    rw [hC, hi]
    rfl
end Go.Proofs.Ytmdponffajapjaa.AL

/- The layer 06 (disk): a flush, a crash that is asked for, a write. -/
namespace Go.Proofs.Ytmdponffajapjaa.AL
open Go Go.Proofs

theorem lives_waits (D : Dev) : D.lives.waits = D.waits := rfl
theorem lives_cells (D : Dev) : D.lives.cells = D.cells := rfl

def Dev.flush (D : Dev) : Int × Dev := match D.dead with
  | true => (21, D)
  | false => match D.lives.dead with
    | true => (21, D.lives)
    | false => (0, D.lives.drain [true])

theorem not_not {b c : Bool} (h : (!(!b)) = c) : b = c := by rw [Bool.not_not] at h; exact h

theorem disk_Flush (D : Dev) (hw : D.waitsIn) (hn : D.waits.length ≤ 1000000) : AFm Try.prog 1 f_disk_Disk_Flush [.ref 0 0] (devH D) (Pure (i64 D.flush.1) (devH D.flush.2)) := by
  refine af_bodyM 1 hT F_disk_Disk_Flush rfl rfl N_disk_Disk_Flush rfl rfl ?_
  refine aw_seq (aw_region hT ?_)
  refine aw_seq (aw_seq (aw_region hT ?_))
  refine callP (af_in [0, 1, 2] (disk_Dead D) rfl rfl rfl) ?_
  refine boolI (fun h => ?_) (fun h => ?_)
  · refine aw_cond ?_
    refine aw_seq (aw_region hT ?_)
    refine aw_ret ?_
    have e : D.flush = (21, D) := by unfold Dev.flush; rw [h]
    rw [e]
    exact retPick [0, 1, 2] ⟨rfl, rfl⟩ rfl
  · refine callP (af_in [0, 1, 2] (disk_lives D) rfl rfl rfl) ?_
    refine aw_cond (boolI (fun h1 => ?_) (fun h1 => ?_))
    · have e : D.flush = (21, D.lives) := by unfold Dev.flush; rw [h, not_not h1]
      refine aw_seq (aw_region hT ?_)
      refine aw_ret ?_
      rw [e]
      exact retPick [0, 1, 2] ⟨rfl, rfl⟩ rfl
    · have e : D.flush = (0, D.lives.drain [true]) := by unfold Dev.flush; rw [h, not_not h1]
      refine aw_skip ?_
      refine aw_seq (aw_regionF (fun k => Nat.beq 1 k) hT ?_)
      refine ⟨⟨rfl, rfl⟩, ?_⟩
      refine callP (af_in [0, 1, 2] (disk_crash D.lives [true] hw hn) rfl rfl rfl) ?_
      refine aw_seq (aw_region hT ?_)
      refine aw_ret ?_
      rw [e]
      exact retPick [0, 3, 4] ⟨rfl, rfl⟩ rfl

def Dev.crashed (D : Dev) (keep : List Bool) : Dev := { D.drain keep with dead := false, armed := false }
theorem disk_Crash (D : Dev) (keep : List Bool) (hw : D.waitsIn) (hn : D.waits.length ≤ 1000000) : AFm Try.prog 1 f_disk_Disk_Crash [.ref 0 0, .p (.sl 1 (kx keep))] (devH D) (Pure (.tup []) (devH (D.crashed keep))) := by
  refine af_bodyM 1 hT F_disk_Disk_Crash rfl rfl N_disk_Disk_Crash rfl rfl ?_
  refine aw_seq (aw_region hT ?_)
  refine aw_cond ?_
  refine aw_seq (aw_region hT ?_)
  refine callP (af_in [0, 1, 2] (disk_crash D keep hw hn) rfl rfl rfl) ?_
  refine aw_region hT ?_
  refine retPick [0, 3, 4] ⟨rfl, rfl⟩ rfl
theorem devH_set (D : Dev) (i : Nat) (c : Cell) : devH { D with cells := D.cells.set i c } = [devC D 1 2, .row t_disk_cell 4 ((cx D.cells).set (0 + i) c.pv), .row t_disk_write 2 (wx D.waits)] := by
  unfold devH devC; rw [Nat.zero_add, ← cx_set, List.length_set]

theorem wx_put (l : List Wr) (x : Wr) : wx (l ++ [x]) = wx l ++ [x.pv] := by simp [wx]
theorem devH_put (D : Dev) (x : Wr) : devH { D with waits := D.waits ++ [x] } = [.cells t_disk_Disk [.msl 1 4 0 D.cells.length, .msl 2 2 0 (wx D.waits ++ [x.pv]).length, bl D.armed, bl D.dead, i64 D.left, i64 D.ops], .row t_disk_cell 4 (cx D.cells), .row t_disk_write 2 (wx D.waits ++ [x.pv])] := by
  unfold devH devC; rw [← wx_put, wx_len]

/-- A write: how it is answered, and what waits. -/
def Dev.put (D : Dev) (a : Int) (s : Bytes) : Dev := match D.cells[a.toNat]? with
  | none => D
  | some c => match decide (c.drop > 0) with
    | true => { D with cells := D.cells.set a.toNat { c with drop := IntKind.i64.wrap (c.drop - 1) } }
    | false => match c.miss with
      | [] => { D with waits := D.waits ++ [⟨a, s⟩] }
      | t :: r => { D with cells := D.cells.set a.toNat { c with miss := r }, waits := D.waits ++ [⟨t, s⟩] }
def Dev.count (D : Dev) : Dev := { D with ops := IntKind.i64.wrap (D.ops + 1) }
def Dev.write (D : Dev) (a : Int) (s : Bytes) : Int × Dev := match D.dead with
  | true => (21, D)
  | false => match D.has a with
    | false => (3, D)
    | true => match ((s.length : Int) != 256) with
      | true => (1, D)
      | false => match D.lives.dead with
        | true => (21, D.lives)
        | false => (0, D.lives.count.put a s)

theorem put_drop {D : Dev} {a : Int} {s c1 : Bytes} {c2 : Bool} {c3 : Int} {c4 : List Int} (hc : D.cells[a.toNat]? = some ⟨c1, c2, c3, c4⟩) (h : decide (c3 > 0) = true) :
    D.put a s = { D with cells := D.cells.set a.toNat ⟨c1, c2, IntKind.i64.wrap (c3 - 1), c4⟩ } := by
  unfold Dev.put; rw [hc]; simp only [h]
theorem put_miss {D : Dev} {a : Int} {s c1 : Bytes} {c2 : Bool} {c3 t : Int} {r : List Int} (hc : D.cells[a.toNat]? = some ⟨c1, c2, c3, t :: r⟩) (h : decide (c3 > 0) = false) :
    D.put a s = { D with cells := D.cells.set a.toNat ⟨c1, c2, c3, r⟩, waits := D.waits ++ [⟨t, s⟩] } := by
  unfold Dev.put; rw [hc]; simp only [h]
theorem put_plain {D : Dev} {a : Int} {s c1 : Bytes} {c2 : Bool} {c3 : Int} (hc : D.cells[a.toNat]? = some ⟨c1, c2, c3, []⟩) (h : decide (c3 > 0) = false) :
    D.put a s = { D with waits := D.waits ++ [⟨a, s⟩] } := by
  unfold Dev.put; rw [hc]; simp only [h]

theorem disk_Write (D : Dev) (a : Int) (s : Bytes) (hn : D.waits.length ≤ 1000000) : AFm Try.prog 1 f_disk_Disk_Write [.ref 0 0, i64 a, bA s] (devH D) (Pure (i64 (D.write a s).1) (devH (D.write a s).2)) := by
  refine af_bodyM 1 hT F_disk_Disk_Write rfl rfl N_disk_Disk_Write rfl rfl ?_
  refine aw_seq (aw_region hT ?_)
  refine aw_cut ⟨⟨84, [(0, .ref 0 0), (1, i64 a), (2, bA s)]⟩, devH D.lives⟩ (D.dead = false ∧ D.has a = true ∧ s.length = 256 ∧ D.lives.dead = false) (aw_block (aw_seq (aw_region hT ?_))) ?_
  · refine callP (af_in [0, 1, 2] (disk_Dead D) rfl rfl rfl) ?_
    refine aw_cond (boolI (fun h => ?_) (fun h => ?_))
    · have e : D.write a s = (21, D) := by unfold Dev.write; rw [h]
      refine aw_seq (aw_region hT ?_)
      refine aw_ret ?_
      rw [e]
      exact retPick [0, 1, 2] ⟨rfl, rfl⟩ rfl
    refine aw_seq (aw_region hT ?_)
    refine callP (af_in [0, 1, 2] (disk_has D a) rfl rfl rfl) ?_
    refine aw_cond (boolI (fun h1 => ?_) (fun h1 => ?_))
    · have h1 : (!(D.has a)) = true := h1
      have e : D.write a s = (3, D) := by unfold Dev.write; rw [h, (Bool.not_eq_true' _).mp h1]
      refine aw_seq (aw_region hT ?_)
      refine aw_ret ?_
      rw [e]
      exact retPick [0, 1, 2] ⟨rfl, rfl⟩ rfl
    have h1 : D.has a = true := (Bool.not_eq_false' _).mp h1
    refine aw_seq (aw_region hT ?_)
    refine aw_cond (boolI (fun h2 => ?_) (fun h2 => ?_))
    · have e : D.write a s = (1, D) := by
        have h2 : (((bx s).length : Int) != 256) = true := h2
        rw [bx_len] at h2
        unfold Dev.write; rw [h, h1, h2]
      refine aw_seq (aw_region hT ?_)
      refine aw_ret ?_
      rw [e]
      exact retPick [0, 1, 2] ⟨rfl, rfl⟩ rfl
    have h2 : ((s.length : Int) != 256) = false := by
      have h2 : (((bx s).length : Int) != 256) = false := h2
      rw [bx_len] at h2; exact h2
    refine aw_seq (aw_region hT ?_)
    refine callP (af_in [0, 1, 2] (disk_lives D) rfl rfl rfl) ?_
    refine aw_cond (boolI (fun h3 => ?_) (fun h3 => ?_))
    · have e : D.write a s = (21, D.lives) := by unfold Dev.write; rw [h, h1, h2, not_not h3]
      refine aw_seq (aw_region hT ?_)
      refine aw_ret ?_
      rw [e]
      exact retPick [0, 1, 2] ⟨rfl, rfl⟩ rfl
    refine aw_skip ⟨wk_pick [0, 1, 2] [0, 1, 2] rfl, h, h1, ?_, not_not h3⟩
    have : (s.length : Int) = 256 := by simpa using h2
    omega
  · rintro ⟨h, h1, h2, h3⟩
    have e : D.write a s = (0, D.lives.count.put a s) := by
      unfold Dev.write; rw [h, h1, show ((s.length : Int) != 256) = false by rw [h2]; rfl, h3]
    rw [e]
    have hlt : a.toNat < D.cells.length ∧ 0 ≤ a ∧ a < (D.cells.length : Int) := by
      have h1 : (decide (a ≥ 0) && decide (a < (D.cells.length : Int))) = true := h1
      rw [Bool.and_eq_true, decide_eq_true_eq, decide_eq_true_eq] at h1
      omega
    have hc := List.getElem?_eq_getElem hlt.1
    generalize D.cells[a.toNat] = c at hc
    obtain ⟨c1, c2, c3, c4⟩ := c
    have g1 : (cx D.cells)[0 + a.toNat]? = some (Cell.pv ⟨c1, c2, c3, c4⟩) := by rw [Nat.zero_add]; exact cx_get hc
    have g2 : ∀ e, ((cx D.cells).set (0 + a.toNat) e)[0 + a.toNat]? = some e := fun e => by
      rw [Nat.zero_add]; exact List.getElem?_set_self (by rw [cx_len]; exact hlt.1)
    refine aw_seq (aw_region hT ?_)
    refine aw_seq (aw_region hT ?_)
    refine ⟨⟨hlt.2.1, hlt.2.2⟩, ?_⟩
    refine aw_cut2 (fun s1 => ∃ C b, s1 = ⟨⟨84, [(0, .ref 0 0), (1, i64 b), (2, bA s)]⟩, devH { D.lives.count with cells := C }⟩ ∧ D.lives.count.put a s = { D.lives.count with cells := C, waits := D.waits ++ [⟨b, s⟩] }) (aw_block (aw_seq (aw_region hT ?_))) ?_
    · refine optI g1 ?_
      refine aw_cond (boolI (fun h4 => ?_) (fun h4 => ?_))
      · have h4 : decide (c3 > 0) = true := h4
        have ep : D.lives.count.put a s = { D.lives.count with cells := D.cells.set a.toNat ⟨c1, c2, IntKind.i64.wrap (c3 - 1), c4⟩ } := put_drop (D := D.lives.count) hc h4
        refine aw_seq (aw_region hT ?_)
        refine optI g1 ?_
        refine optI g1 ?_
        refine aw_seq (aw_region hT ?_)
        refine aw_ret ?_
        rw [ep]
        exact retPick [0, 1, 2] ⟨rfl, (devH_set D.lives.count a.toNat ⟨c1, c2, IntKind.i64.wrap (c3 - 1), c4⟩).symm⟩ rfl
      · have h4 : decide (c3 > 0) = false := h4
        refine aw_seq (aw_region hT ?_)
        refine optI g1 ?_
        refine aw_cond (boolI (fun h5 => ?_) (fun h5 => ?_))
        · cases c4 with
          | nil => cases h5
          | cons t r =>
            have ep : D.lives.count.put a s = { D.lives.count with cells := D.cells.set a.toNat ⟨c1, c2, c3, r⟩, waits := D.waits ++ [⟨t, s⟩] } := put_miss (D := D.lives.count) hc h4
            refine aw_draw [15] [] hT follows_mixed (by rfl) ?_
            refine optI g1 ?_
            refine ⟨Int.le_refl _, optI rfl ?_⟩
            refine optI g1 ?_
            refine ⟨⟨by omega, by rw [ix_len]; simp; omega, Int.le_refl _⟩, ?_⟩
            refine optI g1 ?_
            refine ⟨_, wk_pick [0, 1, 2] [0, 1, 2] rfl, D.cells.set a.toNat ⟨c1, c2, c3, r⟩, t, ?_, ep⟩
            refine congrArg (St.mk _) ?_
            refine Eq.trans ?_ (devH_set D.lives.count a.toNat ⟨c1, c2, c3, r⟩).symm
            show [_, ABlk.row t_disk_cell 4 ((cx D.cells).set (0 + a.toNat) [bP c1, .raw (.bool c2), .raw (.int .i64 c3), .sl 1 ((ix r).take (ix r).length)]), _] = _
            rw [List.take_length]
            rfl
        · have h5 : ¬ ((ix c4).length : Int) > 0 := of_decide_eq_false h5
          have hc4 : c4 = [] := by cases c4 with | nil => rfl | cons t r => exact absurd (show ((ix (t :: r)).length : Int) > 0 by rw [ix_len]; simp) h5
          subst hc4
          refine aw_skip ⟨_, wk_pick [0, 1, 2] [0, 1, 2] rfl, D.cells, a, rfl, put_plain (D := D.lives.count) hc h4⟩
    · rintro _ ⟨C, b, rfl, ep⟩
      rw [ep]
      refine aw_seq ?_
      refine aw_draw [9, 10, 13] [] hT follows_mixed (by rfl) ?_
      refine ⟨_, af_at (clone_u8 s (by omega)) _ rfl rfl, ?_⟩
      refine ⟨wx_len _, ⟨?_, ?_⟩, ?_⟩
      · show ((wx D.waits).length + 1) * 32 ≤ 140737488355328
        rw [wx_len]; omega
      · show (wx D.waits).length + 1 ≤ 140737488355328
        rw [wx_len]; omega
      refine ⟨rfl, ?_⟩
      refine aw_seq (aw_region hT ?_)
      refine aw_ret ?_
      exact retPick [0, 1, 4] ⟨rfl, (devH_put { D.lives.count with cells := C } ⟨b, s⟩).symm⟩ rfl
end Go.Proofs.Ytmdponffajapjaa.AL

/- The layer 06 (disk): a new device. -/
namespace Go.Proofs.Ytmdponffajapjaa.AL
open Go Go.Proofs

def zeros : Bytes := List.replicate 256 0
abbrev cell0 : Cell := ⟨[], false, 0, []⟩
abbrev cell1 : Cell := ⟨zeros, false, 0, []⟩
def Dev.new (n : Nat) : Dev := ⟨List.replicate n cell1, [], false, false, 0, 0⟩
def newL (n i : Nat) : List Cell := List.replicate i cell1 ++ List.replicate (n - i) cell0

theorem newL_len {n i : Nat} (h : i ≤ n) : (newL n i).length = n := by simp [newL]; omega
theorem newL_get {n i : Nat} (h : i < n) : (newL n i)[i]? = some cell0 := by
  unfold newL; rw [List.getElem?_append_right (by simp)]
  rw [List.length_replicate, Nat.sub_self, show n - i = (n - i - 1) + 1 by omega]; rfl
theorem newL_set {n i : Nat} (h : i < n) : (newL n i).set i cell1 = newL n (i + 1) := by
  unfold newL
  rw [List.set_append_right _ _ (by simp), List.length_replicate, Nat.sub_self, show n - i = (n - (i + 1)) + 1 by omega, List.replicate_succ, List.replicate_succ']
  simp

theorem disk_New_no (n : Int) (h : n < 1 ∨ n > 4096) : AF Try.prog f_disk_New [i64 n] [] (Pure (.tup [.p (.raw (.pointer none)), i64 1]) []) := by
  refine af_body hT F_disk_New rfl rfl N_disk_New rfl ?_
  refine aw_seq (aw_region hT ?_)
  refine aw_seq (aw_seq (aw_region hT ?_))
  refine boolI (fun h1 => ?_) (fun h1 => ?_)
  · refine aw_cond ?_
    refine aw_seq (aw_region hT ?_)
    refine aw_ret ?_
    exact retPick [] ⟨rfl, rfl⟩ rfl
  · refine aw_cond (boolI (fun h2 => ?_) (fun h2 => ?_))
    · refine aw_seq (aw_region hT ?_)
      refine aw_ret ?_
      exact retPick [] ⟨rfl, rfl⟩ rfl
    · have := of_decide_eq_false h1
      have h2 : decide (n > 4096) = false := h2
      have := of_decide_eq_false h2
      omega

theorem disk_New (n : Nat) (h1 : 1 ≤ n) (h2 : n ≤ 4096) : AF Try.prog f_disk_New [i64 n] [] (Pure (.tup [.ref 0 0, i64 0]) (devH (Dev.new n))) := by
  refine af_body hT F_disk_New rfl rfl N_disk_New rfl ?_
  refine aw_seq (aw_region hT ?_)
  refine aw_seq (aw_seq (aw_region hT ?_))
  refine boolI (fun h1 => ?_) (fun h1 => ?_)
  · have := of_decide_eq_true h1
    omega
  refine aw_cond (boolI (fun h2 => ?_) (fun h2 => ?_))
  · have h2 : decide ((n : Int) > 4096) = true := h2
    have := of_decide_eq_true h2
    omega
  refine aw_skip ?_
  refine aw_seq (aw_region hT ?_)
  refine ⟨⟨rfl, by omega, (show ((n : Nat) : Int) * 64 ≤ 140737488355328 by omega), by omega⟩, ?_⟩
  refine aw_wk (Wk.trans (wk_row 0 (cx (newL n 0)) rfl ?_ ?_) (Wk.trans (wk_phantom t_disk_write 2) (Wk.trans (wk_cells 1 [.msl 0 4 0 n, .msl 2 2 0 0, bl false, bl false, i64 0, i64 0] rfl ⟨.inl rfl, .inr (.inr (.inl ⟨2, 2, 0, rfl, rfl⟩)), .inl rfl, .inl rfl, .inl rfl, .inl rfl, trivial⟩) (wk_pick [1, 0, 2] [4] rfl)))) ?_
  · show (cx (newL n 0)).length = (List.replicate ((n : Int).toNat) _).length
    rw [cx_len, newL_len (Nat.zero_le n), List.length_replicate]; omega
  · intro j e2 hj
    have hx : cx (newL n 0) = List.replicate n cell0.pv := by simp [cx, newL]
    rw [hx] at hj
    have hjn : j < n := by have := (List.getElem?_eq_some_iff.1 hj).1; simpa using this
    have : e2 = cell0.pv := by
      rw [List.getElem?_replicate, if_pos hjn] at hj
      exact (Option.some.inj hj).symm
    subst this
    refine ⟨[.raw (.slice none 0 0), .raw (.bool false), .raw (.int .i64 0), .raw (.slice none 0 0)], ?_, rfl, ?_⟩
    · show (List.replicate ((n : Int).toNat) _)[j]? = _
      rw [List.getElem?_replicate, if_pos (by omega)]; rfl
    · intro i u2 hu
      match i, hu with
      | 0, hu => exact ⟨_, rfl, .inr ⟨1, rfl, (Option.some.inj hu).symm⟩⟩
      | 1, hu => exact ⟨_, rfl, .inl (Option.some.inj hu).symm⟩
      | 2, hu => exact ⟨_, rfl, .inl (Option.some.inj hu).symm⟩
      | 3, hu => exact ⟨_, rfl, .inr ⟨1, rfl, (Option.some.inj hu).symm⟩⟩
  refine aw_seq (aw_seq (aw_region hT ?_))
  refine aw_block ?_
  refine aw_loopW (fun r s => ∃ (i : Nat) (j : Int) (C : List Cell), r + i = n ∧ j = i ∧ C = newL n i ∧ s = ⟨⟨34, [(4, .ref 0 0), (20, i64 (n : Nat)), (21, i64 j)]⟩, [.cells t_disk_Disk [.msl 1 4 0 n, .msl 2 2 0 0, bl false, bl false, i64 0, i64 0], .row t_disk_cell 4 (cx C), .row t_disk_write 2 []]⟩) n ⟨⟨34, _⟩, [_, _, _]⟩ (wk_pick [0, 1, 2] [4, 20, 21] rfl) ⟨0, _, _, rfl, rfl, rfl, rfl⟩ ?_
  rintro r s ⟨i, j, C, hr, rfl, hC, rfl⟩
  refine aw_seq (aw_region hT ?_)
  refine aw_seq (aw_cond (boolI (fun h => ?_) (fun h => ?_)))
  · refine aw_skip ?_
    have hi : i < n := by simpa using h
    refine aw_seq (aw_block (aw_seq (aw_region hT ?_)))
    refine aw_draw [5, 8] [5] hT follows_mixed (by rfl) ?_
    have hg : (cx C)[0 + ((i : Nat) : Int).toNat]? = some cell0.pv := by
      rw [hC, Int.toNat_natCast, Nat.zero_add]; exact cx_get (newL_get hi)
    refine ⟨⟨rfl, by omega, by decide, by omega⟩, ?_⟩
    refine ⟨⟨rfl, List.length_replicate.symm⟩, ?_⟩
    refine ⟨⟨Int.natCast_nonneg _, by omega⟩, ?_⟩
    refine optI hg ?_
    refine chkI rfl (optI rfl ?_)
    refine ⟨rfl, ?_⟩
    refine aw_region hT ?_
    refine ⟨n - (i + 1), by omega, _, wk_pick [0, 1, 2] [4, 20, 21] rfl, i + 1, IntKind.i64.wrap ((i : Int) + 1), newL n (i + 1), by omega, ?_, rfl, ?_⟩
    · rw [wrap64 _ (by omega) (by omega)]; rfl
    · refine congrArg (St.mk _) ?_
      have e : cx (newL n (i + 1)) = (cx C).set (0 + ((i : Nat) : Int).toNat) cell1.pv := by
        rw [← newL_set hi, ← hC, cx_set, Int.toNat_natCast, Nat.zero_add]
      rw [e]
      refine congrArg (fun z => [_, ABlk.row t_disk_cell 4 ((cx C).set (0 + ((i : Nat) : Int).toNat) [.sl 1 z, _, _, _]), _]) ?_
      show List.replicate 256 [PV.raw (.int .u8 0)] = bx (List.replicate 256 0)
      rw [bx, List.map_replicate]; rfl
  · refine aw_exit ?_
    refine aw_seq (aw_region hT ?_)
    refine aw_ret ?_
    have hi : i = n := by
      have : ¬ i < n := by simpa using h
      omega
    have hx : C = List.replicate n cell1 := by rw [hC, hi]; simp [newL]
    refine retPick [0, 1, 2] ⟨rfl, ?_⟩ rfl
    rw [hx]
    unfold devH devC Dev.new
    rw [List.length_replicate]
    rfl
end Go.Proofs.Ytmdponffajapjaa.AL

/- Rounds: what stands behind the record is forgotten. -/
namespace Go.Proofs.Ytmdponffajapjaa.AL
open Go

theorem belowL_of {n : Nat} : ∀ {l : List AV}, (∀ u ∈ l, belowB n u = true) → belowL n l = true
  | [], _ => rfl
  | x :: r, h => by
    simp only [belowL, Bool.and_eq_true]
    exact ⟨h x (by simp), belowL_of fun u hu => h u (by simp [hu])⟩
theorem belowL_dense {k n : Nat} {l : List (Nat × AV)} (h : belowF k l = true) : belowL k (dense n l) = true := by
  refine belowL_of fun u hu => ?_
  unfold dense at hu
  rw [List.mem_map] at hu
  obtain ⟨t, _, rfl⟩ := hu
  cases e : look l t with
  | none => rfl
  | some u => exact belowF_look h e
theorem belowH_snoc {n : Nat} {x : ABlk} : ∀ {H : List ABlk}, belowH n H = true → belowK n x = true → belowH n (H ++ [x]) = true
  | [], _, h => by simp [belowH, h]
  | y :: r, h, hx => by
    simp only [belowH, Bool.and_eq_true, List.cons_append] at h ⊢
    exact ⟨h.1, belowH_snoc h.2 hx⟩

theorem wk_truncL {m : Nat} {s : St} (M : Nat) (ks : List Nat) {q : RecK} {st : LoopState} {pe : Option Code} {l : List AV} (hM : s.H[M]? = some (.lp q st pe l)) (hl : belowL (M + 1) l = true)
    (hm : Nat.ble m (M + 1) = true) (hf : belowF (M + 1) (keepL s.fr.l ks) = true) (hb : belowH (M + 1) (s.H.take M) = true) :
    Wk m s ⟨⟨s.fr.n, keepL s.fr.l ks⟩, s.H.take (M + 1)⟩ := by
  have hlt : M < s.H.length := (List.getElem?_eq_some_iff.1 hM).1
  refine wk_trunc (M + 1) ks hm (by rw [Nat.ble_eq]; omega) hf ?_
  rw [List.take_add_one, hM]
  exact belowH_snoc hb hl

theorem wk_keep {m : Nat} {s : St} (ks : List Nat) : Wk m s ⟨⟨s.fr.n, keepL s.fr.l ks⟩, s.H⟩ := fun _ _ I ι _ hs hm =>
  ⟨I, ι, hs.turn ⟨hs.fr.1, fun i u hu => hs.fr.2 i u (look_keep_some hu)⟩ hs.H (Ex.refl hm), Ex.refl hm⟩

/-- A round, where what the record holds is not looked at. -/
theorem ay_roundL {P : Program} {α β : Type} {M n : Nat} {q : RecK} {lf : List (Nat × AV)} {args : List AV} {J : ABlk → α → List ABlk} {Z : ABlk → β → List ABlk} {a : α} {Rnd : α → Prop} {Stp : Code → β → Prop}
    (hJ : ∀ L a, (J L a)[M]? = some L ∧ ∀ L', (J L a).set M L' = J L' a) (hZ : ∀ L z, (Z L z)[M]? = some L ∧ ∀ L', (Z L z).set M L' = Z L' z)
    (hlf : ∀ t u, look lf t = some u → t < n) (hps : ∀ p ∈ q.ps.toList, p < n) (hpa : q.ps.size = args.length) (hbf : belowF (M + 1) lf = true)
    (hround : ∀ B l, belowL (M + 1) l = true → AW P (some B) (M + 1) q.assign ⟨⟨n, setPs lf q.ps.toList args⟩, J (.lp q .ready none l) a⟩
      (thenA (fun s1 => s1.H[M]? = some (.lp q .ready none l) ∧ AW P (some B) (M + 1) q.body ⟨s1.fr, s1.H.set M (.lp q .busy none l)⟩ (roundA M J Z (.lp q .busy none l) Rnd Stp)) (fun _ _ => False))) :
    AYm P (M + 1) M args (J (.lp q .ready none (dense n lf)) a) (fun r H' => (r = .p (.raw (.bool true)) ∧ ∃ a', Rnd a' ∧ H' = J (.lp q .ready none (dense n lf)) a') ∨ (r = .p (.raw (.bool false)) ∧ ∃ c z, Stp c z ∧ H' = Z (.lp q .done (some c) (dense n lf)) z)) :=
  ay_round hJ hZ hlf hps hpa fun B => hround B _ (belowL_dense hbf)

theorem AYm.mono {P : Program} {m b : Nat} {args : List AV} {H : List ABlk} {R R' : AV → List ABlk → Prop} (h : AYm P m b args H R) (hR : ∀ r H', R r H' → R' r H') : AYm P m b args H R' :=
  fun w I ι vals B hn ha hs hb => let ⟨fn, tmps, assign, body, h1, h2⟩ := h w I ι vals B hn ha hs hb
    ⟨fn, tmps, assign, body, h1, h2.mono fun _ _ ⟨v, r, H', I', ι', e, hr, k⟩ => ⟨v, r, H', I', ι', e, hR _ _ hr, k⟩⟩
/-- The end of a row is forgotten. -/
theorem wk_rowTake {m : Nat} {s : St} (b k : Nat) {t : TypeId} {sz : Nat} {xs : List (List PV)} (hb : s.H[b]? = some (.row t sz xs)) : Wk m s ⟨s.fr, s.H.set b (.row t sz (xs.take k))⟩ := fun N w I ι a hs hm => by
  have hlive : live s.H b := ⟨_, hb, rfl⟩
  have hlv : ∀ c, live (s.H.set b (.row t sz (xs.take k))) c → live s.H c := fun c hc => live_set hc hlive
  have hsim : SimH w I ι (s.H.set b (.row t sz (xs.take k))) := by
    refine ⟨fun c k' hc => ?_, fun c c' B hc hc' => hs.H.inj c c' B (hlv c hc) (hlv c' hc'), hs.H.Ilt, fun c hc => hs.H.dom c (by simpa using hc), hs.H.rng⟩
    by_cases e : c = b
    · subst e
      rw [List.getElem?_set_self (live_lt hlive)] at hc
      obtain rfl := Option.some.inj hc
      rcases hs.H.blk c _ hb with ⟨g1, g2⟩ | ⟨B, cs, g1, g2, g3, g4, g5, g6⟩
      · subst g1
        exact .inl ⟨List.take_nil, g2⟩
      · have hle : (xs.take k).length ≤ xs.length := by rw [List.length_take]; omega
        refine .inr ⟨B, cs, g1, g2, g3, Nat.le_trans (Nat.mul_le_mul_right _ hle) g4, by omega, fun j e2 hj => g6 j e2 ?_⟩
        have hj2 : j < k := by have := (List.getElem?_eq_some_iff.1 hj).1; rw [List.length_take] at this; omega
        rw [List.getElem?_take_of_lt hj2] at hj
        exact hj
    · rw [List.getElem?_set_ne (by omega)] at hc
      exact hs.H.blk c k' hc
  have hx : Ex m w I ι s.H w I ι (s.H.set b (.row t sz (xs.take k))) := ⟨⟨rfl, rfl, rfl, Nat.le_refl _, Shape.refl w, fun _ h => h, fun _ _ _ => rfl, fun _ h => .inl h, fun c B hc h => .inr ⟨c, hlv c hc, h⟩⟩, fun _ _ => rfl, by simpa using hm⟩
  exact ⟨I, ι, hs.turn hs.fr hsim hx, hx⟩
/-- An array of one-cell elements is looked at as a row. -/
theorem wk_arr {m : Nat} {s : St} (b : Nat) {t : TypeId} {l : List AV} (ps : List PV) (hb : s.H[b]? = some (.cells t l)) (hl : l = ps.map .p) (hn : Nat.ble ps.length 140737488355328 = true) :
    Wk m s ⟨s.fr, s.H.set b (.row t 1 (ps.map fun p => [p]))⟩ := fun N w I ι a hs hm => by
  have hlive : live s.H b := ⟨_, hb, rfl⟩
  have hlv : ∀ c, live (s.H.set b (.row t 1 (ps.map fun p => [p]))) c → live s.H c := fun c hc => live_set hc hlive
  have hsim : SimH w I ι (s.H.set b (.row t 1 (ps.map fun p => [p]))) := by
    refine ⟨fun c k' hc => ?_, fun c c' B hc hc' => hs.H.inj c c' B (hlv c hc) (hlv c' hc'), hs.H.Ilt, fun c hc => hs.H.dom c (by simpa using hc), hs.H.rng⟩
    by_cases e : c = b
    · subst e
      rw [List.getElem?_set_self (live_lt hlive)] at hc
      obtain rfl := Option.some.inj hc
      obtain ⟨B, cs, g1, g2, g3, g4, g5⟩ := hs.H.blk c _ hb
      rw [hl, List.length_map] at g4
      refine .inr ⟨B, cs, g1, g2, g3, by rw [List.length_map]; omega, by rw [List.length_map]; exact Nat.le_of_ble_eq_true hn, fun j e2 hj => ?_⟩
      rw [List.getElem?_map] at hj
      cases hp : ps[j]? with
      | none => rw [hp] at hj; cases hj
      | some p =>
        rw [hp] at hj
        obtain rfl := Option.some.inj hj
        refine ⟨rfl, fun i u hu => ?_⟩
        cases i with
        | succ i => simp at hu
        | zero =>
          obtain rfl : p = u := by simpa using hu
          have := g5 j (.p p) (by rw [hl, List.getElem?_map, hp]; rfl)
          rw [Nat.mul_one, Nat.add_zero]
          cases this with
          | p h => exact h
    · rw [List.getElem?_set_ne (by omega)] at hc
      exact hs.H.blk c k' hc
  have hx : Ex m w I ι s.H w I ι (s.H.set b (.row t 1 (ps.map fun p => [p]))) := ⟨⟨rfl, rfl, rfl, Nat.le_refl _, Shape.refl w, fun _ h => h, fun _ _ _ => rfl, fun _ h => .inl h, fun c B hc h => .inr ⟨c, hlv c hc, h⟩⟩, fun _ _ => rfl, by simpa using hm⟩
  exact ⟨I, ι, hs.turn hs.fr hsim hx, hx⟩
theorem wk_elr {m : Nat} {s : St} (i b sz : Nat) (h : look s.fr.l i = some (.ref b 0)) : Wk m s ⟨⟨s.fr.n, (i, .elr b sz 0 0) :: s.fr.l⟩, s.H⟩ := fun N w I ι a hs hm => by
  refine ⟨I, ι, hs.turn ⟨hs.fr.1, fun j u hu => ?_⟩ hs.H (Ex.refl hm), Ex.refl hm⟩
  by_cases e : i = j
  · subst e
    rw [look_self] at hu; obtain rfl := Option.some.inj hu
    have := hs.fr.2 i _ h
    generalize a.tmps.getD i undef = v at this ⊢
    cases this with
    | ref _ _ B hB => 
      have k := ARep.elr (w := w) (I := I) b sz 0 0 B hB
      simpa using k
  · rw [look_other _ _ e] at hu; exact hs.fr.2 j u hu
end Go.Proofs.Ytmdponffajapjaa.AL

/- The layer 06 (disk): what was written last is looked for backwards; a read. -/
namespace Go.Proofs.Ytmdponffajapjaa.AL
open Go Go.Proofs

/-- The last of those that are meant. -/
def lastW (hit : Wr → Bool) : List Wr → Option Wr
  | [] => none
  | x :: r => match lastW hit r with
    | some y => some y
    | none => match hit x with | true => some x | false => none
theorem lastW_snoc (hit : Wr → Bool) (x : Wr) : ∀ l, lastW hit (l ++ [x]) = match hit x with | true => some x | false => lastW hit l
  | [] => by cases h : hit x <;> simp [lastW, h]
  | y :: r => by
    simp only [List.cons_append, lastW, lastW_snoc hit x r]
    cases hit x <;> rfl
theorem lastW_take (hit : Wr → Bool) {l : List Wr} {i : Nat} {x : Wr} (h : l[i]? = some x) : lastW hit (l.take (i + 1)) = match hit x with | true => some x | false => lastW hit (l.take i) := by
  rw [List.take_add_one, h]; exact lastW_snoc hit x _

theorem backward (l : List Wr) : AFm Try.prog 1 f_slices_Backward_disk_write [.msl 0 2 0 l.length] [.row t_disk_write 2 (wx l)] (Pure (.clo (.func f_slices_Backward_disk_write_1) [.ref 1 0]) [.row t_disk_write 2 (wx l), .cells t_s_disk_write [.msl 0 2 0 l.length]]) := by
  refine af_bodyM 1 hT F_slices_Backward_disk_write rfl rfl N_slices_Backward_disk_write rfl rfl ?_
  refine aw_seq (aw_region hT ?_)
  refine aw_seq (aw_region hT ?_)
  refine aw_ret ?_
  exact retPick [0, 1] ⟨rfl, rfl⟩ rfl

abbrev readJ (D : Dev) (a : Int) (L : ABlk) : List ABlk := [devC D 1 2, .row t_disk_cell 4 (cx D.cells), .row t_disk_write 2 (wx D.waits), .cells t_i64 [i64 a], .cells t_s_u8 [.p (.raw (.slice none 0 0))], .cells t_api_Errno [i64 0], .cells t_s_disk_write [.msl 2 2 0 D.waits.length], L]

abbrev readZ (D : Dev) (a : Int) (s : Bytes) (L : ABlk) : List ABlk := [devC D 1 2, .row t_disk_cell 4 (cx D.cells), .row t_disk_write 2 (wx D.waits), .cells t_i64 [i64 a], .cells t_s_u8 [bA s], .cells t_api_Errno [i64 0], .cells t_s_disk_write [.msl 2 2 0 D.waits.length], L]

theorem back_seq (D : Dev) (a : Int) (q : RecK) (l : List AV) (hn : D.waits.length ≤ 1000000) (hit : Wr → Bool) (S : Code → Bytes → Prop)
    (hy : ∀ (i : Nat) (x : Wr), D.waits[i]? = some x → AYm Try.prog 8 7 [i64 i, .agg [i64 x.at_, bA x.s]] (readJ D a (.lp q .ready none l)) (fun r H' => (r = bl true ∧ hit x = false ∧ H' = readJ D a (.lp q .ready none l)) ∨ (r = bl false ∧ hit x = true ∧ ∃ c, S c x.s ∧ H' = readZ D a x.s (.lp q .done (some c) l)))) :
    AFm Try.prog 8 f_slices_Backward_disk_write_1 [.yld 7, .ref 6 0] (readJ D a (.lp q .ready none l)) (fun _ H' => (lastW hit D.waits = none ∧ H' = readJ D a (.lp q .ready none l)) ∨ (∃ x c, lastW hit D.waits = some x ∧ S c x.s ∧ H' = readZ D a x.s (.lp q .done (some c) l))) := by
  refine af_bodyM 8 hT F_slices_Backward_disk_write_1 rfl rfl N_slices_Backward_disk_write_1 rfl rfl ?_
  refine aw_seq (aw_region hT ?_)
  refine aw_block ?_
  refine aw_loopW (fun n s => ∃ j : Int, j = (n : Int) - 1 ∧ n ≤ D.waits.length ∧ lastW hit D.waits = lastW hit (D.waits.take n) ∧ s = ⟨⟨19, [(0, .yld 7), (1, .ref 6 0), (3, i64 j)]⟩, readJ D a (.lp q .ready none l)⟩) D.waits.length ⟨⟨19, _⟩, _⟩ (wk_keep [0, 1, 3]) ⟨_, ?_, Nat.le_refl _, by rw [List.take_length], rfl⟩ ?_
  · exact wrap64 _ (by omega) (by omega)
  rintro n s ⟨j, hj, hle, hl, rfl⟩
  refine aw_seq (aw_seq (aw_region hT ?_))
  refine aw_cond (boolI (fun h => ?_) (fun h => ?_))
  · have h := of_decide_eq_true h
    cases n with
    | zero => omega
    | succ n =>
    have hj : j = (n : Int) := by omega
    subst hj
    have hx := List.getElem?_eq_getElem (show n < D.waits.length by omega)
    generalize D.waits[n] = x at hx
    refine aw_skip ?_
    refine aw_seq (aw_block (aw_seq (aw_region hT ?_)))
    refine ⟨⟨Int.natCast_nonneg _, by omega⟩, ?_⟩
    refine optI (show (wx D.waits)[0 + ((n : Nat) : Int).toNat]? = some x.pv by rw [Nat.zero_add, Int.toNat_natCast]; exact wx_get hx) ?_
    refine ⟨_, hy n x hx, ?_⟩
    rintro r H' (⟨rfl, hh, rfl⟩ | ⟨rfl, hh, c, hT, rfl⟩)
    · refine aw_cond ?_
      refine aw_skip ?_
      refine aw_region hT ?_
      refine ⟨n, by omega, _, wk_keep [0, 1, 3], _, ?_, by omega, ?_, rfl⟩
      · exact wrap64 _ (by omega) (by omega)
      · rw [hl, lastW_take hit hx, hh]
    · refine aw_cond ?_
      refine aw_ret ?_
      refine ⟨_, _, Wk.refl _ _, .inr ⟨x, c, ?_, hT, rfl⟩⟩
      rw [hl, lastW_take hit hx, hh]
  · have h := of_decide_eq_false h
    refine aw_exit ?_
    have hn0 : n = 0 := by omega
    subst hn0
    exact ⟨_, _, Wk.refl _ _, .inl ⟨hl, rfl⟩⟩
end Go.Proofs.Ytmdponffajapjaa.AL

/- The layer 06 (disk): a read. -/
namespace Go.Proofs.Ytmdponffajapjaa.AL
open Go Go.Proofs

abbrev hitA (a : Int) : Wr → Bool := fun x => x.at_ == a
def Dev.readAt (D : Dev) (a : Int) : Int × Bytes := match lastW (hitA a) D.waits with
  | some x => (0, x.s)
  | none => match D.cells[a.toNat]? with
    | some c => match c.lost with | true => (20, []) | false => (0, c.s)
    | none => (20, [])
def Dev.read (D : Dev) (a : Int) : (Bytes × Int) × Dev := match D.dead with
  | true => (([], 21), D)
  | false => match D.has a with
    | false => (([], 3), D)
    | true => (((D.readAt a).2, (D.readAt a).1), D.count)

set_option maxRecDepth 20000 in
theorem disk_Read (D : Dev) (a : Int) (hn : D.waits.length ≤ 1000000) (hs : ∀ x ∈ D.waits, x.s.length ≤ 1000000) (hc : ∀ c ∈ D.cells, c.s.length ≤ 1000000) :
    AFm Try.prog 3 f_disk_Disk_Read [.ref 0 0, i64 a] (devH D) (Pure (.tup [bA (D.read a).1.1, i64 (D.read a).1.2]) (devH (D.read a).2)) := by
  refine af_bodyM 3 hT F_disk_Disk_Read rfl rfl N_disk_Disk_Read rfl rfl ?_
  refine aw_seq (aw_region hT ?_)
  refine aw_cut ⟨⟨54, [(0, .ref 0 0), (3, .ref 3 0), (4, .ref 4 0), (5, .ref 5 0)]⟩, [devC D 1 2, .row t_disk_cell 4 (cx D.cells), .row t_disk_write 2 (wx D.waits), .cells t_i64 [i64 a], .cells t_s_u8 [.p (.raw (.slice none 0 0))], .cells t_api_Errno [i64 0]]⟩ (D.dead = false ∧ D.has a = true) (aw_block (aw_seq (aw_region hT ?_))) ?_
  · refine callP (af_in [0, 1, 2] (disk_Dead D) rfl rfl rfl) ?_
    refine aw_cond (boolI (fun h => ?_) (fun h => ?_))
    · have e : D.read a = (([], 21), D) := by unfold Dev.read; rw [h]
      refine aw_seq (aw_region hT ?_)
      refine aw_wk (wk_cells 4 [.p (.sl 1 [])] rfl ⟨.inr (.inr (.inr ⟨1, rfl, rfl⟩)), trivial⟩) ?_
      refine aw_ret ?_
      rw [e]
      exact retPick [0, 1, 2] ⟨rfl, rfl⟩ rfl
    refine aw_seq (aw_region hT ?_)
    refine callP (af_in [0, 1, 2] (disk_has D a) rfl rfl rfl) ?_
    refine aw_cond (boolI (fun h1 => ?_) (fun h1 => ?_))
    · have e : D.read a = (([], 3), D) := by unfold Dev.read; rw [h, (Bool.not_eq_true' _).mp h1]
      refine aw_seq (aw_region hT ?_)
      refine aw_wk (wk_cells 4 [.p (.sl 1 [])] rfl ⟨.inr (.inr (.inr ⟨1, rfl, rfl⟩)), trivial⟩) ?_
      refine aw_ret ?_
      rw [e]
      exact retPick [0, 1, 2] ⟨rfl, rfl⟩ rfl
    exact aw_skip ⟨wk_pick [0, 1, 2, 3, 4, 5] [0, 3, 4, 5] rfl, h, (Bool.not_eq_false' _).mp h1⟩
  · rintro ⟨h, h1⟩
    have e : D.read a = (((D.readAt a).2, (D.readAt a).1), D.count) := by unfold Dev.read; rw [h, h1]
    rw [e]
    clear e
    have hlt : a.toNat < D.cells.length ∧ 0 ≤ a ∧ a < (D.cells.length : Int) := by
      have h1 : (decide (a ≥ 0) && decide (a < (D.cells.length : Int))) = true := h1
      rw [Bool.and_eq_true, decide_eq_true_eq, decide_eq_true_eq] at h1
      omega
    have hcg := List.getElem?_eq_getElem hlt.1
    have hcs := hc _ (List.getElem_mem hlt.1)
    generalize D.cells[a.toNat] = c at hcg hcs
    have g1 : (cx D.cells)[0 + a.toNat]? = some c.pv := by rw [Nat.zero_add]; exact cx_get hcg
    refine aw_seq (aw_region hT ?_)
    refine aw_seq (aw_seq (aw_region hT ?_))
    refine callP (af_in [2] (backward D.waits) rfl rfl rfl) ?_
    refine aw_block ?_
    refine aw_rangeFunc 7 54 [0, 1, 2, 3, 4, 5, 6, 7] [0, 3, 4, 5, 27] (fun L (_ : Unit) => readJ D.count a L) (fun L s => readZ D.count a s L) () (fun _ => lastW (hitA a) D.waits = none) (fun c z => c = .ret ∧ ∃ x, lastW (hitA a) D.waits = some x ∧ z = x.s) rfl rfl (fun L _ => ⟨rfl, fun _ => rfl⟩) (fun L _ => ⟨rfl, fun _ => rfl⟩) rfl ?_ ?_ ?_
    · refine AFm.mono (back_seq D.count a _ _ hn (hitA a) (fun c z => c = .ret) ?_) ?_
      · intro i x hx
        refine AYm.mono (ay_roundL (J := fun L (_ : Unit) => readJ D.count a L) (Z := fun L s => readZ D.count a s L) (a := ()) (Rnd := fun _ => hitA a x = false) (Stp := fun c z => c = .ret ∧ hitA a x = true ∧ z = x.s) (fun L _ => ⟨rfl, fun _ => rfl⟩) (fun L _ => ⟨rfl, fun _ => rfl⟩) ?_ ?_ rfl rfl ?_) ?_
        · exact fun t u ht => pickF_lt (ks := [0, 3, 4, 5, 27]) rfl ht
        · show ∀ p ∈ [28, 29], p < 54
          decide
        · intro B l hbl
          have hsx := hs x (List.mem_of_getElem? (show D.waits[i]? = some x from hx))
          refine aw_region hT ?_
          refine ⟨rfl, ?_⟩
          refine aw_block (aw_seq (aw_region hT ?_))
          refine aw_cond (boolI (fun h2 => ?_) (fun h2 => ?_))
          · refine aw_seq (aw_region hT ?_)
            refine callP (af_at (clone_u8 x.s hsx) _ rfl rfl) ?_
            refine aw_ret ?_
            exact ⟨x.s, _, ⟨rfl, h2, rfl⟩, wk_truncL 7 [] rfl hbl rfl rfl rfl⟩
          · refine aw_skip ?_
            exact ⟨(), _, h2, wk_truncL 7 [] rfl hbl rfl rfl rfl⟩
        · rintro r H' (⟨hr, _, hh, hH⟩ | ⟨hr, c, z, ⟨h3, h4, h5⟩, hH⟩)
          · exact .inl ⟨hr, hh, hH⟩
          · subst h5; exact .inr ⟨hr, h4, c, h3, hH⟩
      · rintro r H' (⟨hx, rfl⟩ | ⟨x, c, hx, rfl, rfl⟩)
        · exact .inl ⟨(), hx, rfl⟩
        · exact .inr ⟨_, _, ⟨rfl, x, hx, rfl⟩, rfl⟩
    · intro _ hl
      refine aw_seq (aw_seq ?_)
      refine aw_draw [] [] hT follows_mixed (by rfl) ?_
      refine ⟨⟨hlt.2.1, hlt.2.2⟩, ?_⟩
      refine optI g1 ?_
      have e : D.readAt a = match c.lost with | true => (20, []) | false => (0, c.s) := by unfold Dev.readAt; rw [hl, hcg]
      refine aw_cond (boolI (fun h2 => ?_) (fun h2 => ?_))
      · have h2 : c.lost = true := h2
        rw [h2] at e
        refine aw_seq (aw_region hT ?_)
        refine aw_wk (wk_cells 4 [.p (.sl 1 [])] rfl ⟨.inr (.inr (.inr ⟨1, rfl, rfl⟩)), trivial⟩) ?_
        refine aw_ret ?_
        rw [e]
        exact retPick [0, 1, 2] ⟨rfl, rfl⟩ rfl
      · have h2 : c.lost = false := h2
        rw [h2] at e
        refine aw_skip ?_
        refine aw_seq ?_
        refine aw_draw [9, 10] [] hT follows_mixed (by rfl) ?_
        refine ⟨⟨hlt.2.1, hlt.2.2⟩, ?_⟩
        refine optI g1 ?_
        refine ⟨_, af_at (clone_u8 c.s hcs) _ rfl rfl, ?_⟩
        refine aw_ret ?_
        rw [e]
        exact retPick [0, 1, 2] ⟨rfl, rfl⟩ rfl
    · rintro _ z ⟨rfl, x, hx, rfl⟩
      refine aw_ret ?_
      have e : D.readAt a = (0, x.s) := by unfold Dev.readAt; rw [hx]
      rw [e]
      exact retPick [0, 1, 2] ⟨rfl, rfl⟩ rfl
end Go.Proofs.Ytmdponffajapjaa.AL

/- The layer 06 (disk): what waits of a sector is settled. -/
namespace Go.Proofs.Ytmdponffajapjaa.AL
open Go Go.Proofs

abbrev devS (D : Dev) : List ABlk := [devC D 1 2, .row t_disk_cell 4 (cx D.cells), .row t_disk_write 2 (wx D.waits), .cells t_p_disk_Disk [.ref 0 0]]
abbrev cloS (a : Int) : AV := .clo (.func f_disk_Disk_settle_1) [.p (.box [.raw (.int .i64 a)]), .ref 3 0]
def Dev.hits (D : Dev) (a : Int) (x : Wr) : Dev := match hitA a x with | true => D.done x | false => D

theorem settle_1 (D : Dev) (a : Int) (x : Wr) (h0 : 0 ≤ x.at_) (h1 : x.at_.toNat < D.cells.length) :
    AFm Try.prog 4 f_disk_Disk_settle_1 [.agg [i64 x.at_, bA x.s], .p (.box [.raw (.int .i64 a)]), .ref 3 0] (devS D) (Pure (bl (hitA a x)) (devS (D.hits a x))) := by
  refine af_bodyM 4 hT F_disk_Disk_settle_1 rfl rfl N_disk_Disk_settle_1 rfl rfl ?_
  refine aw_seq (aw_region hT ?_)
  refine aw_wk (wk_boxL 4 [.raw (.int .i64 x.at_), bP x.s] rfl rfl) ?_
  refine aw_cut ⟨⟨16, [(1, .p (.box [.raw (.int .i64 a)])), (3, .p (.box [.raw (.int .i64 x.at_), bP x.s]))]⟩, devS (D.hits a x)⟩ True (aw_seq (aw_region hT ?_)) (fun _ => ?_)
  · refine aw_cond (boolI (fun h => ?_) (fun h => ?_))
    · have h : hitA a x = true := h
      refine aw_region hT ?_
      refine callP (af_in [0, 1, 2] (disk_done D x h0 h1) rfl rfl rfl) ?_
      refine ⟨?_, trivial⟩
      have e : D.hits a x = D.done x := by unfold Dev.hits; rw [h]
      rw [e]
      exact wk_pick [0, 1, 2, 3] [1, 3] rfl
    · have h : hitA a x = false := h
      refine aw_skip ⟨?_, trivial⟩
      have e : D.hits a x = D := by unfold Dev.hits; rw [h]
      rw [e]
      exact wk_pick [0, 1, 2, 3] [1, 3] rfl
  · refine aw_seq (aw_region hT ?_)
    refine aw_ret ?_
    exact retPick [0, 1, 2, 3] ⟨rfl, rfl⟩ rfl

theorem index_fn (D : Dev) (a : Int) (hw : D.waitsIn) (hn : D.waits.length ≤ 1000000) :
    AFm Try.prog 4 f_slices_IndexFunc_disk_write [.msl 2 2 0 D.waits.length, cloS a] (devS D) (fun r H' => (r = i64 (-1) ∧ (∀ x ∈ D.waits, hitA a x = false) ∧ H' = devS D) ∨
      (∃ (i : Nat) (x : Wr), D.waits[i]? = some x ∧ hitA a x = true ∧ (∀ y ∈ D.waits.take i, hitA a y = false) ∧ r = i64 i ∧ H' = devS (D.done x))) := by
  refine af_bodyM 4 hT F_slices_IndexFunc_disk_write rfl rfl N_slices_IndexFunc_disk_write rfl rfl ?_
  refine aw_seq (aw_region hT ?_)
  refine aw_seq (aw_seq (aw_region hT ?_))
  refine aw_block ?_
  refine aw_loopW (fun n s => ∃ (i : Nat) (j : Int), n + i = D.waits.length ∧ j = i ∧ (∀ y ∈ D.waits.take i, hitA a y = false) ∧ s = ⟨⟨19, [(0, .msl 2 2 0 D.waits.length), (1, cloS a), (7, i64 D.waits.length), (8, i64 j)]⟩, devS D⟩) D.waits.length ⟨⟨19, _⟩, [_, _, _, _]⟩ (wk_pick [0, 1, 2, 3] [0, 1, 7, 8] rfl) ⟨0, _, by omega, rfl, fun y hy => by simp at hy, rfl⟩ ?_
  rintro n s ⟨i, j, hni, rfl, hl, rfl⟩
  refine aw_seq (aw_region hT ?_)
  refine aw_seq (aw_cond (boolI (fun h => ?_) (fun h => ?_)))
  · have hi : i < D.waits.length := by
      have := of_decide_eq_true (show decide ((i : Int) < (D.waits.length : Int)) = true from h)
      omega
    have hx := List.getElem?_eq_getElem hi
    have hin := hw _ (List.getElem_mem hi)
    generalize D.waits[i] = x at hx hin
    refine aw_skip ?_
    refine aw_seq (aw_block (aw_seq (aw_region hT ?_)))
    refine aw_seq (aw_region hT ?_)
    refine ⟨⟨Int.natCast_nonneg _, of_decide_eq_true h⟩, ?_⟩
    refine optI (show (wx D.waits)[0 + ((i : Nat) : Int).toNat]? = some x.pv by rw [Nat.zero_add, Int.toNat_natCast]; exact wx_get hx) ?_
    refine callP (settle_1 D a x hin.1 (by omega)) ?_
    refine aw_cond (boolI (fun h2 => ?_) (fun h2 => ?_))
    · have e : D.hits a x = D.done x := by unfold Dev.hits; rw [h2]
      refine aw_seq (aw_region hT ?_)
      refine aw_ret ?_
      refine ⟨_, _, wk_pick [0, 1, 2, 3] [0] rfl, .inr ⟨i, x, hx, h2, hl, rfl, ?_⟩⟩
      rw [← e]; rfl
    · have e : D.hits a x = D := by unfold Dev.hits; rw [h2]
      refine aw_skip ?_
      refine aw_region hT ?_
      refine ⟨n - 1, by omega, _, wk_pick [0, 1, 2, 3] [0, 1, 7, 8] rfl, i + 1, IntKind.i64.wrap ((i : Int) + 1), by omega, ?_, ?_, ?_⟩
      · rw [wrap64 _ (by omega) (by omega)]; rfl
      · intro y hy
        rw [List.take_add_one, hx, List.mem_append] at hy
        rcases hy with hy | hy
        · exact hl y hy
        · have : y = x := by simpa using hy
          rw [this]; exact h2
      · refine congrArg (St.mk _) ?_
        show devS (D.hits a x) = devS D
        rw [e]
  · refine aw_exit ?_
    have hi : i = D.waits.length := by
      have : ¬ ((i : Int) < (D.waits.length : Int)) := of_decide_eq_false h
      omega
    refine aw_seq (aw_region hT ?_)
    refine aw_ret ?_
    refine ⟨_, _, wk_pick [0, 1, 2, 3] [0] rfl, .inl ⟨rfl, ?_, rfl⟩⟩
    rw [hi, List.take_length] at hl
    exact hl
end Go.Proofs.Ytmdponffajapjaa.AL
