/- The program's types, as the abstract layer wants them. -/
import Derived.Test.YtdncagppilehgaaProg
import Derived.Test.YtdncagppilehgaaALo
namespace Go.Proofs.Ytdncagppilehgaa.AL
open Go Go.Proofs

def tab : TTab := fun t => match t with
  | 1 => some ⟨.func, 1, 8, [.nilFunc]⟩
  | 2 => some ⟨.int .i64, 1, 8, [(.int .i64 0)]⟩
  | 3 => some ⟨.int .i64, 1, 8, [(.int .i64 0)]⟩
  | 4 => some ⟨.bool, 1, 1, [(.bool false)]⟩
  | 5 => some ⟨.int .u8, 1, 1, [(.int .u8 0)]⟩
  | 9 => some ⟨.string, 1, 16, [(.string ⟨#[]⟩)]⟩
  | 12 => some ⟨.int .u64, 1, 8, [(.int .u64 0)]⟩
  | 17 => some ⟨.ptr 72, 1, 8, [(.pointer none)]⟩
  | 21 => some ⟨.int .i32, 1, 4, [(.int .i32 0)]⟩
  | 22 => some ⟨.slice 24, 1, 24, [(.slice none 0 0)]⟩
  | 23 => some ⟨.struct [(0, 3), (1, 3), (2, 3), (3, 3)], 4, 32, [(.int .i64 0), (.int .i64 0), (.int .i64 0), (.int .i64 0)]⟩
  | 24 => some ⟨.struct [(0, 3), (1, 3), (2, 3), (3, 3)], 4, 32, [(.int .i64 0), (.int .i64 0), (.int .i64 0), (.int .i64 0)]⟩
  | 25 => some ⟨.func, 1, 8, [.nilFunc]⟩
  | 26 => some ⟨.int .i64, 1, 8, [(.int .i64 0)]⟩
  | 28 => some ⟨.func, 1, 8, [.nilFunc]⟩
  | 29 => some ⟨.func, 1, 8, [.nilFunc]⟩
  | 31 => some ⟨.func, 1, 8, [.nilFunc]⟩
  | 32 => some ⟨.func, 1, 8, [.nilFunc]⟩
  | 33 => some ⟨.func, 1, 8, [.nilFunc]⟩
  | 34 => some ⟨.func, 1, 8, [.nilFunc]⟩
  | 35 => some ⟨.func, 1, 8, [.nilFunc]⟩
  | 36 => some ⟨.func, 1, 8, [.nilFunc]⟩
  | 37 => some ⟨.struct [(0, 3), (1, 3), (2, 3), (3, 3)], 4, 32, [(.int .i64 0), (.int .i64 0), (.int .i64 0), (.int .i64 0)]⟩
  | 38 => some ⟨.struct [(0, 3), (1, 3), (2, 3), (3, 3)], 4, 32, [(.int .i64 0), (.int .i64 0), (.int .i64 0), (.int .i64 0)]⟩
  | 39 => some ⟨.func, 1, 8, [.nilFunc]⟩
  | 40 => some ⟨.func, 1, 8, [.nilFunc]⟩
  | 41 => some ⟨.slice 3, 1, 24, [(.slice none 0 0)]⟩
  | 42 => some ⟨.func, 1, 8, [.nilFunc]⟩
  | 44 => some ⟨.func, 1, 8, [.nilFunc]⟩
  | 45 => some ⟨.slice 38, 1, 24, [(.slice none 0 0)]⟩
  | 46 => some ⟨.func, 1, 8, [.nilFunc]⟩
  | 47 => some ⟨.func, 1, 8, [.nilFunc]⟩
  | 48 => some ⟨.func, 1, 8, [.nilFunc]⟩
  | 49 => some ⟨.func, 1, 8, [.nilFunc]⟩
  | 50 => some ⟨.func, 1, 8, [.nilFunc]⟩
  | 51 => some ⟨.func, 1, 8, [.nilFunc]⟩
  | 52 => some ⟨.func, 1, 8, [.nilFunc]⟩
  | 53 => some ⟨.func, 1, 8, [.nilFunc]⟩
  | 54 => some ⟨.func, 1, 8, [.nilFunc]⟩
  | 55 => some ⟨.func, 1, 8, [.nilFunc]⟩
  | 56 => some ⟨.func, 1, 8, [.nilFunc]⟩
  | 57 => some ⟨.func, 1, 8, [.nilFunc]⟩
  | 63 => some ⟨.func, 1, 8, [.nilFunc]⟩
  | 64 => some ⟨.int .u32, 1, 4, [(.int .u32 0)]⟩
  | 67 => some ⟨.func, 1, 8, [.nilFunc]⟩
  | 68 => some ⟨.ptr 5, 1, 8, [(.pointer none)]⟩
  | _ => none

theorem ti1 : tiOf Try.prog 1 = some ⟨.func, 1, 8, [.nilFunc]⟩ := by kernel_rfl
theorem ti2 : tiOf Try.prog 2 = some ⟨.int .i64, 1, 8, [(.int .i64 0)]⟩ := by kernel_rfl
theorem ti3 : tiOf Try.prog 3 = some ⟨.int .i64, 1, 8, [(.int .i64 0)]⟩ := by kernel_rfl
theorem ti4 : tiOf Try.prog 4 = some ⟨.bool, 1, 1, [(.bool false)]⟩ := by kernel_rfl
theorem ti5 : tiOf Try.prog 5 = some ⟨.int .u8, 1, 1, [(.int .u8 0)]⟩ := by kernel_rfl
theorem ti9 : tiOf Try.prog 9 = some ⟨.string, 1, 16, [(.string ⟨#[]⟩)]⟩ := by kernel_rfl
theorem ti12 : tiOf Try.prog 12 = some ⟨.int .u64, 1, 8, [(.int .u64 0)]⟩ := by kernel_rfl
theorem ti17 : tiOf Try.prog 17 = some ⟨.ptr 72, 1, 8, [(.pointer none)]⟩ := by kernel_rfl
theorem ti21 : tiOf Try.prog 21 = some ⟨.int .i32, 1, 4, [(.int .i32 0)]⟩ := by kernel_rfl
theorem ti22 : tiOf Try.prog 22 = some ⟨.slice 24, 1, 24, [(.slice none 0 0)]⟩ := by kernel_rfl
theorem ti23 : tiOf Try.prog 23 = some ⟨.struct [(0, 3), (1, 3), (2, 3), (3, 3)], 4, 32, [(.int .i64 0), (.int .i64 0), (.int .i64 0), (.int .i64 0)]⟩ := by kernel_rfl
theorem ti24 : tiOf Try.prog 24 = some ⟨.struct [(0, 3), (1, 3), (2, 3), (3, 3)], 4, 32, [(.int .i64 0), (.int .i64 0), (.int .i64 0), (.int .i64 0)]⟩ := by kernel_rfl
theorem ti25 : tiOf Try.prog 25 = some ⟨.func, 1, 8, [.nilFunc]⟩ := by kernel_rfl
theorem ti26 : tiOf Try.prog 26 = some ⟨.int .i64, 1, 8, [(.int .i64 0)]⟩ := by kernel_rfl
theorem ti28 : tiOf Try.prog 28 = some ⟨.func, 1, 8, [.nilFunc]⟩ := by kernel_rfl
theorem ti29 : tiOf Try.prog 29 = some ⟨.func, 1, 8, [.nilFunc]⟩ := by kernel_rfl
theorem ti31 : tiOf Try.prog 31 = some ⟨.func, 1, 8, [.nilFunc]⟩ := by kernel_rfl
theorem ti32 : tiOf Try.prog 32 = some ⟨.func, 1, 8, [.nilFunc]⟩ := by kernel_rfl
theorem ti33 : tiOf Try.prog 33 = some ⟨.func, 1, 8, [.nilFunc]⟩ := by kernel_rfl
theorem ti34 : tiOf Try.prog 34 = some ⟨.func, 1, 8, [.nilFunc]⟩ := by kernel_rfl
theorem ti35 : tiOf Try.prog 35 = some ⟨.func, 1, 8, [.nilFunc]⟩ := by kernel_rfl
theorem ti36 : tiOf Try.prog 36 = some ⟨.func, 1, 8, [.nilFunc]⟩ := by kernel_rfl
theorem ti37 : tiOf Try.prog 37 = some ⟨.struct [(0, 3), (1, 3), (2, 3), (3, 3)], 4, 32, [(.int .i64 0), (.int .i64 0), (.int .i64 0), (.int .i64 0)]⟩ := by kernel_rfl
theorem ti38 : tiOf Try.prog 38 = some ⟨.struct [(0, 3), (1, 3), (2, 3), (3, 3)], 4, 32, [(.int .i64 0), (.int .i64 0), (.int .i64 0), (.int .i64 0)]⟩ := by kernel_rfl
theorem ti39 : tiOf Try.prog 39 = some ⟨.func, 1, 8, [.nilFunc]⟩ := by kernel_rfl
theorem ti40 : tiOf Try.prog 40 = some ⟨.func, 1, 8, [.nilFunc]⟩ := by kernel_rfl
theorem ti41 : tiOf Try.prog 41 = some ⟨.slice 3, 1, 24, [(.slice none 0 0)]⟩ := by kernel_rfl
theorem ti42 : tiOf Try.prog 42 = some ⟨.func, 1, 8, [.nilFunc]⟩ := by kernel_rfl
theorem ti44 : tiOf Try.prog 44 = some ⟨.func, 1, 8, [.nilFunc]⟩ := by kernel_rfl
theorem ti45 : tiOf Try.prog 45 = some ⟨.slice 38, 1, 24, [(.slice none 0 0)]⟩ := by kernel_rfl
theorem ti46 : tiOf Try.prog 46 = some ⟨.func, 1, 8, [.nilFunc]⟩ := by kernel_rfl
theorem ti47 : tiOf Try.prog 47 = some ⟨.func, 1, 8, [.nilFunc]⟩ := by kernel_rfl
theorem ti48 : tiOf Try.prog 48 = some ⟨.func, 1, 8, [.nilFunc]⟩ := by kernel_rfl
theorem ti49 : tiOf Try.prog 49 = some ⟨.func, 1, 8, [.nilFunc]⟩ := by kernel_rfl
theorem ti50 : tiOf Try.prog 50 = some ⟨.func, 1, 8, [.nilFunc]⟩ := by kernel_rfl
theorem ti51 : tiOf Try.prog 51 = some ⟨.func, 1, 8, [.nilFunc]⟩ := by kernel_rfl
theorem ti52 : tiOf Try.prog 52 = some ⟨.func, 1, 8, [.nilFunc]⟩ := by kernel_rfl
theorem ti53 : tiOf Try.prog 53 = some ⟨.func, 1, 8, [.nilFunc]⟩ := by kernel_rfl
theorem ti54 : tiOf Try.prog 54 = some ⟨.func, 1, 8, [.nilFunc]⟩ := by kernel_rfl
theorem ti55 : tiOf Try.prog 55 = some ⟨.func, 1, 8, [.nilFunc]⟩ := by kernel_rfl
theorem ti56 : tiOf Try.prog 56 = some ⟨.func, 1, 8, [.nilFunc]⟩ := by kernel_rfl
theorem ti57 : tiOf Try.prog 57 = some ⟨.func, 1, 8, [.nilFunc]⟩ := by kernel_rfl
theorem ti63 : tiOf Try.prog 63 = some ⟨.func, 1, 8, [.nilFunc]⟩ := by kernel_rfl
theorem ti64 : tiOf Try.prog 64 = some ⟨.int .u32, 1, 4, [(.int .u32 0)]⟩ := by kernel_rfl
theorem ti67 : tiOf Try.prog 67 = some ⟨.func, 1, 8, [.nilFunc]⟩ := by kernel_rfl
theorem ti68 : tiOf Try.prog 68 = some ⟨.ptr 5, 1, 8, [(.pointer none)]⟩ := by kernel_rfl

theorem hT : TOk Try.prog tab := by
  intro t i h
  unfold tab at h
  split at h
  · obtain rfl := Option.some.inj h; exact ti1
  · obtain rfl := Option.some.inj h; exact ti2
  · obtain rfl := Option.some.inj h; exact ti3
  · obtain rfl := Option.some.inj h; exact ti4
  · obtain rfl := Option.some.inj h; exact ti5
  · obtain rfl := Option.some.inj h; exact ti9
  · obtain rfl := Option.some.inj h; exact ti12
  · obtain rfl := Option.some.inj h; exact ti17
  · obtain rfl := Option.some.inj h; exact ti21
  · obtain rfl := Option.some.inj h; exact ti22
  · obtain rfl := Option.some.inj h; exact ti23
  · obtain rfl := Option.some.inj h; exact ti24
  · obtain rfl := Option.some.inj h; exact ti25
  · obtain rfl := Option.some.inj h; exact ti26
  · obtain rfl := Option.some.inj h; exact ti28
  · obtain rfl := Option.some.inj h; exact ti29
  · obtain rfl := Option.some.inj h; exact ti31
  · obtain rfl := Option.some.inj h; exact ti32
  · obtain rfl := Option.some.inj h; exact ti33
  · obtain rfl := Option.some.inj h; exact ti34
  · obtain rfl := Option.some.inj h; exact ti35
  · obtain rfl := Option.some.inj h; exact ti36
  · obtain rfl := Option.some.inj h; exact ti37
  · obtain rfl := Option.some.inj h; exact ti38
  · obtain rfl := Option.some.inj h; exact ti39
  · obtain rfl := Option.some.inj h; exact ti40
  · obtain rfl := Option.some.inj h; exact ti41
  · obtain rfl := Option.some.inj h; exact ti42
  · obtain rfl := Option.some.inj h; exact ti44
  · obtain rfl := Option.some.inj h; exact ti45
  · obtain rfl := Option.some.inj h; exact ti46
  · obtain rfl := Option.some.inj h; exact ti47
  · obtain rfl := Option.some.inj h; exact ti48
  · obtain rfl := Option.some.inj h; exact ti49
  · obtain rfl := Option.some.inj h; exact ti50
  · obtain rfl := Option.some.inj h; exact ti51
  · obtain rfl := Option.some.inj h; exact ti52
  · obtain rfl := Option.some.inj h; exact ti53
  · obtain rfl := Option.some.inj h; exact ti54
  · obtain rfl := Option.some.inj h; exact ti55
  · obtain rfl := Option.some.inj h; exact ti56
  · obtain rfl := Option.some.inj h; exact ti57
  · obtain rfl := Option.some.inj h; exact ti63
  · obtain rfl := Option.some.inj h; exact ti64
  · obtain rfl := Option.some.inj h; exact ti67
  · obtain rfl := Option.some.inj h; exact ti68
  · exact absurd h (by simp)

theorem follows_mixed : Try.prog.follows .mixedOrders = true := by kernel_rfl

end Go.Proofs.Ytdncagppilehgaa.AL
