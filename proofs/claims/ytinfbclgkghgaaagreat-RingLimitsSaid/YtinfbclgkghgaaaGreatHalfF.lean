/- A part of the proof. -/
import Derived.Test.YtinfbclgkghgaaaGreatProg
import Derived.Test.YtinfbclgkghgaaaGreatHalfE
/- The program's types, as the abstract layer wants them. -/
namespace Go.Proofs.YtinfbclgkghgaaaGreat.AL
open Go Go.Proofs

def tab0 : TTab := fun t => match t with
  | 1 => some ⟨.func, 1, 8, [.nilFunc]⟩
  | 2 => some ⟨.int .i64, 1, 8, [(.int .i64 0)]⟩
  | 3 => some ⟨.int .i64, 1, 8, [(.int .i64 0)]⟩
  | 4 => some ⟨.bool, 1, 1, [(.bool false)]⟩
  | 5 => some ⟨.int .u8, 1, 1, [(.int .u8 0)]⟩
  | 9 => some ⟨.string, 1, 16, [(.string ⟨#[]⟩)]⟩
  | 12 => some ⟨.int .u64, 1, 8, [(.int .u64 0)]⟩
  | 17 => some ⟨.ptr 255, 1, 8, [(.pointer none)]⟩
  | 21 => some ⟨.int .i32, 1, 4, [(.int .i32 0)]⟩
  | 22 => some ⟨.struct [(0, 3), (1, 3), (2, 3), (3, 3)], 4, 32, [(.int .i64 0), (.int .i64 0), (.int .i64 0), (.int .i64 0)]⟩
  | 23 => some ⟨.struct [(0, 3), (1, 3), (2, 3), (3, 3)], 4, 32, [(.int .i64 0), (.int .i64 0), (.int .i64 0), (.int .i64 0)]⟩
  | 24 => some ⟨.slice 5, 1, 24, [(.slice none 0 0)]⟩
  | 25 => some ⟨.func, 1, 8, [.nilFunc]⟩
  | 26 => some ⟨.func, 1, 8, [.nilFunc]⟩
  | 27 => some ⟨.int .i64, 1, 8, [(.int .i64 0)]⟩
  | 29 => some ⟨.func, 1, 8, [.nilFunc]⟩
  | _ => none

def tab1 : TTab := fun t => match t with
  | 30 => some ⟨.slice 35, 1, 24, [(.slice none 0 0)]⟩
  | 32 => some ⟨.func, 1, 8, [.nilFunc]⟩
  | 33 => some ⟨.func, 1, 8, [.nilFunc]⟩
  | 34 => some ⟨.struct [(0, 3), (1, 24)], 2, 32, [(.int .i64 0), (.slice none 0 0)]⟩
  | 35 => some ⟨.struct [(0, 3), (1, 24)], 2, 32, [(.int .i64 0), (.slice none 0 0)]⟩
  | 36 => some ⟨.func, 1, 8, [.nilFunc]⟩
  | 37 => some ⟨.slice 24, 1, 24, [(.slice none 0 0)]⟩
  | 39 => some ⟨.func, 1, 8, [.nilFunc]⟩
  | 40 => some ⟨.func, 1, 8, [.nilFunc]⟩
  | 41 => some ⟨.func, 1, 8, [.nilFunc]⟩
  | 42 => some ⟨.slice 4, 1, 24, [(.slice none 0 0)]⟩
  | 43 => some ⟨.array 4 5, 4, 4, [(.int .u8 0), (.int .u8 0), (.int .u8 0), (.int .u8 0)]⟩
  | 44 => some ⟨.struct [(0, 3), (1, 3), (2, 3), (3, 3), (4, 3), (5, 43)], 9, 48, [(.int .i64 0), (.int .i64 0), (.int .i64 0), (.int .i64 0), (.int .i64 0), (.int .u8 0), (.int .u8 0), (.int .u8 0), (.int .u8 0)]⟩
  | 45 => some ⟨.struct [(0, 3), (1, 3), (2, 3), (3, 3), (4, 3), (5, 43)], 9, 48, [(.int .i64 0), (.int .i64 0), (.int .i64 0), (.int .i64 0), (.int .i64 0), (.int .u8 0), (.int .u8 0), (.int .u8 0), (.int .u8 0)]⟩
  | 46 => some ⟨.ptr 116, 1, 8, [(.pointer none)]⟩
  | 47 => some ⟨.func, 1, 8, [.nilFunc]⟩
  | _ => none

def tab2 : TTab := fun t => match t with
  | 48 => some ⟨.func, 1, 8, [.nilFunc]⟩
  | 49 => some ⟨.func, 1, 8, [.nilFunc]⟩
  | 51 => some ⟨.func, 1, 8, [.nilFunc]⟩
  | 52 => some ⟨.func, 1, 8, [.nilFunc]⟩
  | 53 => some ⟨.slice 3, 1, 24, [(.slice none 0 0)]⟩
  | 54 => some ⟨.func, 1, 8, [.nilFunc]⟩
  | 55 => some ⟨.func, 1, 8, [.nilFunc]⟩
  | 56 => some ⟨.func, 1, 8, [.nilFunc]⟩
  | 57 => some ⟨.func, 1, 8, [.nilFunc]⟩
  | 58 => some ⟨.func, 1, 8, [.nilFunc]⟩
  | 59 => some ⟨.func, 1, 8, [.nilFunc]⟩
  | 60 => some ⟨.struct [(0, 3), (1, 3), (2, 3), (3, 3), (4, 3), (5, 3), (6, 24)], 7, 72, [(.int .i64 0), (.int .i64 0), (.int .i64 0), (.int .i64 0), (.int .i64 0), (.int .i64 0), (.slice none 0 0)]⟩
  | 61 => some ⟨.struct [(0, 3), (1, 3), (2, 3), (3, 3), (4, 3), (5, 3), (6, 24)], 7, 72, [(.int .i64 0), (.int .i64 0), (.int .i64 0), (.int .i64 0), (.int .i64 0), (.int .i64 0), (.slice none 0 0)]⟩
  | 62 => some ⟨.func, 1, 8, [.nilFunc]⟩
  | 64 => some ⟨.func, 1, 8, [.nilFunc]⟩
  | 65 => some ⟨.func, 1, 8, [.nilFunc]⟩
  | _ => none

def tab3 : TTab := fun t => match t with
  | 66 => some ⟨.func, 1, 8, [.nilFunc]⟩
  | 67 => some ⟨.func, 1, 8, [.nilFunc]⟩
  | 68 => some ⟨.func, 1, 8, [.nilFunc]⟩
  | 69 => some ⟨.struct [(0, 37), (1, 3), (2, 3), (3, 3)], 4, 48, [(.slice none 0 0), (.int .i64 0), (.int .i64 0), (.int .i64 0)]⟩
  | 70 => some ⟨.struct [(0, 37), (1, 3), (2, 3), (3, 3)], 4, 48, [(.slice none 0 0), (.int .i64 0), (.int .i64 0), (.int .i64 0)]⟩
  | 72 => some ⟨.func, 1, 8, [.nilFunc]⟩
  | 73 => some ⟨.func, 1, 8, [.nilFunc]⟩
  | 74 => some ⟨.func, 1, 8, [.nilFunc]⟩
  | 75 => some ⟨.ptr 148, 1, 8, [(.pointer none)]⟩
  | 77 => some ⟨.func, 1, 8, [.nilFunc]⟩
  | 79 => some ⟨.func, 1, 8, [.nilFunc]⟩
  | 81 => some ⟨.func, 1, 8, [.nilFunc]⟩
  | 82 => some ⟨.func, 1, 8, [.nilFunc]⟩
  | 83 => some ⟨.func, 1, 8, [.nilFunc]⟩
  | 84 => some ⟨.func, 1, 8, [.nilFunc]⟩
  | 85 => some ⟨.func, 1, 8, [.nilFunc]⟩
  | _ => none

def tab4 : TTab := fun t => match t with
  | 86 => some ⟨.func, 1, 8, [.nilFunc]⟩
  | 87 => some ⟨.func, 1, 8, [.nilFunc]⟩
  | 89 => some ⟨.func, 1, 8, [.nilFunc]⟩
  | 90 => some ⟨.func, 1, 8, [.nilFunc]⟩
  | 91 => some ⟨.slice 37, 1, 24, [(.slice none 0 0)]⟩
  | 92 => some ⟨.func, 1, 8, [.nilFunc]⟩
  | 93 => some ⟨.func, 1, 8, [.nilFunc]⟩
  | 94 => some ⟨.func, 1, 8, [.nilFunc]⟩
  | 95 => some ⟨.func, 1, 8, [.nilFunc]⟩
  | 96 => some ⟨.func, 1, 8, [.nilFunc]⟩
  | 97 => some ⟨.func, 1, 8, [.nilFunc]⟩
  | 98 => some ⟨.func, 1, 8, [.nilFunc]⟩
  | 99 => some ⟨.func, 1, 8, [.nilFunc]⟩
  | 100 => some ⟨.func, 1, 8, [.nilFunc]⟩
  | 101 => some ⟨.struct [(0, 3), (1, 3), (2, 3), (3, 3), (4, 3), (5, 24)], 6, 64, [(.int .i64 0), (.int .i64 0), (.int .i64 0), (.int .i64 0), (.int .i64 0), (.slice none 0 0)]⟩
  | 102 => some ⟨.struct [(0, 3), (1, 3), (2, 3), (3, 3), (4, 3), (5, 24)], 6, 64, [(.int .i64 0), (.int .i64 0), (.int .i64 0), (.int .i64 0), (.int .i64 0), (.slice none 0 0)]⟩
  | _ => none

def tab5 : TTab := fun t => match t with
  | 103 => some ⟨.func, 1, 8, [.nilFunc]⟩
  | 105 => some ⟨.func, 1, 8, [.nilFunc]⟩
  | 106 => some ⟨.func, 1, 8, [.nilFunc]⟩
  | 107 => some ⟨.func, 1, 8, [.nilFunc]⟩
  | 108 => some ⟨.func, 1, 8, [.nilFunc]⟩
  | 109 => some ⟨.func, 1, 8, [.nilFunc]⟩
  | 110 => some ⟨.func, 1, 8, [.nilFunc]⟩
  | 111 => some ⟨.map 3 109, 1, 8, [(.map none)]⟩
  | 112 => some ⟨.func, 1, 8, [.nilFunc]⟩
  | 113 => some ⟨.slice 152, 1, 24, [(.slice none 0 0)]⟩
  | 114 => some ⟨.slice 174, 1, 24, [(.slice none 0 0)]⟩
  | 115 => some ⟨.struct [(0, 113), (1, 114), (2, 4), (3, 4), (4, 3), (5, 3)], 6, 72, [(.slice none 0 0), (.slice none 0 0), (.bool false), (.bool false), (.int .i64 0), (.int .i64 0)]⟩
  | 116 => some ⟨.struct [(0, 113), (1, 114), (2, 4), (3, 4), (4, 3), (5, 3)], 6, 72, [(.slice none 0 0), (.slice none 0 0), (.bool false), (.bool false), (.int .i64 0), (.int .i64 0)]⟩
  | 117 => some ⟨.struct [(0, 24)], 1, 24, [(.slice none 0 0)]⟩
  | 118 => some ⟨.struct [(0, 24)], 1, 24, [(.slice none 0 0)]⟩
  | 119 => some ⟨.func, 1, 8, [.nilFunc]⟩
  | _ => none

def tab6 : TTab := fun t => match t with
  | 120 => some ⟨.func, 1, 8, [.nilFunc]⟩
  | 121 => some ⟨.func, 1, 8, [.nilFunc]⟩
  | 122 => some ⟨.func, 1, 8, [.nilFunc]⟩
  | 123 => some ⟨.func, 1, 8, [.nilFunc]⟩
  | 124 => some ⟨.ptr 188, 1, 8, [(.pointer none)]⟩
  | 125 => some ⟨.func, 1, 8, [.nilFunc]⟩
  | 126 => some ⟨.ptr 3, 1, 8, [(.pointer none)]⟩
  | 127 => some ⟨.slice 126, 1, 24, [(.slice none 0 0)]⟩
  | 128 => some ⟨.func, 1, 8, [.nilFunc]⟩
  | 129 => some ⟨.func, 1, 8, [.nilFunc]⟩
  | 131 => some ⟨.func, 1, 8, [.nilFunc]⟩
  | 133 => some ⟨.func, 1, 8, [.nilFunc]⟩
  | 134 => some ⟨.ptr 137, 1, 8, [(.pointer none)]⟩
  | 135 => some ⟨.array 2 37, 2, 48, [(.slice none 0 0), (.slice none 0 0)]⟩
  | 136 => some ⟨.struct [(0, 3), (1, 23), (5, 135), (7, 61), (14, 4), (15, 3), (16, 4)], 17, 184, [(.int .i64 0), (.int .i64 0), (.int .i64 0), (.int .i64 0), (.int .i64 0), (.slice none 0 0), (.slice none 0 0), (.int .i64 0), (.int .i64 0), (.int .i64 0), (.int .i64 0), (.int .i64 0), (.int .i64 0), (.slice none 0 0), (.bool false), (.int .i64 0), (.bool false)]⟩
  | 137 => some ⟨.struct [(0, 3), (1, 23), (5, 135), (7, 61), (14, 4), (15, 3), (16, 4)], 17, 184, [(.int .i64 0), (.int .i64 0), (.int .i64 0), (.int .i64 0), (.int .i64 0), (.slice none 0 0), (.slice none 0 0), (.int .i64 0), (.int .i64 0), (.int .i64 0), (.int .i64 0), (.int .i64 0), (.int .i64 0), (.slice none 0 0), (.bool false), (.int .i64 0), (.bool false)]⟩
  | _ => none

def tab7 : TTab := fun t => match t with
  | 138 => some ⟨.func, 1, 8, [.nilFunc]⟩
  | 139 => some ⟨.func, 1, 8, [.nilFunc]⟩
  | 140 => some ⟨.func, 1, 8, [.nilFunc]⟩
  | 141 => some ⟨.slice 61, 1, 24, [(.slice none 0 0)]⟩
  | 142 => some ⟨.func, 1, 8, [.nilFunc]⟩
  | 143 => some ⟨.func, 1, 8, [.nilFunc]⟩
  | 144 => some ⟨.func, 1, 8, [.nilFunc]⟩
  | 145 => some ⟨.func, 1, 8, [.nilFunc]⟩
  | 146 => some ⟨.func, 1, 8, [.nilFunc]⟩
  | 147 => some ⟨.struct [(0, 146), (1, 3), (2, 23), (6, 3), (7, 3), (8, 3), (9, 3), (10, 3)], 11, 88, [.nilFunc, (.int .i64 0), (.int .i64 0), (.int .i64 0), (.int .i64 0), (.int .i64 0), (.int .i64 0), (.int .i64 0), (.int .i64 0), (.int .i64 0), (.int .i64 0)]⟩
  | 148 => some ⟨.struct [(0, 146), (1, 3), (2, 23), (6, 3), (7, 3), (8, 3), (9, 3), (10, 3)], 11, 88, [.nilFunc, (.int .i64 0), (.int .i64 0), (.int .i64 0), (.int .i64 0), (.int .i64 0), (.int .i64 0), (.int .i64 0), (.int .i64 0), (.int .i64 0), (.int .i64 0)]⟩
  | 149 => some ⟨.func, 1, 8, [.nilFunc]⟩
  | 150 => some ⟨.func, 1, 8, [.nilFunc]⟩
  | 151 => some ⟨.struct [(0, 24), (1, 4), (2, 3), (3, 53)], 4, 64, [(.slice none 0 0), (.bool false), (.int .i64 0), (.slice none 0 0)]⟩
  | 152 => some ⟨.struct [(0, 24), (1, 4), (2, 3), (3, 53)], 4, 64, [(.slice none 0 0), (.bool false), (.int .i64 0), (.slice none 0 0)]⟩
  | 153 => some ⟨.func, 1, 8, [.nilFunc]⟩
  | _ => none

def tab8 : TTab := fun t => match t with
  | 154 => some ⟨.func, 1, 8, [.nilFunc]⟩
  | 155 => some ⟨.func, 1, 8, [.nilFunc]⟩
  | 156 => some ⟨.func, 1, 8, [.nilFunc]⟩
  | 157 => some ⟨.func, 1, 8, [.nilFunc]⟩
  | 158 => some ⟨.func, 1, 8, [.nilFunc]⟩
  | 159 => some ⟨.func, 1, 8, [.nilFunc]⟩
  | 160 => some ⟨.func, 1, 8, [.nilFunc]⟩
  | 161 => some ⟨.func, 1, 8, [.nilFunc]⟩
  | 162 => some ⟨.func, 1, 8, [.nilFunc]⟩
  | 163 => some ⟨.func, 1, 8, [.nilFunc]⟩
  | 164 => some ⟨.func, 1, 8, [.nilFunc]⟩
  | 165 => some ⟨.func, 1, 8, [.nilFunc]⟩
  | 166 => some ⟨.ptr 168, 1, 8, [(.pointer none)]⟩
  | 167 => some ⟨.struct [(0, 37), (1, 37), (2, 3)], 3, 56, [(.slice none 0 0), (.slice none 0 0), (.int .i64 0)]⟩
  | 168 => some ⟨.struct [(0, 37), (1, 37), (2, 3)], 3, 56, [(.slice none 0 0), (.slice none 0 0), (.int .i64 0)]⟩
  | 169 => some ⟨.func, 1, 8, [.nilFunc]⟩
  | _ => none

def tab9 : TTab := fun t => match t with
  | 170 => some ⟨.func, 1, 8, [.nilFunc]⟩
  | 171 => some ⟨.func, 1, 8, [.nilFunc]⟩
  | 172 => some ⟨.ptr 152, 1, 8, [(.pointer none)]⟩
  | 173 => some ⟨.struct [(0, 3), (1, 24)], 2, 32, [(.int .i64 0), (.slice none 0 0)]⟩
  | 174 => some ⟨.struct [(0, 3), (1, 24)], 2, 32, [(.int .i64 0), (.slice none 0 0)]⟩
  | 175 => some ⟨.func, 1, 8, [.nilFunc]⟩
  | 176 => some ⟨.func, 1, 8, [.nilFunc]⟩
  | 177 => some ⟨.ptr 179, 1, 8, [(.pointer none)]⟩
  | 178 => some ⟨.struct [(0, 46), (1, 3)], 2, 16, [(.pointer none), (.int .i64 0)]⟩
  | 179 => some ⟨.struct [(0, 46), (1, 3)], 2, 16, [(.pointer none), (.int .i64 0)]⟩
  | 180 => some ⟨.func, 1, 8, [.nilFunc]⟩
  | 181 => some ⟨.func, 1, 8, [.nilFunc]⟩
  | 182 => some ⟨.func, 1, 8, [.nilFunc]⟩
  | 183 => some ⟨.func, 1, 8, [.nilFunc]⟩
  | 184 => some ⟨.func, 1, 8, [.nilFunc]⟩
  | 185 => some ⟨.ptr 118, 1, 8, [(.pointer none)]⟩
  | _ => none

def tab10 : TTab := fun t => match t with
  | 186 => some ⟨.func, 1, 8, [.nilFunc]⟩
  | 187 => some ⟨.int .u64, 1, 8, [(.int .u64 0)]⟩
  | 188 => some ⟨.struct [(0, 24)], 1, 24, [(.slice none 0 0)]⟩
  | 190 => some ⟨.func, 1, 8, [.nilFunc]⟩
  | 191 => some ⟨.func, 1, 8, [.nilFunc]⟩
  | 193 => some ⟨.func, 1, 8, [.nilFunc]⟩
  | 194 => some ⟨.func, 1, 8, [.nilFunc]⟩
  | 195 => some ⟨.func, 1, 8, [.nilFunc]⟩
  | 196 => some ⟨.func, 1, 8, [.nilFunc]⟩
  | 197 => some ⟨.func, 1, 8, [.nilFunc]⟩
  | 198 => some ⟨.func, 1, 8, [.nilFunc]⟩
  | 199 => some ⟨.ptr 228, 1, 8, [(.pointer none)]⟩
  | 200 => some ⟨.func, 1, 8, [.nilFunc]⟩
  | 201 => some ⟨.func, 1, 8, [.nilFunc]⟩
  | 202 => some ⟨.func, 1, 8, [.nilFunc]⟩
  | 203 => some ⟨.func, 1, 8, [.nilFunc]⟩
  | _ => none

def tab11 : TTab := fun t => match t with
  | 204 => some ⟨.int .u64, 1, 8, [(.int .u64 0)]⟩
  | 205 => some ⟨.func, 1, 8, [.nilFunc]⟩
  | 206 => some ⟨.func, 1, 8, [.nilFunc]⟩
  | 207 => some ⟨.func, 1, 8, [.nilFunc]⟩
  | 209 => some ⟨.func, 1, 8, [.nilFunc]⟩
  | 210 => some ⟨.func, 1, 8, [.nilFunc]⟩
  | 211 => some ⟨.func, 1, 8, [.nilFunc]⟩
  | 213 => some ⟨.func, 1, 8, [.nilFunc]⟩
  | 214 => some ⟨.func, 1, 8, [.nilFunc]⟩
  | 215 => some ⟨.func, 1, 8, [.nilFunc]⟩
  | 216 => some ⟨.func, 1, 8, [.nilFunc]⟩
  | 217 => some ⟨.func, 1, 8, [.nilFunc]⟩
  | 218 => some ⟨.func, 1, 8, [.nilFunc]⟩
  | 219 => some ⟨.func, 1, 8, [.nilFunc]⟩
  | 221 => some ⟨.func, 1, 8, [.nilFunc]⟩
  | 222 => some ⟨.func, 1, 8, [.nilFunc]⟩
  | _ => none

def tab12 : TTab := fun t => match t with
  | 223 => some ⟨.func, 1, 8, [.nilFunc]⟩
  | 224 => some ⟨.func, 1, 8, [.nilFunc]⟩
  | 225 => some ⟨.array 510 5, 510, 510, (List.replicate 510 (.int .u8 0))⟩
  | 226 => some ⟨.array 256 3, 256, 2048, (List.replicate 256 (.int .i64 0))⟩
  | 227 => some ⟨.struct [(0, 225), (510, 226), (766, 4)], 767, 2568, (List.replicate 510 (.int .u8 0) ++ List.replicate 256 (.int .i64 0) ++ [(.bool false)])⟩
  | 228 => some ⟨.struct [(0, 225), (510, 226), (766, 4)], 767, 2568, (List.replicate 510 (.int .u8 0) ++ List.replicate 256 (.int .i64 0) ++ [(.bool false)])⟩
  | 229 => some ⟨.func, 1, 8, [.nilFunc]⟩
  | 230 => some ⟨.func, 1, 8, [.nilFunc]⟩
  | 231 => some ⟨.func, 1, 8, [.nilFunc]⟩
  | 232 => some ⟨.func, 1, 8, [.nilFunc]⟩
  | 233 => some ⟨.func, 1, 8, [.nilFunc]⟩
  | 234 => some ⟨.func, 1, 8, [.nilFunc]⟩
  | 235 => some ⟨.ptr 241, 1, 8, [(.pointer none)]⟩
  | 236 => some ⟨.func, 1, 8, [.nilFunc]⟩
  | 237 => some ⟨.int .u32, 1, 4, [(.int .u32 0)]⟩
  | 238 => some ⟨.func, 1, 8, [.nilFunc]⟩
  | _ => none

def tab13 : TTab := fun t => match t with
  | 239 => some ⟨.func, 1, 8, [.nilFunc]⟩
  | 240 => some ⟨.array 256 237, 256, 1024, (List.replicate 256 (.int .u32 0))⟩
  | 241 => some ⟨.array 256 237, 256, 1024, (List.replicate 256 (.int .u32 0))⟩
  | 242 => some ⟨.func, 1, 8, [.nilFunc]⟩
  | 250 => some ⟨.func, 1, 8, [.nilFunc]⟩
  | 251 => some ⟨.ptr 5, 1, 8, [(.pointer none)]⟩
  | 254 => some ⟨.struct [(0, 12), (1, 12), (2, 237), (3, 248), (4, 5), (5, 5), (6, 249), (7, 250), (8, 251), (9, 252), (10, 253)], 11, 48, [(.int .u64 0), (.int .u64 0), (.int .u32 0), (.int .u8 0), (.int .u8 0), (.int .u8 0), (.int .u8 0), .nilFunc, (.pointer none), (.int .i32 0), (.int .i32 0)]⟩
  | 256 => some ⟨.func, 1, 8, [.nilFunc]⟩
  | _ => none

def tab : TTab := fun t => cond (Nat.ble t 137) (cond (Nat.ble t 65) (cond (Nat.ble t 29) (tab0 t) (cond (Nat.ble t 47) (tab1 t) (tab2 t))) (cond (Nat.ble t 102) (cond (Nat.ble t 85) (tab3 t) (tab4 t)) (cond (Nat.ble t 119) (tab5 t) (tab6 t)))) (cond (Nat.ble t 185) (cond (Nat.ble t 153) (tab7 t) (cond (Nat.ble t 169) (tab8 t) (tab9 t))) (cond (Nat.ble t 222) (cond (Nat.ble t 203) (tab10 t) (tab11 t)) (cond (Nat.ble t 238) (tab12 t) (tab13 t))))

theorem cond_some {α : Type} {b : Bool} {x y : Option α} {i : α} (h : cond b x y = some i) : x = some i ∨ y = some i := by cases b; exact .inr h; exact .inl h

theorem ti1 : tiOf Tryz.prog 1 = some ⟨.func, 1, 8, [.nilFunc]⟩ := by kernel_rfl
theorem ti2 : tiOf Tryz.prog 2 = some ⟨.int .i64, 1, 8, [(.int .i64 0)]⟩ := by kernel_rfl
theorem ti3 : tiOf Tryz.prog 3 = some ⟨.int .i64, 1, 8, [(.int .i64 0)]⟩ := by kernel_rfl
theorem ti4 : tiOf Tryz.prog 4 = some ⟨.bool, 1, 1, [(.bool false)]⟩ := by kernel_rfl
theorem ti5 : tiOf Tryz.prog 5 = some ⟨.int .u8, 1, 1, [(.int .u8 0)]⟩ := by kernel_rfl
theorem ti9 : tiOf Tryz.prog 9 = some ⟨.string, 1, 16, [(.string ⟨#[]⟩)]⟩ := by kernel_rfl
theorem ti12 : tiOf Tryz.prog 12 = some ⟨.int .u64, 1, 8, [(.int .u64 0)]⟩ := by kernel_rfl
theorem ti17 : tiOf Tryz.prog 17 = some ⟨.ptr 255, 1, 8, [(.pointer none)]⟩ := by kernel_rfl
theorem ti21 : tiOf Tryz.prog 21 = some ⟨.int .i32, 1, 4, [(.int .i32 0)]⟩ := by kernel_rfl
theorem ti22 : tiOf Tryz.prog 22 = some ⟨.struct [(0, 3), (1, 3), (2, 3), (3, 3)], 4, 32, [(.int .i64 0), (.int .i64 0), (.int .i64 0), (.int .i64 0)]⟩ := by kernel_rfl
theorem ti23 : tiOf Tryz.prog 23 = some ⟨.struct [(0, 3), (1, 3), (2, 3), (3, 3)], 4, 32, [(.int .i64 0), (.int .i64 0), (.int .i64 0), (.int .i64 0)]⟩ := by kernel_rfl
theorem ti24 : tiOf Tryz.prog 24 = some ⟨.slice 5, 1, 24, [(.slice none 0 0)]⟩ := by kernel_rfl
theorem ti25 : tiOf Tryz.prog 25 = some ⟨.func, 1, 8, [.nilFunc]⟩ := by kernel_rfl
theorem ti26 : tiOf Tryz.prog 26 = some ⟨.func, 1, 8, [.nilFunc]⟩ := by kernel_rfl
theorem ti27 : tiOf Tryz.prog 27 = some ⟨.int .i64, 1, 8, [(.int .i64 0)]⟩ := by kernel_rfl
theorem ti29 : tiOf Tryz.prog 29 = some ⟨.func, 1, 8, [.nilFunc]⟩ := by kernel_rfl
theorem ti30 : tiOf Tryz.prog 30 = some ⟨.slice 35, 1, 24, [(.slice none 0 0)]⟩ := by kernel_rfl
theorem ti32 : tiOf Tryz.prog 32 = some ⟨.func, 1, 8, [.nilFunc]⟩ := by kernel_rfl
theorem ti33 : tiOf Tryz.prog 33 = some ⟨.func, 1, 8, [.nilFunc]⟩ := by kernel_rfl
theorem ti34 : tiOf Tryz.prog 34 = some ⟨.struct [(0, 3), (1, 24)], 2, 32, [(.int .i64 0), (.slice none 0 0)]⟩ := by kernel_rfl
theorem ti35 : tiOf Tryz.prog 35 = some ⟨.struct [(0, 3), (1, 24)], 2, 32, [(.int .i64 0), (.slice none 0 0)]⟩ := by kernel_rfl
theorem ti36 : tiOf Tryz.prog 36 = some ⟨.func, 1, 8, [.nilFunc]⟩ := by kernel_rfl
theorem ti37 : tiOf Tryz.prog 37 = some ⟨.slice 24, 1, 24, [(.slice none 0 0)]⟩ := by kernel_rfl
theorem ti39 : tiOf Tryz.prog 39 = some ⟨.func, 1, 8, [.nilFunc]⟩ := by kernel_rfl
theorem ti40 : tiOf Tryz.prog 40 = some ⟨.func, 1, 8, [.nilFunc]⟩ := by kernel_rfl
theorem ti41 : tiOf Tryz.prog 41 = some ⟨.func, 1, 8, [.nilFunc]⟩ := by kernel_rfl
theorem ti42 : tiOf Tryz.prog 42 = some ⟨.slice 4, 1, 24, [(.slice none 0 0)]⟩ := by kernel_rfl
theorem ti43 : tiOf Tryz.prog 43 = some ⟨.array 4 5, 4, 4, [(.int .u8 0), (.int .u8 0), (.int .u8 0), (.int .u8 0)]⟩ := by kernel_rfl
theorem ti44 : tiOf Tryz.prog 44 = some ⟨.struct [(0, 3), (1, 3), (2, 3), (3, 3), (4, 3), (5, 43)], 9, 48, [(.int .i64 0), (.int .i64 0), (.int .i64 0), (.int .i64 0), (.int .i64 0), (.int .u8 0), (.int .u8 0), (.int .u8 0), (.int .u8 0)]⟩ := by kernel_rfl
theorem ti45 : tiOf Tryz.prog 45 = some ⟨.struct [(0, 3), (1, 3), (2, 3), (3, 3), (4, 3), (5, 43)], 9, 48, [(.int .i64 0), (.int .i64 0), (.int .i64 0), (.int .i64 0), (.int .i64 0), (.int .u8 0), (.int .u8 0), (.int .u8 0), (.int .u8 0)]⟩ := by kernel_rfl
theorem ti46 : tiOf Tryz.prog 46 = some ⟨.ptr 116, 1, 8, [(.pointer none)]⟩ := by kernel_rfl
theorem ti47 : tiOf Tryz.prog 47 = some ⟨.func, 1, 8, [.nilFunc]⟩ := by kernel_rfl
theorem ti48 : tiOf Tryz.prog 48 = some ⟨.func, 1, 8, [.nilFunc]⟩ := by kernel_rfl
theorem ti49 : tiOf Tryz.prog 49 = some ⟨.func, 1, 8, [.nilFunc]⟩ := by kernel_rfl
theorem ti51 : tiOf Tryz.prog 51 = some ⟨.func, 1, 8, [.nilFunc]⟩ := by kernel_rfl
theorem ti52 : tiOf Tryz.prog 52 = some ⟨.func, 1, 8, [.nilFunc]⟩ := by kernel_rfl
theorem ti53 : tiOf Tryz.prog 53 = some ⟨.slice 3, 1, 24, [(.slice none 0 0)]⟩ := by kernel_rfl
theorem ti54 : tiOf Tryz.prog 54 = some ⟨.func, 1, 8, [.nilFunc]⟩ := by kernel_rfl
theorem ti55 : tiOf Tryz.prog 55 = some ⟨.func, 1, 8, [.nilFunc]⟩ := by kernel_rfl
theorem ti56 : tiOf Tryz.prog 56 = some ⟨.func, 1, 8, [.nilFunc]⟩ := by kernel_rfl
theorem ti57 : tiOf Tryz.prog 57 = some ⟨.func, 1, 8, [.nilFunc]⟩ := by kernel_rfl
theorem ti58 : tiOf Tryz.prog 58 = some ⟨.func, 1, 8, [.nilFunc]⟩ := by kernel_rfl
theorem ti59 : tiOf Tryz.prog 59 = some ⟨.func, 1, 8, [.nilFunc]⟩ := by kernel_rfl
theorem ti60 : tiOf Tryz.prog 60 = some ⟨.struct [(0, 3), (1, 3), (2, 3), (3, 3), (4, 3), (5, 3), (6, 24)], 7, 72, [(.int .i64 0), (.int .i64 0), (.int .i64 0), (.int .i64 0), (.int .i64 0), (.int .i64 0), (.slice none 0 0)]⟩ := by kernel_rfl
theorem ti61 : tiOf Tryz.prog 61 = some ⟨.struct [(0, 3), (1, 3), (2, 3), (3, 3), (4, 3), (5, 3), (6, 24)], 7, 72, [(.int .i64 0), (.int .i64 0), (.int .i64 0), (.int .i64 0), (.int .i64 0), (.int .i64 0), (.slice none 0 0)]⟩ := by kernel_rfl
theorem ti62 : tiOf Tryz.prog 62 = some ⟨.func, 1, 8, [.nilFunc]⟩ := by kernel_rfl
theorem ti64 : tiOf Tryz.prog 64 = some ⟨.func, 1, 8, [.nilFunc]⟩ := by kernel_rfl
theorem ti65 : tiOf Tryz.prog 65 = some ⟨.func, 1, 8, [.nilFunc]⟩ := by kernel_rfl
theorem ti66 : tiOf Tryz.prog 66 = some ⟨.func, 1, 8, [.nilFunc]⟩ := by kernel_rfl
theorem ti67 : tiOf Tryz.prog 67 = some ⟨.func, 1, 8, [.nilFunc]⟩ := by kernel_rfl
theorem ti68 : tiOf Tryz.prog 68 = some ⟨.func, 1, 8, [.nilFunc]⟩ := by kernel_rfl
theorem ti69 : tiOf Tryz.prog 69 = some ⟨.struct [(0, 37), (1, 3), (2, 3), (3, 3)], 4, 48, [(.slice none 0 0), (.int .i64 0), (.int .i64 0), (.int .i64 0)]⟩ := by kernel_rfl
theorem ti70 : tiOf Tryz.prog 70 = some ⟨.struct [(0, 37), (1, 3), (2, 3), (3, 3)], 4, 48, [(.slice none 0 0), (.int .i64 0), (.int .i64 0), (.int .i64 0)]⟩ := by kernel_rfl
theorem ti72 : tiOf Tryz.prog 72 = some ⟨.func, 1, 8, [.nilFunc]⟩ := by kernel_rfl
theorem ti73 : tiOf Tryz.prog 73 = some ⟨.func, 1, 8, [.nilFunc]⟩ := by kernel_rfl
theorem ti74 : tiOf Tryz.prog 74 = some ⟨.func, 1, 8, [.nilFunc]⟩ := by kernel_rfl
theorem ti75 : tiOf Tryz.prog 75 = some ⟨.ptr 148, 1, 8, [(.pointer none)]⟩ := by kernel_rfl
theorem ti77 : tiOf Tryz.prog 77 = some ⟨.func, 1, 8, [.nilFunc]⟩ := by kernel_rfl
theorem ti79 : tiOf Tryz.prog 79 = some ⟨.func, 1, 8, [.nilFunc]⟩ := by kernel_rfl
theorem ti81 : tiOf Tryz.prog 81 = some ⟨.func, 1, 8, [.nilFunc]⟩ := by kernel_rfl
theorem ti82 : tiOf Tryz.prog 82 = some ⟨.func, 1, 8, [.nilFunc]⟩ := by kernel_rfl
theorem ti83 : tiOf Tryz.prog 83 = some ⟨.func, 1, 8, [.nilFunc]⟩ := by kernel_rfl
theorem ti84 : tiOf Tryz.prog 84 = some ⟨.func, 1, 8, [.nilFunc]⟩ := by kernel_rfl
theorem ti85 : tiOf Tryz.prog 85 = some ⟨.func, 1, 8, [.nilFunc]⟩ := by kernel_rfl
theorem ti86 : tiOf Tryz.prog 86 = some ⟨.func, 1, 8, [.nilFunc]⟩ := by kernel_rfl
theorem ti87 : tiOf Tryz.prog 87 = some ⟨.func, 1, 8, [.nilFunc]⟩ := by kernel_rfl
theorem ti89 : tiOf Tryz.prog 89 = some ⟨.func, 1, 8, [.nilFunc]⟩ := by kernel_rfl
theorem ti90 : tiOf Tryz.prog 90 = some ⟨.func, 1, 8, [.nilFunc]⟩ := by kernel_rfl
theorem ti91 : tiOf Tryz.prog 91 = some ⟨.slice 37, 1, 24, [(.slice none 0 0)]⟩ := by kernel_rfl
theorem ti92 : tiOf Tryz.prog 92 = some ⟨.func, 1, 8, [.nilFunc]⟩ := by kernel_rfl
theorem ti93 : tiOf Tryz.prog 93 = some ⟨.func, 1, 8, [.nilFunc]⟩ := by kernel_rfl
theorem ti94 : tiOf Tryz.prog 94 = some ⟨.func, 1, 8, [.nilFunc]⟩ := by kernel_rfl
theorem ti95 : tiOf Tryz.prog 95 = some ⟨.func, 1, 8, [.nilFunc]⟩ := by kernel_rfl
theorem ti96 : tiOf Tryz.prog 96 = some ⟨.func, 1, 8, [.nilFunc]⟩ := by kernel_rfl
theorem ti97 : tiOf Tryz.prog 97 = some ⟨.func, 1, 8, [.nilFunc]⟩ := by kernel_rfl
theorem ti98 : tiOf Tryz.prog 98 = some ⟨.func, 1, 8, [.nilFunc]⟩ := by kernel_rfl
theorem ti99 : tiOf Tryz.prog 99 = some ⟨.func, 1, 8, [.nilFunc]⟩ := by kernel_rfl
theorem ti100 : tiOf Tryz.prog 100 = some ⟨.func, 1, 8, [.nilFunc]⟩ := by kernel_rfl
theorem ti101 : tiOf Tryz.prog 101 = some ⟨.struct [(0, 3), (1, 3), (2, 3), (3, 3), (4, 3), (5, 24)], 6, 64, [(.int .i64 0), (.int .i64 0), (.int .i64 0), (.int .i64 0), (.int .i64 0), (.slice none 0 0)]⟩ := by kernel_rfl
theorem ti102 : tiOf Tryz.prog 102 = some ⟨.struct [(0, 3), (1, 3), (2, 3), (3, 3), (4, 3), (5, 24)], 6, 64, [(.int .i64 0), (.int .i64 0), (.int .i64 0), (.int .i64 0), (.int .i64 0), (.slice none 0 0)]⟩ := by kernel_rfl
theorem ti103 : tiOf Tryz.prog 103 = some ⟨.func, 1, 8, [.nilFunc]⟩ := by kernel_rfl
theorem ti105 : tiOf Tryz.prog 105 = some ⟨.func, 1, 8, [.nilFunc]⟩ := by kernel_rfl
theorem ti106 : tiOf Tryz.prog 106 = some ⟨.func, 1, 8, [.nilFunc]⟩ := by kernel_rfl
theorem ti107 : tiOf Tryz.prog 107 = some ⟨.func, 1, 8, [.nilFunc]⟩ := by kernel_rfl
theorem ti108 : tiOf Tryz.prog 108 = some ⟨.func, 1, 8, [.nilFunc]⟩ := by kernel_rfl
theorem ti109 : tiOf Tryz.prog 109 = some ⟨.func, 1, 8, [.nilFunc]⟩ := by kernel_rfl
theorem ti110 : tiOf Tryz.prog 110 = some ⟨.func, 1, 8, [.nilFunc]⟩ := by kernel_rfl
theorem ti111 : tiOf Tryz.prog 111 = some ⟨.map 3 109, 1, 8, [(.map none)]⟩ := by kernel_rfl
theorem ti112 : tiOf Tryz.prog 112 = some ⟨.func, 1, 8, [.nilFunc]⟩ := by kernel_rfl
theorem ti113 : tiOf Tryz.prog 113 = some ⟨.slice 152, 1, 24, [(.slice none 0 0)]⟩ := by kernel_rfl
theorem ti114 : tiOf Tryz.prog 114 = some ⟨.slice 174, 1, 24, [(.slice none 0 0)]⟩ := by kernel_rfl
theorem ti115 : tiOf Tryz.prog 115 = some ⟨.struct [(0, 113), (1, 114), (2, 4), (3, 4), (4, 3), (5, 3)], 6, 72, [(.slice none 0 0), (.slice none 0 0), (.bool false), (.bool false), (.int .i64 0), (.int .i64 0)]⟩ := by kernel_rfl
theorem ti116 : tiOf Tryz.prog 116 = some ⟨.struct [(0, 113), (1, 114), (2, 4), (3, 4), (4, 3), (5, 3)], 6, 72, [(.slice none 0 0), (.slice none 0 0), (.bool false), (.bool false), (.int .i64 0), (.int .i64 0)]⟩ := by kernel_rfl
theorem ti117 : tiOf Tryz.prog 117 = some ⟨.struct [(0, 24)], 1, 24, [(.slice none 0 0)]⟩ := by kernel_rfl
theorem ti118 : tiOf Tryz.prog 118 = some ⟨.struct [(0, 24)], 1, 24, [(.slice none 0 0)]⟩ := by kernel_rfl
theorem ti119 : tiOf Tryz.prog 119 = some ⟨.func, 1, 8, [.nilFunc]⟩ := by kernel_rfl
theorem ti120 : tiOf Tryz.prog 120 = some ⟨.func, 1, 8, [.nilFunc]⟩ := by kernel_rfl
theorem ti121 : tiOf Tryz.prog 121 = some ⟨.func, 1, 8, [.nilFunc]⟩ := by kernel_rfl
theorem ti122 : tiOf Tryz.prog 122 = some ⟨.func, 1, 8, [.nilFunc]⟩ := by kernel_rfl
theorem ti123 : tiOf Tryz.prog 123 = some ⟨.func, 1, 8, [.nilFunc]⟩ := by kernel_rfl
theorem ti124 : tiOf Tryz.prog 124 = some ⟨.ptr 188, 1, 8, [(.pointer none)]⟩ := by kernel_rfl
theorem ti125 : tiOf Tryz.prog 125 = some ⟨.func, 1, 8, [.nilFunc]⟩ := by kernel_rfl
theorem ti126 : tiOf Tryz.prog 126 = some ⟨.ptr 3, 1, 8, [(.pointer none)]⟩ := by kernel_rfl
theorem ti127 : tiOf Tryz.prog 127 = some ⟨.slice 126, 1, 24, [(.slice none 0 0)]⟩ := by kernel_rfl
theorem ti128 : tiOf Tryz.prog 128 = some ⟨.func, 1, 8, [.nilFunc]⟩ := by kernel_rfl
theorem ti129 : tiOf Tryz.prog 129 = some ⟨.func, 1, 8, [.nilFunc]⟩ := by kernel_rfl
theorem ti131 : tiOf Tryz.prog 131 = some ⟨.func, 1, 8, [.nilFunc]⟩ := by kernel_rfl
theorem ti133 : tiOf Tryz.prog 133 = some ⟨.func, 1, 8, [.nilFunc]⟩ := by kernel_rfl
theorem ti134 : tiOf Tryz.prog 134 = some ⟨.ptr 137, 1, 8, [(.pointer none)]⟩ := by kernel_rfl
theorem ti135 : tiOf Tryz.prog 135 = some ⟨.array 2 37, 2, 48, [(.slice none 0 0), (.slice none 0 0)]⟩ := by kernel_rfl
theorem ti136 : tiOf Tryz.prog 136 = some ⟨.struct [(0, 3), (1, 23), (5, 135), (7, 61), (14, 4), (15, 3), (16, 4)], 17, 184, [(.int .i64 0), (.int .i64 0), (.int .i64 0), (.int .i64 0), (.int .i64 0), (.slice none 0 0), (.slice none 0 0), (.int .i64 0), (.int .i64 0), (.int .i64 0), (.int .i64 0), (.int .i64 0), (.int .i64 0), (.slice none 0 0), (.bool false), (.int .i64 0), (.bool false)]⟩ := by kernel_rfl
theorem ti137 : tiOf Tryz.prog 137 = some ⟨.struct [(0, 3), (1, 23), (5, 135), (7, 61), (14, 4), (15, 3), (16, 4)], 17, 184, [(.int .i64 0), (.int .i64 0), (.int .i64 0), (.int .i64 0), (.int .i64 0), (.slice none 0 0), (.slice none 0 0), (.int .i64 0), (.int .i64 0), (.int .i64 0), (.int .i64 0), (.int .i64 0), (.int .i64 0), (.slice none 0 0), (.bool false), (.int .i64 0), (.bool false)]⟩ := by kernel_rfl
theorem ti138 : tiOf Tryz.prog 138 = some ⟨.func, 1, 8, [.nilFunc]⟩ := by kernel_rfl
theorem ti139 : tiOf Tryz.prog 139 = some ⟨.func, 1, 8, [.nilFunc]⟩ := by kernel_rfl
theorem ti140 : tiOf Tryz.prog 140 = some ⟨.func, 1, 8, [.nilFunc]⟩ := by kernel_rfl
theorem ti141 : tiOf Tryz.prog 141 = some ⟨.slice 61, 1, 24, [(.slice none 0 0)]⟩ := by kernel_rfl
theorem ti142 : tiOf Tryz.prog 142 = some ⟨.func, 1, 8, [.nilFunc]⟩ := by kernel_rfl
theorem ti143 : tiOf Tryz.prog 143 = some ⟨.func, 1, 8, [.nilFunc]⟩ := by kernel_rfl
theorem ti144 : tiOf Tryz.prog 144 = some ⟨.func, 1, 8, [.nilFunc]⟩ := by kernel_rfl
theorem ti145 : tiOf Tryz.prog 145 = some ⟨.func, 1, 8, [.nilFunc]⟩ := by kernel_rfl
theorem ti146 : tiOf Tryz.prog 146 = some ⟨.func, 1, 8, [.nilFunc]⟩ := by kernel_rfl
theorem ti147 : tiOf Tryz.prog 147 = some ⟨.struct [(0, 146), (1, 3), (2, 23), (6, 3), (7, 3), (8, 3), (9, 3), (10, 3)], 11, 88, [.nilFunc, (.int .i64 0), (.int .i64 0), (.int .i64 0), (.int .i64 0), (.int .i64 0), (.int .i64 0), (.int .i64 0), (.int .i64 0), (.int .i64 0), (.int .i64 0)]⟩ := by kernel_rfl
theorem ti148 : tiOf Tryz.prog 148 = some ⟨.struct [(0, 146), (1, 3), (2, 23), (6, 3), (7, 3), (8, 3), (9, 3), (10, 3)], 11, 88, [.nilFunc, (.int .i64 0), (.int .i64 0), (.int .i64 0), (.int .i64 0), (.int .i64 0), (.int .i64 0), (.int .i64 0), (.int .i64 0), (.int .i64 0), (.int .i64 0)]⟩ := by kernel_rfl
theorem ti149 : tiOf Tryz.prog 149 = some ⟨.func, 1, 8, [.nilFunc]⟩ := by kernel_rfl
theorem ti150 : tiOf Tryz.prog 150 = some ⟨.func, 1, 8, [.nilFunc]⟩ := by kernel_rfl
theorem ti151 : tiOf Tryz.prog 151 = some ⟨.struct [(0, 24), (1, 4), (2, 3), (3, 53)], 4, 64, [(.slice none 0 0), (.bool false), (.int .i64 0), (.slice none 0 0)]⟩ := by kernel_rfl
theorem ti152 : tiOf Tryz.prog 152 = some ⟨.struct [(0, 24), (1, 4), (2, 3), (3, 53)], 4, 64, [(.slice none 0 0), (.bool false), (.int .i64 0), (.slice none 0 0)]⟩ := by kernel_rfl
theorem ti153 : tiOf Tryz.prog 153 = some ⟨.func, 1, 8, [.nilFunc]⟩ := by kernel_rfl
theorem ti154 : tiOf Tryz.prog 154 = some ⟨.func, 1, 8, [.nilFunc]⟩ := by kernel_rfl
theorem ti155 : tiOf Tryz.prog 155 = some ⟨.func, 1, 8, [.nilFunc]⟩ := by kernel_rfl
theorem ti156 : tiOf Tryz.prog 156 = some ⟨.func, 1, 8, [.nilFunc]⟩ := by kernel_rfl
theorem ti157 : tiOf Tryz.prog 157 = some ⟨.func, 1, 8, [.nilFunc]⟩ := by kernel_rfl
theorem ti158 : tiOf Tryz.prog 158 = some ⟨.func, 1, 8, [.nilFunc]⟩ := by kernel_rfl
theorem ti159 : tiOf Tryz.prog 159 = some ⟨.func, 1, 8, [.nilFunc]⟩ := by kernel_rfl
theorem ti160 : tiOf Tryz.prog 160 = some ⟨.func, 1, 8, [.nilFunc]⟩ := by kernel_rfl
theorem ti161 : tiOf Tryz.prog 161 = some ⟨.func, 1, 8, [.nilFunc]⟩ := by kernel_rfl
theorem ti162 : tiOf Tryz.prog 162 = some ⟨.func, 1, 8, [.nilFunc]⟩ := by kernel_rfl
theorem ti163 : tiOf Tryz.prog 163 = some ⟨.func, 1, 8, [.nilFunc]⟩ := by kernel_rfl
theorem ti164 : tiOf Tryz.prog 164 = some ⟨.func, 1, 8, [.nilFunc]⟩ := by kernel_rfl
theorem ti165 : tiOf Tryz.prog 165 = some ⟨.func, 1, 8, [.nilFunc]⟩ := by kernel_rfl
theorem ti166 : tiOf Tryz.prog 166 = some ⟨.ptr 168, 1, 8, [(.pointer none)]⟩ := by kernel_rfl
theorem ti167 : tiOf Tryz.prog 167 = some ⟨.struct [(0, 37), (1, 37), (2, 3)], 3, 56, [(.slice none 0 0), (.slice none 0 0), (.int .i64 0)]⟩ := by kernel_rfl
theorem ti168 : tiOf Tryz.prog 168 = some ⟨.struct [(0, 37), (1, 37), (2, 3)], 3, 56, [(.slice none 0 0), (.slice none 0 0), (.int .i64 0)]⟩ := by kernel_rfl
theorem ti169 : tiOf Tryz.prog 169 = some ⟨.func, 1, 8, [.nilFunc]⟩ := by kernel_rfl
theorem ti170 : tiOf Tryz.prog 170 = some ⟨.func, 1, 8, [.nilFunc]⟩ := by kernel_rfl
theorem ti171 : tiOf Tryz.prog 171 = some ⟨.func, 1, 8, [.nilFunc]⟩ := by kernel_rfl
theorem ti172 : tiOf Tryz.prog 172 = some ⟨.ptr 152, 1, 8, [(.pointer none)]⟩ := by kernel_rfl
theorem ti173 : tiOf Tryz.prog 173 = some ⟨.struct [(0, 3), (1, 24)], 2, 32, [(.int .i64 0), (.slice none 0 0)]⟩ := by kernel_rfl
theorem ti174 : tiOf Tryz.prog 174 = some ⟨.struct [(0, 3), (1, 24)], 2, 32, [(.int .i64 0), (.slice none 0 0)]⟩ := by kernel_rfl
theorem ti175 : tiOf Tryz.prog 175 = some ⟨.func, 1, 8, [.nilFunc]⟩ := by kernel_rfl
theorem ti176 : tiOf Tryz.prog 176 = some ⟨.func, 1, 8, [.nilFunc]⟩ := by kernel_rfl
theorem ti177 : tiOf Tryz.prog 177 = some ⟨.ptr 179, 1, 8, [(.pointer none)]⟩ := by kernel_rfl
theorem ti178 : tiOf Tryz.prog 178 = some ⟨.struct [(0, 46), (1, 3)], 2, 16, [(.pointer none), (.int .i64 0)]⟩ := by kernel_rfl
theorem ti179 : tiOf Tryz.prog 179 = some ⟨.struct [(0, 46), (1, 3)], 2, 16, [(.pointer none), (.int .i64 0)]⟩ := by kernel_rfl
theorem ti180 : tiOf Tryz.prog 180 = some ⟨.func, 1, 8, [.nilFunc]⟩ := by kernel_rfl
theorem ti181 : tiOf Tryz.prog 181 = some ⟨.func, 1, 8, [.nilFunc]⟩ := by kernel_rfl
theorem ti182 : tiOf Tryz.prog 182 = some ⟨.func, 1, 8, [.nilFunc]⟩ := by kernel_rfl
theorem ti183 : tiOf Tryz.prog 183 = some ⟨.func, 1, 8, [.nilFunc]⟩ := by kernel_rfl
theorem ti184 : tiOf Tryz.prog 184 = some ⟨.func, 1, 8, [.nilFunc]⟩ := by kernel_rfl
theorem ti185 : tiOf Tryz.prog 185 = some ⟨.ptr 118, 1, 8, [(.pointer none)]⟩ := by kernel_rfl
theorem ti186 : tiOf Tryz.prog 186 = some ⟨.func, 1, 8, [.nilFunc]⟩ := by kernel_rfl
theorem ti187 : tiOf Tryz.prog 187 = some ⟨.int .u64, 1, 8, [(.int .u64 0)]⟩ := by kernel_rfl
theorem ti188 : tiOf Tryz.prog 188 = some ⟨.struct [(0, 24)], 1, 24, [(.slice none 0 0)]⟩ := by kernel_rfl
theorem ti190 : tiOf Tryz.prog 190 = some ⟨.func, 1, 8, [.nilFunc]⟩ := by kernel_rfl
theorem ti191 : tiOf Tryz.prog 191 = some ⟨.func, 1, 8, [.nilFunc]⟩ := by kernel_rfl
theorem ti193 : tiOf Tryz.prog 193 = some ⟨.func, 1, 8, [.nilFunc]⟩ := by kernel_rfl
theorem ti194 : tiOf Tryz.prog 194 = some ⟨.func, 1, 8, [.nilFunc]⟩ := by kernel_rfl
theorem ti195 : tiOf Tryz.prog 195 = some ⟨.func, 1, 8, [.nilFunc]⟩ := by kernel_rfl
theorem ti196 : tiOf Tryz.prog 196 = some ⟨.func, 1, 8, [.nilFunc]⟩ := by kernel_rfl
theorem ti197 : tiOf Tryz.prog 197 = some ⟨.func, 1, 8, [.nilFunc]⟩ := by kernel_rfl
theorem ti198 : tiOf Tryz.prog 198 = some ⟨.func, 1, 8, [.nilFunc]⟩ := by kernel_rfl
theorem ti199 : tiOf Tryz.prog 199 = some ⟨.ptr 228, 1, 8, [(.pointer none)]⟩ := by kernel_rfl
theorem ti200 : tiOf Tryz.prog 200 = some ⟨.func, 1, 8, [.nilFunc]⟩ := by kernel_rfl
theorem ti201 : tiOf Tryz.prog 201 = some ⟨.func, 1, 8, [.nilFunc]⟩ := by kernel_rfl
theorem ti202 : tiOf Tryz.prog 202 = some ⟨.func, 1, 8, [.nilFunc]⟩ := by kernel_rfl
theorem ti203 : tiOf Tryz.prog 203 = some ⟨.func, 1, 8, [.nilFunc]⟩ := by kernel_rfl
theorem ti204 : tiOf Tryz.prog 204 = some ⟨.int .u64, 1, 8, [(.int .u64 0)]⟩ := by kernel_rfl
theorem ti205 : tiOf Tryz.prog 205 = some ⟨.func, 1, 8, [.nilFunc]⟩ := by kernel_rfl
theorem ti206 : tiOf Tryz.prog 206 = some ⟨.func, 1, 8, [.nilFunc]⟩ := by kernel_rfl
theorem ti207 : tiOf Tryz.prog 207 = some ⟨.func, 1, 8, [.nilFunc]⟩ := by kernel_rfl
theorem ti209 : tiOf Tryz.prog 209 = some ⟨.func, 1, 8, [.nilFunc]⟩ := by kernel_rfl
theorem ti210 : tiOf Tryz.prog 210 = some ⟨.func, 1, 8, [.nilFunc]⟩ := by kernel_rfl
theorem ti211 : tiOf Tryz.prog 211 = some ⟨.func, 1, 8, [.nilFunc]⟩ := by kernel_rfl
theorem ti213 : tiOf Tryz.prog 213 = some ⟨.func, 1, 8, [.nilFunc]⟩ := by kernel_rfl
theorem ti214 : tiOf Tryz.prog 214 = some ⟨.func, 1, 8, [.nilFunc]⟩ := by kernel_rfl
theorem ti215 : tiOf Tryz.prog 215 = some ⟨.func, 1, 8, [.nilFunc]⟩ := by kernel_rfl
theorem ti216 : tiOf Tryz.prog 216 = some ⟨.func, 1, 8, [.nilFunc]⟩ := by kernel_rfl
theorem ti217 : tiOf Tryz.prog 217 = some ⟨.func, 1, 8, [.nilFunc]⟩ := by kernel_rfl
theorem ti218 : tiOf Tryz.prog 218 = some ⟨.func, 1, 8, [.nilFunc]⟩ := by kernel_rfl
theorem ti219 : tiOf Tryz.prog 219 = some ⟨.func, 1, 8, [.nilFunc]⟩ := by kernel_rfl
theorem ti221 : tiOf Tryz.prog 221 = some ⟨.func, 1, 8, [.nilFunc]⟩ := by kernel_rfl
theorem ti222 : tiOf Tryz.prog 222 = some ⟨.func, 1, 8, [.nilFunc]⟩ := by kernel_rfl
theorem ti223 : tiOf Tryz.prog 223 = some ⟨.func, 1, 8, [.nilFunc]⟩ := by kernel_rfl
theorem ti224 : tiOf Tryz.prog 224 = some ⟨.func, 1, 8, [.nilFunc]⟩ := by kernel_rfl
theorem ti225 : tiOf Tryz.prog 225 = some ⟨.array 510 5, 510, 510, (List.replicate 510 (.int .u8 0))⟩ := by kernel_rfl
theorem ti226 : tiOf Tryz.prog 226 = some ⟨.array 256 3, 256, 2048, (List.replicate 256 (.int .i64 0))⟩ := by kernel_rfl
theorem ti227 : tiOf Tryz.prog 227 = some ⟨.struct [(0, 225), (510, 226), (766, 4)], 767, 2568, (List.replicate 510 (.int .u8 0) ++ List.replicate 256 (.int .i64 0) ++ [(.bool false)])⟩ := by kernel_rfl
theorem ti228 : tiOf Tryz.prog 228 = some ⟨.struct [(0, 225), (510, 226), (766, 4)], 767, 2568, (List.replicate 510 (.int .u8 0) ++ List.replicate 256 (.int .i64 0) ++ [(.bool false)])⟩ := by kernel_rfl
theorem ti229 : tiOf Tryz.prog 229 = some ⟨.func, 1, 8, [.nilFunc]⟩ := by kernel_rfl
theorem ti230 : tiOf Tryz.prog 230 = some ⟨.func, 1, 8, [.nilFunc]⟩ := by kernel_rfl
theorem ti231 : tiOf Tryz.prog 231 = some ⟨.func, 1, 8, [.nilFunc]⟩ := by kernel_rfl
theorem ti232 : tiOf Tryz.prog 232 = some ⟨.func, 1, 8, [.nilFunc]⟩ := by kernel_rfl
theorem ti233 : tiOf Tryz.prog 233 = some ⟨.func, 1, 8, [.nilFunc]⟩ := by kernel_rfl
theorem ti234 : tiOf Tryz.prog 234 = some ⟨.func, 1, 8, [.nilFunc]⟩ := by kernel_rfl
theorem ti235 : tiOf Tryz.prog 235 = some ⟨.ptr 241, 1, 8, [(.pointer none)]⟩ := by kernel_rfl
theorem ti236 : tiOf Tryz.prog 236 = some ⟨.func, 1, 8, [.nilFunc]⟩ := by kernel_rfl
theorem ti237 : tiOf Tryz.prog 237 = some ⟨.int .u32, 1, 4, [(.int .u32 0)]⟩ := by kernel_rfl
theorem ti238 : tiOf Tryz.prog 238 = some ⟨.func, 1, 8, [.nilFunc]⟩ := by kernel_rfl
theorem ti239 : tiOf Tryz.prog 239 = some ⟨.func, 1, 8, [.nilFunc]⟩ := by kernel_rfl
theorem ti240 : tiOf Tryz.prog 240 = some ⟨.array 256 237, 256, 1024, (List.replicate 256 (.int .u32 0))⟩ := by kernel_rfl
theorem ti241 : tiOf Tryz.prog 241 = some ⟨.array 256 237, 256, 1024, (List.replicate 256 (.int .u32 0))⟩ := by kernel_rfl
theorem ti242 : tiOf Tryz.prog 242 = some ⟨.func, 1, 8, [.nilFunc]⟩ := by kernel_rfl
theorem ti250 : tiOf Tryz.prog 250 = some ⟨.func, 1, 8, [.nilFunc]⟩ := by kernel_rfl
theorem ti251 : tiOf Tryz.prog 251 = some ⟨.ptr 5, 1, 8, [(.pointer none)]⟩ := by kernel_rfl
theorem ti254 : tiOf Tryz.prog 254 = some ⟨.struct [(0, 12), (1, 12), (2, 237), (3, 248), (4, 5), (5, 5), (6, 249), (7, 250), (8, 251), (9, 252), (10, 253)], 11, 48, [(.int .u64 0), (.int .u64 0), (.int .u32 0), (.int .u8 0), (.int .u8 0), (.int .u8 0), (.int .u8 0), .nilFunc, (.pointer none), (.int .i32 0), (.int .i32 0)]⟩ := by kernel_rfl
theorem ti256 : tiOf Tryz.prog 256 = some ⟨.func, 1, 8, [.nilFunc]⟩ := by kernel_rfl

theorem hT0 : ∀ t i, tab0 t = some i → tiOf Tryz.prog t = some i := by
  intro t i h
  unfold tab0 at h
  split at h
  · obtain rfl := Option.some.inj h; exact ti1
  · obtain rfl := Option.some.inj h; exact ti2
  · obtain rfl := Option.some.inj h; exact ti3
  · obtain rfl := Option.some.inj h; exact ti4
  · obtain rfl := Option.some.inj h; exact ti5
  · obtain rfl := Option.some.inj h; exact ti9
  · obtain rfl := Option.some.inj h; exact ti12
  · obtain rfl := Option.some.inj h; exact ti17
  · obtain rfl := Option.some.inj h; exact ti21
  · obtain rfl := Option.some.inj h; exact ti22
  · obtain rfl := Option.some.inj h; exact ti23
  · obtain rfl := Option.some.inj h; exact ti24
  · obtain rfl := Option.some.inj h; exact ti25
  · obtain rfl := Option.some.inj h; exact ti26
  · obtain rfl := Option.some.inj h; exact ti27
  · obtain rfl := Option.some.inj h; exact ti29
  · exact absurd h (by simp)

theorem hT1 : ∀ t i, tab1 t = some i → tiOf Tryz.prog t = some i := by
  intro t i h
  unfold tab1 at h
  split at h
  · obtain rfl := Option.some.inj h; exact ti30
  · obtain rfl := Option.some.inj h; exact ti32
  · obtain rfl := Option.some.inj h; exact ti33
  · obtain rfl := Option.some.inj h; exact ti34
  · obtain rfl := Option.some.inj h; exact ti35
  · obtain rfl := Option.some.inj h; exact ti36
  · obtain rfl := Option.some.inj h; exact ti37
  · obtain rfl := Option.some.inj h; exact ti39
  · obtain rfl := Option.some.inj h; exact ti40
  · obtain rfl := Option.some.inj h; exact ti41
  · obtain rfl := Option.some.inj h; exact ti42
  · obtain rfl := Option.some.inj h; exact ti43
  · obtain rfl := Option.some.inj h; exact ti44
  · obtain rfl := Option.some.inj h; exact ti45
  · obtain rfl := Option.some.inj h; exact ti46
  · obtain rfl := Option.some.inj h; exact ti47
  · exact absurd h (by simp)

theorem hT2 : ∀ t i, tab2 t = some i → tiOf Tryz.prog t = some i := by
  intro t i h
  unfold tab2 at h
  split at h
  · obtain rfl := Option.some.inj h; exact ti48
  · obtain rfl := Option.some.inj h; exact ti49
  · obtain rfl := Option.some.inj h; exact ti51
  · obtain rfl := Option.some.inj h; exact ti52
  · obtain rfl := Option.some.inj h; exact ti53
  · obtain rfl := Option.some.inj h; exact ti54
  · obtain rfl := Option.some.inj h; exact ti55
  · obtain rfl := Option.some.inj h; exact ti56
  · obtain rfl := Option.some.inj h; exact ti57
  · obtain rfl := Option.some.inj h; exact ti58
  · obtain rfl := Option.some.inj h; exact ti59
  · obtain rfl := Option.some.inj h; exact ti60
  · obtain rfl := Option.some.inj h; exact ti61
  · obtain rfl := Option.some.inj h; exact ti62
  · obtain rfl := Option.some.inj h; exact ti64
  · obtain rfl := Option.some.inj h; exact ti65
  · exact absurd h (by simp)

theorem hT3 : ∀ t i, tab3 t = some i → tiOf Tryz.prog t = some i := by
  intro t i h
  unfold tab3 at h
  split at h
  · obtain rfl := Option.some.inj h; exact ti66
  · obtain rfl := Option.some.inj h; exact ti67
  · obtain rfl := Option.some.inj h; exact ti68
  · obtain rfl := Option.some.inj h; exact ti69
  · obtain rfl := Option.some.inj h; exact ti70
  · obtain rfl := Option.some.inj h; exact ti72
  · obtain rfl := Option.some.inj h; exact ti73
  · obtain rfl := Option.some.inj h; exact ti74
  · obtain rfl := Option.some.inj h; exact ti75
  · obtain rfl := Option.some.inj h; exact ti77
  · obtain rfl := Option.some.inj h; exact ti79
  · obtain rfl := Option.some.inj h; exact ti81
  · obtain rfl := Option.some.inj h; exact ti82
  · obtain rfl := Option.some.inj h; exact ti83
  · obtain rfl := Option.some.inj h; exact ti84
  · obtain rfl := Option.some.inj h; exact ti85
  · exact absurd h (by simp)

theorem hT4 : ∀ t i, tab4 t = some i → tiOf Tryz.prog t = some i := by
  intro t i h
  unfold tab4 at h
  split at h
  · obtain rfl := Option.some.inj h; exact ti86
  · obtain rfl := Option.some.inj h; exact ti87
  · obtain rfl := Option.some.inj h; exact ti89
  · obtain rfl := Option.some.inj h; exact ti90
  · obtain rfl := Option.some.inj h; exact ti91
  · obtain rfl := Option.some.inj h; exact ti92
  · obtain rfl := Option.some.inj h; exact ti93
  · obtain rfl := Option.some.inj h; exact ti94
  · obtain rfl := Option.some.inj h; exact ti95
  · obtain rfl := Option.some.inj h; exact ti96
  · obtain rfl := Option.some.inj h; exact ti97
  · obtain rfl := Option.some.inj h; exact ti98
  · obtain rfl := Option.some.inj h; exact ti99
  · obtain rfl := Option.some.inj h; exact ti100
  · obtain rfl := Option.some.inj h; exact ti101
  · obtain rfl := Option.some.inj h; exact ti102
  · exact absurd h (by simp)

theorem hT5 : ∀ t i, tab5 t = some i → tiOf Tryz.prog t = some i := by
  intro t i h
  unfold tab5 at h
  split at h
  · obtain rfl := Option.some.inj h; exact ti103
  · obtain rfl := Option.some.inj h; exact ti105
  · obtain rfl := Option.some.inj h; exact ti106
  · obtain rfl := Option.some.inj h; exact ti107
  · obtain rfl := Option.some.inj h; exact ti108
  · obtain rfl := Option.some.inj h; exact ti109
  · obtain rfl := Option.some.inj h; exact ti110
  · obtain rfl := Option.some.inj h; exact ti111
  · obtain rfl := Option.some.inj h; exact ti112
  · obtain rfl := Option.some.inj h; exact ti113
  · obtain rfl := Option.some.inj h; exact ti114
  · obtain rfl := Option.some.inj h; exact ti115
  · obtain rfl := Option.some.inj h; exact ti116
  · obtain rfl := Option.some.inj h; exact ti117
  · obtain rfl := Option.some.inj h; exact ti118
  · obtain rfl := Option.some.inj h; exact ti119
  · exact absurd h (by simp)

theorem hT6 : ∀ t i, tab6 t = some i → tiOf Tryz.prog t = some i := by
  intro t i h
  unfold tab6 at h
  split at h
  · obtain rfl := Option.some.inj h; exact ti120
  · obtain rfl := Option.some.inj h; exact ti121
  · obtain rfl := Option.some.inj h; exact ti122
  · obtain rfl := Option.some.inj h; exact ti123
  · obtain rfl := Option.some.inj h; exact ti124
  · obtain rfl := Option.some.inj h; exact ti125
  · obtain rfl := Option.some.inj h; exact ti126
  · obtain rfl := Option.some.inj h; exact ti127
  · obtain rfl := Option.some.inj h; exact ti128
  · obtain rfl := Option.some.inj h; exact ti129
  · obtain rfl := Option.some.inj h; exact ti131
  · obtain rfl := Option.some.inj h; exact ti133
  · obtain rfl := Option.some.inj h; exact ti134
  · obtain rfl := Option.some.inj h; exact ti135
  · obtain rfl := Option.some.inj h; exact ti136
  · obtain rfl := Option.some.inj h; exact ti137
  · exact absurd h (by simp)

theorem hT7 : ∀ t i, tab7 t = some i → tiOf Tryz.prog t = some i := by
  intro t i h
  unfold tab7 at h
  split at h
  · obtain rfl := Option.some.inj h; exact ti138
  · obtain rfl := Option.some.inj h; exact ti139
  · obtain rfl := Option.some.inj h; exact ti140
  · obtain rfl := Option.some.inj h; exact ti141
  · obtain rfl := Option.some.inj h; exact ti142
  · obtain rfl := Option.some.inj h; exact ti143
  · obtain rfl := Option.some.inj h; exact ti144
  · obtain rfl := Option.some.inj h; exact ti145
  · obtain rfl := Option.some.inj h; exact ti146
  · obtain rfl := Option.some.inj h; exact ti147
  · obtain rfl := Option.some.inj h; exact ti148
  · obtain rfl := Option.some.inj h; exact ti149
  · obtain rfl := Option.some.inj h; exact ti150
  · obtain rfl := Option.some.inj h; exact ti151
  · obtain rfl := Option.some.inj h; exact ti152
  · obtain rfl := Option.some.inj h; exact ti153
  · exact absurd h (by simp)

theorem hT8 : ∀ t i, tab8 t = some i → tiOf Tryz.prog t = some i := by
  intro t i h
  unfold tab8 at h
  split at h
  · obtain rfl := Option.some.inj h; exact ti154
  · obtain rfl := Option.some.inj h; exact ti155
  · obtain rfl := Option.some.inj h; exact ti156
  · obtain rfl := Option.some.inj h; exact ti157
  · obtain rfl := Option.some.inj h; exact ti158
  · obtain rfl := Option.some.inj h; exact ti159
  · obtain rfl := Option.some.inj h; exact ti160
  · obtain rfl := Option.some.inj h; exact ti161
  · obtain rfl := Option.some.inj h; exact ti162
  · obtain rfl := Option.some.inj h; exact ti163
  · obtain rfl := Option.some.inj h; exact ti164
  · obtain rfl := Option.some.inj h; exact ti165
  · obtain rfl := Option.some.inj h; exact ti166
  · obtain rfl := Option.some.inj h; exact ti167
  · obtain rfl := Option.some.inj h; exact ti168
  · obtain rfl := Option.some.inj h; exact ti169
  · exact absurd h (by simp)

theorem hT9 : ∀ t i, tab9 t = some i → tiOf Tryz.prog t = some i := by
  intro t i h
  unfold tab9 at h
  split at h
  · obtain rfl := Option.some.inj h; exact ti170
  · obtain rfl := Option.some.inj h; exact ti171
  · obtain rfl := Option.some.inj h; exact ti172
  · obtain rfl := Option.some.inj h; exact ti173
  · obtain rfl := Option.some.inj h; exact ti174
  · obtain rfl := Option.some.inj h; exact ti175
  · obtain rfl := Option.some.inj h; exact ti176
  · obtain rfl := Option.some.inj h; exact ti177
  · obtain rfl := Option.some.inj h; exact ti178
  · obtain rfl := Option.some.inj h; exact ti179
  · obtain rfl := Option.some.inj h; exact ti180
  · obtain rfl := Option.some.inj h; exact ti181
  · obtain rfl := Option.some.inj h; exact ti182
  · obtain rfl := Option.some.inj h; exact ti183
  · obtain rfl := Option.some.inj h; exact ti184
  · obtain rfl := Option.some.inj h; exact ti185
  · exact absurd h (by simp)

theorem hT10 : ∀ t i, tab10 t = some i → tiOf Tryz.prog t = some i := by
  intro t i h
  unfold tab10 at h
  split at h
  · obtain rfl := Option.some.inj h; exact ti186
  · obtain rfl := Option.some.inj h; exact ti187
  · obtain rfl := Option.some.inj h; exact ti188
  · obtain rfl := Option.some.inj h; exact ti190
  · obtain rfl := Option.some.inj h; exact ti191
  · obtain rfl := Option.some.inj h; exact ti193
  · obtain rfl := Option.some.inj h; exact ti194
  · obtain rfl := Option.some.inj h; exact ti195
  · obtain rfl := Option.some.inj h; exact ti196
  · obtain rfl := Option.some.inj h; exact ti197
  · obtain rfl := Option.some.inj h; exact ti198
  · obtain rfl := Option.some.inj h; exact ti199
  · obtain rfl := Option.some.inj h; exact ti200
  · obtain rfl := Option.some.inj h; exact ti201
  · obtain rfl := Option.some.inj h; exact ti202
  · obtain rfl := Option.some.inj h; exact ti203
  · exact absurd h (by simp)

theorem hT11 : ∀ t i, tab11 t = some i → tiOf Tryz.prog t = some i := by
  intro t i h
  unfold tab11 at h
  split at h
  · obtain rfl := Option.some.inj h; exact ti204
  · obtain rfl := Option.some.inj h; exact ti205
  · obtain rfl := Option.some.inj h; exact ti206
  · obtain rfl := Option.some.inj h; exact ti207
  · obtain rfl := Option.some.inj h; exact ti209
  · obtain rfl := Option.some.inj h; exact ti210
  · obtain rfl := Option.some.inj h; exact ti211
  · obtain rfl := Option.some.inj h; exact ti213
  · obtain rfl := Option.some.inj h; exact ti214
  · obtain rfl := Option.some.inj h; exact ti215
  · obtain rfl := Option.some.inj h; exact ti216
  · obtain rfl := Option.some.inj h; exact ti217
  · obtain rfl := Option.some.inj h; exact ti218
  · obtain rfl := Option.some.inj h; exact ti219
  · obtain rfl := Option.some.inj h; exact ti221
  · obtain rfl := Option.some.inj h; exact ti222
  · exact absurd h (by simp)

theorem hT12 : ∀ t i, tab12 t = some i → tiOf Tryz.prog t = some i := by
  intro t i h
  unfold tab12 at h
  split at h
  · obtain rfl := Option.some.inj h; exact ti223
  · obtain rfl := Option.some.inj h; exact ti224
  · obtain rfl := Option.some.inj h; exact ti225
  · obtain rfl := Option.some.inj h; exact ti226
  · obtain rfl := Option.some.inj h; exact ti227
  · obtain rfl := Option.some.inj h; exact ti228
  · obtain rfl := Option.some.inj h; exact ti229
  · obtain rfl := Option.some.inj h; exact ti230
  · obtain rfl := Option.some.inj h; exact ti231
  · obtain rfl := Option.some.inj h; exact ti232
  · obtain rfl := Option.some.inj h; exact ti233
  · obtain rfl := Option.some.inj h; exact ti234
  · obtain rfl := Option.some.inj h; exact ti235
  · obtain rfl := Option.some.inj h; exact ti236
  · obtain rfl := Option.some.inj h; exact ti237
  · obtain rfl := Option.some.inj h; exact ti238
  · exact absurd h (by simp)

theorem hT13 : ∀ t i, tab13 t = some i → tiOf Tryz.prog t = some i := by
  intro t i h
  unfold tab13 at h
  split at h
  · obtain rfl := Option.some.inj h; exact ti239
  · obtain rfl := Option.some.inj h; exact ti240
  · obtain rfl := Option.some.inj h; exact ti241
  · obtain rfl := Option.some.inj h; exact ti242
  · obtain rfl := Option.some.inj h; exact ti250
  · obtain rfl := Option.some.inj h; exact ti251
  · obtain rfl := Option.some.inj h; exact ti254
  · obtain rfl := Option.some.inj h; exact ti256
  · exact absurd h (by simp)

theorem hT : TOk Tryz.prog tab := by
  intro t i h
  unfold tab at h
  rcases cond_some h with h | h
  · rcases cond_some h with h | h
    · rcases cond_some h with h | h
      · exact hT0 t i h
      · rcases cond_some h with h | h
        · exact hT1 t i h
        · exact hT2 t i h
    · rcases cond_some h with h | h
      · rcases cond_some h with h | h
        · exact hT3 t i h
        · exact hT4 t i h
      · rcases cond_some h with h | h
        · exact hT5 t i h
        · exact hT6 t i h
  · rcases cond_some h with h | h
    · rcases cond_some h with h | h
      · exact hT7 t i h
      · rcases cond_some h with h | h
        · exact hT8 t i h
        · exact hT9 t i h
    · rcases cond_some h with h | h
      · rcases cond_some h with h | h
        · exact hT10 t i h
        · exact hT11 t i h
      · rcases cond_some h with h | h
        · exact hT12 t i h
        · exact hT13 t i h

theorem follows_mixed : Tryz.prog.follows .mixedOrders = true := by kernel_rfl

abbrev f_law11_RingTells : FuncId := 9
theorem F_law11_RingTells : type_of% Tryz.func9 := Tryz.func9
theorem N_law11_RingTells : type_of% Tryz.ntmps9 := Tryz.ntmps9
abbrev f_law11_RingFollows : FuncId := 10
theorem F_law11_RingFollows : type_of% Tryz.func10 := Tryz.func10
theorem N_law11_RingFollows : type_of% Tryz.ntmps10 := Tryz.ntmps10
abbrev f_law11_RingOne : FuncId := 13
theorem F_law11_RingOne : type_of% Tryz.func13 := Tryz.func13
theorem N_law11_RingOne : type_of% Tryz.ntmps13 := Tryz.ntmps13
abbrev f_law11_RingLimits : FuncId := 14
theorem F_law11_RingLimits : type_of% Tryz.func14 := Tryz.func14
theorem N_law11_RingLimits : type_of% Tryz.ntmps14 := Tryz.ntmps14
abbrev f_law11_RingNew : FuncId := 15
theorem F_law11_RingNew : type_of% Tryz.func15 := Tryz.func15
theorem N_law11_RingNew : type_of% Tryz.ntmps15 := Tryz.ntmps15
abbrev f_ref04_Same : FuncId := 23
theorem F_ref04_Same : type_of% Tryz.func23 := Tryz.func23
theorem N_ref04_Same : type_of% Tryz.ntmps23 := Tryz.ntmps23
abbrev f_law11_Blank : FuncId := 27
theorem F_law11_Blank : type_of% Tryz.func27 := Tryz.func27
theorem N_law11_Blank : type_of% Tryz.ntmps27 := Tryz.ntmps27
abbrev f_disk_Disk_Fault : FuncId := 29
theorem F_disk_Disk_Fault : type_of% Tryz.func29 := Tryz.func29
theorem N_disk_Disk_Fault : type_of% Tryz.ntmps29 := Tryz.ntmps29
abbrev f_ref08_May : FuncId := 31
theorem F_ref08_May : type_of% Tryz.func31 := Tryz.func31
theorem N_ref08_May : type_of% Tryz.ntmps31 := Tryz.ntmps31
abbrev f_law11_awake : FuncId := 36
theorem F_law11_awake : type_of% Tryz.func36 := Tryz.func36
theorem N_law11_awake : type_of% Tryz.ntmps36 := Tryz.ntmps36
abbrev f_ring_Sector : FuncId := 37
theorem F_ring_Sector : type_of% Tryz.func37 := Tryz.func37
theorem N_ring_Sector : type_of% Tryz.ntmps37 := Tryz.ntmps37
abbrev f_ref11_Sector : FuncId := 38
theorem F_ref11_Sector : type_of% Tryz.func38 := Tryz.func38
theorem N_ref11_Sector : type_of% Tryz.ntmps38 := Tryz.ntmps38
abbrev f_ring_Told : FuncId := 39
theorem F_ring_Told : type_of% Tryz.func39 := Tryz.func39
theorem N_ring_Told : type_of% Tryz.ntmps39 := Tryz.ntmps39
abbrev f_ref11_Told : FuncId := 40
theorem F_ref11_Told : type_of% Tryz.func40 := Tryz.func40
theorem N_ref11_Told : type_of% Tryz.ntmps40 := Tryz.ntmps40
abbrev f_ref11_Pair : FuncId := 41
theorem F_ref11_Pair : type_of% Tryz.func41 := Tryz.func41
theorem N_ref11_Pair : type_of% Tryz.ntmps41 := Tryz.ntmps41
abbrev f_ring_May : FuncId := 42
theorem F_ring_May : type_of% Tryz.func42 := Tryz.func42
theorem N_ring_May : type_of% Tryz.ntmps42 := Tryz.ntmps42
abbrev f_ref11_May : FuncId := 43
theorem F_ref11_May : type_of% Tryz.func43 := Tryz.func43
theorem N_ref11_May : type_of% Tryz.ntmps43 := Tryz.ntmps43
abbrev f_law11_few : FuncId := 44
theorem F_law11_few : type_of% Tryz.func44 := Tryz.func44
theorem N_law11_few : type_of% Tryz.ntmps44 := Tryz.ntmps44
abbrev f_ring_Follow : FuncId := 45
theorem F_ring_Follow : type_of% Tryz.func45 := Tryz.func45
theorem N_ring_Follow : type_of% Tryz.ntmps45 := Tryz.ntmps45
abbrev f_ref11_Follow : FuncId := 46
theorem F_ref11_Follow : type_of% Tryz.func46 := Tryz.func46
theorem N_ref11_Follow : type_of% Tryz.ntmps46 := Tryz.ntmps46
abbrev f_ref11_Same : FuncId := 47
theorem F_ref11_Same : type_of% Tryz.func47 := Tryz.func47
theorem N_ref11_Same : type_of% Tryz.ntmps47 := Tryz.ntmps47
abbrev f_ring_New : FuncId := 49
theorem F_ring_New : type_of% Tryz.func49 := Tryz.func49
theorem N_ring_New : type_of% Tryz.ntmps49 := Tryz.ntmps49
abbrev f_ring_Load : FuncId := 51
theorem F_ring_Load : type_of% Tryz.func51 := Tryz.func51
theorem N_ring_Load : type_of% Tryz.ntmps51 := Tryz.ntmps51
abbrev f_ring_Ring_Next : FuncId := 52
theorem F_ring_Ring_Next : type_of% Tryz.func52 := Tryz.func52
theorem N_ring_Ring_Next : type_of% Tryz.ntmps52 := Tryz.ntmps52
abbrev f_ring_Ring_Chain : FuncId := 53
theorem F_ring_Ring_Chain : type_of% Tryz.func53 := Tryz.func53
theorem N_ring_Ring_Chain : type_of% Tryz.ntmps53 := Tryz.ntmps53
abbrev f_ref11_Pieces : FuncId := 54
theorem F_ref11_Pieces : type_of% Tryz.func54 := Tryz.func54
theorem N_ref11_Pieces : type_of% Tryz.ntmps54 := Tryz.ntmps54
abbrev f_ring_Ring_Append : FuncId := 55
theorem F_ring_Ring_Append : type_of% Tryz.func55 := Tryz.func55
theorem N_ring_Ring_Append : type_of% Tryz.ntmps55 := Tryz.ntmps55
abbrev f_ring_Ring_Cut : FuncId := 56
theorem F_ring_Ring_Cut : type_of% Tryz.func56 := Tryz.func56
theorem N_ring_Ring_Cut : type_of% Tryz.ntmps56 := Tryz.ntmps56
abbrev f_disk_New : FuncId := 57
theorem F_disk_New : type_of% Tryz.func57 := Tryz.func57
theorem N_disk_New : type_of% Tryz.ntmps57 := Tryz.ntmps57
abbrev f_geo_May : FuncId := 58
theorem F_geo_May : type_of% Tryz.func58 := Tryz.func58
theorem N_geo_May : type_of% Tryz.ntmps58 := Tryz.ntmps58
abbrev f_block_Seal : FuncId := 64
theorem F_block_Seal : type_of% Tryz.func64 := Tryz.func64
theorem N_block_Seal : type_of% Tryz.ntmps64 := Tryz.ntmps64
abbrev f_ref07_Seal : FuncId := 67
theorem F_ref07_Seal : type_of% Tryz.func67 := Tryz.func67
theorem N_ref07_Seal : type_of% Tryz.ntmps67 := Tryz.ntmps67
abbrev f_block_Open : FuncId := 68
theorem F_block_Open : type_of% Tryz.func68 := Tryz.func68
theorem N_block_Open : type_of% Tryz.ntmps68 := Tryz.ntmps68
abbrev f_ref07_Open : FuncId := 70
theorem F_ref07_Open : type_of% Tryz.func70 := Tryz.func70
theorem N_ref07_Open : type_of% Tryz.ntmps70 := Tryz.ntmps70
abbrev f_disk_Disk_Write : FuncId := 72
theorem F_disk_Disk_Write : type_of% Tryz.func72 := Tryz.func72
theorem N_disk_Disk_Write : type_of% Tryz.ntmps72 := Tryz.ntmps72
abbrev f_disk_Disk_Flush : FuncId := 73
theorem F_disk_Disk_Flush : type_of% Tryz.func73 := Tryz.func73
theorem N_disk_Disk_Flush : type_of% Tryz.ntmps73 := Tryz.ntmps73
abbrev f_keep_All : FuncId := 74
theorem F_keep_All : type_of% Tryz.func74 := Tryz.func74
theorem N_keep_All : type_of% Tryz.ntmps74 := Tryz.ntmps74
abbrev f_disk_Disk_may : FuncId := 75
theorem F_disk_Disk_may : type_of% Tryz.func75 := Tryz.func75
theorem N_disk_Disk_may : type_of% Tryz.ntmps75 := Tryz.ntmps75
abbrev f_disk_Disk_rot : FuncId := 76
theorem F_disk_Disk_rot : type_of% Tryz.func76 := Tryz.func76
theorem N_disk_Disk_rot : type_of% Tryz.ntmps76 := Tryz.ntmps76
abbrev f_disk_Disk_blank : FuncId := 77
theorem F_disk_Disk_blank : type_of% Tryz.func77 := Tryz.func77
theorem N_disk_Disk_blank : type_of% Tryz.ntmps77 := Tryz.ntmps77
abbrev f_disk_Disk_lose : FuncId := 78
theorem F_disk_Disk_lose : type_of% Tryz.func78 := Tryz.func78
theorem N_disk_Disk_lose : type_of% Tryz.ntmps78 := Tryz.ntmps78
abbrev f_disk_Disk_drop : FuncId := 79
theorem F_disk_Disk_drop : type_of% Tryz.func79 := Tryz.func79
theorem N_disk_Disk_drop : type_of% Tryz.ntmps79 := Tryz.ntmps79
abbrev f_disk_Disk_miss : FuncId := 80
theorem F_disk_Disk_miss : type_of% Tryz.func80 := Tryz.func80
theorem N_disk_Disk_miss : type_of% Tryz.ntmps80 := Tryz.ntmps80
abbrev f_disk_Disk_Dead : FuncId := 81
theorem F_disk_Disk_Dead : type_of% Tryz.func81 := Tryz.func81
theorem N_disk_Disk_Dead : type_of% Tryz.ntmps81 := Tryz.ntmps81
abbrev f_disk_Disk_Read : FuncId := 82
theorem F_disk_Disk_Read : type_of% Tryz.func82 := Tryz.func82
theorem N_disk_Disk_Read : type_of% Tryz.ntmps82 := Tryz.ntmps82
abbrev f_disk_Disk_crash : FuncId := 83
theorem F_disk_Disk_crash : type_of% Tryz.func83 := Tryz.func83
theorem N_disk_Disk_crash : type_of% Tryz.ntmps83 := Tryz.ntmps83
abbrev f_ring_word : FuncId := 84
theorem F_ring_word : type_of% Tryz.func84 := Tryz.func84
theorem N_ring_word : type_of% Tryz.ntmps84 := Tryz.ntmps84
abbrev f_code_Out_Num : FuncId := 85
theorem F_code_Out_Num : type_of% Tryz.func85 := Tryz.func85
theorem N_code_Out_Num : type_of% Tryz.ntmps85 := Tryz.ntmps85
abbrev f_code_Out_Bytes : FuncId := 86
theorem F_code_Out_Bytes : type_of% Tryz.func86 := Tryz.func86
theorem N_code_Out_Bytes : type_of% Tryz.ntmps86 := Tryz.ntmps86
abbrev f_ring_addr : FuncId := 87
theorem F_ring_addr : type_of% Tryz.func87 := Tryz.func87
theorem N_ring_addr : type_of% Tryz.ntmps87 := Tryz.ntmps87
abbrev f_code_Out_All : FuncId := 88
theorem F_code_Out_All : type_of% Tryz.func88 := Tryz.func88
theorem N_code_Out_All : type_of% Tryz.ntmps88 := Tryz.ntmps88
abbrev f_ref11_word : FuncId := 89
theorem F_ref11_word : type_of% Tryz.func89 := Tryz.func89
theorem N_ref11_word : type_of% Tryz.ntmps89 := Tryz.ntmps89
abbrev f_ref05_Num : FuncId := 90
theorem F_ref05_Num : type_of% Tryz.func90 := Tryz.func90
theorem N_ref05_Num : type_of% Tryz.ntmps90 := Tryz.ntmps90
abbrev f_ref05_Bytes : FuncId := 91
theorem F_ref05_Bytes : type_of% Tryz.func91 := Tryz.func91
theorem N_ref05_Bytes : type_of% Tryz.ntmps91 := Tryz.ntmps91
abbrev f_code_NewIn : FuncId := 92
theorem F_code_NewIn : type_of% Tryz.func92 := Tryz.func92
theorem N_code_NewIn : type_of% Tryz.ntmps92 := Tryz.ntmps92
abbrev f_code_In_Num : FuncId := 93
theorem F_code_In_Num : type_of% Tryz.func93 := Tryz.func93
theorem N_code_In_Num : type_of% Tryz.ntmps93 := Tryz.ntmps93
abbrev f_code_In_Bytes : FuncId := 94
theorem F_code_In_Bytes : type_of% Tryz.func94 := Tryz.func94
theorem N_code_In_Bytes : type_of% Tryz.ntmps94 := Tryz.ntmps94
abbrev f_bytes_Equal : FuncId := 95
theorem F_bytes_Equal : type_of% Tryz.func95 := Tryz.func95
theorem N_bytes_Equal : type_of% Tryz.ntmps95 := Tryz.ntmps95
abbrev f_ref05_GetNum : FuncId := 96
theorem F_ref05_GetNum : type_of% Tryz.func96 := Tryz.func96
theorem N_ref05_GetNum : type_of% Tryz.ntmps96 := Tryz.ntmps96
abbrev f_ref05_GetBytes : FuncId := 97
theorem F_ref05_GetBytes : type_of% Tryz.func97 := Tryz.func97
theorem N_ref05_GetBytes : type_of% Tryz.ntmps97 := Tryz.ntmps97
abbrev f_ring_reader_pieces : FuncId := 98
theorem F_ring_reader_pieces : type_of% Tryz.func98 := Tryz.func98
theorem N_ring_reader_pieces : type_of% Tryz.ntmps98 := Tryz.ntmps98
abbrev f_ref11_clean : FuncId := 99
theorem F_ref11_clean : type_of% Tryz.func99 := Tryz.func99
theorem N_ref11_clean : type_of% Tryz.ntmps99 := Tryz.ntmps99
abbrev f_ref11_fits : FuncId := 100
theorem F_ref11_fits : type_of% Tryz.func100 := Tryz.func100
theorem N_ref11_fits : type_of% Tryz.ntmps100 := Tryz.ntmps100
abbrev f_ref04_Sum : FuncId := 101
theorem F_ref04_Sum : type_of% Tryz.func101 := Tryz.func101
theorem N_ref04_Sum : type_of% Tryz.ntmps101 := Tryz.ntmps101
abbrev f_ref11_grouped : FuncId := 102
theorem F_ref11_grouped : type_of% Tryz.func102 := Tryz.func102
theorem N_ref11_grouped : type_of% Tryz.ntmps102 := Tryz.ntmps102
abbrev f_ring_New_1 : FuncId := 103
theorem F_ring_New_1 : type_of% Tryz.func103 := Tryz.func103
theorem N_ring_New_1 : type_of% Tryz.ntmps103 := Tryz.ntmps103
abbrev f_ring_split : FuncId := 104
theorem F_ring_split : type_of% Tryz.func104 := Tryz.func104
theorem N_ring_split : type_of% Tryz.ntmps104 := Tryz.ntmps104
abbrev f_ring_Ring_put : FuncId := 105
theorem F_ring_Ring_put : type_of% Tryz.func105 := Tryz.func105
theorem N_ring_Ring_put : type_of% Tryz.ntmps105 := Tryz.ntmps105
abbrev f_geo_in : FuncId := 106
theorem F_geo_in : type_of% Tryz.func106 := Tryz.func106
theorem N_geo_in : type_of% Tryz.ntmps106 := Tryz.ntmps106
abbrev f_geo_sectors : FuncId := 107
theorem F_geo_sectors : type_of% Tryz.func107 := Tryz.func107
theorem N_geo_sectors : type_of% Tryz.ntmps107 := Tryz.ntmps107
abbrev f_geo_logged : FuncId := 112
theorem F_geo_logged : type_of% Tryz.func112 := Tryz.func112
theorem N_geo_logged : type_of% Tryz.ntmps112 := Tryz.ntmps112
abbrev f_geo_wide : FuncId := 113
theorem F_geo_wide : type_of% Tryz.func113 := Tryz.func113
theorem N_geo_wide : type_of% Tryz.ntmps113 := Tryz.ntmps113
abbrev f_block_numbers : FuncId := 121
theorem F_block_numbers : type_of% Tryz.func121 := Tryz.func121
theorem N_block_numbers : type_of% Tryz.ntmps121 := Tryz.ntmps121
abbrev f_block_lay : FuncId := 122
theorem F_block_lay : type_of% Tryz.func122 := Tryz.func122
theorem N_block_lay : type_of% Tryz.ntmps122 := Tryz.ntmps122
abbrev f_crc_Seal : FuncId := 123
theorem F_crc_Seal : type_of% Tryz.func123 := Tryz.func123
theorem N_crc_Seal : type_of% Tryz.ntmps123 := Tryz.ntmps123
abbrev f_ref07_numbers : FuncId := 127
theorem F_ref07_numbers : type_of% Tryz.func127 := Tryz.func127
theorem N_ref07_numbers : type_of% Tryz.ntmps127 := Tryz.ntmps127
abbrev f_ref07_word : FuncId := 128
theorem F_ref07_word : type_of% Tryz.func128 := Tryz.func128
theorem N_ref07_word : type_of% Tryz.ntmps128 := Tryz.ntmps128
abbrev f_ref04_Seal : FuncId := 129
theorem F_ref04_Seal : type_of% Tryz.func129 := Tryz.func129
theorem N_ref04_Seal : type_of% Tryz.ntmps129 := Tryz.ntmps129
abbrev f_block_number : FuncId := 130
theorem F_block_number : type_of% Tryz.func130 := Tryz.func130
theorem N_block_number : type_of% Tryz.ntmps130 := Tryz.ntmps130
abbrev f_crc_Whole : FuncId := 131
theorem F_crc_Whole : type_of% Tryz.func131 := Tryz.func131
theorem N_crc_Whole : type_of% Tryz.ntmps131 := Tryz.ntmps131
abbrev f_bytes_Clone : FuncId := 132
theorem F_bytes_Clone : type_of% Tryz.func132 := Tryz.func132
theorem N_bytes_Clone : type_of% Tryz.ntmps132 := Tryz.ntmps132
abbrev f_slices_Clone_byte : FuncId := 136
theorem F_slices_Clone_byte : type_of% Tryz.func136 := Tryz.func136
theorem N_slices_Clone_byte : type_of% Tryz.ntmps136 := Tryz.ntmps136
abbrev f_ref07_read : FuncId := 138
theorem F_ref07_read : type_of% Tryz.func138 := Tryz.func138
theorem N_ref07_read : type_of% Tryz.ntmps138 := Tryz.ntmps138
abbrev f_disk_Disk_has : FuncId := 140
theorem F_disk_Disk_has : type_of% Tryz.func140 := Tryz.func140
theorem N_disk_Disk_has : type_of% Tryz.ntmps140 := Tryz.ntmps140
abbrev f_disk_Disk_lives : FuncId := 141
theorem F_disk_Disk_lives : type_of% Tryz.func141 := Tryz.func141
theorem N_disk_Disk_lives : type_of% Tryz.ntmps141 := Tryz.ntmps141
abbrev f_keep_each : FuncId := 142
theorem F_keep_each : type_of% Tryz.func142 := Tryz.func142
theorem N_keep_each : type_of% Tryz.ntmps142 := Tryz.ntmps142
abbrev f_keep_hand_one : FuncId := 143
theorem F_keep_hand_one : type_of% Tryz.func143 := Tryz.func143
theorem N_keep_hand_one : type_of% Tryz.ntmps143 := Tryz.ntmps143
abbrev f_disk_Disk_settle : FuncId := 144
theorem F_disk_Disk_settle : type_of% Tryz.func144 := Tryz.func144
theorem N_disk_Disk_settle : type_of% Tryz.ntmps144 := Tryz.ntmps144
abbrev f_slices_Clone_int : FuncId := 145
theorem F_slices_Clone_int : type_of% Tryz.func145 := Tryz.func145
theorem N_slices_Clone_int : type_of% Tryz.ntmps145 := Tryz.ntmps145
abbrev f_slices_Backward_disk_write : FuncId := 146
theorem F_slices_Backward_disk_write : type_of% Tryz.func146 := Tryz.func146
theorem N_slices_Backward_disk_write : type_of% Tryz.ntmps146 := Tryz.ntmps146
abbrev f_disk_Disk_done : FuncId := 147
theorem F_disk_Disk_done : type_of% Tryz.func147 := Tryz.func147
theorem N_disk_Disk_done : type_of% Tryz.ntmps147 := Tryz.ntmps147
abbrev f_code_Out_put : FuncId := 148
theorem F_code_Out_put : type_of% Tryz.func148 := Tryz.func148
theorem N_code_Out_put : type_of% Tryz.ntmps148 := Tryz.ntmps148
abbrev f_ref05_digits : FuncId := 149
theorem F_ref05_digits : type_of% Tryz.func149 := Tryz.func149
theorem N_ref05_digits : type_of% Tryz.ntmps149 := Tryz.ntmps149
abbrev f_code_In_num : FuncId := 150
theorem F_code_In_num : type_of% Tryz.func150 := Tryz.func150
theorem N_code_In_num : type_of% Tryz.ntmps150 := Tryz.ntmps150
abbrev f_ref05_run : FuncId := 151
theorem F_ref05_run : type_of% Tryz.func151 := Tryz.func151
theorem N_ref05_run : type_of% Tryz.ntmps151 := Tryz.ntmps151
abbrev f_ref05_halves : FuncId := 152
theorem F_ref05_halves : type_of% Tryz.func152 := Tryz.func152
theorem N_ref05_halves : type_of% Tryz.ntmps152 := Tryz.ntmps152
abbrev f_ring_reader_pieces_1 : FuncId := 153
theorem F_ring_reader_pieces_1 : type_of% Tryz.func153 := Tryz.func153
theorem N_ring_reader_pieces_1 : type_of% Tryz.ntmps153 := Tryz.ntmps153
abbrev f_ring_reader_told : FuncId := 154
theorem F_ring_reader_told : type_of% Tryz.func154 := Tryz.func154
theorem N_ring_reader_told : type_of% Tryz.ntmps154 := Tryz.ntmps154
abbrev f_slices_IndexFunc_api_Piece : FuncId := 155
theorem F_slices_IndexFunc_api_Piece : type_of% Tryz.func155 := Tryz.func155
theorem N_slices_IndexFunc_api_Piece : type_of% Tryz.ntmps155 := Tryz.ntmps155
abbrev f_ring_reader_fits : FuncId := 156
theorem F_ring_reader_fits : type_of% Tryz.func156 := Tryz.func156
theorem N_ring_reader_fits : type_of% Tryz.ntmps156 := Tryz.ntmps156
abbrev f_ring_reader_clean : FuncId := 157
theorem F_ring_reader_clean : type_of% Tryz.func157 := Tryz.func157
theorem N_ring_reader_clean : type_of% Tryz.ntmps157 := Tryz.ntmps157
abbrev f_crc_Sum : FuncId := 158
theorem F_crc_Sum : type_of% Tryz.func158 := Tryz.func158
theorem N_crc_Sum : type_of% Tryz.ntmps158 := Tryz.ntmps158
abbrev f_ref04_differ : FuncId := 159
theorem F_ref04_differ : type_of% Tryz.func159 := Tryz.func159
theorem N_ref04_differ : type_of% Tryz.ntmps159 := Tryz.ntmps159
abbrev f_block_words : FuncId := 168
theorem F_block_words : type_of% Tryz.func168 := Tryz.func168
theorem N_block_words : type_of% Tryz.ntmps168 := Tryz.ntmps168
abbrev f_slices_Concat_byte : FuncId := 169
theorem F_slices_Concat_byte : type_of% Tryz.func169 := Tryz.func169
theorem N_slices_Concat_byte : type_of% Tryz.ntmps169 := Tryz.ntmps169
abbrev f_crc_four : FuncId := 170
theorem F_crc_four : type_of% Tryz.func170 := Tryz.func170
theorem N_crc_four : type_of% Tryz.ntmps170 := Tryz.ntmps170
abbrev f_slices_Equal_byte : FuncId := 175
theorem F_slices_Equal_byte : type_of% Tryz.func175 := Tryz.func175
theorem N_slices_Equal_byte : type_of% Tryz.ntmps175 := Tryz.ntmps175
abbrev f_disk_Disk_Len : FuncId := 180
theorem F_disk_Disk_Len : type_of% Tryz.func180 := Tryz.func180
theorem N_disk_Disk_Len : type_of% Tryz.ntmps180 := Tryz.ntmps180
abbrev f_keep_hand_once : FuncId := 181
theorem F_keep_hand_once : type_of% Tryz.func181 := Tryz.func181
theorem N_keep_hand_once : type_of% Tryz.ntmps181 := Tryz.ntmps181
abbrev f_slices_DeleteFunc_disk_write : FuncId := 182
theorem F_slices_DeleteFunc_disk_write : type_of% Tryz.func182 := Tryz.func182
theorem N_slices_DeleteFunc_disk_write : type_of% Tryz.ntmps182 := Tryz.ntmps182
abbrev f_disk_Disk_settle_1 : FuncId := 183
theorem F_disk_Disk_settle_1 : type_of% Tryz.func183 := Tryz.func183
theorem N_disk_Disk_settle_1 : type_of% Tryz.ntmps183 := Tryz.ntmps183
abbrev f_slices_Backward_disk_write_1 : FuncId := 184
theorem F_slices_Backward_disk_write_1 : type_of% Tryz.func184 := Tryz.func184
theorem N_slices_Backward_disk_write_1 : type_of% Tryz.ntmps184 := Tryz.ntmps184
abbrev f_code_digits : FuncId := 185
theorem F_code_digits : type_of% Tryz.func185 := Tryz.func185
theorem N_code_digits : type_of% Tryz.ntmps185 := Tryz.ntmps185
abbrev f_code_In_look : FuncId := 186
theorem F_code_In_look : type_of% Tryz.func186 := Tryz.func186
theorem N_code_In_look : type_of% Tryz.ntmps186 := Tryz.ntmps186
abbrev f_slices_SortStableFunc_api_Piece : FuncId := 187
theorem F_slices_SortStableFunc_api_Piece : type_of% Tryz.func187 := Tryz.func187
theorem N_slices_SortStableFunc_api_Piece : type_of% Tryz.ntmps187 := Tryz.ntmps187
abbrev f_ring_reader_told_1 : FuncId := 188
theorem F_ring_reader_told_1 : type_of% Tryz.func188 := Tryz.func188
theorem N_ring_reader_told_1 : type_of% Tryz.ntmps188 := Tryz.ntmps188
abbrev f_crc_More : FuncId := 189
theorem F_crc_More : type_of% Tryz.func189 := Tryz.func189
theorem N_crc_More : type_of% Tryz.ntmps189 := Tryz.ntmps189
abbrev f_slices_Grow_byte : FuncId := 196
theorem F_slices_Grow_byte : type_of% Tryz.func196 := Tryz.func196
theorem N_slices_Grow_byte : type_of% Tryz.ntmps196 := Tryz.ntmps196
abbrev f_keep_hand_has : FuncId := 201
theorem F_keep_hand_has : type_of% Tryz.func201 := Tryz.func201
theorem N_keep_hand_has : type_of% Tryz.ntmps201 := Tryz.ntmps201
abbrev f_slices_IndexFunc_disk_write : FuncId := 202
theorem F_slices_IndexFunc_disk_write : type_of% Tryz.func202 := Tryz.func202
theorem N_slices_IndexFunc_disk_write : type_of% Tryz.ntmps202 := Tryz.ntmps202
abbrev f_code_digits_1 : FuncId := 203
theorem F_code_digits_1 : type_of% Tryz.func203 := Tryz.func203
theorem N_code_digits_1 : type_of% Tryz.ntmps203 := Tryz.ntmps203
abbrev f_slices_stableCmpFunc_api_Piece : FuncId := 204
theorem F_slices_stableCmpFunc_api_Piece : type_of% Tryz.func204 := Tryz.func204
theorem N_slices_stableCmpFunc_api_Piece : type_of% Tryz.ntmps204 := Tryz.ntmps204
abbrev f_crc_made : FuncId := 205
theorem F_crc_made : type_of% Tryz.func205 := Tryz.func205
theorem N_crc_made : type_of% Tryz.ntmps205 := Tryz.ntmps205
abbrev f_slices_insertionSortCmpFunc_api_Piece : FuncId := 207
theorem F_slices_insertionSortCmpFunc_api_Piece : type_of% Tryz.func207 := Tryz.func207
theorem N_slices_insertionSortCmpFunc_api_Piece : type_of% Tryz.ntmps207 := Tryz.ntmps207
abbrev t_i64 : TypeId := 3
abbrev t_bool : TypeId := 4
abbrev t_u8 : TypeId := 5
abbrev t_s_u8 : TypeId := 24
abbrev t_api_Errno : TypeId := 27
abbrev t_api_Put : TypeId := 35
abbrev t_p_disk_Disk : TypeId := 46
abbrev t_api_Piece : TypeId := 61
abbrev t_api_Tail : TypeId := 70
abbrev t_api_Block : TypeId := 102
abbrev t_s_disk_write : TypeId := 114
abbrev t_disk_Disk : TypeId := 116
abbrev t_code_Out : TypeId := 118
abbrev t_p_i64 : TypeId := 126
abbrev t_p_ring_reader : TypeId := 134
abbrev t_ring_reader : TypeId := 137
abbrev t_ring_Ring : TypeId := 148
abbrev t_disk_cell : TypeId := 152
abbrev t_disk_write : TypeId := 174
abbrev t_keep_hand : TypeId := 179
abbrev t_p_code_Out : TypeId := 185
abbrev t_code_In : TypeId := 188
abbrev t_crc_steps : TypeId := 241
abbrev t_uint64 : TypeId := 187

end Go.Proofs.YtinfbclgkghgaaaGreat.AL

/- The layer 06 (disk): a device as a plain value; its small functions walked. -/
namespace Go.Proofs.YtinfbclgkghgaaaGreat.AL
open Go Go.Proofs

abbrev u8 (b : UInt8) : PV := .raw (.int .u8 (b.toNat : Int))
abbrev Bytes := List UInt8
def bx (l : Bytes) : List (List PV) := l.map fun b => [u8 b]
abbrev bP (l : Bytes) : PV := .sl 1 (bx l)
abbrev bA (l : Bytes) : AV := .p (bP l)
def ix (l : List Int) : List (List PV) := l.map fun n => [.raw (.int .i64 n)]
abbrev iP (l : List Int) : PV := .sl 1 (ix l)

structure Cell where
  s : Bytes
  lost : Bool
  drop : Int
  miss : List Int
  deriving Inhabited, DecidableEq
def Cell.pv (c : Cell) : List PV := [bP c.s, .raw (.bool c.lost), .raw (.int .i64 c.drop), iP c.miss]
structure Wr where
  at_ : Int
  s : Bytes
  deriving Inhabited, DecidableEq
def Wr.pv (x : Wr) : List PV := [.raw (.int .i64 x.at_), bP x.s]
structure Dev where
  cells : List Cell
  waits : List Wr
  armed : Bool
  dead : Bool
  left : Int
  ops : Int
  deriving DecidableEq

def cx (l : List Cell) : List (List PV) := l.map Cell.pv
def wx (l : List Wr) : List (List PV) := l.map Wr.pv
abbrev devC (D : Dev) (b c : Nat) : ABlk := .cells t_disk_Disk [.msl b 4 0 D.cells.length, .msl c 2 0 D.waits.length, bl D.armed, bl D.dead, i64 D.left, i64 D.ops]
abbrev devH (D : Dev) : List ABlk := [devC D 1 2, .row t_disk_cell 4 (cx D.cells), .row t_disk_write 2 (wx D.waits)]

theorem disk_Len (D : Dev) : AFm Tryz.prog 3 f_disk_Disk_Len [.ref 0 0] (devH D) (Pure (i64 D.cells.length) (devH D)) := by
  refine af_bodyM 3 hT F_disk_Disk_Len rfl rfl N_disk_Disk_Len rfl rfl ?_
  refine aw_seq (aw_region hT ?_)
  refine aw_seq (aw_seq (aw_region hT ?_))
  refine aw_cond ?_
  refine aw_skip ?_
  refine aw_seq (aw_region hT ?_)
  refine aw_ret ?_
  exact retPick [0, 1, 2] ⟨rfl, rfl⟩ rfl

theorem disk_Dead (D : Dev) : AFm Tryz.prog 3 f_disk_Disk_Dead [.ref 0 0] (devH D) (Pure (bl D.dead) (devH D)) := by
  refine af_bodyM 3 hT F_disk_Disk_Dead rfl rfl N_disk_Disk_Dead rfl rfl ?_
  refine aw_seq (aw_region hT ?_)
  refine aw_seq (aw_region hT ?_)
  refine aw_ret ?_
  exact retPick [0, 1, 2] ⟨rfl, rfl⟩ rfl

def Dev.has (D : Dev) (a : Int) : Bool := decide (a ≥ 0) && decide (a < (D.cells.length : Int))

theorem disk_has (D : Dev) (a : Int) : AFm Tryz.prog 3 f_disk_Disk_has [.ref 0 0, i64 a] (devH D) (Pure (bl (D.has a)) (devH D)) := by
  refine af_bodyM 3 hT F_disk_Disk_has rfl rfl N_disk_Disk_has rfl rfl ?_
  refine aw_seq (aw_region hT ?_)
  unfold Dev.has
  refine aw_seq (aw_region hT ?_)
  refine boolI (fun h => ?_) (fun h => ?_)
  · refine callP (af_in [0, 1, 2] (disk_Len D) rfl rfl rfl) ?_
    refine aw_ret ?_
    refine retPick [0, 1, 2] ⟨?_, rfl⟩ rfl
    rw [h]; rfl
  · refine aw_ret ?_
    refine retPick [0, 1, 2] ⟨?_, rfl⟩ rfl
    rw [h]; rfl

/-- A write or a flush is counted; false: it dies. -/
def Dev.lives (D : Dev) : Dev := { D with dead := D.dead || (D.armed && D.left == 0), left := IntKind.i64.wrap (D.left - 1) }

theorem disk_lives (D : Dev) : AFm Tryz.prog 3 f_disk_Disk_lives [.ref 0 0] (devH D) (Pure (bl (!D.lives.dead)) (devH D.lives)) := by
  refine af_bodyM 3 hT F_disk_Disk_lives rfl rfl N_disk_Disk_lives rfl rfl ?_
  refine aw_seq (aw_region hT ?_)
  refine aw_cut ⟨⟨29, [(0, .ref 0 0)]⟩, devH { D with dead := D.dead || (D.armed && D.left == 0) }⟩ True (aw_seq (aw_region hT ?_)) (fun _ => ?_)
  · refine boolI (fun h => ?_) (fun h => ?_)
    · refine aw_cond (boolI (fun h2 => ?_) (fun h2 => ?_))
      · refine aw_region hT ?_
        refine ⟨?_, trivial⟩
        have h2 : (D.left == 0) = true := h2
        rw [h, h2, Bool.true_and, Bool.or_true]
        exact wk_pick [0, 1, 2] [0] rfl
      · refine aw_skip ⟨?_, trivial⟩
        have h2 : (D.left == 0) = false := h2
        rw [h, h2, Bool.true_and, Bool.or_false]
        exact wk_pick [0, 1, 2] [0] rfl
    · refine aw_cond ?_
      refine aw_skip ⟨?_, trivial⟩
      rw [h, Bool.false_and, Bool.or_false]
      exact wk_pick [0, 1, 2] [0] rfl
  · refine aw_seq (aw_region hT ?_)
    refine aw_seq (aw_region hT ?_)
    refine aw_ret ?_
    exact retPick [0, 1, 2] ⟨rfl, rfl⟩ rfl
end Go.Proofs.YtinfbclgkghgaaaGreat.AL

/- The layer 06 (disk): lists are cloned; a write that waits is done; a crash. -/
namespace Go.Proofs.YtinfbclgkghgaaaGreat.AL
open Go Go.Proofs

theorem bx_len (l : Bytes) : (bx l).length = l.length := by simp [bx]
theorem ix_len (l : List Int) : (ix l).length = l.length := by simp [ix]
theorem cx_len (l : List Cell) : (cx l).length = l.length := by simp [cx]
theorem wx_len (l : List Wr) : (wx l).length = l.length := by simp [wx]

theorem clone_u8 (l : Bytes) (hl : l.length ≤ 1000000) : AF Tryz.prog f_slices_Clone_byte [bA l] [] (Pure (bA l) []) := by
  have hb := bx_len l
  generalize hx : bx l = xs at hb
  show AF Tryz.prog f_slices_Clone_byte [.p (.sl 1 (bx l))] [] (Pure (.p (.sl 1 (bx l))) [])
  rw [hx]
  refine af_frz (t := t_u8) (n := xs.length) ?_ rfl
  refine af_body hT F_slices_Clone_byte rfl rfl N_slices_Clone_byte rfl ?_
  refine aw_seq (aw_region hT ?_)
  refine aw_seq (aw_seq (aw_region hT ?_))
  intro b hn
  refine aw_cond (boolI (fun h => ?_) (fun h => ?_))
  · refine aw_seq (aw_region hT ?_)
    refine aw_ret ?_
    rw [hn h]
    exact retNil t_u8 1 ⟨rfl, rfl⟩
  · refine aw_skip ?_
    refine aw_seq (aw_region hT ?_)
    refine ⟨rfl, ⟨?_, ?_⟩, ?_⟩
    · show (0 + xs.length) * 1 ≤ _; omega
    · show 0 + xs.length ≤ _; omega
    refine aw_ret ?_
    exact retPick [1] ⟨rfl, rfl⟩ rfl

theorem clone_i64 (l : List Int) (hl : l.length ≤ 1000000) : AF Tryz.prog f_slices_Clone_int [.p (iP l)] [] (Pure (.msl 0 1 0 l.length) [.row t_i64 1 (ix l)]) := by
  have hb := ix_len l
  rw [← hb]
  show AF Tryz.prog f_slices_Clone_int [.p (.sl 1 (ix l))] [] (Pure (.msl 0 1 0 (ix l).length) [.row t_i64 1 (ix l)])
  generalize ix l = xs at hb
  refine af_body hT F_slices_Clone_int rfl rfl N_slices_Clone_int rfl ?_
  refine aw_seq (aw_region hT ?_)
  refine aw_seq (aw_seq (aw_region hT ?_))
  intro b hn
  refine aw_cond (boolI (fun h => ?_) (fun h => ?_))
  · refine aw_seq (aw_region hT ?_)
    refine aw_ret ?_
    rw [hn h]
    exact retNil t_i64 1 ⟨rfl, rfl⟩
  · refine aw_skip ?_
    refine aw_seq (aw_region hT ?_)
    refine ⟨rfl, ⟨?_, ?_⟩, ?_⟩
    · show (0 + xs.length) * 8 ≤ _; omega
    · show 0 + xs.length ≤ _; omega
    refine aw_ret ?_
    exact retPick [1] ⟨rfl, rfl⟩ rfl

/-- A write is done. -/
def doneL (l : List Cell) (x : Wr) : List Cell := match l[x.at_.toNat]? with
  | some c => l.set x.at_.toNat { c with s := x.s, lost := false }
  | none => l
def Dev.done (D : Dev) (x : Wr) : Dev := { D with cells := doneL D.cells x }
theorem doneL_len (l : List Cell) (x : Wr) : (doneL l x).length = l.length := by unfold doneL; split <;> simp

theorem cx_get {l : List Cell} {i : Nat} {c : Cell} (h : l[i]? = some c) : (cx l)[i]? = some c.pv := by rw [cx, List.getElem?_map, h]; rfl
theorem cx_set (l : List Cell) (i : Nat) (c : Cell) : cx (l.set i c) = (cx l).set i c.pv := by simp [cx, List.map_set]
theorem wx_get {l : List Wr} {i : Nat} {c : Wr} (h : l[i]? = some c) : (wx l)[i]? = some c.pv := by rw [wx, List.getElem?_map, h]; rfl

theorem doneL_some {l : List Cell} {x : Wr} {c : Cell} (h : l[x.at_.toNat]? = some c) : doneL l x = l.set x.at_.toNat { c with s := x.s, lost := false } := by
  unfold doneL; rw [h]

theorem disk_done (D : Dev) (x : Wr) (h0 : 0 ≤ x.at_) (h1 : x.at_.toNat < D.cells.length) : AFm Tryz.prog 3 f_disk_Disk_done [.ref 0 0, .agg [i64 x.at_, bA x.s]] (devH D) (Pure (.tup []) (devH (D.done x))) := by
  have hc := List.getElem?_eq_getElem h1
  generalize D.cells[x.at_.toNat] = c at hc
  have e : (D.done x).cells = D.cells.set x.at_.toNat { c with s := x.s, lost := false } := doneL_some hc
  have el : (D.done x).cells.length = D.cells.length := doneL_len _ _
  have hlt : x.at_ < (D.cells.length : Int) := by omega
  have g1 : (cx D.cells)[0 + x.at_.toNat]? = some c.pv := by rw [Nat.zero_add]; exact cx_get hc
  have g2 : ∀ e, ((cx D.cells).set (0 + x.at_.toNat) e)[0 + x.at_.toNat]? = some e := fun e => by
    rw [Nat.zero_add]; exact List.getElem?_set_self (by rw [cx_len]; exact h1)
  refine af_bodyM 3 hT F_disk_Disk_done rfl rfl N_disk_Disk_done rfl rfl ?_
  refine aw_seq (aw_region hT ?_)
  refine aw_wk (wk_boxL 3 [.raw (.int .i64 x.at_), bP x.s] rfl rfl) ?_
  refine aw_draw [16, 19] [] hT follows_mixed (by rfl) ?_
  refine ⟨⟨h0, hlt⟩, ?_⟩
  refine optI g1 ?_
  refine ⟨⟨h0, hlt⟩, ?_⟩
  refine optI (g2 _) ?_
  refine ⟨rfl, ?_⟩
  refine retPick [0, 1, 2] ⟨rfl, ?_⟩ rfl
  have el' : ((D.done x).cells.length : Int) = D.cells.length := by rw [el]
  show [devC D 1 2, .row t_disk_cell 4 (((cx D.cells).set (0 + x.at_.toNat) _).set (0 + x.at_.toNat) _), .row t_disk_write 2 (wx D.waits)] = [devC (D.done x) 1 2, .row t_disk_cell 4 (cx (D.done x).cells), .row t_disk_write 2 (wx D.waits)]
  rw [show devC (D.done x) 1 2 = devC D 1 2 by unfold devC; rw [el]; rfl, e, cx_set, List.set_set, Nat.zero_add]
  rfl
end Go.Proofs.YtinfbclgkghgaaaGreat.AL

/- The layer 06 (disk): a crash, a flush. -/
namespace Go.Proofs.YtinfbclgkghgaaaGreat.AL
open Go Go.Proofs

def kx (l : List Bool) : List (List PV) := l.map fun b => [.raw (.bool b)]
theorem kx_len (l : List Bool) : (kx l).length = l.length := by simp [kx]

/-- Is the i-th write kept? -/
def kept (keep : List Bool) (i : Nat) : Bool := decide (0 < keep.length) && keep.getD (i % keep.length) false
def crashC (W : List Wr) (keep : List Bool) : Nat → List Cell → List Cell
  | 0, cs => cs
  | i + 1, cs => match kept keep i with
    | true => doneL (crashC W keep i cs) (W.getD i ⟨0, []⟩)
    | false => crashC W keep i cs
theorem crashC_len (W : List Wr) (keep : List Bool) (cs : List Cell) : ∀ i, (crashC W keep i cs).length = cs.length
  | 0 => rfl
  | i + 1 => by
    unfold crashC; split
    · rw [doneL_len, crashC_len W keep cs i]
    · exact crashC_len W keep cs i
/-- What waits is done, as far as it is kept, and forgotten. -/
def Dev.drain (D : Dev) (keep : List Bool) : Dev := { D with cells := crashC D.waits keep D.waits.length D.cells, waits := [] }
def Dev.waitsIn (D : Dev) : Prop := ∀ x ∈ D.waits, 0 ≤ x.at_ ∧ x.at_ < (D.cells.length : Int)

theorem wrap64 (n : Int) (h0 : -9223372036854775808 ≤ n) (h : n ≤ 9223372036854775807) : IntKind.i64.wrap n = n := by
  rw [IntKind.wrap_i64]; omega

theorem disk_crash (D : Dev) (keep : List Bool) (hw : D.waitsIn) (hn : D.waits.length ≤ 1000000) : AFm Tryz.prog 1 f_disk_Disk_crash [.ref 0 0, .p (.sl 1 (kx keep))] (devH D) (Pure (.tup []) (devH (D.drain keep))) := by
  refine af_bodyM 1 hT F_disk_Disk_crash rfl rfl N_disk_Disk_crash rfl rfl ?_
  refine aw_seq (aw_seq (aw_region hT ?_))
  refine aw_block ?_
  refine aw_loopW (fun n s => ∃ (i : Nat) (j : Int) (C : List Cell), n + i = D.waits.length ∧ j = i ∧ C = crashC D.waits keep i D.cells ∧ s = ⟨⟨35, [(0, .ref 0 0), (1, .p (.sl 1 (kx keep))), (9, .msl 2 2 0 D.waits.length), (10, i64 D.waits.length), (11, i64 j)]⟩, devH { D with cells := C }⟩) D.waits.length ⟨⟨35, _⟩, [_, _, _]⟩ (wk_pick [0, 1, 2] [0, 1, 9, 10, 11] rfl) ⟨0, _, _, by omega, rfl, rfl, rfl⟩ ?_
  rintro n s ⟨i, j, C, hni, rfl, hC, rfl⟩
  refine aw_seq (aw_region hT ?_)
  refine aw_seq (aw_cond (boolI (fun h => ?_) (fun h => ?_)))
  · have hi : i < D.waits.length := by
      have := of_decide_eq_true (show decide ((i : Int) < (D.waits.length : Int)) = true from h)
      omega
    have hx := List.getElem?_eq_getElem hi
    have hin := hw _ (List.getElem_mem hi)
    generalize D.waits[i] = x at hx hin
    have hCl : C.length = D.cells.length := by rw [hC, crashC_len]
    refine aw_skip ?_
    refine aw_seq (aw_block (aw_seq (aw_region hT ?_)))
    refine ⟨⟨Int.natCast_nonneg _, of_decide_eq_true h⟩, ?_⟩
    refine optI (show (wx D.waits)[0 + ((i : Nat) : Int).toNat]? = some x.pv by rw [Nat.zero_add, Int.toNat_natCast]; exact wx_get hx) ?_
    refine aw_seq (aw_region hT ?_)
    have out : ∀ b, kept keep i = b → (match b with | true => doneL C x | false => C) = crashC D.waits keep (i + 1) D.cells := fun b hb => by
      have hxd : D.waits.getD i ⟨0, []⟩ = x := by rw [List.getD_eq_getElem?_getD, hx]; rfl
      unfold crashC; rw [hb, hxd, ← hC]
    refine boolI (fun h1 => ?_) (fun h1 => ?_)
    · have h1' : 0 < keep.length := by
        have : ((kx keep).length : Int) > 0 := of_decide_eq_true h1
        rw [kx_len] at this; omega
      have e1 : ((i : Int).tmod ((kx keep).length : Int)) = ((i % keep.length : Nat) : Int) := by
        rw [kx_len, Int.tmod_eq_emod_of_nonneg (Int.natCast_nonneg _)]; exact (Int.natCast_emod i keep.length).symm
      have hlt : i % keep.length < keep.length := Nat.mod_lt _ h1'
      have hk := List.getElem?_eq_getElem hlt
      generalize keep[i % keep.length] = b at hk
      have hkept : kept keep i = b := by
        unfold kept; rw [List.getD_eq_getElem?_getD, hk, decide_eq_true h1']; rfl
      refine chkI (b := decide (((kx keep).length : Int) ≠ 0)) (decide_eq_true (by rw [kx_len]; omega)) ?_
      refine ⟨by rw [e1]; omega, optI (show (kx keep)[((i : Int).tmod ((kx keep).length : Int)).toNat]? = some [.raw (.bool b)] by
        rw [e1, Int.toNat_natCast, kx, List.getElem?_map, hk]; rfl) ?_⟩
      refine aw_cond (boolI (fun hb => ?_) (fun hb => ?_))
      · refine aw_region hT ?_
        refine callP (af_in [0, 1, 2] (disk_done { D with cells := C } x hin.1 (by show x.at_.toNat < C.length; omega)) rfl rfl rfl) ?_
        refine aw_region hT ?_
        refine ⟨n - 1, by omega, _, wk_pick [0, 1, 2] [0, 1, 9, 10, 11] rfl, i + 1, _, doneL C x, by omega, ?_, ?_, rfl⟩
        · rw [wrap64 _ (by omega) (by omega)]; rfl
        · exact (out _ (hkept.trans hb))
      · refine aw_skip ?_
        refine aw_region hT ?_
        refine ⟨n - 1, by omega, _, wk_pick [0, 1, 2] [0, 1, 9, 10, 11] rfl, i + 1, _, C, by omega, ?_, ?_, rfl⟩
        · rw [wrap64 _ (by omega) (by omega)]; rfl
        · exact (out _ (hkept.trans hb))
    · have hk : kept keep i = false := by
        have : ¬ ((kx keep).length : Int) > 0 := of_decide_eq_false h1
        rw [kx_len] at this
        unfold kept; rw [decide_eq_false (by omega)]; rfl
      refine aw_cond ?_
      refine aw_skip ?_
      refine aw_region hT ?_
      refine ⟨n - 1, by omega, _, wk_pick [0, 1, 2] [0, 1, 9, 10, 11] rfl, i + 1, _, C, by omega, ?_, ?_, rfl⟩
      · rw [wrap64 _ (by omega) (by omega)]; rfl
      · exact (out _ hk)
  · refine aw_exit ?_
    refine aw_region hT ?_
    have hi : i = D.waits.length := by
      have : ¬ ((i : Int) < (D.waits.length : Int)) := of_decide_eq_false h
      omega
    refine ⟨_, _, Wk.trans (wk_phantom t_disk_write 2) (Wk.trans (wk_cells 0 [.msl 1 4 0 C.length, .msl 3 2 0 0, bl D.armed, bl D.dead, i64 D.left, i64 D.ops] rfl ⟨.inl rfl, .inr (.inr (.inl ⟨3, 2, 0, rfl, rfl⟩)), .inl rfl, .inl rfl, .inl rfl, .inl rfl, trivial⟩) (wk_pick [0, 1, 3] [0] rfl)), rfl, ?_⟩
    rw [hC, hi]
    rfl
end Go.Proofs.YtinfbclgkghgaaaGreat.AL

/- The layer 06 (disk): a flush, a crash that is asked for, a write. -/
namespace Go.Proofs.YtinfbclgkghgaaaGreat.AL
open Go Go.Proofs

def Dev.flush (D : Dev) : Int × Dev := match D.dead with
  | true => (21, D)
  | false => match D.lives.dead with
    | true => (21, D.lives)
    | false => (0, D.lives.drain [true])

theorem not_not {b c : Bool} (h : (!(!b)) = c) : b = c := by rw [Bool.not_not] at h; exact h

theorem disk_Flush (D : Dev) (hw : D.waitsIn) (hn : D.waits.length ≤ 1000000) : AFm Tryz.prog 1 f_disk_Disk_Flush [.ref 0 0] (devH D) (Pure (i64 D.flush.1) (devH D.flush.2)) := by
  refine af_bodyM 1 hT F_disk_Disk_Flush rfl rfl N_disk_Disk_Flush rfl rfl ?_
  refine aw_seq (aw_region hT ?_)
  refine aw_seq (aw_seq (aw_region hT ?_))
  refine callP (af_in [0, 1, 2] (disk_Dead D) rfl rfl rfl) ?_
  refine boolI (fun h => ?_) (fun h => ?_)
  · refine aw_cond ?_
    refine aw_seq (aw_region hT ?_)
    refine aw_ret ?_
    have e : D.flush = (21, D) := by unfold Dev.flush; rw [h]
    rw [e]
    exact retPick [0, 1, 2] ⟨rfl, rfl⟩ rfl
  · refine callP (af_in [0, 1, 2] (disk_lives D) rfl rfl rfl) ?_
    refine aw_cond (boolI (fun h1 => ?_) (fun h1 => ?_))
    · have e : D.flush = (21, D.lives) := by unfold Dev.flush; rw [h, not_not h1]
      refine aw_seq (aw_region hT ?_)
      refine aw_ret ?_
      rw [e]
      exact retPick [0, 1, 2] ⟨rfl, rfl⟩ rfl
    · have e : D.flush = (0, D.lives.drain [true]) := by unfold Dev.flush; rw [h, not_not h1]
      refine aw_skip ?_
      refine aw_seq (aw_regionF (fun k => Nat.beq 1 k) hT ?_)
      refine ⟨⟨rfl, rfl⟩, ?_⟩
      refine callP (af_in [0, 1, 2] (disk_crash D.lives [true] hw hn) rfl rfl rfl) ?_
      refine aw_seq (aw_region hT ?_)
      refine aw_ret ?_
      rw [e]
      exact retPick [0, 3, 4] ⟨rfl, rfl⟩ rfl

def Dev.crashed (D : Dev) (keep : List Bool) : Dev := { D.drain keep with dead := false, armed := false }
theorem devH_set (D : Dev) (i : Nat) (c : Cell) : devH { D with cells := D.cells.set i c } = [devC D 1 2, .row t_disk_cell 4 ((cx D.cells).set (0 + i) c.pv), .row t_disk_write 2 (wx D.waits)] := by
  unfold devH devC; rw [Nat.zero_add, ← cx_set, List.length_set]

theorem wx_put (l : List Wr) (x : Wr) : wx (l ++ [x]) = wx l ++ [x.pv] := by simp [wx]
theorem devH_put (D : Dev) (x : Wr) : devH { D with waits := D.waits ++ [x] } = [.cells t_disk_Disk [.msl 1 4 0 D.cells.length, .msl 2 2 0 (wx D.waits ++ [x.pv]).length, bl D.armed, bl D.dead, i64 D.left, i64 D.ops], .row t_disk_cell 4 (cx D.cells), .row t_disk_write 2 (wx D.waits ++ [x.pv])] := by
  unfold devH devC; rw [← wx_put, wx_len]

/-- A write: how it is answered, and what waits. -/
def Dev.put (D : Dev) (a : Int) (s : Bytes) : Dev := match D.cells[a.toNat]? with
  | none => D
  | some c => match decide (c.drop > 0) with
    | true => { D with cells := D.cells.set a.toNat { c with drop := IntKind.i64.wrap (c.drop - 1) } }
    | false => match c.miss with
      | [] => { D with waits := D.waits ++ [⟨a, s⟩] }
      | t :: r => { D with cells := D.cells.set a.toNat { c with miss := r }, waits := D.waits ++ [⟨t, s⟩] }
def Dev.count (D : Dev) : Dev := { D with ops := IntKind.i64.wrap (D.ops + 1) }
def Dev.write (D : Dev) (a : Int) (s : Bytes) : Int × Dev := match D.dead with
  | true => (21, D)
  | false => match D.has a with
    | false => (3, D)
    | true => match ((s.length : Int) != 256) with
      | true => (1, D)
      | false => match D.lives.dead with
        | true => (21, D.lives)
        | false => (0, D.lives.count.put a s)

theorem put_drop {D : Dev} {a : Int} {s c1 : Bytes} {c2 : Bool} {c3 : Int} {c4 : List Int} (hc : D.cells[a.toNat]? = some ⟨c1, c2, c3, c4⟩) (h : decide (c3 > 0) = true) :
    D.put a s = { D with cells := D.cells.set a.toNat ⟨c1, c2, IntKind.i64.wrap (c3 - 1), c4⟩ } := by
  unfold Dev.put; rw [hc]; simp only [h]
theorem put_miss {D : Dev} {a : Int} {s c1 : Bytes} {c2 : Bool} {c3 t : Int} {r : List Int} (hc : D.cells[a.toNat]? = some ⟨c1, c2, c3, t :: r⟩) (h : decide (c3 > 0) = false) :
    D.put a s = { D with cells := D.cells.set a.toNat ⟨c1, c2, c3, r⟩, waits := D.waits ++ [⟨t, s⟩] } := by
  unfold Dev.put; rw [hc]; simp only [h]
theorem put_plain {D : Dev} {a : Int} {s c1 : Bytes} {c2 : Bool} {c3 : Int} (hc : D.cells[a.toNat]? = some ⟨c1, c2, c3, []⟩) (h : decide (c3 > 0) = false) :
    D.put a s = { D with waits := D.waits ++ [⟨a, s⟩] } := by
  unfold Dev.put; rw [hc]; simp only [h]

theorem disk_Write (D : Dev) (a : Int) (s : Bytes) (hn : D.waits.length ≤ 1000000) : AFm Tryz.prog 1 f_disk_Disk_Write [.ref 0 0, i64 a, bA s] (devH D) (Pure (i64 (D.write a s).1) (devH (D.write a s).2)) := by
  refine af_bodyM 1 hT F_disk_Disk_Write rfl rfl N_disk_Disk_Write rfl rfl ?_
  refine aw_seq (aw_region hT ?_)
  refine aw_cut ⟨⟨84, [(0, .ref 0 0), (1, i64 a), (2, bA s)]⟩, devH D.lives⟩ (D.dead = false ∧ D.has a = true ∧ s.length = 256 ∧ D.lives.dead = false) (aw_block (aw_seq (aw_region hT ?_))) ?_
  · refine callP (af_in [0, 1, 2] (disk_Dead D) rfl rfl rfl) ?_
    refine aw_cond (boolI (fun h => ?_) (fun h => ?_))
    · have e : D.write a s = (21, D) := by unfold Dev.write; rw [h]
      refine aw_seq (aw_region hT ?_)
      refine aw_ret ?_
      rw [e]
      exact retPick [0, 1, 2] ⟨rfl, rfl⟩ rfl
    refine aw_seq (aw_region hT ?_)
    refine callP (af_in [0, 1, 2] (disk_has D a) rfl rfl rfl) ?_
    refine aw_cond (boolI (fun h1 => ?_) (fun h1 => ?_))
    · have h1 : (!(D.has a)) = true := h1
      have e : D.write a s = (3, D) := by unfold Dev.write; rw [h, (Bool.not_eq_true' _).mp h1]
      refine aw_seq (aw_region hT ?_)
      refine aw_ret ?_
      rw [e]
      exact retPick [0, 1, 2] ⟨rfl, rfl⟩ rfl
    have h1 : D.has a = true := (Bool.not_eq_false' _).mp h1
    refine aw_seq (aw_region hT ?_)
    refine aw_cond (boolI (fun h2 => ?_) (fun h2 => ?_))
    · have e : D.write a s = (1, D) := by
        have h2 : (((bx s).length : Int) != 256) = true := h2
        rw [bx_len] at h2
        unfold Dev.write; rw [h, h1, h2]
      refine aw_seq (aw_region hT ?_)
      refine aw_ret ?_
      rw [e]
      exact retPick [0, 1, 2] ⟨rfl, rfl⟩ rfl
    have h2 : ((s.length : Int) != 256) = false := by
      have h2 : (((bx s).length : Int) != 256) = false := h2
      rw [bx_len] at h2; exact h2
    refine aw_seq (aw_region hT ?_)
    refine callP (af_in [0, 1, 2] (disk_lives D) rfl rfl rfl) ?_
    refine aw_cond (boolI (fun h3 => ?_) (fun h3 => ?_))
    · have e : D.write a s = (21, D.lives) := by unfold Dev.write; rw [h, h1, h2, not_not h3]
      refine aw_seq (aw_region hT ?_)
      refine aw_ret ?_
      rw [e]
      exact retPick [0, 1, 2] ⟨rfl, rfl⟩ rfl
    refine aw_skip ⟨wk_pick [0, 1, 2] [0, 1, 2] rfl, h, h1, ?_, not_not h3⟩
    have : (s.length : Int) = 256 := by simpa using h2
    omega
  · rintro ⟨h, h1, h2, h3⟩
    have e : D.write a s = (0, D.lives.count.put a s) := by
      unfold Dev.write; rw [h, h1, show ((s.length : Int) != 256) = false by rw [h2]; rfl, h3]
    rw [e]
    have hlt : a.toNat < D.cells.length ∧ 0 ≤ a ∧ a < (D.cells.length : Int) := by
      have h1 : (decide (a ≥ 0) && decide (a < (D.cells.length : Int))) = true := h1
      rw [Bool.and_eq_true, decide_eq_true_eq, decide_eq_true_eq] at h1
      omega
    have hc := List.getElem?_eq_getElem hlt.1
    generalize D.cells[a.toNat] = c at hc
    obtain ⟨c1, c2, c3, c4⟩ := c
    have g1 : (cx D.cells)[0 + a.toNat]? = some (Cell.pv ⟨c1, c2, c3, c4⟩) := by rw [Nat.zero_add]; exact cx_get hc
    have g2 : ∀ e, ((cx D.cells).set (0 + a.toNat) e)[0 + a.toNat]? = some e := fun e => by
      rw [Nat.zero_add]; exact List.getElem?_set_self (by rw [cx_len]; exact hlt.1)
    refine aw_seq (aw_region hT ?_)
    refine aw_seq (aw_region hT ?_)
    refine ⟨⟨hlt.2.1, hlt.2.2⟩, ?_⟩
    refine aw_cut2 (fun s1 => ∃ C b, s1 = ⟨⟨84, [(0, .ref 0 0), (1, i64 b), (2, bA s)]⟩, devH { D.lives.count with cells := C }⟩ ∧ D.lives.count.put a s = { D.lives.count with cells := C, waits := D.waits ++ [⟨b, s⟩] }) (aw_block (aw_seq (aw_region hT ?_))) ?_
    · refine optI g1 ?_
      refine aw_cond (boolI (fun h4 => ?_) (fun h4 => ?_))
      · have h4 : decide (c3 > 0) = true := h4
        have ep : D.lives.count.put a s = { D.lives.count with cells := D.cells.set a.toNat ⟨c1, c2, IntKind.i64.wrap (c3 - 1), c4⟩ } := put_drop (D := D.lives.count) hc h4
        refine aw_seq (aw_region hT ?_)
        refine optI g1 ?_
        refine optI g1 ?_
        refine aw_seq (aw_region hT ?_)
        refine aw_ret ?_
        rw [ep]
        exact retPick [0, 1, 2] ⟨rfl, (devH_set D.lives.count a.toNat ⟨c1, c2, IntKind.i64.wrap (c3 - 1), c4⟩).symm⟩ rfl
      · have h4 : decide (c3 > 0) = false := h4
        refine aw_seq (aw_region hT ?_)
        refine optI g1 ?_
        refine aw_cond (boolI (fun h5 => ?_) (fun h5 => ?_))
        · cases c4 with
          | nil => cases h5
          | cons t r =>
            have ep : D.lives.count.put a s = { D.lives.count with cells := D.cells.set a.toNat ⟨c1, c2, c3, r⟩, waits := D.waits ++ [⟨t, s⟩] } := put_miss (D := D.lives.count) hc h4
            refine aw_draw [15] [] hT follows_mixed (by rfl) ?_
            refine optI g1 ?_
            refine ⟨Int.le_refl _, optI rfl ?_⟩
            refine optI g1 ?_
            refine ⟨⟨by omega, by rw [ix_len]; simp; omega, Int.le_refl _⟩, ?_⟩
            refine optI g1 ?_
            refine ⟨_, wk_pick [0, 1, 2] [0, 1, 2] rfl, D.cells.set a.toNat ⟨c1, c2, c3, r⟩, t, ?_, ep⟩
            refine congrArg (St.mk _) ?_
            refine Eq.trans ?_ (devH_set D.lives.count a.toNat ⟨c1, c2, c3, r⟩).symm
            show [_, ABlk.row t_disk_cell 4 ((cx D.cells).set (0 + a.toNat) [bP c1, .raw (.bool c2), .raw (.int .i64 c3), .sl 1 ((ix r).take (ix r).length)]), _] = _
            rw [List.take_length]
            rfl
        · have h5 : ¬ ((ix c4).length : Int) > 0 := of_decide_eq_false h5
          have hc4 : c4 = [] := by cases c4 with | nil => rfl | cons t r => exact absurd (show ((ix (t :: r)).length : Int) > 0 by rw [ix_len]; simp) h5
          subst hc4
          refine aw_skip ⟨_, wk_pick [0, 1, 2] [0, 1, 2] rfl, D.cells, a, rfl, put_plain (D := D.lives.count) hc h4⟩
    · rintro _ ⟨C, b, rfl, ep⟩
      rw [ep]
      refine aw_seq ?_
      refine aw_draw [9, 10, 13] [] hT follows_mixed (by rfl) ?_
      refine ⟨_, af_at (clone_u8 s (by omega)) _ rfl rfl, ?_⟩
      refine ⟨wx_len _, ⟨?_, ?_⟩, ?_⟩
      · show ((wx D.waits).length + 1) * 32 ≤ 140737488355328
        rw [wx_len]; omega
      · show (wx D.waits).length + 1 ≤ 140737488355328
        rw [wx_len]; omega
      refine ⟨rfl, ?_⟩
      refine aw_seq (aw_region hT ?_)
      refine aw_ret ?_
      exact retPick [0, 1, 4] ⟨rfl, (devH_put { D.lives.count with cells := C } ⟨b, s⟩).symm⟩ rfl
end Go.Proofs.YtinfbclgkghgaaaGreat.AL

/- The layer 06 (disk): a new device. -/
namespace Go.Proofs.YtinfbclgkghgaaaGreat.AL
open Go Go.Proofs

def zeros : Bytes := List.replicate 256 0
abbrev cell0 : Cell := ⟨[], false, 0, []⟩
abbrev cell1 : Cell := ⟨zeros, false, 0, []⟩
def Dev.new (n : Nat) : Dev := ⟨List.replicate n cell1, [], false, false, 0, 0⟩
def newL (n i : Nat) : List Cell := List.replicate i cell1 ++ List.replicate (n - i) cell0

theorem newL_len {n i : Nat} (h : i ≤ n) : (newL n i).length = n := by simp [newL]; omega
theorem newL_get {n i : Nat} (h : i < n) : (newL n i)[i]? = some cell0 := by
  unfold newL; rw [List.getElem?_append_right (by simp)]
  rw [List.length_replicate, Nat.sub_self, show n - i = (n - i - 1) + 1 by omega]; rfl
theorem newL_set {n i : Nat} (h : i < n) : (newL n i).set i cell1 = newL n (i + 1) := by
  unfold newL
  rw [List.set_append_right _ _ (by simp), List.length_replicate, Nat.sub_self, show n - i = (n - (i + 1)) + 1 by omega, List.replicate_succ, List.replicate_succ']
  simp

theorem disk_New (n : Nat) (h1 : 1 ≤ n) (h2 : n ≤ 4096) : AF Tryz.prog f_disk_New [i64 n] [] (Pure (.tup [.ref 0 0, i64 0]) (devH (Dev.new n))) := by
  refine af_body hT F_disk_New rfl rfl N_disk_New rfl ?_
  refine aw_seq (aw_region hT ?_)
  refine aw_seq (aw_seq (aw_region hT ?_))
  refine boolI (fun h1 => ?_) (fun h1 => ?_)
  · have := of_decide_eq_true h1
    omega
  refine aw_cond (boolI (fun h2 => ?_) (fun h2 => ?_))
  · have h2 : decide ((n : Int) > 4096) = true := h2
    have := of_decide_eq_true h2
    omega
  refine aw_skip ?_
  refine aw_seq (aw_region hT ?_)
  refine ⟨⟨rfl, by omega, (show ((n : Nat) : Int) * 64 ≤ 140737488355328 by omega), by omega⟩, ?_⟩
  refine aw_wk (Wk.trans (wk_row 0 (cx (newL n 0)) rfl ?_ ?_) (Wk.trans (wk_phantom t_disk_write 2) (Wk.trans (wk_cells 1 [.msl 0 4 0 n, .msl 2 2 0 0, bl false, bl false, i64 0, i64 0] rfl ⟨.inl rfl, .inr (.inr (.inl ⟨2, 2, 0, rfl, rfl⟩)), .inl rfl, .inl rfl, .inl rfl, .inl rfl, trivial⟩) (wk_pick [1, 0, 2] [4] rfl)))) ?_
  · show (cx (newL n 0)).length = (List.replicate ((n : Int).toNat) _).length
    rw [cx_len, newL_len (Nat.zero_le n), List.length_replicate]; omega
  · intro j e2 hj
    have hx : cx (newL n 0) = List.replicate n cell0.pv := by simp [cx, newL]
    rw [hx] at hj
    have hjn : j < n := by have := (List.getElem?_eq_some_iff.1 hj).1; simpa using this
    have : e2 = cell0.pv := by
      rw [List.getElem?_replicate, if_pos hjn] at hj
      exact (Option.some.inj hj).symm
    subst this
    refine ⟨[.raw (.slice none 0 0), .raw (.bool false), .raw (.int .i64 0), .raw (.slice none 0 0)], ?_, rfl, ?_⟩
    · show (List.replicate ((n : Int).toNat) _)[j]? = _
      rw [List.getElem?_replicate, if_pos (by omega)]; rfl
    · intro i u2 hu
      match i, hu with
      | 0, hu => exact ⟨_, rfl, .inr ⟨1, rfl, (Option.some.inj hu).symm⟩⟩
      | 1, hu => exact ⟨_, rfl, .inl (Option.some.inj hu).symm⟩
      | 2, hu => exact ⟨_, rfl, .inl (Option.some.inj hu).symm⟩
      | 3, hu => exact ⟨_, rfl, .inr ⟨1, rfl, (Option.some.inj hu).symm⟩⟩
  refine aw_seq (aw_seq (aw_region hT ?_))
  refine aw_block ?_
  refine aw_loopW (fun r s => ∃ (i : Nat) (j : Int) (C : List Cell), r + i = n ∧ j = i ∧ C = newL n i ∧ s = ⟨⟨34, [(4, .ref 0 0), (20, i64 (n : Nat)), (21, i64 j)]⟩, [.cells t_disk_Disk [.msl 1 4 0 n, .msl 2 2 0 0, bl false, bl false, i64 0, i64 0], .row t_disk_cell 4 (cx C), .row t_disk_write 2 []]⟩) n ⟨⟨34, _⟩, [_, _, _]⟩ (wk_pick [0, 1, 2] [4, 20, 21] rfl) ⟨0, _, _, rfl, rfl, rfl, rfl⟩ ?_
  rintro r s ⟨i, j, C, hr, rfl, hC, rfl⟩
  refine aw_seq (aw_region hT ?_)
  refine aw_seq (aw_cond (boolI (fun h => ?_) (fun h => ?_)))
  · refine aw_skip ?_
    have hi : i < n := by simpa using h
    refine aw_seq (aw_block (aw_seq (aw_region hT ?_)))
    refine aw_draw [5, 8] [5] hT follows_mixed (by rfl) ?_
    have hg : (cx C)[0 + ((i : Nat) : Int).toNat]? = some cell0.pv := by
      rw [hC, Int.toNat_natCast, Nat.zero_add]; exact cx_get (newL_get hi)
    refine ⟨⟨rfl, by omega, by decide, by omega⟩, ?_⟩
    refine ⟨⟨rfl, List.length_replicate.symm⟩, ?_⟩
    refine ⟨⟨Int.natCast_nonneg _, by omega⟩, ?_⟩
    refine optI hg ?_
    refine chkI rfl (optI rfl ?_)
    refine ⟨rfl, ?_⟩
    refine aw_region hT ?_
    refine ⟨n - (i + 1), by omega, _, wk_pick [0, 1, 2] [4, 20, 21] rfl, i + 1, IntKind.i64.wrap ((i : Int) + 1), newL n (i + 1), by omega, ?_, rfl, ?_⟩
    · rw [wrap64 _ (by omega) (by omega)]; rfl
    · refine congrArg (St.mk _) ?_
      have e : cx (newL n (i + 1)) = (cx C).set (0 + ((i : Nat) : Int).toNat) cell1.pv := by
        rw [← newL_set hi, ← hC, cx_set, Int.toNat_natCast, Nat.zero_add]
      rw [e]
      refine congrArg (fun z => [_, ABlk.row t_disk_cell 4 ((cx C).set (0 + ((i : Nat) : Int).toNat) [.sl 1 z, _, _, _]), _]) ?_
      show List.replicate 256 [PV.raw (.int .u8 0)] = bx (List.replicate 256 0)
      rw [bx, List.map_replicate]; rfl
  · refine aw_exit ?_
    refine aw_seq (aw_region hT ?_)
    refine aw_ret ?_
    have hi : i = n := by
      have : ¬ i < n := by simpa using h
      omega
    have hx : C = List.replicate n cell1 := by rw [hC, hi]; simp [newL]
    refine retPick [0, 1, 2] ⟨rfl, ?_⟩ rfl
    rw [hx]
    unfold devH devC Dev.new
    rw [List.length_replicate]
    rfl
end Go.Proofs.YtinfbclgkghgaaaGreat.AL
