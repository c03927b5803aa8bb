/-
  An own logic of abstract values and what is proved with it: the bench texts TT, S1, P1, P2, P3.
-/
import Derived.Test.YtepgbdpkaogfcaaGreatDoorA6
import Derived.Test.YtepgbdpkaogfcaaGreatDoorProg
open Go Go.V Go.Proofs
namespace Go.V
set_option maxRecDepth 100000
def TT0 : Tree := (.node (.node (.node (.node (.node (.node (.node (.node (.node .leaf 1 ⟨1, 8, .func, [.nilfn]⟩ .leaf) 2 ⟨1, 8, (.int .i64), [(.int .i64 0)]⟩ .leaf) 3 ⟨1, 8, (.int .i64), [(.int .i64 0)]⟩ (.node .leaf 4 ⟨1, 1, .bool, [.ff]⟩ .leaf)) 5 ⟨1, 1, (.int .u8), [(.int .u8 0)]⟩ (.node (.node .leaf 6 ⟨1, 1, (.int .u8), [(.int .u8 0)]⟩ .leaf) 7 ⟨4, 24, (.struct [(0, 1), (1, 1), (2, 1), (3, 1)]), [(.int .i64 0), (.int .i64 0), .ff, (.int .u8 0)]⟩ (.node .leaf 8 ⟨4, 24, (.struct [(0, 1), (1, 1), (2, 1), (3, 1)]), [(.int .i64 0), (.int .i64 0), .ff, (.int .u8 0)]⟩ .leaf))) 9 ⟨1, 16, .str, [(.str [])]⟩ (.node (.node (.node (.node .leaf 10 ⟨1, 16, .str, [(.str [])]⟩ .leaf) 11 ⟨1, 16, .str, [(.str [])]⟩ .leaf) 12 ⟨1, 8, (.int .u64), [(.int .u64 0)]⟩ (.node .leaf 13 ⟨2, 24, (.struct [(0, 1), (1, 1)]), [(.str []), (.int .u64 0)]⟩ .leaf)) 14 ⟨2, 24, (.struct [(0, 1), (1, 1)]), [(.str []), (.int .u64 0)]⟩ (.node (.node .leaf 15 ⟨1, 8, .ptr, [.nilp]⟩ .leaf) 16 ⟨1, 8, .ptr, [.nilp]⟩ (.node .leaf 17 ⟨1, 8, .ptr, [.nilp]⟩ .leaf)))) 18 ⟨1, 8, (.struct [(0, 1)]), [.nilp]⟩ (.node (.node (.node (.node (.node .leaf 19 ⟨1, 8, (.struct [(0, 1)]), [.nilp]⟩ .leaf) 21 ⟨1, 4, (.int .i32), [(.int .i32 0)]⟩ .leaf) 22 ⟨1, 8, .ptr, [.nilp]⟩ (.node .leaf 23 ⟨1, 8, .func, [.nilfn]⟩ .leaf)) 24 ⟨1, 24, (.slice 9), [.nils]⟩ (.node (.node .leaf 25 ⟨5, 40, (.struct [(0, 1), (1, 1), (2, 1), (3, 1), (4, 1)]), [.ff, .ff, .nils, .ff, .ff]⟩ .leaf) 26 ⟨5, 40, (.struct [(0, 1), (1, 1), (2, 1), (3, 1), (4, 1)]), [.ff, .ff, .nils, .ff, .ff]⟩ (.node .leaf 27 ⟨1, 8, (.int .i64), [(.int .i64 0)]⟩ .leaf))) 29 ⟨1, 8, .func, [.nilfn]⟩ (.node (.node (.node .leaf 30 ⟨1, 24, (.slice 97), [.nils]⟩ .leaf) 31 ⟨8, 112, (.struct [(0, 1), (1, 1), (2, 1), (3, 1), (4, 1), (5, 1), (6, 1), (7, 1)]), [.ff, .ff, .nils, .nils, .nils, .nils, .ff, .ff]⟩ (.node .leaf 32 ⟨8, 112, (.struct [(0, 1), (1, 1), (2, 1), (3, 1), (4, 1), (5, 1), (6, 1), (7, 1)]), [.ff, .ff, .nils, .nils, .nils, .nils, .ff, .ff]⟩ .leaf)) 33 ⟨10, 144, (.struct [(0, 1), (1, 1), (2, 8)]), [(.int .i64 0), .nils, .ff, .ff, .nils, .nils, .nils, .nils, .ff, .ff]⟩ (.node (.node .leaf 34 ⟨10, 144, (.struct [(0, 1), (1, 1), (2, 8)]), [(.int .i64 0), .nils, .ff, .ff, .nils, .nils, .nils, .nils, .ff, .ff]⟩ .leaf) 35 ⟨31, 448, (.struct [(0, 1), (1, 10), (11, 10), (21, 10)]), [(.str []), (.int .i64 0), .nils, .ff, .ff, .nils, .nils, .nils, .nils, .ff, .ff, (.int .i64 0), .nils, .ff, .ff, .nils, .nils, .nils, .nils, .ff, .ff, (.int .i64 0), .nils, .ff, .ff, .nils, .nils, .nils, .nils, .ff, .ff]⟩ (.node .leaf 36 ⟨31, 448, (.struct [(0, 1), (1, 10), (11, 10), (21, 10)]), [(.str []), (.int .i64 0), .nils, .ff, .ff, .nils, .nils, .nils, .nils, .ff, .ff, (.int .i64 0), .nils, .ff, .ff, .nils, .nils, .nils, .nils, .ff, .ff, (.int .i64 0), .nils, .ff, .ff, .nils, .nils, .nils, .nils, .ff, .ff]⟩ .leaf))))) 38 ⟨1, 8, .func, [.nilfn]⟩ (.node (.node (.node (.node (.node (.node .leaf 39 ⟨1, 8, .func, [.nilfn]⟩ .leaf) 40 ⟨1, 8, .func, [.nilfn]⟩ .leaf) 41 ⟨1, 8, .func, [.nilfn]⟩ (.node .leaf 42 ⟨1, 8, .func, [.nilfn]⟩ .leaf)) 43 ⟨1, 8, (.map 3 83), [.nilm]⟩ (.node (.node .leaf 44 ⟨1, 24, (.slice 36), [.nils]⟩ .leaf) 48 ⟨1, 8, (.struct [(0, 0), (0, 0), (0, 1)]), [(.int .i64 0)]⟩ (.node .leaf 49 ⟨1, 8, (.struct [(0, 0), (0, 0), (0, 1)]), [(.int .i64 0)]⟩ .leaf))) 51 ⟨1, 4, (.int .u32), [(.int .u32 0)]⟩ (.node (.node (.node (.node .leaf 52 ⟨1, 4, (.struct [(0, 0), (0, 1)]), [(.int .u32 0)]⟩ .leaf) 53 ⟨1, 4, (.struct [(0, 0), (0, 1)]), [(.int .u32 0)]⟩ .leaf) 54 ⟨2, 8, (.struct [(0, 1), (1, 1)]), [(.int .i32 0), (.int .u32 0)]⟩ (.node .leaf 55 ⟨2, 8, (.struct [(0, 1), (1, 1)]), [(.int .i32 0), (.int .u32 0)]⟩ .leaf)) 56 ⟨2, 8, (.struct [(0, 0), (0, 2)]), [(.int .i32 0), (.int .u32 0)]⟩ (.node (.node .leaf 57 ⟨2, 8, (.struct [(0, 0), (0, 2)]), [(.int .i32 0), (.int .u32 0)]⟩ .leaf) 58 ⟨3, 12, (.struct [(0, 0), (0, 1), (1, 2)]), [(.int .u32 0), (.int .i32 0), (.int .u32 0)]⟩ (.node .leaf 59 ⟨3, 12, (.struct [(0, 0), (0, 1), (1, 2)]), [(.int .u32 0), (.int .i32 0), (.int .u32 0)]⟩ .leaf)))) 60 ⟨13, 104, (.struct [(0, 5), (5, 1), (6, 1), (7, 1), (8, 3), (11, 1), (12, 1)]), [.ff, .ff, .nils, .ff, .ff, .nils, .nilm, (.int .i64 0), (.int .u32 0), (.int .i32 0), (.int .u32 0), .ff, (.int .i64 0)]⟩ (.node (.node (.node (.node (.node .leaf 61 ⟨13, 104, (.struct [(0, 5), (5, 1), (6, 1), (7, 1), (8, 3), (11, 1), (12, 1)]), [.ff, .ff, .nils, .ff, .ff, .nils, .nilm, (.int .i64 0), (.int .u32 0), (.int .i32 0), (.int .u32 0), .ff, (.int .i64 0)]⟩ .leaf) 62 ⟨1, 8, .func, [.nilfn]⟩ .leaf) 63 ⟨1, 8, .func, [.nilfn]⟩ (.node .leaf 64 ⟨1, 8, .func, [.nilfn]⟩ .leaf)) 65 ⟨1, 8, .func, [.nilfn]⟩ (.node (.node .leaf 66 ⟨1, 8, .func, [.nilfn]⟩ .leaf) 67 ⟨1, 8, .func, [.nilfn]⟩ (.node .leaf 68 ⟨1, 8, .func, [.nilfn]⟩ .leaf))) 70 ⟨1, 8, .func, [.nilfn]⟩ (.node (.node (.node .leaf 72 ⟨1, 8, .func, [.nilfn]⟩ .leaf) 73 ⟨1, 24, (.slice 34), [.nils]⟩ (.node .leaf 74 ⟨1, 8, .func, [.nilfn]⟩ .leaf)) 75 ⟨1, 8, .func, [.nilfn]⟩ (.node (.node .leaf 76 ⟨1, 8, .func, [.nilfn]⟩ .leaf) 77 ⟨1, 8, .func, [.nilfn]⟩ (.node .leaf 78 ⟨1, 8, .func, [.nilfn]⟩ .leaf)))))) 79 ⟨1, 8, .ptr, [.nilp]⟩ (.node (.node (.node (.node (.node (.node (.node .leaf 80 ⟨1, 8, .func, [.nilfn]⟩ .leaf) 81 ⟨1, 8, .func, [.nilfn]⟩ .leaf) 82 ⟨2, 24, (.struct [(0, 1), (1, 1)]), [(.int .i64 0), (.str [])]⟩ (.node .leaf 83 ⟨2, 24, (.struct [(0, 1), (1, 1)]), [(.int .i64 0), (.str [])]⟩ .leaf)) 85 ⟨1, 8, .func, [.nilfn]⟩ (.node (.node .leaf 86 ⟨1, 24, (.slice 24), [.nils]⟩ .leaf) 88 ⟨1, 8, .func, [.nilfn]⟩ (.node .leaf 89 ⟨1, 8, .func, [.nilfn]⟩ .leaf))) 90 ⟨1, 8, .func, [.nilfn]⟩ (.node (.node (.node (.node .leaf 91 ⟨1, 8, .func, [.nilfn]⟩ .leaf) 92 ⟨1, 8, .func, [.nilfn]⟩ .leaf) 93 ⟨1, 8, .func, [.nilfn]⟩ (.node .leaf 94 ⟨1, 8, .func, [.nilfn]⟩ .leaf)) 95 ⟨1, 8, .func, [.nilfn]⟩ (.node (.node .leaf 96 ⟨2, 40, (.struct [(0, 1), (1, 1)]), [(.str []), .nils]⟩ .leaf) 97 ⟨2, 40, (.struct [(0, 1), (1, 1)]), [(.str []), .nils]⟩ (.node .leaf 98 ⟨1, 8, .func, [.nilfn]⟩ .leaf)))) 99 ⟨1, 8, .func, [.nilfn]⟩ (.node (.node (.node (.node (.node .leaf 100 ⟨1, 8, .func, [.nilfn]⟩ .leaf) 101 ⟨1, 8, .ptr, [.nilp]⟩ .leaf) 102 ⟨1, 8, .func, [.nilfn]⟩ (.node .leaf 103 ⟨1, 8, .ptr, [.nilp]⟩ .leaf)) 104 ⟨1, 8, .func, [.nilfn]⟩ (.node (.node .leaf 106 ⟨1, 8, .func, [.nilfn]⟩ .leaf) 107 ⟨1, 8, .func, [.nilfn]⟩ (.node .leaf 108 ⟨1, 8, .ptr, [.nilp]⟩ .leaf))) 109 ⟨1, 8, .func, [.nilfn]⟩ (.node (.node (.node .leaf 110 ⟨1, 8, .ptr, [.nilp]⟩ .leaf) 111 ⟨1, 8, .func, [.nilfn]⟩ (.node .leaf 112 ⟨1, 8, .func, [.nilfn]⟩ .leaf)) 113 ⟨1, 8, .func, [.nilfn]⟩ (.node (.node .leaf 114 ⟨1, 8, .func, [.nilfn]⟩ .leaf) 115 ⟨1, 8, .func, [.nilfn]⟩ (.node .leaf 116 ⟨1, 8, .ptr, [.nilp]⟩ .leaf))))) 117 ⟨1, 8, .func, [.nilfn]⟩ (.node (.node (.node (.node (.node (.node .leaf 118 ⟨1, 8, .func, [.nilfn]⟩ .leaf) 119 ⟨1, 8, .func, [.nilfn]⟩ .leaf) 120 ⟨1, 8, .func, [.nilfn]⟩ (.node .leaf 121 ⟨1, 8, .func, [.nilfn]⟩ .leaf)) 122 ⟨1, 8, .func, [.nilfn]⟩ (.node (.node .leaf 123 ⟨1, 8, .func, [.nilfn]⟩ .leaf) 124 ⟨1, 8, (.int .u64), [(.int .u64 0)]⟩ (.node .leaf 125 ⟨1, 8, .func, [.nilfn]⟩ .leaf))) 126 ⟨1, 8, .func, [.nilfn]⟩ (.node (.node (.node .leaf 127 ⟨1, 8, .ptr, [.nilp]⟩ .leaf) 128 ⟨1, 8, .func, [.nilfn]⟩ (.node .leaf 129 ⟨1, 8, .ptr, [.nilp]⟩ .leaf)) 130 ⟨1, 8, .func, [.nilfn]⟩ (.node (.node .leaf 131 ⟨1, 8, .other, [.nilp]⟩ .leaf) 132 ⟨1, 8, .func, [.nilfn]⟩ (.node .leaf 133 ⟨1, 8, .func, [.nilfn]⟩ .leaf)))) 134 ⟨1, 8, .func, [.nilfn]⟩ (.node (.node (.node (.node (.node .leaf 135 ⟨1, 24, (.slice 187), [.nils]⟩ .leaf) 137 ⟨1, 8, .func, [.nilfn]⟩ .leaf) 139 ⟨1, 8, .func, [.nilfn]⟩ (.node .leaf 140 ⟨1, 8, .func, [.nilfn]⟩ .leaf)) 141 ⟨1, 8, .func, [.nilfn]⟩ (.node (.node .leaf 142 ⟨1, 8, .func, [.nilfn]⟩ .leaf) 143 ⟨1, 8, .func, [.nilfn]⟩ (.node .leaf 144 ⟨1, 8, (.int .i64), [(.int .i64 0)]⟩ .leaf))) 146 ⟨1, 8, .func, [.nilfn]⟩ (.node (.node (.node .leaf 147 ⟨1, 8, .func, [.nilfn]⟩ .leaf) 148 ⟨1, 8, .func, [.nilfn]⟩ (.node .leaf 149 ⟨1, 8, .func, [.nilfn]⟩ .leaf)) 150 ⟨1, 8, .func, [.nilfn]⟩ (.node (.node .leaf 151 ⟨1, 8, .func, [.nilfn]⟩ .leaf) 152 ⟨1, 8, (.int .u64), [(.int .u64 0)]⟩ (.node .leaf 153 ⟨1, 8, .func, [.nilfn]⟩ .leaf))))))) 154 ⟨1, 8, .func, [.nilfn]⟩ (.node (.node (.node (.node (.node (.node (.node (.node .leaf 155 ⟨1, 8, .func, [.nilfn]⟩ .leaf) 156 ⟨1, 8, .ptr, [.nilp]⟩ .leaf) 157 ⟨1, 24, (.slice 5), [.nils]⟩ (.node .leaf 158 ⟨2, 32, (.struct [(0, 1), (1, 1)]), [.nilp, .nils]⟩ .leaf)) 159 ⟨2, 32, (.struct [(0, 1), (1, 1)]), [.nilp, .nils]⟩ (.node (.node .leaf 163 ⟨1, 8, .func, [.nilfn]⟩ .leaf) 164 ⟨1, 8, .func, [.nilfn]⟩ (.node .leaf 165 ⟨1, 8, .func, [.nilfn]⟩ .leaf))) 166 ⟨1, 8, .func, [.nilfn]⟩ (.node (.node (.node (.node .leaf 167 ⟨1, 8, .func, [.nilfn]⟩ .leaf) 168 ⟨1, 8, .func, [.nilfn]⟩ .leaf) 169 ⟨1, 8, .func, [.nilfn]⟩ (.node .leaf 170 ⟨1, 8, .func, [.nilfn]⟩ .leaf)) 172 ⟨1, 8, .func, [.nilfn]⟩ (.node (.node .leaf 173 ⟨1, 8, (.int .u64), [(.int .u64 0)]⟩ .leaf) 174 ⟨1, 8, .func, [.nilfn]⟩ (.node .leaf 175 ⟨1, 8, .func, [.nilfn]⟩ .leaf)))) 176 ⟨1, 8, .func, [.nilfn]⟩ (.node (.node (.node (.node (.node .leaf 177 ⟨1, 8, .ptr, [.nilp]⟩ .leaf) 178 ⟨1, 8, .func, [.nilfn]⟩ .leaf) 179 ⟨1, 8, .ptr, [.nilp]⟩ (.node .leaf 180 ⟨1, 8, .func, [.nilfn]⟩ .leaf)) 181 ⟨1, 24, (.slice 206), [.nils]⟩ (.node (.node .leaf 182 ⟨1, 8, .func, [.nilfn]⟩ .leaf) 183 ⟨1, 8, .func, [.nilfn]⟩ (.node .leaf 184 ⟨1, 24, (.slice 3), [.nils]⟩ .leaf))) 185 ⟨1, 24, (.slice 217), [.nils]⟩ (.node (.node (.node .leaf 186 ⟨5, 72, (.struct [(0, 1), (1, 1), (2, 1), (3, 1), (4, 1)]), [(.int .i64 0), (.int .i64 0), (.str []), (.str []), .nils]⟩ .leaf) 187 ⟨5, 72, (.struct [(0, 1), (1, 1), (2, 1), (3, 1), (4, 1)]), [(.int .i64 0), (.int .i64 0), (.str []), (.str []), .nils]⟩ (.node .leaf 188 ⟨1, 8, .func, [.nilfn]⟩ .leaf)) 189 ⟨1, 8, .func, [.nilfn]⟩ (.node (.node .leaf 190 ⟨1, 8, .func, [.nilfn]⟩ .leaf) 191 ⟨1, 8, .func, [.nilfn]⟩ (.node .leaf 192 ⟨1, 8, .func, [.nilfn]⟩ .leaf))))) 193 ⟨1, 8, .func, [.nilfn]⟩ (.node (.node (.node (.node (.node (.node .leaf 194 ⟨1, 8, .func, [.nilfn]⟩ .leaf) 195 ⟨1, 8, .func, [.nilfn]⟩ .leaf) 196 ⟨1, 8, .func, [.nilfn]⟩ (.node .leaf 197 ⟨1, 8, .func, [.nilfn]⟩ .leaf)) 198 ⟨1, 8, .ptr, [.nilp]⟩ (.node (.node .leaf 200 ⟨1, 8, .func, [.nilfn]⟩ .leaf) 201 ⟨1, 8, .func, [.nilfn]⟩ (.node .leaf 202 ⟨1, 8, .ptr, [.nilp]⟩ .leaf))) 203 ⟨3, 56, (.struct [(0, 1), (1, 1), (2, 1)]), [.nils, .nils, .ff]⟩ (.node (.node (.node (.node .leaf 204 ⟨3, 56, (.struct [(0, 1), (1, 1), (2, 1)]), [.nils, .nils, .ff]⟩ .leaf) 205 ⟨5, 72, (.struct [(0, 1), (1, 1), (2, 1), (3, 1), (4, 1)]), [(.int .i64 0), (.str []), (.str []), .nils, .ff]⟩ .leaf) 206 ⟨5, 72, (.struct [(0, 1), (1, 1), (2, 1), (3, 1), (4, 1)]), [(.int .i64 0), (.str []), (.str []), .nils, .ff]⟩ (.node .leaf 207 ⟨1, 8, .func, [.nilfn]⟩ .leaf)) 208 ⟨1, 8, .func, [.nilfn]⟩ (.node (.node .leaf 209 ⟨1, 8, .ptr, [.nilp]⟩ .leaf) 210 ⟨3, 56, (.struct [(0, 1), (1, 1), (2, 1)]), [(.str []), (.str []), .nils]⟩ (.node .leaf 211 ⟨3, 56, (.struct [(0, 1), (1, 1), (2, 1)]), [(.str []), (.str []), .nils]⟩ .leaf)))) 212 ⟨1, 8, .func, [.nilfn]⟩ (.node (.node (.node (.node (.node .leaf 213 ⟨1, 8, .func, [.nilfn]⟩ .leaf) 214 ⟨1, 8, .func, [.nilfn]⟩ .leaf) 215 ⟨1, 8, .func, [.nilfn]⟩ (.node .leaf 216 ⟨2, 32, (.struct [(0, 1), (1, 1)]), [(.str []), (.str [])]⟩ .leaf)) 217 ⟨2, 32, (.struct [(0, 1), (1, 1)]), [(.str []), (.str [])]⟩ (.node (.node .leaf 218 ⟨1, 8, .func, [.nilfn]⟩ .leaf) 219 ⟨1, 8, .func, [.nilfn]⟩ (.node .leaf 220 ⟨1, 8, .func, [.nilfn]⟩ .leaf))) 221 ⟨1, 8, .func, [.nilfn]⟩ (.node (.node (.node .leaf 222 ⟨1, 8, .func, [.nilfn]⟩ .leaf) 223 ⟨1, 8, .func, [.nilfn]⟩ (.node .leaf 224 ⟨1, 8, .func, [.nilfn]⟩ .leaf)) 225 ⟨1, 8, .func, [.nilfn]⟩ (.node (.node .leaf 226 ⟨1, 8, .func, [.nilfn]⟩ .leaf) 227 ⟨1, 8, .func, [.nilfn]⟩ (.node .leaf 228 ⟨1, 8, .func, [.nilfn]⟩ .leaf)))))) 229 ⟨1, 8, .func, [.nilfn]⟩ (.node (.node (.node (.node (.node (.node (.node .leaf 230 ⟨1, 8, .func, [.nilfn]⟩ .leaf) 231 ⟨1, 8, .func, [.nilfn]⟩ .leaf) 232 ⟨1, 8, .func, [.nilfn]⟩ (.node .leaf 233 ⟨1, 8, .func, [.nilfn]⟩ .leaf)) 234 ⟨1, 8, .func, [.nilfn]⟩ (.node (.node .leaf 235 ⟨1, 8, .func, [.nilfn]⟩ .leaf) 236 ⟨1, 8, .func, [.nilfn]⟩ (.node .leaf 237 ⟨1, 8, .func, [.nilfn]⟩ .leaf))) 238 ⟨1, 8, .func, [.nilfn]⟩ (.node (.node (.node (.node .leaf 239 ⟨1, 8, .func, [.nilfn]⟩ .leaf) 240 ⟨1, 8, .func, [.nilfn]⟩ .leaf) 242 ⟨1, 8, .func, [.nilfn]⟩ (.node .leaf 244 ⟨1, 8, .func, [.nilfn]⟩ .leaf)) 245 ⟨1, 8, .func, [.nilfn]⟩ (.node (.node .leaf 246 ⟨1, 8, .func, [.nilfn]⟩ .leaf) 247 ⟨1, 8, .func, [.nilfn]⟩ (.node .leaf 248 ⟨1, 8, .func, [.nilfn]⟩ .leaf)))) 249 ⟨1, 8, .func, [.nilfn]⟩ (.node (.node (.node (.node (.node .leaf 250 ⟨1, 8, .func, [.nilfn]⟩ .leaf) 251 ⟨1, 8, (.map 254 3), [.nilm]⟩ .leaf) 252 ⟨1, 8, .func, [.nilfn]⟩ (.node .leaf 253 ⟨2, 32, (.struct [(0, 1), (1, 1)]), [(.str []), (.str [])]⟩ .leaf)) 254 ⟨2, 32, (.struct [(0, 1), (1, 1)]), [(.str []), (.str [])]⟩ (.node (.node .leaf 255 ⟨1, 8, (.map 254 4), [.nilm]⟩ .leaf) 256 ⟨1, 8, .func, [.nilfn]⟩ (.node .leaf 257 ⟨1, 8, .func, [.nilfn]⟩ .leaf))) 258 ⟨1, 8, .func, [.nilfn]⟩ (.node (.node (.node .leaf 259 ⟨1, 8, .func, [.nilfn]⟩ .leaf) 260 ⟨1, 8, .func, [.nilfn]⟩ (.node .leaf 262 ⟨1, 8, .func, [.nilfn]⟩ .leaf)) 263 ⟨1, 8, .func, [.nilfn]⟩ (.node (.node .leaf 265 ⟨1, 8, .func, [.nilfn]⟩ .leaf) 266 ⟨1, 8, .func, [.nilfn]⟩ (.node .leaf 267 ⟨1, 8, .func, [.nilfn]⟩ .leaf))))) 268 ⟨1, 8, .func, [.nilfn]⟩ (.node (.node (.node (.node (.node (.node .leaf 270 ⟨1, 8, .func, [.nilfn]⟩ .leaf) 271 ⟨1, 8, .func, [.nilfn]⟩ .leaf) 272 ⟨1, 8, .func, [.nilfn]⟩ (.node .leaf 274 ⟨1, 8, .func, [.nilfn]⟩ .leaf)) 275 ⟨1, 8, .func, [.nilfn]⟩ (.node (.node .leaf 276 ⟨1, 8, .func, [.nilfn]⟩ .leaf) 277 ⟨1, 8, .func, [.nilfn]⟩ (.node .leaf 279 ⟨2, 2, (.struct [(0, 1), (1, 1)]), [(.int .u8 0), (.int .u8 0)]⟩ .leaf))) 280 ⟨2, 2, (.struct [(0, 1), (1, 1)]), [(.int .u8 0), (.int .u8 0)]⟩ (.node (.node (.node .leaf 282 ⟨1, 8, .func, [.nilfn]⟩ .leaf) 283 ⟨1, 8, (.int .i64), [(.int .i64 0)]⟩ (.node .leaf 285 ⟨1, 8, .func, [.nilfn]⟩ .leaf)) 286 ⟨1, 8, .ptr, [.nilp]⟩ (.node (.node .leaf 287 ⟨1, 8, .func, [.nilfn]⟩ .leaf) 288 ⟨1, 8, .func, [.nilfn]⟩ (.node .leaf 289 ⟨1, 8, .func, [.nilfn]⟩ .leaf)))) 292 ⟨1, 8, .func, [.nilfn]⟩ (.node (.node (.node (.node (.node .leaf 293 ⟨1, 8, .ptr, [.nilp]⟩ .leaf) 294 ⟨1, 16, (.struct [(0, 1)]), [(.str [])]⟩ .leaf) 295 ⟨1, 16, (.struct [(0, 1)]), [(.str [])]⟩ (.node .leaf 296 ⟨1, 8, .func, [.nilfn]⟩ .leaf)) 298 ⟨1, 8, .func, [.nilfn]⟩ (.node (.node .leaf 300 ⟨1, 8, .func, [.nilfn]⟩ .leaf) 301 ⟨1, 8, .func, [.nilfn]⟩ (.node .leaf 306 ⟨4, 40, (.struct [(0, 1), (1, 1), (2, 1), (3, 1)]), [.nilp, .nilp, .nilp, (.str [])]⟩ .leaf))) 307 ⟨4, 40, (.struct [(0, 1), (1, 1), (2, 1), (3, 1)]), [.nilp, .nilp, .nilp, (.str [])]⟩ (.node (.node (.node .leaf 311 ⟨1, 1, (.int .u8), [(.int .u8 0)]⟩ .leaf) 312 ⟨1, 1, (.int .u8), [(.int .u8 0)]⟩ (.node .leaf 313 ⟨1, 8, .func, [.nilfn]⟩ .leaf)) 314 ⟨1, 4, (.int .i32), [(.int .i32 0)]⟩ (.node (.node .leaf 315 ⟨1, 4, (.int .i32), [(.int .i32 0)]⟩ .leaf) 316 ⟨11, 48, (.struct [(0, 1), (1, 1), (2, 1), (3, 1), (4, 1), (5, 1), (6, 1), (7, 1), (8, 1), (9, 1), (10, 1)]), [(.int .u64 0), (.int .u64 0), (.int .u32 0), (.int .u8 0), (.int .u8 0), (.int .u8 0), (.int .u8 0), .nilfn, .nilp, (.int .i32 0), (.int .i32 0)]⟩ (.node .leaf 317 ⟨11, 48, (.struct [(0, 1), (1, 1), (2, 1), (3, 1), (4, 1), (5, 1), (6, 1), (7, 1), (8, 1), (9, 1), (10, 1)]), [(.int .u64 0), (.int .u64 0), (.int .u32 0), (.int .u8 0), (.int .u8 0), (.int .u8 0), (.int .u8 0), .nilfn, .nilp, (.int .i32 0), (.int .i32 0)]⟩ .leaf))))))))
def Gl : List (Addr × Value) := []
def TT : Ctx := ⟨TT0, Gl⟩
theorem tt_ok : treeOk Tryz.prog TT = true := by kernel_rfl
end Go.V


open Go Go.V Go.Proofs
namespace Go.V
set_option linter.unusedVariables false
set_option linter.unusedSimpArgs false
noncomputable abbrev P : Program := Tryz.prog
abbrev Str := List UInt8
def encS (s : Str) : List AV := [.str s]
theorem hc_S : ∀ x, (encS x).all AV.closed = true := fun _ => rfl
set_option maxRecDepth 100000
theorem s_among (name : Str) (l : List Str) : Ret P TT 174 [.str name, .slt false 9 encS l] (.bool (decide (name ∈ l))) := by
  refine VCall.of_run (keep := [0, 1, 4, 6, 7, 8, 9, 10, 15]) tt_ok Tryz.func174 rfl rfl Tryz.ntmps174 rfl ?_
  repeat (refine .run tt_ok ?_; conv => whnf)
  refine ⟨fun hl => ?_⟩
  (conv => whnf); repeat (refine .run tt_ok ?_; conv => whnf)
  refine .of (fun x : List Str × List Str => [(0, .str name), (7, .slt false 9 encS l), (8, .int .i64 l.length), (9, .int .i64 x.1.length)]) (fun _ => []) (fun x => x.1 ++ x.2 = l ∧ name ∉ x.1) (fun x => x.2.length) ([], l) ⟨rfl, by simp⟩ (.slots ⟨rfl, rfl, rfl, rfl, trivial⟩) ?_
  rintro ⟨p, q⟩ ⟨rfl, hp⟩
  cases q with
  | nil =>
    (conv => whnf); repeat (refine .run tt_ok ?_; conv => whnf)
    refine ⟨fun h => absurd (of_decide_eq_true h) (by simp), fun h => ?_⟩
    (conv => whnf); repeat (refine .run tt_ok ?_; conv => whnf)
    exact .of (.cell (.ff (by simpa using hp)))
  | cons x q =>
    (conv => whnf); repeat (refine .run tt_ok ?_; conv => whnf)
    refine ⟨fun h => ?_, fun h => absurd (of_decide_eq_false h) (by simp; omega)⟩
    (conv => whnf); repeat (refine .run tt_ok ?_; conv => whnf)
    refine ⟨⟨by simp, by simp; omega⟩, ⟨fun x' => ⟨fun hx => ?_⟩⟩⟩
    simp at hx; subst hx
    (conv => whnf); repeat (refine .run tt_ok ?_; conv => whnf)
    refine ⟨fun h => ?_, fun h => ?_⟩
    · (conv => whnf); repeat (refine .run tt_ok ?_; conv => whnf)
      exact .of (.cell (.tt (by simp at h; simp [h])))
    · (conv => whnf); repeat (refine .run tt_ok ?_; conv => whnf)
      refine ⟨by simp only [InI, maxB, maxS, List.length_append, List.length_cons, List.length_nil, decide_eq_true_eq, decide_eq_false_iff_not] at *; omega, ?_⟩
      (conv => whnf); repeat (refine .run tt_ok ?_; conv => whnf)
      exact ⟨(p ++ [x], q), ⟨by simp, by simp at h hp; simp [hp, Ne.symm h]⟩, Nat.lt_succ_self _, .slots ⟨rfl, rfl, rfl, by (conv => lhs; whnf); simp, trivial⟩⟩
def isSpace (c : UInt8) : Bool := decide (c.toNat = 32 ∨ c.toNat = 9 ∨ c.toNat = 10 ∨ c.toNat = 12 ∨ c.toNat = 13)
theorem s_space (c : UInt8) : Ret P TT 73 [.int .u8 c.toNat] (.bool (isSpace c)) := by
  refine VCall.of_run (keep := [0, 2]) tt_ok Tryz.func73 rfl rfl Tryz.ntmps73 rfl ?_
  repeat (refine .run tt_ok ?_; conv => whnf)
  repeat' (apply Br.mk <;> intro h <;> (conv => whnf) <;> repeat (refine .run tt_ok ?_; conv => whnf))
  all_goals first | exact frzT (by simp only [isSpace, decide_eq_true_eq, decide_eq_false_iff_not, decide_eq_decide] at *; first | omega | (simp_all; done) | (simp_all; omega)) | exact frzF (by simp only [isSpace, decide_eq_true_eq, decide_eq_false_iff_not, decide_eq_decide] at *; first | omega | (simp_all; done) | (simp_all; omega)) | exact frzB (by simp only [isSpace, decide_eq_true_eq, decide_eq_false_iff_not, decide_eq_decide] at *; first | omega | (simp_all; done) | (simp_all; omega))
def isLetter (c : UInt8) : Bool := decide ((97 ≤ c.toNat ∧ c.toNat ≤ 122) ∨ (65 ≤ c.toNat ∧ c.toNat ≤ 90))
theorem s_letter (c : UInt8) : Ret P TT 40 [.int .u8 c.toNat] (.bool (isLetter c)) := by
  refine VCall.of_run (keep := [0, 2]) tt_ok Tryz.func40 rfl rfl Tryz.ntmps40 rfl ?_
  repeat (refine .run tt_ok ?_; conv => whnf)
  repeat' (apply Br.mk <;> intro h <;> (conv => whnf) <;> repeat (refine .run tt_ok ?_; conv => whnf))
  all_goals first | exact frzT (by simp only [isLetter, decide_eq_true_eq, decide_eq_false_iff_not, decide_eq_decide] at *; first | omega | (simp_all; done) | (simp_all; omega)) | exact frzF (by simp only [isLetter, decide_eq_true_eq, decide_eq_false_iff_not, decide_eq_decide] at *; first | omega | (simp_all; done) | (simp_all; omega)) | exact frzB (by simp only [isLetter, decide_eq_true_eq, decide_eq_false_iff_not, decide_eq_decide] at *; first | omega | (simp_all; done) | (simp_all; omega))
def isPar (n : Str) : Bool := decide (n = [108, 105] ∨ n = [100, 100] ∨ n = [100, 116])
theorem s_paragraph (n : Str) : Ret P TT 179 [.str n] (.bool (isPar n)) := by
  refine VCall.of_run (keep := [0, 2]) tt_ok Tryz.func179 rfl rfl Tryz.ntmps179 rfl ?_
  repeat (refine .run tt_ok ?_; conv => whnf)
  repeat' (apply Br.mk <;> intro h <;> (conv => whnf) <;> repeat (refine .run tt_ok ?_; conv => whnf))
  all_goals first | exact frzT (by simp only [isPar, decide_eq_true_eq, decide_eq_false_iff_not, decide_eq_decide] at *; first | omega | (simp_all; done) | (simp_all; omega)) | exact frzF (by simp only [isPar, decide_eq_true_eq, decide_eq_false_iff_not, decide_eq_decide] at *; first | omega | (simp_all; done) | (simp_all; omega)) | exact frzB (by simp only [isPar, decide_eq_true_eq, decide_eq_false_iff_not, decide_eq_decide] at *; first | omega | (simp_all; done) | (simp_all; omega))
def isVoidL : List Str := [[97, 114, 101, 97], [98, 97, 115, 101], [98, 114], [99, 111, 108], [101, 109, 98, 101, 100], [104, 114], [105, 109, 103], [105, 110, 112, 117, 116], [108, 105, 110, 107], [109, 101, 116, 97], [112, 97, 114, 97, 109], [115, 111, 117, 114, 99, 101], [116, 114, 97, 99, 107], [119, 98, 114]]
def isVoid (n : Str) : Bool := decide (n ∈ isVoidL)
theorem s_isVoid (n : Str) : Ret P TT 151 [.str n] (.bool (isVoid n)) := by
  refine VCall.of_run (keep := [0, 2]) tt_ok Tryz.func151 rfl rfl Tryz.ntmps151 rfl ?_
  repeat (refine .run tt_ok ?_; conv => whnf)
  refine .lend (s_among n isVoidL) (.cons (clV_frz rfl) (.cons (.of (.cell (.arrl trivial rfl hc_S rfl))) .nil)) rfl ?_
  (conv => whnf); repeat (refine .run tt_ok ?_; conv => whnf)
  exact frzB rfl
def isRawL : List Str := [[105, 102, 114, 97, 109, 101], [110, 111, 101, 109, 98, 101, 100], [110, 111, 102, 114, 97, 109, 101, 115], [115, 99, 114, 105, 112, 116], [115, 116, 121, 108, 101], [120, 109, 112]]
def isRaw (n : Str) : Bool := decide (n ∈ isRawL)
theorem s_isRaw (n : Str) : Ret P TT 152 [.str n] (.bool (isRaw n)) := by
  refine VCall.of_run (keep := [0, 2]) tt_ok Tryz.func152 rfl rfl Tryz.ntmps152 rfl ?_
  repeat (refine .run tt_ok ?_; conv => whnf)
  refine .lend (s_among n isRawL) (.cons (clV_frz rfl) (.cons (.of (.cell (.arrl trivial rfl hc_S rfl))) .nil)) rfl ?_
  (conv => whnf); repeat (refine .run tt_ok ?_; conv => whnf)
  exact frzB rfl
def isSoftL : List Str := [[116, 101, 120, 116, 97, 114, 101, 97], [116, 105, 116, 108, 101]]
def isSoft (n : Str) : Bool := decide (n ∈ isSoftL)
theorem s_isSoft (n : Str) : Ret P TT 159 [.str n] (.bool (isSoft n)) := by
  refine VCall.of_run (keep := [0, 2]) tt_ok Tryz.func159 rfl rfl Tryz.ntmps159 rfl ?_
  repeat (refine .run tt_ok ?_; conv => whnf)
  refine .lend (s_among n isSoftL) (.cons (clV_frz rfl) (.cons (.of (.cell (.arrl trivial rfl hc_S rfl))) .nil)) rfl ?_
  (conv => whnf); repeat (refine .run tt_ok ?_; conv => whnf)
  exact frzB rfl
def isBlockL : List Str := [[97, 100, 100, 114, 101, 115, 115], [97, 114, 116, 105, 99, 108, 101], [97, 115, 105, 100, 101], [98, 108, 111, 99, 107, 113, 117, 111, 116, 101], [99, 101, 110, 116, 101, 114], [100, 100], [100, 101, 116, 97, 105, 108, 115], [100, 105, 97, 108, 111, 103], [100, 105, 114], [100, 105, 118], [100, 108], [100, 116], [102, 105, 101, 108, 100, 115, 101, 116], [102, 105, 103, 99, 97, 112, 116, 105, 111, 110], [102, 105, 103, 117, 114, 101], [102, 111, 111, 116, 101, 114], [102, 111, 114, 109], [104, 49], [104, 50], [104, 51], [104, 52], [104, 53], [104, 54], [104, 101, 97, 100, 101, 114], [104, 103, 114, 111, 117, 112], [104, 114], [108, 105], [109, 97, 105, 110], [109, 101, 110, 117], [110, 97, 118], [111, 108], [112], [112, 114, 101], [115, 101, 99, 116, 105, 111, 110], [115, 117, 109, 109, 97, 114, 121], [116, 97, 98, 108, 101], [117, 108], [120, 109, 112]]
def isBlock (n : Str) : Bool := decide (n ∈ isBlockL)
theorem s_isBlock (n : Str) : Ret P TT 202 [.str n] (.bool (isBlock n)) := by
  refine VCall.of_run (keep := [0, 2]) tt_ok Tryz.func202 rfl rfl Tryz.ntmps202 rfl ?_
  repeat (refine .run tt_ok ?_; conv => whnf)
  refine .lend (s_among n isBlockL) (.cons (clV_frz rfl) (.cons (.of (.cell (.arrl trivial rfl hc_S rfl))) .nil)) rfl ?_
  (conv => whnf); repeat (refine .run tt_ok ?_; conv => whnf)
  exact frzB rfl
def isGoneL : List Str := [[98, 111, 100, 121], [102, 114, 97, 109, 101, 115, 101, 116], [104, 101, 97, 100], [104, 116, 109, 108]]
def isGone (n : Str) : Bool := decide (n ∈ isGoneL)
theorem s_isGone (n : Str) : Ret P TT 175 [.str n] (.bool (isGone n)) := by
  refine VCall.of_run (keep := [0, 2]) tt_ok Tryz.func175 rfl rfl Tryz.ntmps175 rfl ?_
  repeat (refine .run tt_ok ?_; conv => whnf)
  refine .lend (s_among n isGoneL) (.cons (clV_frz rfl) (.cons (.of (.cell (.arrl trivial rfl hc_S rfl))) .nil)) rfl ?_
  (conv => whnf); repeat (refine .run tt_ok ?_; conv => whnf)
  exact frzB rfl
def isTableL : List Str := [[116, 114], [116, 100], [116, 104], [116, 98, 111, 100, 121], [116, 102, 111, 111, 116], [116, 104, 101, 97, 100]]
def isTable (n : Str) : Bool := decide (n ∈ isTableL)
theorem s_isTable (n : Str) : Ret P TT 201 [.str n] (.bool (isTable n)) := by
  refine VCall.of_run (keep := [0, 2]) tt_ok Tryz.func201 rfl rfl Tryz.ntmps201 rfl ?_
  repeat (refine .run tt_ok ?_; conv => whnf)
  refine .lend (s_among n isTableL) (.cons (clV_frz rfl) (.cons (.of (.cell (.arrl trivial rfl hc_S rfl))) .nil)) rfl ?_
  (conv => whnf); repeat (refine .run tt_ok ?_; conv => whnf)
  exact frzB rfl
end Go.V



open Go Go.V Go.Proofs
namespace Go.V
set_option linter.unusedVariables false
set_option linter.unusedSimpArgs false
set_option maxRecDepth 100000
theorem s_clone0 : Ret P TT 9 [.nils] .nils := by
  refine VCall.of_run (keep := [0, 2, 4]) tt_ok Tryz.func9 rfl rfl Tryz.ntmps9 rfl ?_
  repeat (refine .run tt_ok ?_; conv => whnf)
  repeat' first | (refine Br.mk (fun h => absurd h (by decide)) (fun _ => ?_); (conv => whnf); repeat (refine .run tt_ok ?_; conv => whnf)) | (refine Br.mk (fun _ => ?_) (fun h => absurd h (by decide)); (conv => whnf); repeat (refine .run tt_ok ?_; conv => whnf)) | (refine Ob.mk (by first | decide | (simp [InI]; done) | (simp only [InI, maxB, maxS] at *; omega)) ?_; (conv => whnf); repeat (refine .run tt_ok ?_; conv => whnf)) | fail
  exact frzE rfl rfl
theorem s_ins0 : Ret P TT 96 [.nils, .int .i64 0, .int .i64 0] (.tup []) := by
  refine VCall.of_run (keep := [0, 1, 2, 6, 7, 12, 30]) tt_ok Tryz.func96 rfl rfl Tryz.ntmps96 rfl ?_
  repeat (refine .run tt_ok ?_; conv => whnf)
  repeat' first | (refine Br.mk (fun h => absurd h (by decide)) (fun _ => ?_); (conv => whnf); repeat (refine .run tt_ok ?_; conv => whnf)) | (refine Br.mk (fun _ => ?_) (fun h => absurd h (by decide)); (conv => whnf); repeat (refine .run tt_ok ?_; conv => whnf)) | (refine Ob.mk (by first | decide | (simp [InI]; done) | (simp only [InI, maxB, maxS] at *; omega)) ?_; (conv => whnf); repeat (refine .run tt_ok ?_; conv => whnf)) | fail
  refine .of (fun _ : Unit => [(0, .nils), (1, .int .i64 0), (2, .int .i64 0), (6, .int .i64 1)]) (fun _ => []) (fun _ => True) (fun _ => 0) () trivial (.slots ⟨rfl, rfl, rfl, rfl, trivial⟩) ?_
  intro _ _
  repeat (refine .run tt_ok ?_; conv => whnf)
  repeat' first | (refine Br.mk (fun h => absurd h (by decide)) (fun _ => ?_); (conv => whnf); repeat (refine .run tt_ok ?_; conv => whnf)) | (refine Br.mk (fun _ => ?_) (fun h => absurd h (by decide)); (conv => whnf); repeat (refine .run tt_ok ?_; conv => whnf)) | (refine Ob.mk (by first | decide | (simp [InI]; done) | (simp only [InI, maxB, maxS] at *; omega)) ?_; (conv => whnf); repeat (refine .run tt_ok ?_; conv => whnf)) | fail
  exact frzE rfl rfl
theorem s_pdq0 (n : Int) : Ret P TT 75 [.nils, .int .i64 0, .int .i64 0, .int .i64 n] (.tup []) := by
  refine VCall.of_run (keep := [0, 1, 2, 3, 8, 9, 10, 11, 12, 13, 14, 15, 16, 17, 18, 23, 29, 35, 50, 68, 72, 87, 113]) tt_ok Tryz.func75 rfl rfl Tryz.ntmps75 rfl ?_
  repeat (refine .run tt_ok ?_; conv => whnf)
  refine .of (fun _ : Unit => [(0, .nils), (1, .int .i64 0), (2, .int .i64 0)]) (fun _ => []) (fun _ => True) (fun _ => 0) () trivial (.slots ⟨rfl, rfl, rfl, trivial⟩) ?_
  intro _ _
  repeat (refine .run tt_ok ?_; conv => whnf)
  repeat' first | (refine Br.mk (fun h => absurd h (by decide)) (fun _ => ?_); (conv => whnf); repeat (refine .run tt_ok ?_; conv => whnf)) | (refine Br.mk (fun _ => ?_) (fun h => absurd h (by decide)); (conv => whnf); repeat (refine .run tt_ok ?_; conv => whnf)) | (refine Ob.mk (by first | decide | (simp [InI]; done) | (simp only [InI, maxB, maxS] at *; omega)) ?_; (conv => whnf); repeat (refine .run tt_ok ?_; conv => whnf)) | (refine .calc (s_ins0) rfl rfl ?_; (conv => whnf); repeat (refine .run tt_ok ?_; conv => whnf)) | fail
  exact frzE rfl rfl
theorem s_compact0 : Ret P TT 63 [.nils] .nils := by
  refine VCall.of_run (keep := [0, 2, 3, 4, 5, 8, 13, 25, 32, 44]) tt_ok Tryz.func63 rfl rfl Tryz.ntmps63 rfl ?_
  repeat (refine .run tt_ok ?_; conv => whnf)
  repeat' first | (refine Br.mk (fun h => absurd h (by decide)) (fun _ => ?_); (conv => whnf); repeat (refine .run tt_ok ?_; conv => whnf)) | (refine Br.mk (fun _ => ?_) (fun h => absurd h (by decide)); (conv => whnf); repeat (refine .run tt_ok ?_; conv => whnf)) | (refine Ob.mk (by first | decide | (simp [InI]; done) | (simp only [InI, maxB, maxS] at *; omega)) ?_; (conv => whnf); repeat (refine .run tt_ok ?_; conv => whnf)) | fail
  exact frzE rfl rfl
theorem s_len64 : Ret P TT 106 [.int .u64 0] (.int .i64 0) := by
  refine VCall.of_run (keep := [0, 2, 4, 8, 14]) tt_ok Tryz.func106 rfl rfl Tryz.ntmps106 rfl ?_
  repeat (refine .run tt_ok ?_; conv => whnf)
  repeat' first | (refine Br.mk (fun h => absurd h (by decide)) (fun _ => ?_); (conv => whnf); repeat (refine .run tt_ok ?_; conv => whnf)) | (refine Br.mk (fun _ => ?_) (fun h => absurd h (by decide)); (conv => whnf); repeat (refine .run tt_ok ?_; conv => whnf)) | (refine Ob.mk (by first | decide | (simp [InI]; done) | (simp only [InI, maxB, maxS] at *; omega)) ?_; (conv => whnf); repeat (refine .run tt_ok ?_; conv => whnf)) | fail
  refine ⟨fun c => ⟨fun hx => ?_⟩⟩
  have hc : c = 0 := Option.some.inj (hx.symm.trans rfl)
  subst hc
  (conv => whnf); repeat (refine .run tt_ok ?_; conv => whnf)
  repeat' first | (refine Br.mk (fun h => absurd h (by decide)) (fun _ => ?_); (conv => whnf); repeat (refine .run tt_ok ?_; conv => whnf)) | (refine Br.mk (fun _ => ?_) (fun h => absurd h (by decide)); (conv => whnf); repeat (refine .run tt_ok ?_; conv => whnf)) | (refine Ob.mk (by first | decide | (simp [InI]; done) | (simp only [InI, maxB, maxS] at *; omega)) ?_; (conv => whnf); repeat (refine .run tt_ok ?_; conv => whnf)) | fail
  exact frzE rfl rfl
theorem s_len0 : Ret P TT 76 [.int .u64 0] (.int .i64 0) := by
  refine VCall.of_run (keep := [0, 2]) tt_ok Tryz.func76 rfl rfl Tryz.ntmps76 rfl ?_
  repeat (refine .run tt_ok ?_; conv => whnf)
  repeat' first | (refine Br.mk (fun h => absurd h (by decide)) (fun _ => ?_); (conv => whnf); repeat (refine .run tt_ok ?_; conv => whnf)) | (refine Br.mk (fun _ => ?_) (fun h => absurd h (by decide)); (conv => whnf); repeat (refine .run tt_ok ?_; conv => whnf)) | (refine Ob.mk (by first | decide | (simp [InI]; done) | (simp only [InI, maxB, maxS] at *; omega)) ?_; (conv => whnf); repeat (refine .run tt_ok ?_; conv => whnf)) | (refine .calc (s_len64) rfl rfl ?_; (conv => whnf); repeat (refine .run tt_ok ?_; conv => whnf)) | fail
  exact .of (.cell (.closed rfl))
theorem s_sort0 : Ret P TT 62 [.nils] (.tup []) := by
  refine VCall.of_run (keep := [0, 2]) tt_ok Tryz.func62 rfl rfl Tryz.ntmps62 rfl ?_
  repeat (refine .run tt_ok ?_; conv => whnf)
  repeat' first | (refine Br.mk (fun h => absurd h (by decide)) (fun _ => ?_); (conv => whnf); repeat (refine .run tt_ok ?_; conv => whnf)) | (refine Br.mk (fun _ => ?_) (fun h => absurd h (by decide)); (conv => whnf); repeat (refine .run tt_ok ?_; conv => whnf)) | (refine Ob.mk (by first | decide | (simp [InI]; done) | (simp only [InI, maxB, maxS] at *; omega)) ?_; (conv => whnf); repeat (refine .run tt_ok ?_; conv => whnf)) | (refine .calc (s_len0) rfl rfl ?_; (conv => whnf); repeat (refine .run tt_ok ?_; conv => whnf)) | (refine .calc (s_pdq0 0) rfl rfl ?_; (conv => whnf); repeat (refine .run tt_ok ?_; conv => whnf)) | fail
  exact frzE rfl rfl
theorem s_sorted0 : Ret P TT 43 [.nils] .nils := by
  refine VCall.of_run (keep := [0, 2, 3]) tt_ok Tryz.func43 rfl rfl Tryz.ntmps43 rfl ?_
  repeat (refine .run tt_ok ?_; conv => whnf)
  repeat' first | (refine Br.mk (fun h => absurd h (by decide)) (fun _ => ?_); (conv => whnf); repeat (refine .run tt_ok ?_; conv => whnf)) | (refine Br.mk (fun _ => ?_) (fun h => absurd h (by decide)); (conv => whnf); repeat (refine .run tt_ok ?_; conv => whnf)) | (refine Ob.mk (by first | decide | (simp [InI]; done) | (simp only [InI, maxB, maxS] at *; omega)) ?_; (conv => whnf); repeat (refine .run tt_ok ?_; conv => whnf)) | (refine .calc (s_clone0) rfl rfl ?_; (conv => whnf); repeat (refine .run tt_ok ?_; conv => whnf)) | (refine .calc (s_sort0) rfl rfl ?_; (conv => whnf); repeat (refine .run tt_ok ?_; conv => whnf)) | (refine .calc (s_compact0) rfl rfl ?_; (conv => whnf); repeat (refine .run tt_ok ?_; conv => whnf)) | fail
  exact frzE rfl rfl
theorem s_insC0 (f : FuncId) : Ret P TT 77 [.nils, .int .i64 0, .int .i64 0, .fn f [] []] (.tup []) := by
  refine VCall.of_run (keep := [0, 1, 2, 3, 8, 9, 14, 34]) tt_ok Tryz.func77 rfl rfl Tryz.ntmps77 rfl ?_
  repeat (refine .run tt_ok ?_; conv => whnf)
  repeat' first | (refine Br.mk (fun h => absurd h (by decide)) (fun _ => ?_); (conv => whnf); repeat (refine .run tt_ok ?_; conv => whnf)) | (refine Br.mk (fun _ => ?_) (fun h => absurd h (by decide)); (conv => whnf); repeat (refine .run tt_ok ?_; conv => whnf)) | (refine Ob.mk (by first | decide | (simp [InI]; done) | (simp only [InI, maxB, maxS] at *; omega)) ?_; (conv => whnf); repeat (refine .run tt_ok ?_; conv => whnf)) | fail
  refine .of (fun _ : Unit => [(0, .nils), (1, .int .i64 0), (2, .int .i64 0), (8, .int .i64 1)]) (fun _ => []) (fun _ => True) (fun _ => 0) () trivial (.slots ⟨rfl, rfl, rfl, rfl, trivial⟩) ?_
  intro _ _
  repeat (refine .run tt_ok ?_; conv => whnf)
  repeat' first | (refine Br.mk (fun h => absurd h (by decide)) (fun _ => ?_); (conv => whnf); repeat (refine .run tt_ok ?_; conv => whnf)) | (refine Br.mk (fun _ => ?_) (fun h => absurd h (by decide)); (conv => whnf); repeat (refine .run tt_ok ?_; conv => whnf)) | (refine Ob.mk (by first | decide | (simp [InI]; done) | (simp only [InI, maxB, maxS] at *; omega)) ?_; (conv => whnf); repeat (refine .run tt_ok ?_; conv => whnf)) | fail
  exact frzE rfl rfl
theorem s_stab0 (f : FuncId) : Ret P TT 64 [.nils, .int .i64 0, .fn f [] []] (.tup []) := by
  refine VCall.of_run (keep := [0, 1, 2, 6, 7, 8, 9, 13, 30, 35, 54]) tt_ok Tryz.func64 rfl rfl Tryz.ntmps64 rfl ?_
  repeat (refine .run tt_ok ?_; conv => whnf)
  refine .of (fun _ : Unit => [(0, .nils), (1, .int .i64 0), (2, .fn f [] []), (6, .int .i64 20), (7, .int .i64 0), (8, .int .i64 20)]) (fun _ => []) (fun _ => True) (fun _ => 0) () trivial (.slots ⟨rfl, rfl, rfl, rfl, rfl, rfl, trivial⟩) ?_
  intro _ _
  repeat (refine .run tt_ok ?_; conv => whnf)
  repeat' first | (refine Br.mk (fun h => absurd h (by decide)) (fun _ => ?_); (conv => whnf); repeat (refine .run tt_ok ?_; conv => whnf)) | (refine Br.mk (fun _ => ?_) (fun h => absurd h (by decide)); (conv => whnf); repeat (refine .run tt_ok ?_; conv => whnf)) | (refine Ob.mk (by first | decide | (simp [InI]; done) | (simp only [InI, maxB, maxS] at *; omega)) ?_; (conv => whnf); repeat (refine .run tt_ok ?_; conv => whnf)) | (refine .calc (s_insC0 f) rfl rfl ?_; (conv => whnf); repeat (refine .run tt_ok ?_; conv => whnf)) | fail
  refine .of (fun _ : Unit => [(0, .nils), (1, .int .i64 0), (2, .fn f [] []), (6, .int .i64 20)]) (fun _ => []) (fun _ => True) (fun _ => 0) () trivial (.slots ⟨rfl, rfl, rfl, rfl, trivial⟩) ?_
  intro _ _
  repeat (refine .run tt_ok ?_; conv => whnf)
  repeat' first | (refine Br.mk (fun h => absurd h (by decide)) (fun _ => ?_); (conv => whnf); repeat (refine .run tt_ok ?_; conv => whnf)) | (refine Br.mk (fun _ => ?_) (fun h => absurd h (by decide)); (conv => whnf); repeat (refine .run tt_ok ?_; conv => whnf)) | (refine Ob.mk (by first | decide | (simp [InI]; done) | (simp only [InI, maxB, maxS] at *; omega)) ?_; (conv => whnf); repeat (refine .run tt_ok ?_; conv => whnf)) | fail
  exact frzE rfl rfl
theorem s_stable0 (f : FuncId) : Ret P TT 44 [.nils, .fn f [] []] (.tup []) := by
  refine VCall.of_run (keep := [0, 1]) tt_ok Tryz.func44 rfl rfl Tryz.ntmps44 rfl ?_
  repeat (refine .run tt_ok ?_; conv => whnf)
  repeat' first | (refine Br.mk (fun h => absurd h (by decide)) (fun _ => ?_); (conv => whnf); repeat (refine .run tt_ok ?_; conv => whnf)) | (refine Br.mk (fun _ => ?_) (fun h => absurd h (by decide)); (conv => whnf); repeat (refine .run tt_ok ?_; conv => whnf)) | (refine Ob.mk (by first | decide | (simp [InI]; done) | (simp only [InI, maxB, maxS] at *; omega)) ?_; (conv => whnf); repeat (refine .run tt_ok ?_; conv => whnf)) | (refine .calc (s_stab0 f) rfl rfl ?_; (conv => whnf); repeat (refine .run tt_ok ?_; conv => whnf)) | fail
  exact frzE rfl rfl
def conf0 : List AV := [.ff, .ff, .nils, .nils, .nils, .nils, .ff, .ff]
theorem s_canon0 : Ret P TT 25 [.agg conf0] (.agg conf0) := by
  refine VCall.of_run (keep := [0, 1, 2, 3, 5, 19, 20, 21, 22, 28]) tt_ok Tryz.func25 rfl rfl Tryz.ntmps25 rfl ?_
  repeat (refine .run tt_ok ?_; conv => whnf)
  refine .of 10 rfl tt_ok (by decide +kernel) ?_
  (conv => whnf)
  repeat' first | (refine ⟨_, by (conv => whnf); exact ⟨rfl, rfl⟩, ?_⟩; (conv => whnf); repeat (refine .run tt_ok ?_; conv => whnf)) | (refine ⟨_, by (conv => whnf); exact ⟨fun _ => ⟨rfl, rfl⟩⟩, ?_⟩; (conv => whnf); repeat (refine .run tt_ok ?_; conv => whnf)) | (refine ⟨_, by (conv => whnf); exact .calc (s_sorted0) rfl rfl ⟨rfl, rfl, rfl⟩, ?_⟩; (conv => whnf); repeat (refine .run tt_ok ?_; conv => whnf)) | fail
  refine .of (fun _ : Unit => [(1, .box 0 0), (2, .box 1 0), (3, .nils), (20, .int .i64 0), (21, .int .i64 0)]) (fun _ => [.box 32 conf0, .box 32 conf0]) (fun _ => True) (fun _ => 0) () trivial (.slots ⟨rfl, rfl, rfl, rfl, rfl, trivial⟩) ?_
  intro _ _
  repeat (refine .run tt_ok ?_; conv => whnf)
  repeat' first | (refine Br.mk (fun h => absurd h (by decide)) (fun _ => ?_); (conv => whnf); repeat (refine .run tt_ok ?_; conv => whnf)) | (refine Br.mk (fun _ => ?_) (fun h => absurd h (by decide)); (conv => whnf); repeat (refine .run tt_ok ?_; conv => whnf)) | (refine Ob.mk (by first | decide | (simp [InI]; done) | (simp only [InI, maxB, maxS] at *; omega)) ?_; (conv => whnf); repeat (refine .run tt_ok ?_; conv => whnf)) | (refine .calc (s_stable0 _) rfl rfl ?_; (conv => whnf); repeat (refine .run tt_ok ?_; conv => whnf)) | fail
  exact frzE rfl rfl
def rule0 (k : Int) : List AV := .int .i64 k :: .nils :: conf0
theorem s_ruled0 (k : Int) : Ret P TT 14 [.agg (rule0 k)] (.agg (rule0 k)) := by
  refine VCall.of_run (keep := [0, 1, 2]) tt_ok Tryz.func14 rfl rfl Tryz.ntmps14 rfl ?_
  repeat (refine .run tt_ok ?_; conv => whnf)
  repeat' first | (refine Br.mk (fun h => absurd h (by decide)) (fun _ => ?_); (conv => whnf); repeat (refine .run tt_ok ?_; conv => whnf)) | (refine Br.mk (fun _ => ?_) (fun h => absurd h (by decide)); (conv => whnf); repeat (refine .run tt_ok ?_; conv => whnf)) | (refine Ob.mk (by first | decide | (simp [InI]; done) | (simp only [InI, maxB, maxS] at *; omega)) ?_; (conv => whnf); repeat (refine .run tt_ok ?_; conv => whnf)) | (refine .calc (s_clone0) rfl rfl ?_; (conv => whnf); repeat (refine .run tt_ok ?_; conv => whnf)) | (refine .calc (s_canon0) rfl rfl ?_; (conv => whnf); repeat (refine .run tt_ok ?_; conv => whnf)) | fail
  exact frzE rfl rfl
end Go.V



open Go Go.V Go.Proofs
namespace Go.V
set_option linter.unusedVariables false
set_option linter.unusedSimpArgs false
set_option maxRecDepth 100000
/-- A policy without lists. -/
structure TP where
  name : Str
  h : Int
  s : Int
  u : Int
def encTP (p : TP) : List AV := .str p.name :: (rule0 p.h ++ (rule0 p.s ++ rule0 p.u))
theorem hc_TP : ∀ x, (encTP x).all AV.closed = true := fun _ => rfl
def kindOk0 (i : Nat) (k : Int) : Bool := decide (0 ≤ k ∧ k < 5 ∧ (0 < i → k ≠ 2 ∧ k ≠ 3))
def checkP (p : TP) : Int := if kindOk0 0 p.h = true ∧ kindOk0 1 p.s = true ∧ kindOk0 1 p.u = true then 0 else 162
theorem s_checkP (p : TP) (h3 : p.h ≠ 3) : Ret P TT 10 [.agg (encTP p)] (.int .i64 (checkP p)) := by
  refine VCall.of_run (keep := [0, 1, 2, 3, 4, 11, 12, 13, 14, 39, 44]) tt_ok Tryz.func10 rfl rfl Tryz.ntmps10 rfl ?_
  repeat (refine .run tt_ok ?_; conv => whnf)
  refine ⟨fun hb => ?_⟩
  (conv => whnf); repeat (refine .run tt_ok ?_; conv => whnf)
  refine .of (fun i : Nat => [(1, .box 0 0), (11, .own 1 0 3), (12, .int .i64 3), (13, .int .i64 i)]) (fun _ => [.box 36 (encTP p), .arrl 34 [rule0 p.h, rule0 p.s, rule0 p.u]]) (fun i => i ≤ 3 ∧ (0 < i → kindOk0 0 p.h = true) ∧ (1 < i → kindOk0 1 p.s = true) ∧ (2 < i → kindOk0 1 p.u = true)) (fun i => 3 - i) 0 (by simp) (.slots ⟨rfl, rfl, rfl, rfl, trivial⟩) ?_
  rintro i ⟨hi, g0, g1, g2⟩
  rcases i with _ | _ | _ | _ | i
  · repeat (refine .run tt_ok ?_; conv => whnf)
    repeat' first | (refine Br.mk (fun h => absurd h (by decide)) (fun _ => ?_); (conv => whnf); repeat (refine .run tt_ok ?_; conv => whnf)) | (refine Br.mk (fun _ => ?_) (fun h => absurd h (by decide)); (conv => whnf); repeat (refine .run tt_ok ?_; conv => whnf)) | (refine Ob.mk (by first | decide | (simp [InI]; done) | (simp only [InI, maxB, maxS] at *; omega)) ?_; (conv => whnf); repeat (refine .run tt_ok ?_; conv => whnf)) | fail
    repeat' first | (refine Br.mk (fun h => absurd h (by decide)) (fun h => ?_); (conv => whnf); repeat (refine .run tt_ok ?_; conv => whnf)) | (refine Br.mk (fun h => ?_) (fun h => absurd h (by decide)); (conv => whnf); repeat (refine .run tt_ok ?_; conv => whnf)) | (apply Br.mk <;> intro h <;> (try (have h' := of_decide_eq_true h; subst h')) <;> (conv => whnf) <;> repeat (refine .run tt_ok ?_; conv => whnf)) | (refine ⟨by simp only [InI, maxB, maxS, List.length_append, List.length_cons, List.length_nil, decide_eq_true_eq, decide_eq_false_iff_not] at *; omega, ?_⟩; (conv => whnf); repeat (refine .run tt_ok ?_; conv => whnf)) | fail
    all_goals first
      | exact frzE rfl (by simp only [checkP, kindOk0, decide_eq_true_eq, decide_eq_false_iff_not] at *; rw [if_neg (by omega)])
      | exact ⟨1, ⟨by omega, fun _ => by simp [kindOk0] at *; omega, by omega, by omega⟩, by omega, .back' 2 rfl rfl rfl ⟨rfl, rfl, rfl, rfl, trivial⟩ rfl⟩
  · repeat (refine .run tt_ok ?_; conv => whnf)
    repeat' first | (refine Br.mk (fun h => absurd h (by decide)) (fun _ => ?_); (conv => whnf); repeat (refine .run tt_ok ?_; conv => whnf)) | (refine Br.mk (fun _ => ?_) (fun h => absurd h (by decide)); (conv => whnf); repeat (refine .run tt_ok ?_; conv => whnf)) | (refine Ob.mk (by first | decide | (simp [InI]; done) | (simp only [InI, maxB, maxS] at *; omega)) ?_; (conv => whnf); repeat (refine .run tt_ok ?_; conv => whnf)) | fail
    repeat' first | (refine Br.mk (fun h => absurd h (by decide)) (fun h => ?_); (conv => whnf); repeat (refine .run tt_ok ?_; conv => whnf)) | (refine Br.mk (fun h => ?_) (fun h => absurd h (by decide)); (conv => whnf); repeat (refine .run tt_ok ?_; conv => whnf)) | (apply Br.mk <;> intro h <;> (try (have h' := of_decide_eq_true h; subst h')) <;> (conv => whnf) <;> repeat (refine .run tt_ok ?_; conv => whnf)) | (refine ⟨by simp only [InI, maxB, maxS, List.length_append, List.length_cons, List.length_nil, decide_eq_true_eq, decide_eq_false_iff_not] at *; omega, ?_⟩; (conv => whnf); repeat (refine .run tt_ok ?_; conv => whnf)) | fail
    all_goals first
      | exact frzE rfl (by simp only [checkP, kindOk0, decide_eq_true_eq, decide_eq_false_iff_not] at *; rw [if_neg (by omega)])
      | exact ⟨2, ⟨by omega, fun _ => g0 (by omega), fun _ => by simp [kindOk0] at *; omega, by omega⟩, by omega, .back' 2 rfl rfl rfl ⟨rfl, rfl, rfl, rfl, trivial⟩ rfl⟩
  · repeat (refine .run tt_ok ?_; conv => whnf)
    repeat' first | (refine Br.mk (fun h => absurd h (by decide)) (fun _ => ?_); (conv => whnf); repeat (refine .run tt_ok ?_; conv => whnf)) | (refine Br.mk (fun _ => ?_) (fun h => absurd h (by decide)); (conv => whnf); repeat (refine .run tt_ok ?_; conv => whnf)) | (refine Ob.mk (by first | decide | (simp [InI]; done) | (simp only [InI, maxB, maxS] at *; omega)) ?_; (conv => whnf); repeat (refine .run tt_ok ?_; conv => whnf)) | fail
    repeat' first | (refine Br.mk (fun h => absurd h (by decide)) (fun h => ?_); (conv => whnf); repeat (refine .run tt_ok ?_; conv => whnf)) | (refine Br.mk (fun h => ?_) (fun h => absurd h (by decide)); (conv => whnf); repeat (refine .run tt_ok ?_; conv => whnf)) | (apply Br.mk <;> intro h <;> (try (have h' := of_decide_eq_true h; subst h')) <;> (conv => whnf) <;> repeat (refine .run tt_ok ?_; conv => whnf)) | (refine ⟨by simp only [InI, maxB, maxS, List.length_append, List.length_cons, List.length_nil, decide_eq_true_eq, decide_eq_false_iff_not] at *; omega, ?_⟩; (conv => whnf); repeat (refine .run tt_ok ?_; conv => whnf)) | fail
    all_goals first
      | exact frzE rfl (by simp only [checkP, kindOk0, decide_eq_true_eq, decide_eq_false_iff_not] at *; rw [if_neg (by omega)])
      | exact ⟨3, ⟨by omega, fun _ => g0 (by omega), fun _ => g1 (by omega), fun _ => by simp [kindOk0] at *; omega⟩, by omega, .back' 2 rfl rfl rfl ⟨rfl, rfl, rfl, rfl, trivial⟩ rfl⟩
  · repeat (refine .run tt_ok ?_; conv => whnf)
    repeat' first | (refine Br.mk (fun h => absurd h (by decide)) (fun _ => ?_); (conv => whnf); repeat (refine .run tt_ok ?_; conv => whnf)) | (refine Br.mk (fun _ => ?_) (fun h => absurd h (by decide)); (conv => whnf); repeat (refine .run tt_ok ?_; conv => whnf)) | (refine Ob.mk (by first | decide | (simp [InI]; done) | (simp only [InI, maxB, maxS] at *; omega)) ?_; (conv => whnf); repeat (refine .run tt_ok ?_; conv => whnf)) | fail
    repeat' first | (refine Br.mk (fun h => absurd h (by decide)) (fun h => ?_); (conv => whnf); repeat (refine .run tt_ok ?_; conv => whnf)) | (refine Br.mk (fun h => ?_) (fun h => absurd h (by decide)); (conv => whnf); repeat (refine .run tt_ok ?_; conv => whnf)) | (apply Br.mk <;> intro h <;> (try (have h' := of_decide_eq_true h; subst h')) <;> (conv => whnf) <;> repeat (refine .run tt_ok ?_; conv => whnf)) | (refine ⟨by simp only [InI, maxB, maxS, List.length_append, List.length_cons, List.length_nil, decide_eq_true_eq, decide_eq_false_iff_not] at *; omega, ?_⟩; (conv => whnf); repeat (refine .run tt_ok ?_; conv => whnf)) | fail
    all_goals first
      | exact frzE rfl (by simp only [checkP]; rw [if_pos ⟨g0 (by omega), g1 (by omega), g2 (by omega)⟩])
      | (exfalso; simp at h; omega)
  · omega
theorem s_may (n : Str) (hn : ∀ c, c ∈ n → isLetter c = true) : Ret P TT 23 [.str n] (.bool (decide (n ≠ []))) := by
  refine VCall.of_run (keep := [0, 2, 3, 5, 6, 7, 34]) tt_ok Tryz.func23 rfl rfl Tryz.ntmps23 rfl ?_
  repeat (refine .run tt_ok ?_; conv => whnf)
  refine ⟨fun hl => ?_⟩
  (conv => whnf); repeat (refine .run tt_ok ?_; conv => whnf)
  refine .of (fun x : Str × Str => [(0, .str n), (5, .int .i64 n.length), (6, .int .i64 x.1.length)]) (fun _ => []) (fun x => x.1 ++ x.2 = n) (fun x => x.2.length) ([], n) (by simp) (.slots ⟨rfl, rfl, rfl, trivial⟩) ?_
  rintro ⟨p, q⟩ rfl
  cases q with
  | nil =>
    repeat (refine .run tt_ok ?_; conv => whnf)
    refine ⟨fun h => absurd (of_decide_eq_true h) (by simp), fun h => ?_⟩
    (conv => whnf); repeat (refine .run tt_ok ?_; conv => whnf)
    exact frzB (by cases p <;> simp)
  | cons c q =>
    have hc := hn c (by simp)
    repeat (refine .run tt_ok ?_; conv => whnf)
    refine ⟨fun h => ?_, fun h => absurd (of_decide_eq_false h) (by simp; omega)⟩
    (conv => whnf); repeat (refine .run tt_ok ?_; conv => whnf)
    have hs := s_letter c
    rw [hc] at hs
    refine ⟨⟨by simp, by simp; omega⟩, ⟨fun x' => ⟨fun hx => ?_⟩⟩⟩
    simp at hx; subst hx
    (conv => whnf); repeat (refine .run tt_ok ?_; conv => whnf)
    repeat' first | (refine Br.mk (fun h => absurd h (by decide)) (fun _ => ?_); (conv => whnf); repeat (refine .run tt_ok ?_; conv => whnf)) | (refine Br.mk (fun _ => ?_) (fun h => absurd h (by decide)); (conv => whnf); repeat (refine .run tt_ok ?_; conv => whnf)) | (refine Ob.mk (by first | decide | (simp [InI]; done) | (simp only [InI, maxB, maxS] at *; omega)) ?_; (conv => whnf); repeat (refine .run tt_ok ?_; conv => whnf)) | (refine .calc (hs) rfl rfl ?_; (conv => whnf); repeat (refine .run tt_ok ?_; conv => whnf)) | fail
    refine ⟨by simp only [InI, maxB, maxS, List.length_append, List.length_cons, List.length_nil, decide_eq_true_eq, decide_eq_false_iff_not] at *; omega, ?_⟩
    (conv => whnf); repeat (refine .run tt_ok ?_; conv => whnf)
    exact ⟨(p ++ [c], q), by simp, Nat.lt_succ_self _, .slots ⟨rfl, rfl, by (conv => lhs; whnf); simp, trivial⟩⟩
end Go.V



open Go Go.V Go.Proofs
namespace Go.V
set_option linter.unusedVariables false
set_option linter.unusedSimpArgs false
set_option maxRecDepth 100000
def ixF {α : Type} (g : α → Bool) : List α → Int
  | [] => -1
  | x :: r => if g x = true then 0 else if ixF g r < 0 then -1 else ixF g r + 1
theorem ixF_none {α : Type} {g : α → Bool} : ∀ {l : List α}, (∀ y, y ∈ l → g y = false) → ixF g l = -1
  | [], _ => rfl
  | x :: r, h => by simp [ixF, h x (by simp), ixF_none (l := r) (fun y hy => h y (by simp [hy]))]
theorem ixF_at {α : Type} {g : α → Bool} {x : α} {q : List α} : ∀ {p : List α}, (∀ y, y ∈ p → g y = false) → g x = true → ixF g (p ++ x :: q) = p.length
  | [], _, hx => by simp [ixF, hx]
  | y :: p, h, hx => by
    have ih := ixF_at (q := q) (p := p) (fun z hz => h z (by simp [hz])) hx
    simp [ixF, h y (by simp), ih]
    omega
theorem ixF_any {α : Type} (g : α → Bool) : ∀ (l : List α), decide (ixF g l ≥ 0) = l.any g
  | [] => rfl
  | x :: r => by
    have ih := ixF_any g r
    cases hx : g x with
    | true => simp [ixF, hx]
    | false =>
      by_cases h : ixF g r < 0
      · have h1 : decide (ixF g r ≥ 0) = false := by simp; omega
        rw [h1] at ih
        simp [ixF, hx, h, ← ih]
      · have h1 : decide (ixF g r ≥ 0) = true := by simp; omega
        rw [h1] at ih
        simp [ixF, hx, h, ← ih]
        omega
theorem s_indexCTP (f : FuncId) (cs : List AV) (hcs : cs.all isR = true) (g : TP → Bool) (l : List TP) (hf : ∀ x, x ∈ l → Ret P TT f (.agg (encTP x) :: cs) (.bool (g x))) : Ret P TT 22 [.slt false 36 encTP l, .fn f [] cs] (.int .i64 (ixF g l)) := by
  refine VCall.of_run (keep := [0, 1, 4, 5, 7, 8, 9, 16]) tt_ok Tryz.func22 rfl rfl Tryz.ntmps22 rfl ?_
  repeat (refine .run tt_ok ?_; conv => whnf)
  refine ⟨fun hl => ?_⟩
  (conv => whnf); repeat (refine .run tt_ok ?_; conv => whnf)
  refine .of (fun x : List TP × List TP => [(0, .slt false 36 encTP l), (1, .fn f [] cs), (7, .int .i64 l.length), (8, .int .i64 x.1.length)]) (fun _ => []) (fun x => x.1 ++ x.2 = l ∧ ∀ y, y ∈ x.1 → g y = false) (fun x => x.2.length) ([], l) ⟨rfl, by simp⟩ (.slots ⟨rfl, rfl, rfl, rfl, trivial⟩) ?_
  rintro ⟨p, q⟩ ⟨rfl, hp⟩
  cases q with
  | nil =>
    repeat (refine .run tt_ok ?_; conv => whnf)
    refine ⟨fun h => absurd (of_decide_eq_true h) (by simp), fun h => ?_⟩
    (conv => whnf); repeat (refine .run tt_ok ?_; conv => whnf)
    exact frzE rfl (by rw [ixF_none (by simpa using hp)])
  | cons x q =>
    repeat (refine .run tt_ok ?_; conv => whnf)
    refine ⟨fun h => ?_, fun h => absurd (of_decide_eq_false h) (by simp; omega)⟩
    (conv => whnf); repeat (refine .run tt_ok ?_; conv => whnf)
    refine ⟨⟨by simp, by simp; omega⟩, ⟨fun x' => ⟨fun hx => ?_⟩⟩⟩
    simp at hx; subst hx
    (conv => whnf); repeat (refine .run tt_ok ?_; conv => whnf)
    refine .calc (hf x (by simp)) (by simp only [List.all_cons, isR_cl hcs, Bool.and_true]; rfl) rfl ?_
    (conv => whnf)
    repeat (refine .run tt_ok ?_; conv => whnf)
    refine ⟨fun hg => ?_, fun hg => ?_⟩
    · (conv => whnf); repeat (refine .run tt_ok ?_; conv => whnf)
      exact frzE rfl (by rw [ixF_at hp hg])
    · (conv => whnf); repeat (refine .run tt_ok ?_; conv => whnf)
      refine ⟨by simp only [InI, maxB, maxS, List.length_append, List.length_cons, List.length_nil, decide_eq_true_eq, decide_eq_false_iff_not] at *; omega, ?_⟩
      (conv => whnf); repeat (refine .run tt_ok ?_; conv => whnf)
      exact ⟨(p ++ [x], q), ⟨by simp, by intro y hy; rcases List.mem_append.1 hy with h1 | h1; exact hp y h1; simp at h1; subst h1; exact hg⟩, Nat.lt_succ_self _, .slots ⟨rfl, rfl, rfl, by (conv => lhs; whnf); simp, trivial⟩⟩
theorem s_containsCTP (f : FuncId) (cs : List AV) (hcs : cs.all isR = true) (g : TP → Bool) (l : List TP) (hf : ∀ x, x ∈ l → Ret P TT f (.agg (encTP x) :: cs) (.bool (g x))) : Ret P TT 11 [.slt false 36 encTP l, .fn f [] cs] (.bool (l.any g)) := by
  refine VCall.of_run (keep := [0, 1, 4]) tt_ok Tryz.func11 rfl rfl Tryz.ntmps11 rfl ?_
  repeat (refine .run tt_ok ?_; conv => whnf)
  refine .calc (s_indexCTP f cs hcs g l hf) (by simp only [List.all_cons, List.all_nil, clV, clA, hcs, Bool.and_true]; rfl) rfl ?_
  (conv => whnf)
  repeat (refine .run tt_ok ?_; conv => whnf)
  exact frzB (ixF_any g l)
theorem s_indexTP (f : FuncId) (g : TP → Bool) (l : List TP) (hf : ∀ x, x ∈ l → Ret P TT f [.agg (encTP x)] (.bool (g x))) : Ret P TT 22 [.slt false 36 encTP l, .fn f [] []] (.int .i64 (ixF g l)) := s_indexCTP f [] rfl g l hf
theorem s_containsTP (f : FuncId) (g : TP → Bool) (l : List TP) (hf : ∀ x, x ∈ l → Ret P TT f [.agg (encTP x)] (.bool (g x))) : Ret P TT 11 [.slt false 36 encTP l, .fn f [] []] (.bool (l.any g)) := s_containsCTP f [] rfl g l hf
theorem s_named (p q : TP) : Ret P TT 12 [.agg (encTP q), .rptr (encTP p) 0] (.bool (decide (q.name = p.name))) := by
  refine VCall.of_run (keep := [0, 1, 2, 3]) tt_ok Tryz.func12 rfl rfl Tryz.ntmps12 rfl ?_
  repeat (refine .run tt_ok ?_; conv => whnf)
  exact frzB rfl
def guardC (on rep any twice : AV) : List AV := [on, rep, .nils, any, twice]
theorem s_allows (n : Str) (tw : AV) (hn : ∀ c, c ∈ n → isLetter c = true) (htw : tw = .tt ∨ tw = .ff) : Ret P TT 13 [.agg (guardC .ff .ff .tt tw), .str n, .int .i64 0] (.bool (decide (n ≠ []))) := by
  have hm := s_may n hn
  by_cases h : n = []
  · subst h
    rcases htw with rfl | rfl
    · refine VCall.of_run (keep := [0, 1, 2, 3, 6]) tt_ok Tryz.func13 rfl rfl Tryz.ntmps13 rfl ?_
      repeat (refine .run tt_ok ?_; conv => whnf)
      repeat' first | (refine Br.mk (fun h => absurd h (by decide)) (fun _ => ?_); (conv => whnf); repeat (refine .run tt_ok ?_; conv => whnf)) | (refine Br.mk (fun _ => ?_) (fun h => absurd h (by decide)); (conv => whnf); repeat (refine .run tt_ok ?_; conv => whnf)) | (refine Ob.mk (by first | decide | (simp [InI]; done) | (simp only [InI, maxB, maxS] at *; omega)) ?_; (conv => whnf); repeat (refine .run tt_ok ?_; conv => whnf)) | (refine .calc (hm) rfl rfl ?_; (conv => whnf); repeat (refine .run tt_ok ?_; conv => whnf)) | fail
      first | exact frzF (by simp) | exact frzT rfl
    · refine VCall.of_run (keep := [0, 1, 2, 3, 6]) tt_ok Tryz.func13 rfl rfl Tryz.ntmps13 rfl ?_
      repeat (refine .run tt_ok ?_; conv => whnf)
      repeat' first | (refine Br.mk (fun h => absurd h (by decide)) (fun _ => ?_); (conv => whnf); repeat (refine .run tt_ok ?_; conv => whnf)) | (refine Br.mk (fun _ => ?_) (fun h => absurd h (by decide)); (conv => whnf); repeat (refine .run tt_ok ?_; conv => whnf)) | (refine Ob.mk (by first | decide | (simp [InI]; done) | (simp only [InI, maxB, maxS] at *; omega)) ?_; (conv => whnf); repeat (refine .run tt_ok ?_; conv => whnf)) | (refine .calc (hm) rfl rfl ?_; (conv => whnf); repeat (refine .run tt_ok ?_; conv => whnf)) | fail
      first | exact frzF (by simp) | exact frzT rfl
  · rw [show decide (n ≠ []) = true by simp [h]] at hm ⊢
    rcases htw with rfl | rfl
    · refine VCall.of_run (keep := [0, 1, 2, 3, 6]) tt_ok Tryz.func13 rfl rfl Tryz.ntmps13 rfl ?_
      repeat (refine .run tt_ok ?_; conv => whnf)
      repeat' first | (refine Br.mk (fun h => absurd h (by decide)) (fun _ => ?_); (conv => whnf); repeat (refine .run tt_ok ?_; conv => whnf)) | (refine Br.mk (fun _ => ?_) (fun h => absurd h (by decide)); (conv => whnf); repeat (refine .run tt_ok ?_; conv => whnf)) | (refine Ob.mk (by first | decide | (simp [InI]; done) | (simp only [InI, maxB, maxS] at *; omega)) ?_; (conv => whnf); repeat (refine .run tt_ok ?_; conv => whnf)) | (refine .calc (hm) rfl rfl ?_; (conv => whnf); repeat (refine .run tt_ok ?_; conv => whnf)) | fail
      first | exact frzF (by simp) | exact frzT rfl
    · refine VCall.of_run (keep := [0, 1, 2, 3, 6]) tt_ok Tryz.func13 rfl rfl Tryz.ntmps13 rfl ?_
      repeat (refine .run tt_ok ?_; conv => whnf)
      repeat' first | (refine Br.mk (fun h => absurd h (by decide)) (fun _ => ?_); (conv => whnf); repeat (refine .run tt_ok ?_; conv => whnf)) | (refine Br.mk (fun _ => ?_) (fun h => absurd h (by decide)); (conv => whnf); repeat (refine .run tt_ok ?_; conv => whnf)) | (refine Ob.mk (by first | decide | (simp [InI]; done) | (simp only [InI, maxB, maxS] at *; omega)) ?_; (conv => whnf); repeat (refine .run tt_ok ?_; conv => whnf)) | (refine .calc (hm) rfl rfl ?_; (conv => whnf); repeat (refine .run tt_ok ?_; conv => whnf)) | fail
      first | exact frzF (by simp) | exact frzT rfl
end Go.V


