/- Closed facts on the program's types (printed by wip/tools/facts.lean). -/
import Derived.Test.YtkgkpmdbcjelfaaPe1
import Derived.Test.YtkgkpmdbcjelfaaProg
import Derived.KernelRfl
set_option linter.defProp false
namespace Go.PE.F
open Go Go.Proofs
theorem mixed : Try.prog.follows .mixedOrders = true := by kernel_rfl
theorem a0 : kd? Try.prog 0 = 2 := by kernel_rfl
theorem a1 : ty? Try.prog 0 = some (false, 1) := by kernel_rfl
theorem a2 : sl? Try.prog 0 = none := by kernel_rfl
theorem a3 : zero? Try.prog 0 = some [.undef] := by kernel_rfl
theorem a4 : kd? Try.prog 1 = 2 := by kernel_rfl
theorem a5 : ty? Try.prog 1 = some (false, 1) := by kernel_rfl
theorem a6 : sl? Try.prog 1 = none := by kernel_rfl
theorem a7 : zero? Try.prog 1 = some [.d (.raw .nilFunc)] := by kernel_rfl
theorem a8 : kd? Try.prog 2 = 13 := by kernel_rfl
theorem a9 : ty? Try.prog 2 = some (false, 1) := by kernel_rfl
theorem a10 : sl? Try.prog 2 = none := by kernel_rfl
theorem a11 : zero? Try.prog 2 = some [.d (.int .i64 (0))] := by kernel_rfl
theorem a12 : kd? Try.prog 3 = 13 := by kernel_rfl
theorem a13 : ty? Try.prog 3 = some (false, 1) := by kernel_rfl
theorem a14 : sl? Try.prog 3 = none := by kernel_rfl
theorem a15 : zero? Try.prog 3 = some [.d (.int .i64 (0))] := by kernel_rfl
theorem a16 : kd? Try.prog 4 = 1 := by kernel_rfl
theorem a17 : ty? Try.prog 4 = some (false, 1) := by kernel_rfl
theorem a18 : sl? Try.prog 4 = none := by kernel_rfl
theorem a19 : zero? Try.prog 4 = some [.d (.bool false)] := by kernel_rfl
theorem a20 : kd? Try.prog 5 = 14 := by kernel_rfl
theorem a21 : ty? Try.prog 5 = some (false, 1) := by kernel_rfl
theorem a22 : sl? Try.prog 5 = none := by kernel_rfl
theorem a23 : zero? Try.prog 5 = some [.d (.int .u8 (0))] := by kernel_rfl
theorem a24 : kd? Try.prog 6 = 14 := by kernel_rfl
theorem a25 : ty? Try.prog 6 = some (false, 1) := by kernel_rfl
theorem a26 : sl? Try.prog 6 = none := by kernel_rfl
theorem a27 : zero? Try.prog 6 = some [.d (.int .u8 (0))] := by kernel_rfl
theorem a28 : kd? Try.prog 7 = 7 := by kernel_rfl
theorem a29 : ty? Try.prog 7 = some (true, 4) := by kernel_rfl
theorem a30 : sl? Try.prog 7 = none := by kernel_rfl
theorem a31 : ar? Try.prog 7 = none := by kernel_rfl
theorem a32 : fo? Try.prog 7 0 = some (0, 2) := by kernel_rfl
theorem a33 : fo? Try.prog 7 1 = some (1, 3) := by kernel_rfl
theorem a34 : fo? Try.prog 7 2 = some (2, 4) := by kernel_rfl
theorem a35 : fo? Try.prog 7 3 = some (3, 6) := by kernel_rfl
theorem a36 : cellsT Try.prog 7 = some [2, 2, 1, 2] := by kernel_rfl
theorem a37 : zero? Try.prog 7 = some [.d (.int .i64 (0)), .d (.int .i64 (0)), .d (.bool false), .d (.int .u8 (0))] := by kernel_rfl
theorem a38 : kd? Try.prog 8 = 7 := by kernel_rfl
theorem a39 : ty? Try.prog 8 = some (true, 4) := by kernel_rfl
theorem a40 : sl? Try.prog 8 = none := by kernel_rfl
theorem a41 : ar? Try.prog 8 = none := by kernel_rfl
theorem a42 : fo? Try.prog 8 0 = some (0, 2) := by kernel_rfl
theorem a43 : fo? Try.prog 8 1 = some (1, 3) := by kernel_rfl
theorem a44 : fo? Try.prog 8 2 = some (2, 4) := by kernel_rfl
theorem a45 : fo? Try.prog 8 3 = some (3, 6) := by kernel_rfl
theorem a46 : cellsT Try.prog 8 = some [2, 2, 1, 2] := by kernel_rfl
theorem a47 : zero? Try.prog 8 = some [.d (.int .i64 (0)), .d (.int .i64 (0)), .d (.bool false), .d (.int .u8 (0))] := by kernel_rfl
theorem a48 : kd? Try.prog 9 = 0 := by kernel_rfl
theorem a49 : ty? Try.prog 9 = some (false, 1) := by kernel_rfl
theorem a50 : sl? Try.prog 9 = none := by kernel_rfl
theorem a51 : zero? Try.prog 9 = some [.d (.str [])] := by kernel_rfl
theorem a52 : kd? Try.prog 10 = 0 := by kernel_rfl
theorem a53 : ty? Try.prog 10 = some (false, 1) := by kernel_rfl
theorem a54 : sl? Try.prog 10 = none := by kernel_rfl
theorem a55 : zero? Try.prog 10 = some [.d (.str [])] := by kernel_rfl
theorem a56 : kd? Try.prog 11 = 0 := by kernel_rfl
theorem a57 : ty? Try.prog 11 = some (false, 1) := by kernel_rfl
theorem a58 : sl? Try.prog 11 = none := by kernel_rfl
theorem a59 : zero? Try.prog 11 = some [.d (.str [])] := by kernel_rfl
theorem a60 : kd? Try.prog 12 = 17 := by kernel_rfl
theorem a61 : ty? Try.prog 12 = some (false, 1) := by kernel_rfl
theorem a62 : sl? Try.prog 12 = none := by kernel_rfl
theorem a63 : zero? Try.prog 12 = some [.d (.int .u64 (0))] := by kernel_rfl
theorem a64 : kd? Try.prog 13 = 7 := by kernel_rfl
theorem a65 : ty? Try.prog 13 = some (true, 2) := by kernel_rfl
theorem a66 : sl? Try.prog 13 = none := by kernel_rfl
theorem a67 : ar? Try.prog 13 = none := by kernel_rfl
theorem a68 : fo? Try.prog 13 0 = some (0, 9) := by kernel_rfl
theorem a69 : fo? Try.prog 13 1 = some (1, 12) := by kernel_rfl
theorem a70 : zero? Try.prog 13 = some [.d (.str []), .d (.int .u64 (0))] := by kernel_rfl
theorem a71 : kd? Try.prog 14 = 7 := by kernel_rfl
theorem a72 : ty? Try.prog 14 = some (true, 2) := by kernel_rfl
theorem a73 : sl? Try.prog 14 = none := by kernel_rfl
theorem a74 : ar? Try.prog 14 = none := by kernel_rfl
theorem a75 : fo? Try.prog 14 0 = some (0, 9) := by kernel_rfl
theorem a76 : fo? Try.prog 14 1 = some (1, 12) := by kernel_rfl
theorem a77 : zero? Try.prog 14 = some [.d (.str []), .d (.int .u64 (0))] := by kernel_rfl
theorem a78 : kd? Try.prog 15 = 5 := by kernel_rfl
theorem a79 : ty? Try.prog 15 = some (false, 1) := by kernel_rfl
theorem a80 : sl? Try.prog 15 = none := by kernel_rfl
theorem a81 : zero? Try.prog 15 = some [.d (.raw (.pointer none))] := by kernel_rfl
theorem a82 : kd? Try.prog 16 = 5 := by kernel_rfl
theorem a83 : ty? Try.prog 16 = some (false, 1) := by kernel_rfl
theorem a84 : sl? Try.prog 16 = none := by kernel_rfl
theorem a85 : zero? Try.prog 16 = some [.d (.raw (.pointer none))] := by kernel_rfl
theorem a86 : kd? Try.prog 17 = 5 := by kernel_rfl
theorem a87 : ty? Try.prog 17 = some (false, 1) := by kernel_rfl
theorem a88 : sl? Try.prog 17 = none := by kernel_rfl
theorem a89 : zero? Try.prog 17 = some [.d (.raw (.pointer none))] := by kernel_rfl
theorem a90 : kd? Try.prog 18 = 7 := by kernel_rfl
theorem a91 : ty? Try.prog 18 = some (true, 1) := by kernel_rfl
theorem a92 : sl? Try.prog 18 = none := by kernel_rfl
theorem a93 : ar? Try.prog 18 = none := by kernel_rfl
theorem a94 : fo? Try.prog 18 0 = some (0, 17) := by kernel_rfl
theorem a95 : zero? Try.prog 18 = some [.d (.raw (.pointer none))] := by kernel_rfl
theorem a96 : kd? Try.prog 19 = 7 := by kernel_rfl
theorem a97 : ty? Try.prog 19 = some (true, 1) := by kernel_rfl
theorem a98 : sl? Try.prog 19 = none := by kernel_rfl
theorem a99 : ar? Try.prog 19 = none := by kernel_rfl
theorem a100 : fo? Try.prog 19 0 = some (0, 17) := by kernel_rfl
theorem a101 : zero? Try.prog 19 = some [.d (.raw (.pointer none))] := by kernel_rfl
theorem a102 : kd? Try.prog 20 = 3 := by kernel_rfl
theorem a103 : ty? Try.prog 20 = some (false, 1) := by kernel_rfl
theorem a104 : sl? Try.prog 20 = none := by kernel_rfl
theorem a105 : zero? Try.prog 20 = some [.d (.nilI)] := by kernel_rfl
theorem a106 : kd? Try.prog 21 = 12 := by kernel_rfl
theorem a107 : ty? Try.prog 21 = some (false, 1) := by kernel_rfl
theorem a108 : sl? Try.prog 21 = none := by kernel_rfl
theorem a109 : zero? Try.prog 21 = some [.d (.int .i32 (0))] := by kernel_rfl
theorem a110 : kd? Try.prog 22 = 6 := by kernel_rfl
theorem a111 : ty? Try.prog 22 = some (false, 1) := by kernel_rfl
theorem a112 : sl? Try.prog 22 = some (43, 1, 24) := by kernel_rfl
theorem a113 : zero? Try.prog 22 = some [.nilS] := by kernel_rfl
theorem a114 : kd? Try.prog 23 = 6 := by kernel_rfl
theorem a115 : ty? Try.prog 23 = some (false, 1) := by kernel_rfl
theorem a116 : sl? Try.prog 23 = some (5, 1, 1) := by kernel_rfl
theorem a117 : zero? Try.prog 23 = some [.nilS] := by kernel_rfl
theorem a118 : kd? Try.prog 24 = 4 := by kernel_rfl
theorem a119 : ty? Try.prog 24 = some (true, 5) := by kernel_rfl
theorem a120 : sl? Try.prog 24 = none := by kernel_rfl
theorem a121 : ar? Try.prog 24 = some (5, 1) := by kernel_rfl
theorem a122 : zero? Try.prog 24 = some [.d (.int .i32 (0)), .d (.int .i32 (0)), .d (.int .i32 (0)), .d (.int .i32 (0)), .d (.int .i32 (0))] := by kernel_rfl
theorem a123 : kd? Try.prog 25 = 2 := by kernel_rfl
theorem a124 : ty? Try.prog 25 = some (false, 1) := by kernel_rfl
theorem a125 : sl? Try.prog 25 = none := by kernel_rfl
theorem a126 : zero? Try.prog 25 = some [.d (.raw .nilFunc)] := by kernel_rfl
theorem a127 : kd? Try.prog 26 = 6 := by kernel_rfl
theorem a128 : ty? Try.prog 26 = some (false, 1) := by kernel_rfl
theorem a129 : sl? Try.prog 26 = some (34, 1, 24) := by kernel_rfl
theorem a130 : zero? Try.prog 26 = some [.nilS] := by kernel_rfl
theorem a131 : kd? Try.prog 27 = 2 := by kernel_rfl
theorem a132 : ty? Try.prog 27 = some (false, 1) := by kernel_rfl
theorem a133 : sl? Try.prog 27 = none := by kernel_rfl
theorem a134 : zero? Try.prog 27 = some [.d (.raw .nilFunc)] := by kernel_rfl
theorem a135 : kd? Try.prog 28 = 6 := by kernel_rfl
theorem a136 : ty? Try.prog 28 = some (false, 1) := by kernel_rfl
theorem a137 : sl? Try.prog 28 = some (23, 1, 24) := by kernel_rfl
theorem a138 : zero? Try.prog 28 = some [.nilS] := by kernel_rfl
theorem a139 : kd? Try.prog 29 = 2 := by kernel_rfl
theorem a140 : ty? Try.prog 29 = some (false, 1) := by kernel_rfl
theorem a141 : sl? Try.prog 29 = none := by kernel_rfl
theorem a142 : zero? Try.prog 29 = some [.d (.raw .nilFunc)] := by kernel_rfl
theorem a143 : kd? Try.prog 30 = 15 := by kernel_rfl
theorem a144 : ty? Try.prog 30 = some (false, 1) := by kernel_rfl
theorem a145 : sl? Try.prog 30 = none := by kernel_rfl
theorem a146 : zero? Try.prog 30 = some [.d (.int .u16 (0))] := by kernel_rfl
theorem a147 : kd? Try.prog 31 = 13 := by kernel_rfl
theorem a148 : ty? Try.prog 31 = some (false, 1) := by kernel_rfl
theorem a149 : sl? Try.prog 31 = none := by kernel_rfl
theorem a150 : zero? Try.prog 31 = some [.d (.int .i64 (0))] := by kernel_rfl
theorem a151 : kd? Try.prog 32 = 2 := by kernel_rfl
theorem a152 : ty? Try.prog 32 = some (false, 1) := by kernel_rfl
theorem a153 : sl? Try.prog 32 = none := by kernel_rfl
theorem a154 : zero? Try.prog 32 = some [.undef] := by kernel_rfl
theorem a155 : kd? Try.prog 33 = 2 := by kernel_rfl
theorem a156 : ty? Try.prog 33 = some (false, 1) := by kernel_rfl
theorem a157 : sl? Try.prog 33 = none := by kernel_rfl
theorem a158 : zero? Try.prog 33 = some [.d (.raw .nilFunc)] := by kernel_rfl
theorem a159 : kd? Try.prog 34 = 6 := by kernel_rfl
theorem a160 : ty? Try.prog 34 = some (false, 1) := by kernel_rfl
theorem a161 : sl? Try.prog 34 = some (61, 8, 112) := by kernel_rfl
theorem a162 : zero? Try.prog 34 = some [.nilS] := by kernel_rfl
theorem a163 : kd? Try.prog 35 = 2 := by kernel_rfl
theorem a164 : ty? Try.prog 35 = some (false, 1) := by kernel_rfl
theorem a165 : sl? Try.prog 35 = none := by kernel_rfl
theorem a166 : zero? Try.prog 35 = some [.d (.raw .nilFunc)] := by kernel_rfl
theorem a167 : kd? Try.prog 36 = 7 := by kernel_rfl
theorem a168 : ty? Try.prog 36 = some (true, 4) := by kernel_rfl
theorem a169 : sl? Try.prog 36 = none := by kernel_rfl
theorem a170 : ar? Try.prog 36 = none := by kernel_rfl
theorem a171 : fo? Try.prog 36 0 = some (0, 3) := by kernel_rfl
theorem a172 : fo? Try.prog 36 1 = some (1, 3) := by kernel_rfl
theorem a173 : fo? Try.prog 36 2 = some (2, 34) := by kernel_rfl
theorem a174 : fo? Try.prog 36 3 = some (3, 31) := by kernel_rfl
theorem a175 : zero? Try.prog 36 = some [.d (.int .i64 (0)), .d (.int .i64 (0)), .nilS, .d (.int .i64 (0))] := by kernel_rfl
theorem a176 : kd? Try.prog 37 = 7 := by kernel_rfl
theorem a177 : ty? Try.prog 37 = some (true, 4) := by kernel_rfl
theorem a178 : sl? Try.prog 37 = none := by kernel_rfl
theorem a179 : ar? Try.prog 37 = none := by kernel_rfl
theorem a180 : fo? Try.prog 37 0 = some (0, 3) := by kernel_rfl
theorem a181 : fo? Try.prog 37 1 = some (1, 3) := by kernel_rfl
theorem a182 : fo? Try.prog 37 2 = some (2, 34) := by kernel_rfl
theorem a183 : fo? Try.prog 37 3 = some (3, 31) := by kernel_rfl
theorem a184 : zero? Try.prog 37 = some [.d (.int .i64 (0)), .d (.int .i64 (0)), .nilS, .d (.int .i64 (0))] := by kernel_rfl
theorem a185 : kd? Try.prog 38 = 2 := by kernel_rfl
theorem a186 : ty? Try.prog 38 = some (false, 1) := by kernel_rfl
theorem a187 : sl? Try.prog 38 = none := by kernel_rfl
theorem a188 : zero? Try.prog 38 = some [.d (.raw .nilFunc)] := by kernel_rfl
theorem a189 : kd? Try.prog 39 = 16 := by kernel_rfl
theorem a190 : ty? Try.prog 39 = some (false, 1) := by kernel_rfl
theorem a191 : sl? Try.prog 39 = none := by kernel_rfl
theorem a192 : zero? Try.prog 39 = some [.d (.int .u32 (0))] := by kernel_rfl
theorem a193 : kd? Try.prog 40 = 2 := by kernel_rfl
theorem a194 : ty? Try.prog 40 = some (false, 1) := by kernel_rfl
theorem a195 : sl? Try.prog 40 = none := by kernel_rfl
theorem a196 : zero? Try.prog 40 = some [.d (.raw .nilFunc)] := by kernel_rfl
theorem a197 : kd? Try.prog 41 = 2 := by kernel_rfl
theorem a198 : ty? Try.prog 41 = some (false, 1) := by kernel_rfl
theorem a199 : sl? Try.prog 41 = none := by kernel_rfl
theorem a200 : zero? Try.prog 41 = some [.d (.raw .nilFunc)] := by kernel_rfl
theorem a201 : kd? Try.prog 42 = 2 := by kernel_rfl
theorem a202 : ty? Try.prog 42 = some (false, 1) := by kernel_rfl
theorem a203 : sl? Try.prog 42 = none := by kernel_rfl
theorem a204 : zero? Try.prog 42 = some [.d (.raw .nilFunc)] := by kernel_rfl
theorem a205 : kd? Try.prog 43 = 6 := by kernel_rfl
theorem a206 : ty? Try.prog 43 = some (false, 1) := by kernel_rfl
theorem a207 : sl? Try.prog 43 = some (103, 6, 6) := by kernel_rfl
theorem a208 : zero? Try.prog 43 = some [.nilS] := by kernel_rfl
theorem a209 : kd? Try.prog 44 = 4 := by kernel_rfl
theorem a210 : ty? Try.prog 44 = some (true, 2) := by kernel_rfl
theorem a211 : sl? Try.prog 44 = none := by kernel_rfl
theorem a212 : ar? Try.prog 44 = some (2, 1) := by kernel_rfl
theorem a213 : zero? Try.prog 44 = some [.nilS, .nilS] := by kernel_rfl
theorem a214 : kd? Try.prog 45 = 4 := by kernel_rfl
theorem a215 : ty? Try.prog 45 = some (true, 4) := by kernel_rfl
theorem a216 : sl? Try.prog 45 = none := by kernel_rfl
theorem a217 : ar? Try.prog 45 = some (4, 1) := by kernel_rfl
theorem a218 : zero? Try.prog 45 = some [.d (.int .u32 (0)), .d (.int .u32 (0)), .d (.int .u32 (0)), .d (.int .u32 (0))] := by kernel_rfl
theorem a219 : kd? Try.prog 46 = 2 := by kernel_rfl
theorem a220 : ty? Try.prog 46 = some (false, 1) := by kernel_rfl
theorem a221 : sl? Try.prog 46 = none := by kernel_rfl
theorem a222 : zero? Try.prog 46 = some [.d (.raw .nilFunc)] := by kernel_rfl
theorem a223 : kd? Try.prog 47 = 17 := by kernel_rfl
theorem a224 : ty? Try.prog 47 = some (false, 1) := by kernel_rfl
theorem a225 : sl? Try.prog 47 = none := by kernel_rfl
theorem a226 : zero? Try.prog 47 = some [.d (.int .u64 (0))] := by kernel_rfl
theorem a227 : kd? Try.prog 48 = 4 := by kernel_rfl
theorem a228 : ty? Try.prog 48 = some (true, 2) := by kernel_rfl
theorem a229 : sl? Try.prog 48 = none := by kernel_rfl
theorem a230 : ar? Try.prog 48 = some (2, 1) := by kernel_rfl
theorem a231 : zero? Try.prog 48 = some [.d (.int .i64 (0)), .d (.int .i64 (0))] := by kernel_rfl
theorem a232 : kd? Try.prog 49 = 2 := by kernel_rfl
theorem a233 : ty? Try.prog 49 = some (false, 1) := by kernel_rfl
theorem a234 : sl? Try.prog 49 = none := by kernel_rfl
theorem a235 : zero? Try.prog 49 = some [.d (.raw .nilFunc)] := by kernel_rfl
theorem a236 : kd? Try.prog 50 = 2 := by kernel_rfl
theorem a237 : ty? Try.prog 50 = some (false, 1) := by kernel_rfl
theorem a238 : sl? Try.prog 50 = none := by kernel_rfl
theorem a239 : zero? Try.prog 50 = some [.d (.raw .nilFunc)] := by kernel_rfl
theorem a240 : kd? Try.prog 51 = 4 := by kernel_rfl
theorem a241 : ty? Try.prog 51 = some (true, 2) := by kernel_rfl
theorem a242 : sl? Try.prog 51 = none := by kernel_rfl
theorem a243 : ar? Try.prog 51 = some (2, 1) := by kernel_rfl
theorem a244 : zero? Try.prog 51 = some [.d (.int .u16 (0)), .d (.int .u16 (0))] := by kernel_rfl
theorem a245 : kd? Try.prog 52 = 2 := by kernel_rfl
theorem a246 : ty? Try.prog 52 = some (false, 1) := by kernel_rfl
theorem a247 : sl? Try.prog 52 = none := by kernel_rfl
theorem a248 : zero? Try.prog 52 = some [.d (.raw .nilFunc)] := by kernel_rfl
theorem a249 : kd? Try.prog 53 = 2 := by kernel_rfl
theorem a250 : ty? Try.prog 53 = some (false, 1) := by kernel_rfl
theorem a251 : sl? Try.prog 53 = none := by kernel_rfl
theorem a252 : zero? Try.prog 53 = some [.d (.raw .nilFunc)] := by kernel_rfl
theorem a253 : kd? Try.prog 54 = 4 := by kernel_rfl
theorem a254 : ty? Try.prog 54 = some (true, 4) := by kernel_rfl
theorem a255 : sl? Try.prog 54 = none := by kernel_rfl
theorem a256 : ar? Try.prog 54 = some (4, 1) := by kernel_rfl
theorem a257 : zero? Try.prog 54 = some [.d (.int .u16 (0)), .d (.int .u16 (0)), .d (.int .u16 (0)), .d (.int .u16 (0))] := by kernel_rfl
theorem a258 : kd? Try.prog 55 = 2 := by kernel_rfl
theorem a259 : ty? Try.prog 55 = some (false, 1) := by kernel_rfl
theorem a260 : sl? Try.prog 55 = none := by kernel_rfl
theorem a261 : zero? Try.prog 55 = some [.d (.raw .nilFunc)] := by kernel_rfl
theorem a262 : kd? Try.prog 56 = 2 := by kernel_rfl
theorem a263 : ty? Try.prog 56 = some (false, 1) := by kernel_rfl
theorem a264 : sl? Try.prog 56 = none := by kernel_rfl
theorem a265 : zero? Try.prog 56 = some [.d (.raw .nilFunc)] := by kernel_rfl
theorem a266 : kd? Try.prog 57 = 4 := by kernel_rfl
theorem a267 : ty? Try.prog 57 = some (true, 2) := by kernel_rfl
theorem a268 : sl? Try.prog 57 = none := by kernel_rfl
theorem a269 : ar? Try.prog 57 = some (2, 1) := by kernel_rfl
theorem a270 : zero? Try.prog 57 = some [.d (.int .i32 (0)), .d (.int .i32 (0))] := by kernel_rfl
theorem a271 : kd? Try.prog 58 = 7 := by kernel_rfl
theorem a272 : ty? Try.prog 58 = some (true, 2) := by kernel_rfl
theorem a273 : sl? Try.prog 58 = none := by kernel_rfl
theorem a274 : ar? Try.prog 58 = none := by kernel_rfl
theorem a275 : fo? Try.prog 58 0 = some (0, 9) := by kernel_rfl
theorem a276 : fo? Try.prog 58 1 = some (1, 9) := by kernel_rfl
theorem a277 : cellsT Try.prog 58 = some [0, 0] := by kernel_rfl
theorem a278 : zero? Try.prog 58 = some [.d (.str []), .d (.str [])] := by kernel_rfl
theorem a279 : kd? Try.prog 59 = 7 := by kernel_rfl
theorem a280 : ty? Try.prog 59 = some (true, 2) := by kernel_rfl
theorem a281 : sl? Try.prog 59 = none := by kernel_rfl
theorem a282 : ar? Try.prog 59 = none := by kernel_rfl
theorem a283 : fo? Try.prog 59 0 = some (0, 9) := by kernel_rfl
theorem a284 : fo? Try.prog 59 1 = some (1, 9) := by kernel_rfl
theorem a285 : cellsT Try.prog 59 = some [0, 0] := by kernel_rfl
theorem a286 : zero? Try.prog 59 = some [.d (.str []), .d (.str [])] := by kernel_rfl
theorem a287 : kd? Try.prog 60 = 7 := by kernel_rfl
theorem a288 : ty? Try.prog 60 = some (true, 8) := by kernel_rfl
theorem a289 : sl? Try.prog 60 = none := by kernel_rfl
theorem a290 : ar? Try.prog 60 = none := by kernel_rfl
theorem a291 : fo? Try.prog 60 0 = some (0, 3) := by kernel_rfl
theorem a292 : fo? Try.prog 60 1 = some (1, 9) := by kernel_rfl
theorem a293 : fo? Try.prog 60 2 = some (2, 9) := by kernel_rfl
theorem a294 : fo? Try.prog 60 3 = some (3, 59) := by kernel_rfl
theorem a295 : fo? Try.prog 60 4 = some (5, 9) := by kernel_rfl
theorem a296 : fo? Try.prog 60 5 = some (6, 9) := by kernel_rfl
theorem a297 : fo? Try.prog 60 6 = some (7, 3) := by kernel_rfl
theorem a298 : cellsT Try.prog 60 = some [2, 0, 0, 0, 0, 0, 0, 2] := by kernel_rfl
theorem a299 : zero? Try.prog 60 = some [.d (.int .i64 (0)), .d (.str []), .d (.str []), .d (.str []), .d (.str []), .d (.str []), .d (.str []), .d (.int .i64 (0))] := by kernel_rfl
theorem a300 : kd? Try.prog 61 = 7 := by kernel_rfl
theorem a301 : ty? Try.prog 61 = some (true, 8) := by kernel_rfl
theorem a302 : sl? Try.prog 61 = none := by kernel_rfl
theorem a303 : ar? Try.prog 61 = none := by kernel_rfl
theorem a304 : fo? Try.prog 61 0 = some (0, 3) := by kernel_rfl
theorem a305 : fo? Try.prog 61 1 = some (1, 9) := by kernel_rfl
theorem a306 : fo? Try.prog 61 2 = some (2, 9) := by kernel_rfl
theorem a307 : fo? Try.prog 61 3 = some (3, 59) := by kernel_rfl
theorem a308 : fo? Try.prog 61 4 = some (5, 9) := by kernel_rfl
theorem a309 : fo? Try.prog 61 5 = some (6, 9) := by kernel_rfl
theorem a310 : fo? Try.prog 61 6 = some (7, 3) := by kernel_rfl
theorem a311 : cellsT Try.prog 61 = some [2, 0, 0, 0, 0, 0, 0, 2] := by kernel_rfl
theorem a312 : zero? Try.prog 61 = some [.d (.int .i64 (0)), .d (.str []), .d (.str []), .d (.str []), .d (.str []), .d (.str []), .d (.str []), .d (.int .i64 (0))] := by kernel_rfl
theorem a313 : kd? Try.prog 62 = 2 := by kernel_rfl
theorem a314 : ty? Try.prog 62 = some (false, 1) := by kernel_rfl
theorem a315 : sl? Try.prog 62 = none := by kernel_rfl
theorem a316 : zero? Try.prog 62 = some [.d (.raw .nilFunc)] := by kernel_rfl
theorem a317 : kd? Try.prog 63 = 4 := by kernel_rfl
theorem a318 : ty? Try.prog 63 = some (true, 4) := by kernel_rfl
theorem a319 : sl? Try.prog 63 = none := by kernel_rfl
theorem a320 : ar? Try.prog 63 = some (4, 1) := by kernel_rfl
theorem a321 : zero? Try.prog 63 = some [.d (.int .u8 (0)), .d (.int .u8 (0)), .d (.int .u8 (0)), .d (.int .u8 (0))] := by kernel_rfl
theorem a322 : kd? Try.prog 64 = 6 := by kernel_rfl
theorem a323 : ty? Try.prog 64 = some (false, 1) := by kernel_rfl
theorem a324 : sl? Try.prog 64 = some (70, 14, 160) := by kernel_rfl
theorem a325 : zero? Try.prog 64 = some [.nilS] := by kernel_rfl
theorem a326 : kd? Try.prog 65 = 2 := by kernel_rfl
theorem a327 : ty? Try.prog 65 = some (false, 1) := by kernel_rfl
theorem a328 : sl? Try.prog 65 = none := by kernel_rfl
theorem a329 : zero? Try.prog 65 = some [.d (.raw .nilFunc)] := by kernel_rfl
theorem a330 : kd? Try.prog 66 = 17 := by kernel_rfl
theorem a331 : ty? Try.prog 66 = some (false, 1) := by kernel_rfl
theorem a332 : sl? Try.prog 66 = none := by kernel_rfl
theorem a333 : zero? Try.prog 66 = some [.d (.int .u64 (0))] := by kernel_rfl
theorem a334 : kd? Try.prog 67 = 2 := by kernel_rfl
theorem a335 : ty? Try.prog 67 = some (false, 1) := by kernel_rfl
theorem a336 : sl? Try.prog 67 = none := by kernel_rfl
theorem a337 : zero? Try.prog 67 = some [.d (.raw .nilFunc)] := by kernel_rfl
theorem a338 : kd? Try.prog 68 = 2 := by kernel_rfl
theorem a339 : ty? Try.prog 68 = some (false, 1) := by kernel_rfl
theorem a340 : sl? Try.prog 68 = none := by kernel_rfl
theorem a341 : zero? Try.prog 68 = some [.d (.raw .nilFunc)] := by kernel_rfl
theorem a342 : kd? Try.prog 69 = 7 := by kernel_rfl
theorem a343 : ty? Try.prog 69 = some (true, 14) := by kernel_rfl
theorem a344 : sl? Try.prog 69 = none := by kernel_rfl
theorem a345 : ar? Try.prog 69 = none := by kernel_rfl
theorem a346 : fo? Try.prog 69 0 = some (0, 3) := by kernel_rfl
theorem a347 : fo? Try.prog 69 1 = some (1, 3) := by kernel_rfl
theorem a348 : fo? Try.prog 69 2 = some (2, 3) := by kernel_rfl
theorem a349 : fo? Try.prog 69 3 = some (3, 66) := by kernel_rfl
theorem a350 : fo? Try.prog 69 4 = some (4, 66) := by kernel_rfl
theorem a351 : fo? Try.prog 69 5 = some (5, 61) := by kernel_rfl
theorem a352 : fo? Try.prog 69 6 = some (13, 66) := by kernel_rfl
theorem a353 : cellsT Try.prog 69 = some [2, 2, 2, 2, 2, 2, 0, 0, 0, 0, 0, 0, 2, 2] := by kernel_rfl
theorem a354 : zero? Try.prog 69 = some [.d (.int .i64 (0)), .d (.int .i64 (0)), .d (.int .i64 (0)), .d (.int .u64 (0)), .d (.int .u64 (0)), .d (.int .i64 (0)), .d (.str []), .d (.str []), .d (.str []), .d (.str []), .d (.str []), .d (.str []), .d (.int .i64 (0)), .d (.int .u64 (0))] := by kernel_rfl
theorem a355 : kd? Try.prog 70 = 7 := by kernel_rfl
theorem a356 : ty? Try.prog 70 = some (true, 14) := by kernel_rfl
theorem a357 : sl? Try.prog 70 = none := by kernel_rfl
theorem a358 : ar? Try.prog 70 = none := by kernel_rfl
theorem a359 : fo? Try.prog 70 0 = some (0, 3) := by kernel_rfl
theorem a360 : fo? Try.prog 70 1 = some (1, 3) := by kernel_rfl
theorem a361 : fo? Try.prog 70 2 = some (2, 3) := by kernel_rfl
theorem a362 : fo? Try.prog 70 3 = some (3, 66) := by kernel_rfl
theorem a363 : fo? Try.prog 70 4 = some (4, 66) := by kernel_rfl
theorem a364 : fo? Try.prog 70 5 = some (5, 61) := by kernel_rfl
theorem a365 : fo? Try.prog 70 6 = some (13, 66) := by kernel_rfl
theorem a366 : cellsT Try.prog 70 = some [2, 2, 2, 2, 2, 2, 0, 0, 0, 0, 0, 0, 2, 2] := by kernel_rfl
theorem a367 : zero? Try.prog 70 = some [.d (.int .i64 (0)), .d (.int .i64 (0)), .d (.int .i64 (0)), .d (.int .u64 (0)), .d (.int .u64 (0)), .d (.int .i64 (0)), .d (.str []), .d (.str []), .d (.str []), .d (.str []), .d (.str []), .d (.str []), .d (.int .i64 (0)), .d (.int .u64 (0))] := by kernel_rfl
theorem a368 : kd? Try.prog 71 = 2 := by kernel_rfl
theorem a369 : ty? Try.prog 71 = some (false, 1) := by kernel_rfl
theorem a370 : sl? Try.prog 71 = none := by kernel_rfl
theorem a371 : zero? Try.prog 71 = some [.d (.raw .nilFunc)] := by kernel_rfl
theorem a372 : kd? Try.prog 72 = 4 := by kernel_rfl
theorem a373 : ty? Try.prog 72 = some (true, 2) := by kernel_rfl
theorem a374 : sl? Try.prog 72 = none := by kernel_rfl
theorem a375 : ar? Try.prog 72 = some (2, 1) := by kernel_rfl
theorem a376 : zero? Try.prog 72 = some [.d (.int .u64 (0)), .d (.int .u64 (0))] := by kernel_rfl
theorem a377 : kd? Try.prog 73 = 2 := by kernel_rfl
theorem a378 : ty? Try.prog 73 = some (false, 1) := by kernel_rfl
theorem a379 : sl? Try.prog 73 = none := by kernel_rfl
theorem a380 : zero? Try.prog 73 = some [.d (.raw .nilFunc)] := by kernel_rfl
theorem a381 : kd? Try.prog 74 = 7 := by kernel_rfl
theorem a382 : ty? Try.prog 74 = some (true, 16) := by kernel_rfl
theorem a383 : sl? Try.prog 74 = none := by kernel_rfl
theorem a384 : ar? Try.prog 74 = none := by kernel_rfl
theorem a385 : fo? Try.prog 74 0 = some (0, 70) := by kernel_rfl
theorem a386 : fo? Try.prog 74 1 = some (14, 3) := by kernel_rfl
theorem a387 : fo? Try.prog 74 2 = some (15, 31) := by kernel_rfl
theorem a388 : cellsT Try.prog 74 = some [2, 2, 2, 2, 2, 2, 0, 0, 0, 0, 0, 0, 2, 2, 2, 2] := by kernel_rfl
theorem a389 : zero? Try.prog 74 = some [.d (.int .i64 (0)), .d (.int .i64 (0)), .d (.int .i64 (0)), .d (.int .u64 (0)), .d (.int .u64 (0)), .d (.int .i64 (0)), .d (.str []), .d (.str []), .d (.str []), .d (.str []), .d (.str []), .d (.str []), .d (.int .i64 (0)), .d (.int .u64 (0)), .d (.int .i64 (0)), .d (.int .i64 (0))] := by kernel_rfl
theorem a390 : kd? Try.prog 75 = 7 := by kernel_rfl
theorem a391 : ty? Try.prog 75 = some (true, 16) := by kernel_rfl
theorem a392 : sl? Try.prog 75 = none := by kernel_rfl
theorem a393 : ar? Try.prog 75 = none := by kernel_rfl
theorem a394 : fo? Try.prog 75 0 = some (0, 70) := by kernel_rfl
theorem a395 : fo? Try.prog 75 1 = some (14, 3) := by kernel_rfl
theorem a396 : fo? Try.prog 75 2 = some (15, 31) := by kernel_rfl
theorem a397 : cellsT Try.prog 75 = some [2, 2, 2, 2, 2, 2, 0, 0, 0, 0, 0, 0, 2, 2, 2, 2] := by kernel_rfl
theorem a398 : zero? Try.prog 75 = some [.d (.int .i64 (0)), .d (.int .i64 (0)), .d (.int .i64 (0)), .d (.int .u64 (0)), .d (.int .u64 (0)), .d (.int .i64 (0)), .d (.str []), .d (.str []), .d (.str []), .d (.str []), .d (.str []), .d (.str []), .d (.int .i64 (0)), .d (.int .u64 (0)), .d (.int .i64 (0)), .d (.int .i64 (0))] := by kernel_rfl
theorem a399 : kd? Try.prog 76 = 2 := by kernel_rfl
theorem a400 : ty? Try.prog 76 = some (false, 1) := by kernel_rfl
theorem a401 : sl? Try.prog 76 = none := by kernel_rfl
theorem a402 : zero? Try.prog 76 = some [.d (.raw .nilFunc)] := by kernel_rfl
theorem a403 : kd? Try.prog 77 = 2 := by kernel_rfl
theorem a404 : ty? Try.prog 77 = some (false, 1) := by kernel_rfl
theorem a405 : sl? Try.prog 77 = none := by kernel_rfl
theorem a406 : zero? Try.prog 77 = some [.d (.raw .nilFunc)] := by kernel_rfl
theorem a407 : kd? Try.prog 78 = 2 := by kernel_rfl
theorem a408 : ty? Try.prog 78 = some (false, 1) := by kernel_rfl
theorem a409 : sl? Try.prog 78 = none := by kernel_rfl
theorem a410 : zero? Try.prog 78 = some [.d (.raw .nilFunc)] := by kernel_rfl
theorem a411 : kd? Try.prog 79 = 2 := by kernel_rfl
theorem a412 : ty? Try.prog 79 = some (false, 1) := by kernel_rfl
theorem a413 : sl? Try.prog 79 = none := by kernel_rfl
theorem a414 : zero? Try.prog 79 = some [.d (.raw .nilFunc)] := by kernel_rfl
theorem a415 : kd? Try.prog 80 = 4 := by kernel_rfl
theorem a416 : ty? Try.prog 80 = some (true, 2) := by kernel_rfl
theorem a417 : sl? Try.prog 80 = none := by kernel_rfl
theorem a418 : ar? Try.prog 80 = some (2, 1) := by kernel_rfl
theorem a419 : zero? Try.prog 80 = some [.d (.int .u8 (0)), .d (.int .u8 (0))] := by kernel_rfl
theorem a420 : kd? Try.prog 81 = 2 := by kernel_rfl
theorem a421 : ty? Try.prog 81 = some (false, 1) := by kernel_rfl
theorem a422 : sl? Try.prog 81 = none := by kernel_rfl
theorem a423 : zero? Try.prog 81 = some [.d (.raw .nilFunc)] := by kernel_rfl
theorem a424 : kd? Try.prog 82 = 2 := by kernel_rfl
theorem a425 : ty? Try.prog 82 = some (false, 1) := by kernel_rfl
theorem a426 : sl? Try.prog 82 = none := by kernel_rfl
theorem a427 : zero? Try.prog 82 = some [.d (.raw .nilFunc)] := by kernel_rfl
theorem a428 : kd? Try.prog 83 = 10 := by kernel_rfl
theorem a429 : ty? Try.prog 83 = some (false, 1) := by kernel_rfl
theorem a430 : sl? Try.prog 83 = none := by kernel_rfl
theorem a431 : zero? Try.prog 83 = some [.d (.int .i8 (0))] := by kernel_rfl
theorem a432 : kd? Try.prog 84 = 4 := by kernel_rfl
theorem a433 : ty? Try.prog 84 = some (true, 2) := by kernel_rfl
theorem a434 : sl? Try.prog 84 = none := by kernel_rfl
theorem a435 : ar? Try.prog 84 = some (2, 1) := by kernel_rfl
theorem a436 : zero? Try.prog 84 = some [.d (.int .i8 (0)), .d (.int .i8 (0))] := by kernel_rfl
theorem a437 : kd? Try.prog 85 = 2 := by kernel_rfl
theorem a438 : ty? Try.prog 85 = some (false, 1) := by kernel_rfl
theorem a439 : sl? Try.prog 85 = none := by kernel_rfl
theorem a440 : zero? Try.prog 85 = some [.d (.raw .nilFunc)] := by kernel_rfl
theorem a441 : kd? Try.prog 86 = 2 := by kernel_rfl
theorem a442 : ty? Try.prog 86 = some (false, 1) := by kernel_rfl
theorem a443 : sl? Try.prog 86 = none := by kernel_rfl
theorem a444 : zero? Try.prog 86 = some [.d (.raw .nilFunc)] := by kernel_rfl
theorem a445 : kd? Try.prog 87 = 4 := by kernel_rfl
theorem a446 : ty? Try.prog 87 = some (true, 3) := by kernel_rfl
theorem a447 : sl? Try.prog 87 = none := by kernel_rfl
theorem a448 : ar? Try.prog 87 = some (3, 1) := by kernel_rfl
theorem a449 : zero? Try.prog 87 = some [.d (.int .u8 (0)), .d (.int .u8 (0)), .d (.int .u8 (0))] := by kernel_rfl
theorem a450 : kd? Try.prog 88 = 2 := by kernel_rfl
theorem a451 : ty? Try.prog 88 = some (false, 1) := by kernel_rfl
theorem a452 : sl? Try.prog 88 = none := by kernel_rfl
theorem a453 : zero? Try.prog 88 = some [.d (.raw .nilFunc)] := by kernel_rfl
theorem a454 : kd? Try.prog 89 = 2 := by kernel_rfl
theorem a455 : ty? Try.prog 89 = some (false, 1) := by kernel_rfl
theorem a456 : sl? Try.prog 89 = none := by kernel_rfl
theorem a457 : zero? Try.prog 89 = some [.undef] := by kernel_rfl
theorem a458 : kd? Try.prog 90 = 2 := by kernel_rfl
theorem a459 : ty? Try.prog 90 = some (false, 1) := by kernel_rfl
theorem a460 : sl? Try.prog 90 = none := by kernel_rfl
theorem a461 : zero? Try.prog 90 = some [.d (.raw .nilFunc)] := by kernel_rfl
theorem a462 : kd? Try.prog 91 = 2 := by kernel_rfl
theorem a463 : ty? Try.prog 91 = some (false, 1) := by kernel_rfl
theorem a464 : sl? Try.prog 91 = none := by kernel_rfl
theorem a465 : zero? Try.prog 91 = some [.d (.raw .nilFunc)] := by kernel_rfl
theorem a466 : kd? Try.prog 92 = 2 := by kernel_rfl
theorem a467 : ty? Try.prog 92 = some (false, 1) := by kernel_rfl
theorem a468 : sl? Try.prog 92 = none := by kernel_rfl
theorem a469 : zero? Try.prog 92 = some [.d (.raw .nilFunc)] := by kernel_rfl
theorem a470 : kd? Try.prog 93 = 6 := by kernel_rfl
theorem a471 : ty? Try.prog 93 = some (false, 1) := by kernel_rfl
theorem a472 : sl? Try.prog 93 = some (3, 1, 8) := by kernel_rfl
theorem a473 : zero? Try.prog 93 = some [.nilS] := by kernel_rfl
theorem a474 : kd? Try.prog 94 = 2 := by kernel_rfl
theorem a475 : ty? Try.prog 94 = some (false, 1) := by kernel_rfl
theorem a476 : sl? Try.prog 94 = none := by kernel_rfl
theorem a477 : zero? Try.prog 94 = some [.d (.raw .nilFunc)] := by kernel_rfl
theorem a478 : kd? Try.prog 95 = 2 := by kernel_rfl
theorem a479 : ty? Try.prog 95 = some (false, 1) := by kernel_rfl
theorem a480 : sl? Try.prog 95 = none := by kernel_rfl
theorem a481 : zero? Try.prog 95 = some [.d (.raw .nilFunc)] := by kernel_rfl
theorem a482 : kd? Try.prog 96 = 2 := by kernel_rfl
theorem a483 : ty? Try.prog 96 = some (false, 1) := by kernel_rfl
theorem a484 : sl? Try.prog 96 = none := by kernel_rfl
theorem a485 : zero? Try.prog 96 = some [.d (.raw .nilFunc)] := by kernel_rfl
theorem a486 : kd? Try.prog 97 = 2 := by kernel_rfl
theorem a487 : ty? Try.prog 97 = some (false, 1) := by kernel_rfl
theorem a488 : sl? Try.prog 97 = none := by kernel_rfl
theorem a489 : zero? Try.prog 97 = some [.d (.raw .nilFunc)] := by kernel_rfl
theorem a490 : kd? Try.prog 98 = 2 := by kernel_rfl
theorem a491 : ty? Try.prog 98 = some (false, 1) := by kernel_rfl
theorem a492 : sl? Try.prog 98 = none := by kernel_rfl
theorem a493 : zero? Try.prog 98 = some [.d (.raw .nilFunc)] := by kernel_rfl
theorem a494 : kd? Try.prog 99 = 2 := by kernel_rfl
theorem a495 : ty? Try.prog 99 = some (false, 1) := by kernel_rfl
theorem a496 : sl? Try.prog 99 = none := by kernel_rfl
theorem a497 : zero? Try.prog 99 = some [.undef] := by kernel_rfl
theorem a498 : kd? Try.prog 100 = 2 := by kernel_rfl
theorem a499 : ty? Try.prog 100 = some (false, 1) := by kernel_rfl
theorem a500 : sl? Try.prog 100 = none := by kernel_rfl
theorem a501 : zero? Try.prog 100 = some [.d (.raw .nilFunc)] := by kernel_rfl
theorem a502 : kd? Try.prog 101 = 2 := by kernel_rfl
theorem a503 : ty? Try.prog 101 = some (false, 1) := by kernel_rfl
theorem a504 : sl? Try.prog 101 = none := by kernel_rfl
theorem a505 : zero? Try.prog 101 = some [.d (.raw .nilFunc)] := by kernel_rfl
theorem a506 : kd? Try.prog 102 = 4 := by kernel_rfl
theorem a507 : ty? Try.prog 102 = some (true, 6) := by kernel_rfl
theorem a508 : sl? Try.prog 102 = none := by kernel_rfl
theorem a509 : ar? Try.prog 102 = some (6, 1) := by kernel_rfl
theorem a510 : zero? Try.prog 102 = some [.d (.int .u8 (0)), .d (.int .u8 (0)), .d (.int .u8 (0)), .d (.int .u8 (0)), .d (.int .u8 (0)), .d (.int .u8 (0))] := by kernel_rfl
theorem a511 : kd? Try.prog 103 = 4 := by kernel_rfl
theorem a512 : ty? Try.prog 103 = some (true, 6) := by kernel_rfl
theorem a513 : sl? Try.prog 103 = none := by kernel_rfl
theorem a514 : ar? Try.prog 103 = some (6, 1) := by kernel_rfl
theorem a515 : zero? Try.prog 103 = some [.d (.int .u8 (0)), .d (.int .u8 (0)), .d (.int .u8 (0)), .d (.int .u8 (0)), .d (.int .u8 (0)), .d (.int .u8 (0))] := by kernel_rfl
theorem a516 : kd? Try.prog 104 = 2 := by kernel_rfl
theorem a517 : ty? Try.prog 104 = some (false, 1) := by kernel_rfl
theorem a518 : sl? Try.prog 104 = none := by kernel_rfl
theorem a519 : zero? Try.prog 104 = some [.undef] := by kernel_rfl
theorem a520 : kd? Try.prog 105 = 2 := by kernel_rfl
theorem a521 : ty? Try.prog 105 = some (false, 1) := by kernel_rfl
theorem a522 : sl? Try.prog 105 = none := by kernel_rfl
theorem a523 : zero? Try.prog 105 = some [.d (.raw .nilFunc)] := by kernel_rfl
theorem a524 : kd? Try.prog 106 = 2 := by kernel_rfl
theorem a525 : ty? Try.prog 106 = some (false, 1) := by kernel_rfl
theorem a526 : sl? Try.prog 106 = none := by kernel_rfl
theorem a527 : zero? Try.prog 106 = some [.d (.raw .nilFunc)] := by kernel_rfl
theorem a528 : kd? Try.prog 107 = 2 := by kernel_rfl
theorem a529 : ty? Try.prog 107 = some (false, 1) := by kernel_rfl
theorem a530 : sl? Try.prog 107 = none := by kernel_rfl
theorem a531 : zero? Try.prog 107 = some [.d (.raw .nilFunc)] := by kernel_rfl
theorem a532 : kd? Try.prog 108 = 2 := by kernel_rfl
theorem a533 : ty? Try.prog 108 = some (false, 1) := by kernel_rfl
theorem a534 : sl? Try.prog 108 = none := by kernel_rfl
theorem a535 : zero? Try.prog 108 = some [.d (.raw .nilFunc)] := by kernel_rfl
theorem a536 : kd? Try.prog 109 = 2 := by kernel_rfl
theorem a537 : ty? Try.prog 109 = some (false, 1) := by kernel_rfl
theorem a538 : sl? Try.prog 109 = none := by kernel_rfl
theorem a539 : zero? Try.prog 109 = some [.d (.raw .nilFunc)] := by kernel_rfl
theorem a540 : kd? Try.prog 110 = 2 := by kernel_rfl
theorem a541 : ty? Try.prog 110 = some (false, 1) := by kernel_rfl
theorem a542 : sl? Try.prog 110 = none := by kernel_rfl
theorem a543 : zero? Try.prog 110 = some [.d (.raw .nilFunc)] := by kernel_rfl
theorem a544 : kd? Try.prog 111 = 2 := by kernel_rfl
theorem a545 : ty? Try.prog 111 = some (false, 1) := by kernel_rfl
theorem a546 : sl? Try.prog 111 = none := by kernel_rfl
theorem a547 : zero? Try.prog 111 = some [.d (.raw .nilFunc)] := by kernel_rfl
theorem a548 : kd? Try.prog 112 = 7 := by kernel_rfl
theorem a549 : ty? Try.prog 112 = some (true, 0) := by kernel_rfl
theorem a550 : sl? Try.prog 112 = none := by kernel_rfl
theorem a551 : ar? Try.prog 112 = none := by kernel_rfl
theorem a552 : cellsT Try.prog 112 = some [] := by kernel_rfl
theorem a553 : zero? Try.prog 112 = some [] := by kernel_rfl
theorem a554 : kd? Try.prog 113 = 7 := by kernel_rfl
theorem a555 : ty? Try.prog 113 = some (true, 0) := by kernel_rfl
theorem a556 : sl? Try.prog 113 = none := by kernel_rfl
theorem a557 : ar? Try.prog 113 = none := by kernel_rfl
theorem a558 : cellsT Try.prog 113 = some [] := by kernel_rfl
theorem a559 : zero? Try.prog 113 = some [] := by kernel_rfl
theorem a560 : kd? Try.prog 114 = 2 := by kernel_rfl
theorem a561 : ty? Try.prog 114 = some (false, 1) := by kernel_rfl
theorem a562 : sl? Try.prog 114 = none := by kernel_rfl
theorem a563 : zero? Try.prog 114 = some [.undef] := by kernel_rfl
theorem a564 : kd? Try.prog 115 = 5 := by kernel_rfl
theorem a565 : ty? Try.prog 115 = some (false, 1) := by kernel_rfl
theorem a566 : sl? Try.prog 115 = none := by kernel_rfl
theorem a567 : zero? Try.prog 115 = some [.d (.raw (.pointer none))] := by kernel_rfl
theorem a568 : kd? Try.prog 116 = 7 := by kernel_rfl
theorem a569 : ty? Try.prog 116 = some (true, 1) := by kernel_rfl
theorem a570 : sl? Try.prog 116 = none := by kernel_rfl
theorem a571 : ar? Try.prog 116 = none := by kernel_rfl
theorem a572 : fo? Try.prog 116 0 = some (0, 23) := by kernel_rfl
theorem a573 : zero? Try.prog 116 = some [.nilS] := by kernel_rfl
theorem a574 : kd? Try.prog 117 = 7 := by kernel_rfl
theorem a575 : ty? Try.prog 117 = some (true, 1) := by kernel_rfl
theorem a576 : sl? Try.prog 117 = none := by kernel_rfl
theorem a577 : ar? Try.prog 117 = none := by kernel_rfl
theorem a578 : fo? Try.prog 117 0 = some (0, 23) := by kernel_rfl
theorem a579 : zero? Try.prog 117 = some [.nilS] := by kernel_rfl
theorem a580 : kd? Try.prog 118 = 2 := by kernel_rfl
theorem a581 : ty? Try.prog 118 = some (false, 1) := by kernel_rfl
theorem a582 : sl? Try.prog 118 = none := by kernel_rfl
theorem a583 : zero? Try.prog 118 = some [.d (.raw .nilFunc)] := by kernel_rfl
theorem a584 : kd? Try.prog 119 = 2 := by kernel_rfl
theorem a585 : ty? Try.prog 119 = some (false, 1) := by kernel_rfl
theorem a586 : sl? Try.prog 119 = none := by kernel_rfl
theorem a587 : zero? Try.prog 119 = some [.d (.raw .nilFunc)] := by kernel_rfl
theorem a588 : kd? Try.prog 120 = 2 := by kernel_rfl
theorem a589 : ty? Try.prog 120 = some (false, 1) := by kernel_rfl
theorem a590 : sl? Try.prog 120 = none := by kernel_rfl
theorem a591 : zero? Try.prog 120 = some [.d (.raw .nilFunc)] := by kernel_rfl
theorem a592 : kd? Try.prog 121 = 5 := by kernel_rfl
theorem a593 : ty? Try.prog 121 = some (false, 1) := by kernel_rfl
theorem a594 : sl? Try.prog 121 = none := by kernel_rfl
theorem a595 : zero? Try.prog 121 = some [.d (.raw (.pointer none))] := by kernel_rfl
theorem a596 : kd? Try.prog 122 = 7 := by kernel_rfl
theorem a597 : ty? Try.prog 122 = some (true, 1) := by kernel_rfl
theorem a598 : sl? Try.prog 122 = none := by kernel_rfl
theorem a599 : ar? Try.prog 122 = none := by kernel_rfl
theorem a600 : fo? Try.prog 122 0 = some (0, 23) := by kernel_rfl
theorem a601 : zero? Try.prog 122 = some [.nilS] := by kernel_rfl
theorem a602 : kd? Try.prog 123 = 7 := by kernel_rfl
theorem a603 : ty? Try.prog 123 = some (true, 1) := by kernel_rfl
theorem a604 : sl? Try.prog 123 = none := by kernel_rfl
theorem a605 : ar? Try.prog 123 = none := by kernel_rfl
theorem a606 : fo? Try.prog 123 0 = some (0, 23) := by kernel_rfl
theorem a607 : zero? Try.prog 123 = some [.nilS] := by kernel_rfl
theorem a608 : kd? Try.prog 124 = 3 := by kernel_rfl
theorem a609 : ty? Try.prog 124 = some (false, 1) := by kernel_rfl
theorem a610 : sl? Try.prog 124 = none := by kernel_rfl
theorem a611 : zero? Try.prog 124 = some [.d (.nilI)] := by kernel_rfl
theorem a612 : kd? Try.prog 125 = 3 := by kernel_rfl
theorem a613 : ty? Try.prog 125 = some (false, 1) := by kernel_rfl
theorem a614 : sl? Try.prog 125 = none := by kernel_rfl
theorem a615 : zero? Try.prog 125 = some [.d (.nilI)] := by kernel_rfl
theorem a616 : kd? Try.prog 126 = 2 := by kernel_rfl
theorem a617 : ty? Try.prog 126 = some (false, 1) := by kernel_rfl
theorem a618 : sl? Try.prog 126 = none := by kernel_rfl
theorem a619 : zero? Try.prog 126 = some [.d (.raw .nilFunc)] := by kernel_rfl
theorem a620 : kd? Try.prog 127 = 2 := by kernel_rfl
theorem a621 : ty? Try.prog 127 = some (false, 1) := by kernel_rfl
theorem a622 : sl? Try.prog 127 = none := by kernel_rfl
theorem a623 : zero? Try.prog 127 = some [.d (.raw .nilFunc)] := by kernel_rfl
theorem a624 : kd? Try.prog 128 = 2 := by kernel_rfl
theorem a625 : ty? Try.prog 128 = some (false, 1) := by kernel_rfl
theorem a626 : sl? Try.prog 128 = none := by kernel_rfl
theorem a627 : zero? Try.prog 128 = some [.d (.raw .nilFunc)] := by kernel_rfl
theorem a628 : kd? Try.prog 129 = 6 := by kernel_rfl
theorem a629 : ty? Try.prog 129 = some (false, 1) := by kernel_rfl
theorem a630 : sl? Try.prog 129 = some (9, 1, 16) := by kernel_rfl
theorem a631 : zero? Try.prog 129 = some [.nilS] := by kernel_rfl
theorem a632 : kd? Try.prog 130 = 2 := by kernel_rfl
theorem a633 : ty? Try.prog 130 = some (false, 1) := by kernel_rfl
theorem a634 : sl? Try.prog 130 = none := by kernel_rfl
theorem a635 : zero? Try.prog 130 = some [.d (.raw .nilFunc)] := by kernel_rfl
theorem a636 : kd? Try.prog 131 = 4 := by kernel_rfl
theorem a637 : ty? Try.prog 131 = some (true, 2) := by kernel_rfl
theorem a638 : sl? Try.prog 131 = none := by kernel_rfl
theorem a639 : ar? Try.prog 131 = some (2, 1) := by kernel_rfl
theorem a640 : zero? Try.prog 131 = some [.d (.str []), .d (.str [])] := by kernel_rfl
theorem a641 : kd? Try.prog 132 = 2 := by kernel_rfl
theorem a642 : ty? Try.prog 132 = some (false, 1) := by kernel_rfl
theorem a643 : sl? Try.prog 132 = none := by kernel_rfl
theorem a644 : zero? Try.prog 132 = some [.undef] := by kernel_rfl
theorem a645 : kd? Try.prog 133 = 2 := by kernel_rfl
theorem a646 : ty? Try.prog 133 = some (false, 1) := by kernel_rfl
theorem a647 : sl? Try.prog 133 = none := by kernel_rfl
theorem a648 : zero? Try.prog 133 = some [.d (.raw .nilFunc)] := by kernel_rfl
theorem a649 : kd? Try.prog 134 = 2 := by kernel_rfl
theorem a650 : ty? Try.prog 134 = some (false, 1) := by kernel_rfl
theorem a651 : sl? Try.prog 134 = none := by kernel_rfl
theorem a652 : zero? Try.prog 134 = some [.d (.raw .nilFunc)] := by kernel_rfl
theorem a653 : kd? Try.prog 135 = 2 := by kernel_rfl
theorem a654 : ty? Try.prog 135 = some (false, 1) := by kernel_rfl
theorem a655 : sl? Try.prog 135 = none := by kernel_rfl
theorem a656 : zero? Try.prog 135 = some [.d (.raw .nilFunc)] := by kernel_rfl
theorem a657 : kd? Try.prog 136 = 2 := by kernel_rfl
theorem a658 : ty? Try.prog 136 = some (false, 1) := by kernel_rfl
theorem a659 : sl? Try.prog 136 = none := by kernel_rfl
theorem a660 : zero? Try.prog 136 = some [.d (.raw .nilFunc)] := by kernel_rfl
theorem a661 : kd? Try.prog 137 = 2 := by kernel_rfl
theorem a662 : ty? Try.prog 137 = some (false, 1) := by kernel_rfl
theorem a663 : sl? Try.prog 137 = none := by kernel_rfl
theorem a664 : zero? Try.prog 137 = some [.undef] := by kernel_rfl
theorem a665 : kd? Try.prog 138 = 2 := by kernel_rfl
theorem a666 : ty? Try.prog 138 = some (false, 1) := by kernel_rfl
theorem a667 : sl? Try.prog 138 = none := by kernel_rfl
theorem a668 : zero? Try.prog 138 = some [.d (.raw .nilFunc)] := by kernel_rfl
theorem a669 : kd? Try.prog 139 = 5 := by kernel_rfl
theorem a670 : ty? Try.prog 139 = some (false, 1) := by kernel_rfl
theorem a671 : sl? Try.prog 139 = none := by kernel_rfl
theorem a672 : zero? Try.prog 139 = some [.d (.raw (.pointer none))] := by kernel_rfl
theorem a673 : kd? Try.prog 140 = 2 := by kernel_rfl
theorem a674 : ty? Try.prog 140 = some (false, 1) := by kernel_rfl
theorem a675 : sl? Try.prog 140 = none := by kernel_rfl
theorem a676 : zero? Try.prog 140 = some [.undef] := by kernel_rfl
theorem a677 : kd? Try.prog 141 = 2 := by kernel_rfl
theorem a678 : ty? Try.prog 141 = some (false, 1) := by kernel_rfl
theorem a679 : sl? Try.prog 141 = none := by kernel_rfl
theorem a680 : zero? Try.prog 141 = some [.d (.raw .nilFunc)] := by kernel_rfl
theorem a681 : kd? Try.prog 142 = 2 := by kernel_rfl
theorem a682 : ty? Try.prog 142 = some (false, 1) := by kernel_rfl
theorem a683 : sl? Try.prog 142 = none := by kernel_rfl
theorem a684 : zero? Try.prog 142 = some [.d (.raw .nilFunc)] := by kernel_rfl
theorem a685 : kd? Try.prog 143 = 2 := by kernel_rfl
theorem a686 : ty? Try.prog 143 = some (false, 1) := by kernel_rfl
theorem a687 : sl? Try.prog 143 = none := by kernel_rfl
theorem a688 : zero? Try.prog 143 = some [.d (.raw .nilFunc)] := by kernel_rfl
theorem a689 : kd? Try.prog 144 = 2 := by kernel_rfl
theorem a690 : ty? Try.prog 144 = some (false, 1) := by kernel_rfl
theorem a691 : sl? Try.prog 144 = none := by kernel_rfl
theorem a692 : zero? Try.prog 144 = some [.d (.raw .nilFunc)] := by kernel_rfl
theorem a693 : kd? Try.prog 145 = 7 := by kernel_rfl
theorem a694 : ty? Try.prog 145 = some (true, 8) := by kernel_rfl
theorem a695 : sl? Try.prog 145 = none := by kernel_rfl
theorem a696 : ar? Try.prog 145 = none := by kernel_rfl
theorem a697 : fo? Try.prog 145 0 = some (0, 3) := by kernel_rfl
theorem a698 : fo? Try.prog 145 1 = some (1, 9) := by kernel_rfl
theorem a699 : fo? Try.prog 145 2 = some (2, 9) := by kernel_rfl
theorem a700 : fo? Try.prog 145 3 = some (3, 59) := by kernel_rfl
theorem a701 : fo? Try.prog 145 4 = some (5, 9) := by kernel_rfl
theorem a702 : fo? Try.prog 145 5 = some (6, 9) := by kernel_rfl
theorem a703 : fo? Try.prog 145 6 = some (7, 3) := by kernel_rfl
theorem a704 : cellsT Try.prog 145 = some [2, 0, 0, 0, 0, 0, 0, 2] := by kernel_rfl
theorem a705 : zero? Try.prog 145 = some [.d (.int .i64 (0)), .d (.str []), .d (.str []), .d (.str []), .d (.str []), .d (.str []), .d (.str []), .d (.int .i64 (0))] := by kernel_rfl
theorem a706 : kd? Try.prog 146 = 7 := by kernel_rfl
theorem a707 : ty? Try.prog 146 = some (true, 8) := by kernel_rfl
theorem a708 : sl? Try.prog 146 = none := by kernel_rfl
theorem a709 : ar? Try.prog 146 = none := by kernel_rfl
theorem a710 : fo? Try.prog 146 0 = some (0, 3) := by kernel_rfl
theorem a711 : fo? Try.prog 146 1 = some (1, 9) := by kernel_rfl
theorem a712 : fo? Try.prog 146 2 = some (2, 9) := by kernel_rfl
theorem a713 : fo? Try.prog 146 3 = some (3, 59) := by kernel_rfl
theorem a714 : fo? Try.prog 146 4 = some (5, 9) := by kernel_rfl
theorem a715 : fo? Try.prog 146 5 = some (6, 9) := by kernel_rfl
theorem a716 : fo? Try.prog 146 6 = some (7, 3) := by kernel_rfl
theorem a717 : cellsT Try.prog 146 = some [2, 0, 0, 0, 0, 0, 0, 2] := by kernel_rfl
theorem a718 : zero? Try.prog 146 = some [.d (.int .i64 (0)), .d (.str []), .d (.str []), .d (.str []), .d (.str []), .d (.str []), .d (.str []), .d (.int .i64 (0))] := by kernel_rfl
theorem a719 : kd? Try.prog 147 = 7 := by kernel_rfl
theorem a720 : ty? Try.prog 147 = some (true, 8) := by kernel_rfl
theorem a721 : sl? Try.prog 147 = none := by kernel_rfl
theorem a722 : ar? Try.prog 147 = none := by kernel_rfl
theorem a723 : fo? Try.prog 147 0 = some (0, 3) := by kernel_rfl
theorem a724 : fo? Try.prog 147 1 = some (1, 9) := by kernel_rfl
theorem a725 : fo? Try.prog 147 2 = some (2, 9) := by kernel_rfl
theorem a726 : fo? Try.prog 147 3 = some (3, 59) := by kernel_rfl
theorem a727 : fo? Try.prog 147 4 = some (5, 9) := by kernel_rfl
theorem a728 : fo? Try.prog 147 5 = some (6, 9) := by kernel_rfl
theorem a729 : fo? Try.prog 147 6 = some (7, 3) := by kernel_rfl
theorem a730 : cellsT Try.prog 147 = some [2, 0, 0, 0, 0, 0, 0, 2] := by kernel_rfl
theorem a731 : zero? Try.prog 147 = some [.d (.int .i64 (0)), .d (.str []), .d (.str []), .d (.str []), .d (.str []), .d (.str []), .d (.str []), .d (.int .i64 (0))] := by kernel_rfl
theorem a732 : kd? Try.prog 148 = 7 := by kernel_rfl
theorem a733 : ty? Try.prog 148 = some (true, 8) := by kernel_rfl
theorem a734 : sl? Try.prog 148 = none := by kernel_rfl
theorem a735 : ar? Try.prog 148 = none := by kernel_rfl
theorem a736 : fo? Try.prog 148 0 = some (0, 3) := by kernel_rfl
theorem a737 : fo? Try.prog 148 1 = some (1, 9) := by kernel_rfl
theorem a738 : fo? Try.prog 148 2 = some (2, 9) := by kernel_rfl
theorem a739 : fo? Try.prog 148 3 = some (3, 59) := by kernel_rfl
theorem a740 : fo? Try.prog 148 4 = some (5, 9) := by kernel_rfl
theorem a741 : fo? Try.prog 148 5 = some (6, 9) := by kernel_rfl
theorem a742 : fo? Try.prog 148 6 = some (7, 3) := by kernel_rfl
theorem a743 : cellsT Try.prog 148 = some [2, 0, 0, 0, 0, 0, 0, 2] := by kernel_rfl
theorem a744 : zero? Try.prog 148 = some [.d (.int .i64 (0)), .d (.str []), .d (.str []), .d (.str []), .d (.str []), .d (.str []), .d (.str []), .d (.int .i64 (0))] := by kernel_rfl
theorem a745 : kd? Try.prog 149 = 7 := by kernel_rfl
theorem a746 : ty? Try.prog 149 = some (true, 8) := by kernel_rfl
theorem a747 : sl? Try.prog 149 = none := by kernel_rfl
theorem a748 : ar? Try.prog 149 = none := by kernel_rfl
theorem a749 : fo? Try.prog 149 0 = some (0, 3) := by kernel_rfl
theorem a750 : fo? Try.prog 149 1 = some (1, 9) := by kernel_rfl
theorem a751 : fo? Try.prog 149 2 = some (2, 9) := by kernel_rfl
theorem a752 : fo? Try.prog 149 3 = some (3, 59) := by kernel_rfl
theorem a753 : fo? Try.prog 149 4 = some (5, 9) := by kernel_rfl
theorem a754 : fo? Try.prog 149 5 = some (6, 9) := by kernel_rfl
theorem a755 : fo? Try.prog 149 6 = some (7, 3) := by kernel_rfl
theorem a756 : cellsT Try.prog 149 = some [2, 0, 0, 0, 0, 0, 0, 2] := by kernel_rfl
theorem a757 : zero? Try.prog 149 = some [.d (.int .i64 (0)), .d (.str []), .d (.str []), .d (.str []), .d (.str []), .d (.str []), .d (.str []), .d (.int .i64 (0))] := by kernel_rfl
theorem a758 : kd? Try.prog 150 = 7 := by kernel_rfl
theorem a759 : ty? Try.prog 150 = some (true, 8) := by kernel_rfl
theorem a760 : sl? Try.prog 150 = none := by kernel_rfl
theorem a761 : ar? Try.prog 150 = none := by kernel_rfl
theorem a762 : fo? Try.prog 150 0 = some (0, 3) := by kernel_rfl
theorem a763 : fo? Try.prog 150 1 = some (1, 9) := by kernel_rfl
theorem a764 : fo? Try.prog 150 2 = some (2, 9) := by kernel_rfl
theorem a765 : fo? Try.prog 150 3 = some (3, 59) := by kernel_rfl
theorem a766 : fo? Try.prog 150 4 = some (5, 9) := by kernel_rfl
theorem a767 : fo? Try.prog 150 5 = some (6, 9) := by kernel_rfl
theorem a768 : fo? Try.prog 150 6 = some (7, 3) := by kernel_rfl
theorem a769 : cellsT Try.prog 150 = some [2, 0, 0, 0, 0, 0, 0, 2] := by kernel_rfl
theorem a770 : zero? Try.prog 150 = some [.d (.int .i64 (0)), .d (.str []), .d (.str []), .d (.str []), .d (.str []), .d (.str []), .d (.str []), .d (.int .i64 (0))] := by kernel_rfl
theorem a771 : kd? Try.prog 151 = 2 := by kernel_rfl
theorem a772 : ty? Try.prog 151 = some (false, 1) := by kernel_rfl
theorem a773 : sl? Try.prog 151 = none := by kernel_rfl
theorem a774 : zero? Try.prog 151 = some [.undef] := by kernel_rfl
theorem a775 : kd? Try.prog 152 = 2 := by kernel_rfl
theorem a776 : ty? Try.prog 152 = some (false, 1) := by kernel_rfl
theorem a777 : sl? Try.prog 152 = none := by kernel_rfl
theorem a778 : zero? Try.prog 152 = some [.d (.raw .nilFunc)] := by kernel_rfl
theorem a779 : kd? Try.prog 153 = 5 := by kernel_rfl
theorem a780 : ty? Try.prog 153 = some (false, 1) := by kernel_rfl
theorem a781 : sl? Try.prog 153 = none := by kernel_rfl
theorem a782 : zero? Try.prog 153 = some [.d (.raw (.pointer none))] := by kernel_rfl
theorem a783 : kd? Try.prog 154 = 7 := by kernel_rfl
theorem a784 : ty? Try.prog 154 = some (true, 2) := by kernel_rfl
theorem a785 : sl? Try.prog 154 = none := by kernel_rfl
theorem a786 : ar? Try.prog 154 = none := by kernel_rfl
theorem a787 : fo? Try.prog 154 0 = some (0, 23) := by kernel_rfl
theorem a788 : fo? Try.prog 154 1 = some (1, 4) := by kernel_rfl
theorem a789 : zero? Try.prog 154 = some [.nilS, .d (.bool false)] := by kernel_rfl
theorem a790 : kd? Try.prog 155 = 7 := by kernel_rfl
theorem a791 : ty? Try.prog 155 = some (true, 2) := by kernel_rfl
theorem a792 : sl? Try.prog 155 = none := by kernel_rfl
theorem a793 : ar? Try.prog 155 = none := by kernel_rfl
theorem a794 : fo? Try.prog 155 0 = some (0, 23) := by kernel_rfl
theorem a795 : fo? Try.prog 155 1 = some (1, 4) := by kernel_rfl
theorem a796 : zero? Try.prog 155 = some [.nilS, .d (.bool false)] := by kernel_rfl
theorem a797 : kd? Try.prog 156 = 2 := by kernel_rfl
theorem a798 : ty? Try.prog 156 = some (false, 1) := by kernel_rfl
theorem a799 : sl? Try.prog 156 = none := by kernel_rfl
theorem a800 : zero? Try.prog 156 = some [.d (.raw .nilFunc)] := by kernel_rfl
theorem a801 : kd? Try.prog 157 = 2 := by kernel_rfl
theorem a802 : ty? Try.prog 157 = some (false, 1) := by kernel_rfl
theorem a803 : sl? Try.prog 157 = none := by kernel_rfl
theorem a804 : zero? Try.prog 157 = some [.d (.raw .nilFunc)] := by kernel_rfl
theorem a805 : kd? Try.prog 158 = 7 := by kernel_rfl
theorem a806 : ty? Try.prog 158 = some (true, 4) := by kernel_rfl
theorem a807 : sl? Try.prog 158 = none := by kernel_rfl
theorem a808 : ar? Try.prog 158 = none := by kernel_rfl
theorem a809 : fo? Try.prog 158 0 = some (0, 17) := by kernel_rfl
theorem a810 : fo? Try.prog 158 1 = some (1, 17) := by kernel_rfl
theorem a811 : fo? Try.prog 158 2 = some (2, 17) := by kernel_rfl
theorem a812 : fo? Try.prog 158 3 = some (3, 9) := by kernel_rfl
theorem a813 : zero? Try.prog 158 = some [.d (.raw (.pointer none)), .d (.raw (.pointer none)), .d (.raw (.pointer none)), .d (.str [])] := by kernel_rfl
theorem a814 : kd? Try.prog 159 = 7 := by kernel_rfl
theorem a815 : ty? Try.prog 159 = some (true, 4) := by kernel_rfl
theorem a816 : sl? Try.prog 159 = none := by kernel_rfl
theorem a817 : ar? Try.prog 159 = none := by kernel_rfl
theorem a818 : fo? Try.prog 159 0 = some (0, 17) := by kernel_rfl
theorem a819 : fo? Try.prog 159 1 = some (1, 17) := by kernel_rfl
theorem a820 : fo? Try.prog 159 2 = some (2, 17) := by kernel_rfl
theorem a821 : fo? Try.prog 159 3 = some (3, 9) := by kernel_rfl
theorem a822 : zero? Try.prog 159 = some [.d (.raw (.pointer none)), .d (.raw (.pointer none)), .d (.raw (.pointer none)), .d (.str [])] := by kernel_rfl
theorem a823 : kd? Try.prog 160 = 4 := by kernel_rfl
theorem a824 : ty? Try.prog 160 = some (true, 0) := by kernel_rfl
theorem a825 : sl? Try.prog 160 = none := by kernel_rfl
theorem a826 : ar? Try.prog 160 = some (0, 1) := by kernel_rfl
theorem a827 : zero? Try.prog 160 = some [] := by kernel_rfl
theorem a828 : kd? Try.prog 161 = 7 := by kernel_rfl
theorem a829 : ty? Try.prog 161 = some (true, 0) := by kernel_rfl
theorem a830 : sl? Try.prog 161 = none := by kernel_rfl
theorem a831 : ar? Try.prog 161 = none := by kernel_rfl
theorem a832 : zero? Try.prog 161 = some [] := by kernel_rfl
theorem a833 : kd? Try.prog 162 = 7 := by kernel_rfl
theorem a834 : ty? Try.prog 162 = some (true, 0) := by kernel_rfl
theorem a835 : sl? Try.prog 162 = none := by kernel_rfl
theorem a836 : ar? Try.prog 162 = none := by kernel_rfl
theorem a837 : zero? Try.prog 162 = some [] := by kernel_rfl
theorem a838 : kd? Try.prog 163 = 14 := by kernel_rfl
theorem a839 : ty? Try.prog 163 = some (false, 1) := by kernel_rfl
theorem a840 : sl? Try.prog 163 = none := by kernel_rfl
theorem a841 : zero? Try.prog 163 = some [.d (.int .u8 (0))] := by kernel_rfl
theorem a842 : kd? Try.prog 164 = 14 := by kernel_rfl
theorem a843 : ty? Try.prog 164 = some (false, 1) := by kernel_rfl
theorem a844 : sl? Try.prog 164 = none := by kernel_rfl
theorem a845 : zero? Try.prog 164 = some [.d (.int .u8 (0))] := by kernel_rfl
theorem a846 : kd? Try.prog 165 = 2 := by kernel_rfl
theorem a847 : ty? Try.prog 165 = some (false, 1) := by kernel_rfl
theorem a848 : sl? Try.prog 165 = none := by kernel_rfl
theorem a849 : zero? Try.prog 165 = some [.d (.raw .nilFunc)] := by kernel_rfl
theorem a850 : kd? Try.prog 166 = 5 := by kernel_rfl
theorem a851 : ty? Try.prog 166 = some (false, 1) := by kernel_rfl
theorem a852 : sl? Try.prog 166 = none := by kernel_rfl
theorem a853 : zero? Try.prog 166 = some [.d (.raw (.pointer none))] := by kernel_rfl
theorem a854 : kd? Try.prog 167 = 12 := by kernel_rfl
theorem a855 : ty? Try.prog 167 = some (false, 1) := by kernel_rfl
theorem a856 : sl? Try.prog 167 = none := by kernel_rfl
theorem a857 : zero? Try.prog 167 = some [.d (.int .i32 (0))] := by kernel_rfl
theorem a858 : kd? Try.prog 168 = 12 := by kernel_rfl
theorem a859 : ty? Try.prog 168 = some (false, 1) := by kernel_rfl
theorem a860 : sl? Try.prog 168 = none := by kernel_rfl
theorem a861 : zero? Try.prog 168 = some [.d (.int .i32 (0))] := by kernel_rfl
theorem a862 : kd? Try.prog 169 = 7 := by kernel_rfl
theorem a863 : ty? Try.prog 169 = some (true, 11) := by kernel_rfl
theorem a864 : sl? Try.prog 169 = none := by kernel_rfl
theorem a865 : ar? Try.prog 169 = none := by kernel_rfl
theorem a866 : fo? Try.prog 169 0 = some (0, 12) := by kernel_rfl
theorem a867 : fo? Try.prog 169 1 = some (1, 12) := by kernel_rfl
theorem a868 : fo? Try.prog 169 2 = some (2, 39) := by kernel_rfl
theorem a869 : fo? Try.prog 169 3 = some (3, 163) := by kernel_rfl
theorem a870 : fo? Try.prog 169 4 = some (4, 5) := by kernel_rfl
theorem a871 : fo? Try.prog 169 5 = some (5, 5) := by kernel_rfl
theorem a872 : fo? Try.prog 169 6 = some (6, 164) := by kernel_rfl
theorem a873 : fo? Try.prog 169 7 = some (7, 165) := by kernel_rfl
theorem a874 : fo? Try.prog 169 8 = some (8, 166) := by kernel_rfl
theorem a875 : fo? Try.prog 169 9 = some (9, 167) := by kernel_rfl
theorem a876 : fo? Try.prog 169 10 = some (10, 168) := by kernel_rfl
theorem a877 : zero? Try.prog 169 = some [.d (.int .u64 (0)), .d (.int .u64 (0)), .d (.int .u32 (0)), .d (.int .u8 (0)), .d (.int .u8 (0)), .d (.int .u8 (0)), .d (.int .u8 (0)), .d (.raw .nilFunc), .d (.raw (.pointer none)), .d (.int .i32 (0)), .d (.int .i32 (0))] := by kernel_rfl
theorem a878 : kd? Try.prog 170 = 7 := by kernel_rfl
theorem a879 : ty? Try.prog 170 = some (true, 11) := by kernel_rfl
theorem a880 : sl? Try.prog 170 = none := by kernel_rfl
theorem a881 : ar? Try.prog 170 = none := by kernel_rfl
theorem a882 : fo? Try.prog 170 0 = some (0, 12) := by kernel_rfl
theorem a883 : fo? Try.prog 170 1 = some (1, 12) := by kernel_rfl
theorem a884 : fo? Try.prog 170 2 = some (2, 39) := by kernel_rfl
theorem a885 : fo? Try.prog 170 3 = some (3, 163) := by kernel_rfl
theorem a886 : fo? Try.prog 170 4 = some (4, 5) := by kernel_rfl
theorem a887 : fo? Try.prog 170 5 = some (5, 5) := by kernel_rfl
theorem a888 : fo? Try.prog 170 6 = some (6, 164) := by kernel_rfl
theorem a889 : fo? Try.prog 170 7 = some (7, 165) := by kernel_rfl
theorem a890 : fo? Try.prog 170 8 = some (8, 166) := by kernel_rfl
theorem a891 : fo? Try.prog 170 9 = some (9, 167) := by kernel_rfl
theorem a892 : fo? Try.prog 170 10 = some (10, 168) := by kernel_rfl
theorem a893 : zero? Try.prog 170 = some [.d (.int .u64 (0)), .d (.int .u64 (0)), .d (.int .u32 (0)), .d (.int .u8 (0)), .d (.int .u8 (0)), .d (.int .u8 (0)), .d (.int .u8 (0)), .d (.raw .nilFunc), .d (.raw (.pointer none)), .d (.int .i32 (0)), .d (.int .i32 (0))] := by kernel_rfl
theorem a894 : kd? Try.prog 171 = 2 := by kernel_rfl
theorem a895 : ty? Try.prog 171 = some (false, 1) := by kernel_rfl
theorem a896 : sl? Try.prog 171 = none := by kernel_rfl
theorem a897 : zero? Try.prog 171 = some [.d (.raw .nilFunc)] := by kernel_rfl
theorem a898 : kd? Try.prog 172 = 2 := by kernel_rfl
theorem a899 : ty? Try.prog 172 = some (false, 1) := by kernel_rfl
theorem a900 : sl? Try.prog 172 = none := by kernel_rfl
theorem a901 : zero? Try.prog 172 = some [.d (.raw .nilFunc)] := by kernel_rfl
theorem a902 : kd? Try.prog 173 = 2 := by kernel_rfl
theorem a903 : ty? Try.prog 173 = some (false, 1) := by kernel_rfl
theorem a904 : sl? Try.prog 173 = none := by kernel_rfl
theorem a905 : zero? Try.prog 173 = some [.d (.raw .nilFunc)] := by kernel_rfl
theorem a906 : kd? Try.prog 174 = 2 := by kernel_rfl
theorem a907 : ty? Try.prog 174 = some (false, 1) := by kernel_rfl
theorem a908 : sl? Try.prog 174 = none := by kernel_rfl
theorem a909 : zero? Try.prog 174 = some [.d (.raw .nilFunc)] := by kernel_rfl
theorem a910 : kd? Try.prog 175 = 2 := by kernel_rfl
theorem a911 : ty? Try.prog 175 = some (false, 1) := by kernel_rfl
theorem a912 : sl? Try.prog 175 = none := by kernel_rfl
theorem a913 : zero? Try.prog 175 = some [.d (.raw (.pointer none))] := by kernel_rfl
theorem a914 : kd? Try.prog 176 = 6 := by kernel_rfl
theorem a915 : ty? Try.prog 176 = some (false, 1) := by kernel_rfl
theorem a916 : sl? Try.prog 176 = some (179, 3, 40) := by kernel_rfl
theorem a917 : zero? Try.prog 176 = some [.nilS] := by kernel_rfl
theorem a918 : kd? Try.prog 177 = 6 := by kernel_rfl
theorem a919 : ty? Try.prog 177 = some (false, 1) := by kernel_rfl
theorem a920 : sl? Try.prog 177 = some (59, 2, 32) := by kernel_rfl
theorem a921 : zero? Try.prog 177 = some [.nilS] := by kernel_rfl
theorem a922 : kd? Try.prog 178 = 7 := by kernel_rfl
theorem a923 : ty? Try.prog 178 = some (true, 3) := by kernel_rfl
theorem a924 : sl? Try.prog 178 = none := by kernel_rfl
theorem a925 : ar? Try.prog 178 = none := by kernel_rfl
theorem a926 : fo? Try.prog 178 0 = some (0, 9) := by kernel_rfl
theorem a927 : fo? Try.prog 178 1 = some (1, 9) := by kernel_rfl
theorem a928 : fo? Try.prog 178 2 = some (2, 3) := by kernel_rfl
theorem a929 : cellsT Try.prog 178 = some [0, 0, 2] := by kernel_rfl
theorem a930 : zero? Try.prog 178 = some [.d (.str []), .d (.str []), .d (.int .i64 (0))] := by kernel_rfl
theorem a931 : kd? Try.prog 179 = 7 := by kernel_rfl
theorem a932 : ty? Try.prog 179 = some (true, 3) := by kernel_rfl
theorem a933 : sl? Try.prog 179 = none := by kernel_rfl
theorem a934 : ar? Try.prog 179 = none := by kernel_rfl
theorem a935 : fo? Try.prog 179 0 = some (0, 9) := by kernel_rfl
theorem a936 : fo? Try.prog 179 1 = some (1, 9) := by kernel_rfl
theorem a937 : fo? Try.prog 179 2 = some (2, 3) := by kernel_rfl
theorem a938 : cellsT Try.prog 179 = some [0, 0, 2] := by kernel_rfl
theorem a939 : zero? Try.prog 179 = some [.d (.str []), .d (.str []), .d (.int .i64 (0))] := by kernel_rfl
theorem a940 : meth? Try.prog 8 "Error" = some 91 := by kernel_rfl
theorem a941 : meth? Try.prog 8 "RuntimeError" = some 92 := by kernel_rfl
theorem a942 : meth? Try.prog 10 "Error" = some 93 := by kernel_rfl
theorem a943 : meth? Try.prog 10 "RuntimeError" = some 94 := by kernel_rfl
theorem a944 : meth? Try.prog 11 "Error" = some 95 := by kernel_rfl
theorem a945 : meth? Try.prog 11 "RuntimeError" = some 96 := by kernel_rfl
theorem a946 : meth? Try.prog 14 "Error" = some 97 := by kernel_rfl
theorem a947 : meth? Try.prog 14 "RuntimeError" = some 98 := by kernel_rfl
theorem a948 : meth? Try.prog 15 "Error" = some 99 := by kernel_rfl
theorem a949 : meth? Try.prog 15 "RuntimeError" = some 100 := by kernel_rfl
theorem a950 : meth? Try.prog 16 "Error" = some 101 := by kernel_rfl
theorem a951 : meth? Try.prog 16 "RuntimeError" = some 102 := by kernel_rfl
theorem a952 : meth? Try.prog 17 "Align" = some 103 := by kernel_rfl
theorem a953 : meth? Try.prog 19 "Error" = some 104 := by kernel_rfl
theorem a954 : meth? Try.prog 19 "RuntimeError" = some 105 := by kernel_rfl
theorem a955 : meth? Try.prog 31 "Error" = some 106 := by kernel_rfl
theorem a956 : meth? Try.prog 115 "downspout/wal.messages" = some 67 := by kernel_rfl
theorem a957 : meth? Try.prog 115 "downspout/wal.number" = some 66 := by kernel_rfl
theorem a958 : meth? Try.prog 115 "downspout/wal.take" = some 64 := by kernel_rfl
theorem a959 : meth? Try.prog 121 "downspout/msg.number" = some 115 := by kernel_rfl
theorem a960 : meth? Try.prog 121 "downspout/msg.text" = some 107 := by kernel_rfl
theorem a961 : meth? Try.prog 145 "downspout/msg.apply" = some 108 := by kernel_rfl
theorem a962 : meth? Try.prog 145 "downspout/msg.bare" = some 109 := by kernel_rfl
theorem a963 : meth? Try.prog 145 "downspout/msg.reads" = some 110 := by kernel_rfl
theorem a964 : meth? Try.prog 145 "downspout/msg.valid" = some 111 := by kernel_rfl
theorem a965 : meth? Try.prog 145 "downspout/msg.write" = some 112 := by kernel_rfl
theorem a966 : meth? Try.prog 145 "downspout/msg.writes" = some 113 := by kernel_rfl
theorem a967 : meth? Try.prog 146 "downspout/msg.apply" = some 116 := by kernel_rfl
theorem a968 : meth? Try.prog 146 "downspout/msg.bare" = some 117 := by kernel_rfl
theorem a969 : meth? Try.prog 146 "downspout/msg.reads" = some 118 := by kernel_rfl
theorem a970 : meth? Try.prog 146 "downspout/msg.valid" = some 119 := by kernel_rfl
theorem a971 : meth? Try.prog 146 "downspout/msg.write" = some 120 := by kernel_rfl
theorem a972 : meth? Try.prog 146 "downspout/msg.writes" = some 121 := by kernel_rfl
theorem a973 : meth? Try.prog 147 "downspout/msg.apply" = some 122 := by kernel_rfl
theorem a974 : meth? Try.prog 147 "downspout/msg.bare" = some 123 := by kernel_rfl
theorem a975 : meth? Try.prog 147 "downspout/msg.reads" = some 124 := by kernel_rfl
theorem a976 : meth? Try.prog 147 "downspout/msg.valid" = some 125 := by kernel_rfl
theorem a977 : meth? Try.prog 147 "downspout/msg.write" = some 126 := by kernel_rfl
theorem a978 : meth? Try.prog 147 "downspout/msg.writes" = some 127 := by kernel_rfl
theorem a979 : meth? Try.prog 148 "downspout/msg.apply" = some 130 := by kernel_rfl
theorem a980 : meth? Try.prog 148 "downspout/msg.bare" = some 131 := by kernel_rfl
theorem a981 : meth? Try.prog 148 "downspout/msg.reads" = some 132 := by kernel_rfl
theorem a982 : meth? Try.prog 148 "downspout/msg.valid" = some 133 := by kernel_rfl
theorem a983 : meth? Try.prog 148 "downspout/msg.write" = some 134 := by kernel_rfl
theorem a984 : meth? Try.prog 148 "downspout/msg.writes" = some 135 := by kernel_rfl
theorem a985 : meth? Try.prog 149 "downspout/msg.apply" = some 139 := by kernel_rfl
theorem a986 : meth? Try.prog 149 "downspout/msg.bare" = some 140 := by kernel_rfl
theorem a987 : meth? Try.prog 149 "downspout/msg.reads" = some 141 := by kernel_rfl
theorem a988 : meth? Try.prog 149 "downspout/msg.valid" = some 142 := by kernel_rfl
theorem a989 : meth? Try.prog 149 "downspout/msg.write" = some 143 := by kernel_rfl
theorem a990 : meth? Try.prog 149 "downspout/msg.writes" = some 144 := by kernel_rfl
theorem a991 : meth? Try.prog 150 "downspout/msg.apply" = some 145 := by kernel_rfl
theorem a992 : meth? Try.prog 150 "downspout/msg.bare" = some 146 := by kernel_rfl
theorem a993 : meth? Try.prog 150 "downspout/msg.reads" = some 147 := by kernel_rfl
theorem a994 : meth? Try.prog 150 "downspout/msg.valid" = some 148 := by kernel_rfl
theorem a995 : meth? Try.prog 150 "downspout/msg.write" = some 149 := by kernel_rfl
theorem a996 : meth? Try.prog 150 "downspout/msg.writes" = some 150 := by kernel_rfl
theorem a997 : meth? Try.prog 153 "downspout/msg.number" = some 88 := by kernel_rfl
theorem a998 : meth? Try.prog 153 "downspout/msg.take" = some 90 := by kernel_rfl
theorem a999 : meth? Try.prog 153 "downspout/msg.text" = some 89 := by kernel_rfl
theorem a1000 : meth? Try.prog 164 "String" = some 151 := by kernel_rfl
def fB1 := And.intro a0 (And.intro a1 (And.intro a2 (And.intro a3 (And.intro a4 (And.intro a5 (And.intro a6 (And.intro a7 (And.intro a8 (And.intro a9 (And.intro a10 (And.intro a11 (And.intro a12 (And.intro a13 (And.intro a14 (And.intro a15 (And.intro a16 (And.intro a17 (And.intro a18 (And.intro a19 (And.intro a20 (And.intro a21 (And.intro a22 (And.intro a23 (And.intro a24 (And.intro a25 (And.intro a26 (And.intro a27 (And.intro a28 (And.intro a29 (And.intro a30 (And.intro a31 (And.intro a32 (And.intro a33 (And.intro a34 (And.intro a35 (And.intro a36 (And.intro a37 (And.intro a38 (a39)))))))))))))))))))))))))))))))))))))))
def fB2 := And.intro a40 (And.intro a41 (And.intro a42 (And.intro a43 (And.intro a44 (And.intro a45 (And.intro a46 (And.intro a47 (And.intro a48 (And.intro a49 (And.intro a50 (And.intro a51 (And.intro a52 (And.intro a53 (And.intro a54 (And.intro a55 (And.intro a56 (And.intro a57 (And.intro a58 (And.intro a59 (And.intro a60 (And.intro a61 (And.intro a62 (And.intro a63 (And.intro a64 (And.intro a65 (And.intro a66 (And.intro a67 (And.intro a68 (And.intro a69 (And.intro a70 (And.intro a71 (And.intro a72 (And.intro a73 (And.intro a74 (And.intro a75 (And.intro a76 (And.intro a77 (And.intro a78 (a79)))))))))))))))))))))))))))))))))))))))
def fB3 := And.intro a80 (And.intro a81 (And.intro a82 (And.intro a83 (And.intro a84 (And.intro a85 (And.intro a86 (And.intro a87 (And.intro a88 (And.intro a89 (And.intro a90 (And.intro a91 (And.intro a92 (And.intro a93 (And.intro a94 (And.intro a95 (And.intro a96 (And.intro a97 (And.intro a98 (And.intro a99 (And.intro a100 (And.intro a101 (And.intro a102 (And.intro a103 (And.intro a104 (And.intro a105 (And.intro a106 (And.intro a107 (And.intro a108 (And.intro a109 (And.intro a110 (And.intro a111 (And.intro a112 (And.intro a113 (And.intro a114 (And.intro a115 (And.intro a116 (And.intro a117 (And.intro a118 (a119)))))))))))))))))))))))))))))))))))))))
def fB4 := And.intro a120 (And.intro a121 (And.intro a122 (And.intro a123 (And.intro a124 (And.intro a125 (And.intro a126 (And.intro a127 (And.intro a128 (And.intro a129 (And.intro a130 (And.intro a131 (And.intro a132 (And.intro a133 (And.intro a134 (And.intro a135 (And.intro a136 (And.intro a137 (And.intro a138 (And.intro a139 (And.intro a140 (And.intro a141 (And.intro a142 (And.intro a143 (And.intro a144 (And.intro a145 (And.intro a146 (And.intro a147 (And.intro a148 (And.intro a149 (And.intro a150 (And.intro a151 (And.intro a152 (And.intro a153 (And.intro a154 (And.intro a155 (And.intro a156 (And.intro a157 (And.intro a158 (a159)))))))))))))))))))))))))))))))))))))))
def fB5 := And.intro a160 (And.intro a161 (And.intro a162 (And.intro a163 (And.intro a164 (And.intro a165 (And.intro a166 (And.intro a167 (And.intro a168 (And.intro a169 (And.intro a170 (And.intro a171 (And.intro a172 (And.intro a173 (And.intro a174 (And.intro a175 (And.intro a176 (And.intro a177 (And.intro a178 (And.intro a179 (And.intro a180 (And.intro a181 (And.intro a182 (And.intro a183 (And.intro a184 (And.intro a185 (And.intro a186 (And.intro a187 (And.intro a188 (And.intro a189 (And.intro a190 (And.intro a191 (And.intro a192 (And.intro a193 (And.intro a194 (And.intro a195 (And.intro a196 (And.intro a197 (And.intro a198 (a199)))))))))))))))))))))))))))))))))))))))
def fB6 := And.intro a200 (And.intro a201 (And.intro a202 (And.intro a203 (And.intro a204 (And.intro a205 (And.intro a206 (And.intro a207 (And.intro a208 (And.intro a209 (And.intro a210 (And.intro a211 (And.intro a212 (And.intro a213 (And.intro a214 (And.intro a215 (And.intro a216 (And.intro a217 (And.intro a218 (And.intro a219 (And.intro a220 (And.intro a221 (And.intro a222 (And.intro a223 (And.intro a224 (And.intro a225 (And.intro a226 (And.intro a227 (And.intro a228 (And.intro a229 (And.intro a230 (And.intro a231 (And.intro a232 (And.intro a233 (And.intro a234 (And.intro a235 (And.intro a236 (And.intro a237 (And.intro a238 (a239)))))))))))))))))))))))))))))))))))))))
def fB7 := And.intro a240 (And.intro a241 (And.intro a242 (And.intro a243 (And.intro a244 (And.intro a245 (And.intro a246 (And.intro a247 (And.intro a248 (And.intro a249 (And.intro a250 (And.intro a251 (And.intro a252 (And.intro a253 (And.intro a254 (And.intro a255 (And.intro a256 (And.intro a257 (And.intro a258 (And.intro a259 (And.intro a260 (And.intro a261 (And.intro a262 (And.intro a263 (And.intro a264 (And.intro a265 (And.intro a266 (And.intro a267 (And.intro a268 (And.intro a269 (And.intro a270 (And.intro a271 (And.intro a272 (And.intro a273 (And.intro a274 (And.intro a275 (And.intro a276 (And.intro a277 (And.intro a278 (a279)))))))))))))))))))))))))))))))))))))))
def fB8 := And.intro a280 (And.intro a281 (And.intro a282 (And.intro a283 (And.intro a284 (And.intro a285 (And.intro a286 (And.intro a287 (And.intro a288 (And.intro a289 (And.intro a290 (And.intro a291 (And.intro a292 (And.intro a293 (And.intro a294 (And.intro a295 (And.intro a296 (And.intro a297 (And.intro a298 (And.intro a299 (And.intro a300 (And.intro a301 (And.intro a302 (And.intro a303 (And.intro a304 (And.intro a305 (And.intro a306 (And.intro a307 (And.intro a308 (And.intro a309 (And.intro a310 (And.intro a311 (And.intro a312 (And.intro a313 (And.intro a314 (And.intro a315 (And.intro a316 (And.intro a317 (And.intro a318 (a319)))))))))))))))))))))))))))))))))))))))
def fB9 := And.intro a320 (And.intro a321 (And.intro a322 (And.intro a323 (And.intro a324 (And.intro a325 (And.intro a326 (And.intro a327 (And.intro a328 (And.intro a329 (And.intro a330 (And.intro a331 (And.intro a332 (And.intro a333 (And.intro a334 (And.intro a335 (And.intro a336 (And.intro a337 (And.intro a338 (And.intro a339 (And.intro a340 (And.intro a341 (And.intro a342 (And.intro a343 (And.intro a344 (And.intro a345 (And.intro a346 (And.intro a347 (And.intro a348 (And.intro a349 (And.intro a350 (And.intro a351 (And.intro a352 (And.intro a353 (And.intro a354 (And.intro a355 (And.intro a356 (And.intro a357 (And.intro a358 (a359)))))))))))))))))))))))))))))))))))))))
def fB10 := And.intro a360 (And.intro a361 (And.intro a362 (And.intro a363 (And.intro a364 (And.intro a365 (And.intro a366 (And.intro a367 (And.intro a368 (And.intro a369 (And.intro a370 (And.intro a371 (And.intro a372 (And.intro a373 (And.intro a374 (And.intro a375 (And.intro a376 (And.intro a377 (And.intro a378 (And.intro a379 (And.intro a380 (And.intro a381 (And.intro a382 (And.intro a383 (And.intro a384 (And.intro a385 (And.intro a386 (And.intro a387 (And.intro a388 (And.intro a389 (And.intro a390 (And.intro a391 (And.intro a392 (And.intro a393 (And.intro a394 (And.intro a395 (And.intro a396 (And.intro a397 (And.intro a398 (a399)))))))))))))))))))))))))))))))))))))))
def fB11 := And.intro a400 (And.intro a401 (And.intro a402 (And.intro a403 (And.intro a404 (And.intro a405 (And.intro a406 (And.intro a407 (And.intro a408 (And.intro a409 (And.intro a410 (And.intro a411 (And.intro a412 (And.intro a413 (And.intro a414 (And.intro a415 (And.intro a416 (And.intro a417 (And.intro a418 (And.intro a419 (And.intro a420 (And.intro a421 (And.intro a422 (And.intro a423 (And.intro a424 (And.intro a425 (And.intro a426 (And.intro a427 (And.intro a428 (And.intro a429 (And.intro a430 (And.intro a431 (And.intro a432 (And.intro a433 (And.intro a434 (And.intro a435 (And.intro a436 (And.intro a437 (And.intro a438 (a439)))))))))))))))))))))))))))))))))))))))
def fB12 := And.intro a440 (And.intro a441 (And.intro a442 (And.intro a443 (And.intro a444 (And.intro a445 (And.intro a446 (And.intro a447 (And.intro a448 (And.intro a449 (And.intro a450 (And.intro a451 (And.intro a452 (And.intro a453 (And.intro a454 (And.intro a455 (And.intro a456 (And.intro a457 (And.intro a458 (And.intro a459 (And.intro a460 (And.intro a461 (And.intro a462 (And.intro a463 (And.intro a464 (And.intro a465 (And.intro a466 (And.intro a467 (And.intro a468 (And.intro a469 (And.intro a470 (And.intro a471 (And.intro a472 (And.intro a473 (And.intro a474 (And.intro a475 (And.intro a476 (And.intro a477 (And.intro a478 (a479)))))))))))))))))))))))))))))))))))))))
def fB13 := And.intro a480 (And.intro a481 (And.intro a482 (And.intro a483 (And.intro a484 (And.intro a485 (And.intro a486 (And.intro a487 (And.intro a488 (And.intro a489 (And.intro a490 (And.intro a491 (And.intro a492 (And.intro a493 (And.intro a494 (And.intro a495 (And.intro a496 (And.intro a497 (And.intro a498 (And.intro a499 (And.intro a500 (And.intro a501 (And.intro a502 (And.intro a503 (And.intro a504 (And.intro a505 (And.intro a506 (And.intro a507 (And.intro a508 (And.intro a509 (And.intro a510 (And.intro a511 (And.intro a512 (And.intro a513 (And.intro a514 (And.intro a515 (And.intro a516 (And.intro a517 (And.intro a518 (a519)))))))))))))))))))))))))))))))))))))))
def fB14 := And.intro a520 (And.intro a521 (And.intro a522 (And.intro a523 (And.intro a524 (And.intro a525 (And.intro a526 (And.intro a527 (And.intro a528 (And.intro a529 (And.intro a530 (And.intro a531 (And.intro a532 (And.intro a533 (And.intro a534 (And.intro a535 (And.intro a536 (And.intro a537 (And.intro a538 (And.intro a539 (And.intro a540 (And.intro a541 (And.intro a542 (And.intro a543 (And.intro a544 (And.intro a545 (And.intro a546 (And.intro a547 (And.intro a548 (And.intro a549 (And.intro a550 (And.intro a551 (And.intro a552 (And.intro a553 (And.intro a554 (And.intro a555 (And.intro a556 (And.intro a557 (And.intro a558 (a559)))))))))))))))))))))))))))))))))))))))
def fB15 := And.intro a560 (And.intro a561 (And.intro a562 (And.intro a563 (And.intro a564 (And.intro a565 (And.intro a566 (And.intro a567 (And.intro a568 (And.intro a569 (And.intro a570 (And.intro a571 (And.intro a572 (And.intro a573 (And.intro a574 (And.intro a575 (And.intro a576 (And.intro a577 (And.intro a578 (And.intro a579 (And.intro a580 (And.intro a581 (And.intro a582 (And.intro a583 (And.intro a584 (And.intro a585 (And.intro a586 (And.intro a587 (And.intro a588 (And.intro a589 (And.intro a590 (And.intro a591 (And.intro a592 (And.intro a593 (And.intro a594 (And.intro a595 (And.intro a596 (And.intro a597 (And.intro a598 (a599)))))))))))))))))))))))))))))))))))))))
def fB16 := And.intro a600 (And.intro a601 (And.intro a602 (And.intro a603 (And.intro a604 (And.intro a605 (And.intro a606 (And.intro a607 (And.intro a608 (And.intro a609 (And.intro a610 (And.intro a611 (And.intro a612 (And.intro a613 (And.intro a614 (And.intro a615 (And.intro a616 (And.intro a617 (And.intro a618 (And.intro a619 (And.intro a620 (And.intro a621 (And.intro a622 (And.intro a623 (And.intro a624 (And.intro a625 (And.intro a626 (And.intro a627 (And.intro a628 (And.intro a629 (And.intro a630 (And.intro a631 (And.intro a632 (And.intro a633 (And.intro a634 (And.intro a635 (And.intro a636 (And.intro a637 (And.intro a638 (a639)))))))))))))))))))))))))))))))))))))))
def fB17 := And.intro a640 (And.intro a641 (And.intro a642 (And.intro a643 (And.intro a644 (And.intro a645 (And.intro a646 (And.intro a647 (And.intro a648 (And.intro a649 (And.intro a650 (And.intro a651 (And.intro a652 (And.intro a653 (And.intro a654 (And.intro a655 (And.intro a656 (And.intro a657 (And.intro a658 (And.intro a659 (And.intro a660 (And.intro a661 (And.intro a662 (And.intro a663 (And.intro a664 (And.intro a665 (And.intro a666 (And.intro a667 (And.intro a668 (And.intro a669 (And.intro a670 (And.intro a671 (And.intro a672 (And.intro a673 (And.intro a674 (And.intro a675 (And.intro a676 (And.intro a677 (And.intro a678 (a679)))))))))))))))))))))))))))))))))))))))
def fB18 := And.intro a680 (And.intro a681 (And.intro a682 (And.intro a683 (And.intro a684 (And.intro a685 (And.intro a686 (And.intro a687 (And.intro a688 (And.intro a689 (And.intro a690 (And.intro a691 (And.intro a692 (And.intro a693 (And.intro a694 (And.intro a695 (And.intro a696 (And.intro a697 (And.intro a698 (And.intro a699 (And.intro a700 (And.intro a701 (And.intro a702 (And.intro a703 (And.intro a704 (And.intro a705 (And.intro a706 (And.intro a707 (And.intro a708 (And.intro a709 (And.intro a710 (And.intro a711 (And.intro a712 (And.intro a713 (And.intro a714 (And.intro a715 (And.intro a716 (And.intro a717 (And.intro a718 (a719)))))))))))))))))))))))))))))))))))))))
def fB19 := And.intro a720 (And.intro a721 (And.intro a722 (And.intro a723 (And.intro a724 (And.intro a725 (And.intro a726 (And.intro a727 (And.intro a728 (And.intro a729 (And.intro a730 (And.intro a731 (And.intro a732 (And.intro a733 (And.intro a734 (And.intro a735 (And.intro a736 (And.intro a737 (And.intro a738 (And.intro a739 (And.intro a740 (And.intro a741 (And.intro a742 (And.intro a743 (And.intro a744 (And.intro a745 (And.intro a746 (And.intro a747 (And.intro a748 (And.intro a749 (And.intro a750 (And.intro a751 (And.intro a752 (And.intro a753 (And.intro a754 (And.intro a755 (And.intro a756 (And.intro a757 (And.intro a758 (a759)))))))))))))))))))))))))))))))))))))))
def fB20 := And.intro a760 (And.intro a761 (And.intro a762 (And.intro a763 (And.intro a764 (And.intro a765 (And.intro a766 (And.intro a767 (And.intro a768 (And.intro a769 (And.intro a770 (And.intro a771 (And.intro a772 (And.intro a773 (And.intro a774 (And.intro a775 (And.intro a776 (And.intro a777 (And.intro a778 (And.intro a779 (And.intro a780 (And.intro a781 (And.intro a782 (And.intro a783 (And.intro a784 (And.intro a785 (And.intro a786 (And.intro a787 (And.intro a788 (And.intro a789 (And.intro a790 (And.intro a791 (And.intro a792 (And.intro a793 (And.intro a794 (And.intro a795 (And.intro a796 (And.intro a797 (And.intro a798 (a799)))))))))))))))))))))))))))))))))))))))
def fB21 := And.intro a800 (And.intro a801 (And.intro a802 (And.intro a803 (And.intro a804 (And.intro a805 (And.intro a806 (And.intro a807 (And.intro a808 (And.intro a809 (And.intro a810 (And.intro a811 (And.intro a812 (And.intro a813 (And.intro a814 (And.intro a815 (And.intro a816 (And.intro a817 (And.intro a818 (And.intro a819 (And.intro a820 (And.intro a821 (And.intro a822 (And.intro a823 (And.intro a824 (And.intro a825 (And.intro a826 (And.intro a827 (And.intro a828 (And.intro a829 (And.intro a830 (And.intro a831 (And.intro a832 (And.intro a833 (And.intro a834 (And.intro a835 (And.intro a836 (And.intro a837 (And.intro a838 (a839)))))))))))))))))))))))))))))))))))))))
def fB22 := And.intro a840 (And.intro a841 (And.intro a842 (And.intro a843 (And.intro a844 (And.intro a845 (And.intro a846 (And.intro a847 (And.intro a848 (And.intro a849 (And.intro a850 (And.intro a851 (And.intro a852 (And.intro a853 (And.intro a854 (And.intro a855 (And.intro a856 (And.intro a857 (And.intro a858 (And.intro a859 (And.intro a860 (And.intro a861 (And.intro a862 (And.intro a863 (And.intro a864 (And.intro a865 (And.intro a866 (And.intro a867 (And.intro a868 (And.intro a869 (And.intro a870 (And.intro a871 (And.intro a872 (And.intro a873 (And.intro a874 (And.intro a875 (And.intro a876 (And.intro a877 (And.intro a878 (a879)))))))))))))))))))))))))))))))))))))))
def fB23 := And.intro a880 (And.intro a881 (And.intro a882 (And.intro a883 (And.intro a884 (And.intro a885 (And.intro a886 (And.intro a887 (And.intro a888 (And.intro a889 (And.intro a890 (And.intro a891 (And.intro a892 (And.intro a893 (And.intro a894 (And.intro a895 (And.intro a896 (And.intro a897 (And.intro a898 (And.intro a899 (And.intro a900 (And.intro a901 (And.intro a902 (And.intro a903 (And.intro a904 (And.intro a905 (And.intro a906 (And.intro a907 (And.intro a908 (And.intro a909 (And.intro a910 (And.intro a911 (And.intro a912 (And.intro a913 (And.intro a914 (And.intro a915 (And.intro a916 (And.intro a917 (And.intro a918 (a919)))))))))))))))))))))))))))))))))))))))
def fB24 := And.intro a920 (And.intro a921 (And.intro a922 (And.intro a923 (And.intro a924 (And.intro a925 (And.intro a926 (And.intro a927 (And.intro a928 (And.intro a929 (And.intro a930 (And.intro a931 (And.intro a932 (And.intro a933 (And.intro a934 (And.intro a935 (And.intro a936 (And.intro a937 (And.intro a938 (And.intro a939 (And.intro a940 (And.intro a941 (And.intro a942 (And.intro a943 (And.intro a944 (And.intro a945 (And.intro a946 (And.intro a947 (And.intro a948 (And.intro a949 (And.intro a950 (And.intro a951 (And.intro a952 (And.intro a953 (And.intro a954 (And.intro a955 (And.intro a956 (And.intro a957 (And.intro a958 (a959)))))))))))))))))))))))))))))))))))))))
def fB25 := And.intro a960 (And.intro a961 (And.intro a962 (And.intro a963 (And.intro a964 (And.intro a965 (And.intro a966 (And.intro a967 (And.intro a968 (And.intro a969 (And.intro a970 (And.intro a971 (And.intro a972 (And.intro a973 (And.intro a974 (And.intro a975 (And.intro a976 (And.intro a977 (And.intro a978 (And.intro a979 (And.intro a980 (And.intro a981 (And.intro a982 (And.intro a983 (And.intro a984 (And.intro a985 (And.intro a986 (And.intro a987 (And.intro a988 (And.intro a989 (And.intro a990 (And.intro a991 (And.intro a992 (And.intro a993 (And.intro a994 (And.intro a995 (And.intro a996 (And.intro a997 (And.intro a998 (a999)))))))))))))))))))))))))))))))))))))))
def fB26 := a1000
def fBs := And.intro fB1 (And.intro fB2 (And.intro fB3 (And.intro fB4 (And.intro fB5 (And.intro fB6 (And.intro fB7 (And.intro fB8 (And.intro fB9 (And.intro fB10 (And.intro fB11 (And.intro fB12 (And.intro fB13 (And.intro fB14 (And.intro fB15 (And.intro fB16 (And.intro fB17 (And.intro fB18 (And.intro fB19 (And.intro fB20 (And.intro fB21 (And.intro fB22 (And.intro fB23 (And.intro fB24 (And.intro fB25 (fB26)))))))))))))))))))))))))
end Go.PE.F
