/- Closed facts on the program's types (printed by wip/tools/facts.lean). -/
import Derived.Test.YtkgkpmdbcjelfaaGreatPe1
import Derived.Test.YtkgkpmdbcjelfaaGreatProg
import Derived.KernelRfl
set_option linter.defProp false
namespace Go.PE.F
open Go Go.Proofs
theorem mixed : Tryz.prog.follows .mixedOrders = true := by kernel_rfl
theorem a0 : kd? Tryz.prog 0 = 2 := by kernel_rfl
theorem a1 : ty? Tryz.prog 0 = some (false, 1) := by kernel_rfl
theorem a2 : sl? Tryz.prog 0 = none := by kernel_rfl
theorem a3 : zero? Tryz.prog 0 = some [.undef] := by kernel_rfl
theorem a4 : kd? Tryz.prog 1 = 2 := by kernel_rfl
theorem a5 : ty? Tryz.prog 1 = some (false, 1) := by kernel_rfl
theorem a6 : sl? Tryz.prog 1 = none := by kernel_rfl
theorem a7 : zero? Tryz.prog 1 = some [.d (.raw .nilFunc)] := by kernel_rfl
theorem a8 : kd? Tryz.prog 2 = 13 := by kernel_rfl
theorem a9 : ty? Tryz.prog 2 = some (false, 1) := by kernel_rfl
theorem a10 : sl? Tryz.prog 2 = none := by kernel_rfl
theorem a11 : zero? Tryz.prog 2 = some [.d (.int .i64 (0))] := by kernel_rfl
theorem a12 : kd? Tryz.prog 3 = 13 := by kernel_rfl
theorem a13 : ty? Tryz.prog 3 = some (false, 1) := by kernel_rfl
theorem a14 : sl? Tryz.prog 3 = none := by kernel_rfl
theorem a15 : zero? Tryz.prog 3 = some [.d (.int .i64 (0))] := by kernel_rfl
theorem a16 : kd? Tryz.prog 4 = 1 := by kernel_rfl
theorem a17 : ty? Tryz.prog 4 = some (false, 1) := by kernel_rfl
theorem a18 : sl? Tryz.prog 4 = none := by kernel_rfl
theorem a19 : zero? Tryz.prog 4 = some [.d (.bool false)] := by kernel_rfl
theorem a20 : kd? Tryz.prog 5 = 14 := by kernel_rfl
theorem a21 : ty? Tryz.prog 5 = some (false, 1) := by kernel_rfl
theorem a22 : sl? Tryz.prog 5 = none := by kernel_rfl
theorem a23 : zero? Tryz.prog 5 = some [.d (.int .u8 (0))] := by kernel_rfl
theorem a24 : kd? Tryz.prog 6 = 14 := by kernel_rfl
theorem a25 : ty? Tryz.prog 6 = some (false, 1) := by kernel_rfl
theorem a26 : sl? Tryz.prog 6 = none := by kernel_rfl
theorem a27 : zero? Tryz.prog 6 = some [.d (.int .u8 (0))] := by kernel_rfl
theorem a28 : kd? Tryz.prog 7 = 7 := by kernel_rfl
theorem a29 : ty? Tryz.prog 7 = some (true, 4) := by kernel_rfl
theorem a30 : sl? Tryz.prog 7 = none := by kernel_rfl
theorem a31 : ar? Tryz.prog 7 = none := by kernel_rfl
theorem a32 : fo? Tryz.prog 7 0 = some (0, 2) := by kernel_rfl
theorem a33 : fo? Tryz.prog 7 1 = some (1, 3) := by kernel_rfl
theorem a34 : fo? Tryz.prog 7 2 = some (2, 4) := by kernel_rfl
theorem a35 : fo? Tryz.prog 7 3 = some (3, 6) := by kernel_rfl
theorem a36 : cellsT Tryz.prog 7 = some [2, 2, 1, 2] := by kernel_rfl
theorem a37 : zero? Tryz.prog 7 = some [.d (.int .i64 (0)), .d (.int .i64 (0)), .d (.bool false), .d (.int .u8 (0))] := by kernel_rfl
theorem a38 : kd? Tryz.prog 8 = 7 := by kernel_rfl
theorem a39 : ty? Tryz.prog 8 = some (true, 4) := by kernel_rfl
theorem a40 : sl? Tryz.prog 8 = none := by kernel_rfl
theorem a41 : ar? Tryz.prog 8 = none := by kernel_rfl
theorem a42 : fo? Tryz.prog 8 0 = some (0, 2) := by kernel_rfl
theorem a43 : fo? Tryz.prog 8 1 = some (1, 3) := by kernel_rfl
theorem a44 : fo? Tryz.prog 8 2 = some (2, 4) := by kernel_rfl
theorem a45 : fo? Tryz.prog 8 3 = some (3, 6) := by kernel_rfl
theorem a46 : cellsT Tryz.prog 8 = some [2, 2, 1, 2] := by kernel_rfl
theorem a47 : zero? Tryz.prog 8 = some [.d (.int .i64 (0)), .d (.int .i64 (0)), .d (.bool false), .d (.int .u8 (0))] := by kernel_rfl
theorem a48 : kd? Tryz.prog 9 = 0 := by kernel_rfl
theorem a49 : ty? Tryz.prog 9 = some (false, 1) := by kernel_rfl
theorem a50 : sl? Tryz.prog 9 = none := by kernel_rfl
theorem a51 : zero? Tryz.prog 9 = some [.d (.str [])] := by kernel_rfl
theorem a52 : kd? Tryz.prog 10 = 0 := by kernel_rfl
theorem a53 : ty? Tryz.prog 10 = some (false, 1) := by kernel_rfl
theorem a54 : sl? Tryz.prog 10 = none := by kernel_rfl
theorem a55 : zero? Tryz.prog 10 = some [.d (.str [])] := by kernel_rfl
theorem a56 : kd? Tryz.prog 11 = 0 := by kernel_rfl
theorem a57 : ty? Tryz.prog 11 = some (false, 1) := by kernel_rfl
theorem a58 : sl? Tryz.prog 11 = none := by kernel_rfl
theorem a59 : zero? Tryz.prog 11 = some [.d (.str [])] := by kernel_rfl
theorem a60 : kd? Tryz.prog 12 = 17 := by kernel_rfl
theorem a61 : ty? Tryz.prog 12 = some (false, 1) := by kernel_rfl
theorem a62 : sl? Tryz.prog 12 = none := by kernel_rfl
theorem a63 : zero? Tryz.prog 12 = some [.d (.int .u64 (0))] := by kernel_rfl
theorem a64 : kd? Tryz.prog 13 = 7 := by kernel_rfl
theorem a65 : ty? Tryz.prog 13 = some (true, 2) := by kernel_rfl
theorem a66 : sl? Tryz.prog 13 = none := by kernel_rfl
theorem a67 : ar? Tryz.prog 13 = none := by kernel_rfl
theorem a68 : fo? Tryz.prog 13 0 = some (0, 9) := by kernel_rfl
theorem a69 : fo? Tryz.prog 13 1 = some (1, 12) := by kernel_rfl
theorem a70 : zero? Tryz.prog 13 = some [.d (.str []), .d (.int .u64 (0))] := by kernel_rfl
theorem a71 : kd? Tryz.prog 14 = 7 := by kernel_rfl
theorem a72 : ty? Tryz.prog 14 = some (true, 2) := by kernel_rfl
theorem a73 : sl? Tryz.prog 14 = none := by kernel_rfl
theorem a74 : ar? Tryz.prog 14 = none := by kernel_rfl
theorem a75 : fo? Tryz.prog 14 0 = some (0, 9) := by kernel_rfl
theorem a76 : fo? Tryz.prog 14 1 = some (1, 12) := by kernel_rfl
theorem a77 : zero? Tryz.prog 14 = some [.d (.str []), .d (.int .u64 (0))] := by kernel_rfl
theorem a78 : kd? Tryz.prog 15 = 5 := by kernel_rfl
theorem a79 : ty? Tryz.prog 15 = some (false, 1) := by kernel_rfl
theorem a80 : sl? Tryz.prog 15 = none := by kernel_rfl
theorem a81 : zero? Tryz.prog 15 = some [.d (.raw (.pointer none))] := by kernel_rfl
theorem a82 : kd? Tryz.prog 16 = 5 := by kernel_rfl
theorem a83 : ty? Tryz.prog 16 = some (false, 1) := by kernel_rfl
theorem a84 : sl? Tryz.prog 16 = none := by kernel_rfl
theorem a85 : zero? Tryz.prog 16 = some [.d (.raw (.pointer none))] := by kernel_rfl
theorem a86 : kd? Tryz.prog 17 = 5 := by kernel_rfl
theorem a87 : ty? Tryz.prog 17 = some (false, 1) := by kernel_rfl
theorem a88 : sl? Tryz.prog 17 = none := by kernel_rfl
theorem a89 : zero? Tryz.prog 17 = some [.d (.raw (.pointer none))] := by kernel_rfl
theorem a90 : kd? Tryz.prog 18 = 7 := by kernel_rfl
theorem a91 : ty? Tryz.prog 18 = some (true, 1) := by kernel_rfl
theorem a92 : sl? Tryz.prog 18 = none := by kernel_rfl
theorem a93 : ar? Tryz.prog 18 = none := by kernel_rfl
theorem a94 : fo? Tryz.prog 18 0 = some (0, 17) := by kernel_rfl
theorem a95 : zero? Tryz.prog 18 = some [.d (.raw (.pointer none))] := by kernel_rfl
theorem a96 : kd? Tryz.prog 19 = 7 := by kernel_rfl
theorem a97 : ty? Tryz.prog 19 = some (true, 1) := by kernel_rfl
theorem a98 : sl? Tryz.prog 19 = none := by kernel_rfl
theorem a99 : ar? Tryz.prog 19 = none := by kernel_rfl
theorem a100 : fo? Tryz.prog 19 0 = some (0, 17) := by kernel_rfl
theorem a101 : zero? Tryz.prog 19 = some [.d (.raw (.pointer none))] := by kernel_rfl
theorem a102 : kd? Tryz.prog 20 = 3 := by kernel_rfl
theorem a103 : ty? Tryz.prog 20 = some (false, 1) := by kernel_rfl
theorem a104 : sl? Tryz.prog 20 = none := by kernel_rfl
theorem a105 : zero? Tryz.prog 20 = some [.d (.nilI)] := by kernel_rfl
theorem a106 : kd? Tryz.prog 21 = 12 := by kernel_rfl
theorem a107 : ty? Tryz.prog 21 = some (false, 1) := by kernel_rfl
theorem a108 : sl? Tryz.prog 21 = none := by kernel_rfl
theorem a109 : zero? Tryz.prog 21 = some [.d (.int .i32 (0))] := by kernel_rfl
theorem a110 : kd? Tryz.prog 22 = 6 := by kernel_rfl
theorem a111 : ty? Tryz.prog 22 = some (false, 1) := by kernel_rfl
theorem a112 : sl? Tryz.prog 22 = some (53, 6, 6) := by kernel_rfl
theorem a113 : zero? Tryz.prog 22 = some [.nilS] := by kernel_rfl
theorem a114 : kd? Tryz.prog 23 = 6 := by kernel_rfl
theorem a115 : ty? Tryz.prog 23 = some (false, 1) := by kernel_rfl
theorem a116 : sl? Tryz.prog 23 = some (5, 1, 1) := by kernel_rfl
theorem a117 : zero? Tryz.prog 23 = some [.nilS] := by kernel_rfl
theorem a118 : kd? Tryz.prog 24 = 16 := by kernel_rfl
theorem a119 : ty? Tryz.prog 24 = some (false, 1) := by kernel_rfl
theorem a120 : sl? Tryz.prog 24 = none := by kernel_rfl
theorem a121 : zero? Tryz.prog 24 = some [.d (.int .u32 (0))] := by kernel_rfl
theorem a122 : kd? Tryz.prog 25 = 4 := by kernel_rfl
theorem a123 : ty? Tryz.prog 25 = some (true, 4) := by kernel_rfl
theorem a124 : sl? Tryz.prog 25 = none := by kernel_rfl
theorem a125 : ar? Tryz.prog 25 = some (4, 1) := by kernel_rfl
theorem a126 : zero? Tryz.prog 25 = some [.d (.int .u32 (0)), .d (.int .u32 (0)), .d (.int .u32 (0)), .d (.int .u32 (0))] := by kernel_rfl
theorem a127 : kd? Tryz.prog 26 = 2 := by kernel_rfl
theorem a128 : ty? Tryz.prog 26 = some (false, 1) := by kernel_rfl
theorem a129 : sl? Tryz.prog 26 = none := by kernel_rfl
theorem a130 : zero? Tryz.prog 26 = some [.d (.raw .nilFunc)] := by kernel_rfl
theorem a131 : kd? Tryz.prog 27 = 6 := by kernel_rfl
theorem a132 : ty? Tryz.prog 27 = some (false, 1) := by kernel_rfl
theorem a133 : sl? Tryz.prog 27 = some (37, 8, 112) := by kernel_rfl
theorem a134 : zero? Tryz.prog 27 = some [.nilS] := by kernel_rfl
theorem a135 : kd? Tryz.prog 28 = 2 := by kernel_rfl
theorem a136 : ty? Tryz.prog 28 = some (false, 1) := by kernel_rfl
theorem a137 : sl? Tryz.prog 28 = none := by kernel_rfl
theorem a138 : zero? Tryz.prog 28 = some [.d (.raw .nilFunc)] := by kernel_rfl
theorem a139 : kd? Tryz.prog 29 = 6 := by kernel_rfl
theorem a140 : ty? Tryz.prog 29 = some (false, 1) := by kernel_rfl
theorem a141 : sl? Tryz.prog 29 = some (39, 14, 160) := by kernel_rfl
theorem a142 : zero? Tryz.prog 29 = some [.nilS] := by kernel_rfl
theorem a143 : kd? Tryz.prog 30 = 2 := by kernel_rfl
theorem a144 : ty? Tryz.prog 30 = some (false, 1) := by kernel_rfl
theorem a145 : sl? Tryz.prog 30 = none := by kernel_rfl
theorem a146 : zero? Tryz.prog 30 = some [.d (.raw .nilFunc)] := by kernel_rfl
theorem a147 : kd? Tryz.prog 31 = 17 := by kernel_rfl
theorem a148 : ty? Tryz.prog 31 = some (false, 1) := by kernel_rfl
theorem a149 : sl? Tryz.prog 31 = none := by kernel_rfl
theorem a150 : zero? Tryz.prog 31 = some [.d (.int .u64 (0))] := by kernel_rfl
theorem a151 : kd? Tryz.prog 32 = 17 := by kernel_rfl
theorem a152 : ty? Tryz.prog 32 = some (false, 1) := by kernel_rfl
theorem a153 : sl? Tryz.prog 32 = none := by kernel_rfl
theorem a154 : zero? Tryz.prog 32 = some [.d (.int .u64 (0))] := by kernel_rfl
theorem a155 : kd? Tryz.prog 33 = 2 := by kernel_rfl
theorem a156 : ty? Tryz.prog 33 = some (false, 1) := by kernel_rfl
theorem a157 : sl? Tryz.prog 33 = none := by kernel_rfl
theorem a158 : zero? Tryz.prog 33 = some [.d (.raw .nilFunc)] := by kernel_rfl
theorem a159 : kd? Tryz.prog 34 = 7 := by kernel_rfl
theorem a160 : ty? Tryz.prog 34 = some (true, 2) := by kernel_rfl
theorem a161 : sl? Tryz.prog 34 = none := by kernel_rfl
theorem a162 : ar? Tryz.prog 34 = none := by kernel_rfl
theorem a163 : fo? Tryz.prog 34 0 = some (0, 9) := by kernel_rfl
theorem a164 : fo? Tryz.prog 34 1 = some (1, 9) := by kernel_rfl
theorem a165 : cellsT Tryz.prog 34 = some [0, 0] := by kernel_rfl
theorem a166 : zero? Tryz.prog 34 = some [.d (.str []), .d (.str [])] := by kernel_rfl
theorem a167 : kd? Tryz.prog 35 = 7 := by kernel_rfl
theorem a168 : ty? Tryz.prog 35 = some (true, 2) := by kernel_rfl
theorem a169 : sl? Tryz.prog 35 = none := by kernel_rfl
theorem a170 : ar? Tryz.prog 35 = none := by kernel_rfl
theorem a171 : fo? Tryz.prog 35 0 = some (0, 9) := by kernel_rfl
theorem a172 : fo? Tryz.prog 35 1 = some (1, 9) := by kernel_rfl
theorem a173 : cellsT Tryz.prog 35 = some [0, 0] := by kernel_rfl
theorem a174 : zero? Tryz.prog 35 = some [.d (.str []), .d (.str [])] := by kernel_rfl
theorem a175 : kd? Tryz.prog 36 = 7 := by kernel_rfl
theorem a176 : ty? Tryz.prog 36 = some (true, 8) := by kernel_rfl
theorem a177 : sl? Tryz.prog 36 = none := by kernel_rfl
theorem a178 : ar? Tryz.prog 36 = none := by kernel_rfl
theorem a179 : fo? Tryz.prog 36 0 = some (0, 3) := by kernel_rfl
theorem a180 : fo? Tryz.prog 36 1 = some (1, 9) := by kernel_rfl
theorem a181 : fo? Tryz.prog 36 2 = some (2, 9) := by kernel_rfl
theorem a182 : fo? Tryz.prog 36 3 = some (3, 35) := by kernel_rfl
theorem a183 : fo? Tryz.prog 36 4 = some (5, 9) := by kernel_rfl
theorem a184 : fo? Tryz.prog 36 5 = some (6, 9) := by kernel_rfl
theorem a185 : fo? Tryz.prog 36 6 = some (7, 3) := by kernel_rfl
theorem a186 : cellsT Tryz.prog 36 = some [2, 0, 0, 0, 0, 0, 0, 2] := by kernel_rfl
theorem a187 : zero? Tryz.prog 36 = some [.d (.int .i64 (0)), .d (.str []), .d (.str []), .d (.str []), .d (.str []), .d (.str []), .d (.str []), .d (.int .i64 (0))] := by kernel_rfl
theorem a188 : kd? Tryz.prog 37 = 7 := by kernel_rfl
theorem a189 : ty? Tryz.prog 37 = some (true, 8) := by kernel_rfl
theorem a190 : sl? Tryz.prog 37 = none := by kernel_rfl
theorem a191 : ar? Tryz.prog 37 = none := by kernel_rfl
theorem a192 : fo? Tryz.prog 37 0 = some (0, 3) := by kernel_rfl
theorem a193 : fo? Tryz.prog 37 1 = some (1, 9) := by kernel_rfl
theorem a194 : fo? Tryz.prog 37 2 = some (2, 9) := by kernel_rfl
theorem a195 : fo? Tryz.prog 37 3 = some (3, 35) := by kernel_rfl
theorem a196 : fo? Tryz.prog 37 4 = some (5, 9) := by kernel_rfl
theorem a197 : fo? Tryz.prog 37 5 = some (6, 9) := by kernel_rfl
theorem a198 : fo? Tryz.prog 37 6 = some (7, 3) := by kernel_rfl
theorem a199 : cellsT Tryz.prog 37 = some [2, 0, 0, 0, 0, 0, 0, 2] := by kernel_rfl
theorem a200 : zero? Tryz.prog 37 = some [.d (.int .i64 (0)), .d (.str []), .d (.str []), .d (.str []), .d (.str []), .d (.str []), .d (.str []), .d (.int .i64 (0))] := by kernel_rfl
theorem a201 : kd? Tryz.prog 38 = 7 := by kernel_rfl
theorem a202 : ty? Tryz.prog 38 = some (true, 14) := by kernel_rfl
theorem a203 : sl? Tryz.prog 38 = none := by kernel_rfl
theorem a204 : ar? Tryz.prog 38 = none := by kernel_rfl
theorem a205 : fo? Tryz.prog 38 0 = some (0, 3) := by kernel_rfl
theorem a206 : fo? Tryz.prog 38 1 = some (1, 3) := by kernel_rfl
theorem a207 : fo? Tryz.prog 38 2 = some (2, 3) := by kernel_rfl
theorem a208 : fo? Tryz.prog 38 3 = some (3, 31) := by kernel_rfl
theorem a209 : fo? Tryz.prog 38 4 = some (4, 31) := by kernel_rfl
theorem a210 : fo? Tryz.prog 38 5 = some (5, 37) := by kernel_rfl
theorem a211 : fo? Tryz.prog 38 6 = some (13, 31) := by kernel_rfl
theorem a212 : cellsT Tryz.prog 38 = some [2, 2, 2, 2, 2, 2, 0, 0, 0, 0, 0, 0, 2, 2] := by kernel_rfl
theorem a213 : zero? Tryz.prog 38 = some [.d (.int .i64 (0)), .d (.int .i64 (0)), .d (.int .i64 (0)), .d (.int .u64 (0)), .d (.int .u64 (0)), .d (.int .i64 (0)), .d (.str []), .d (.str []), .d (.str []), .d (.str []), .d (.str []), .d (.str []), .d (.int .i64 (0)), .d (.int .u64 (0))] := by kernel_rfl
theorem a214 : kd? Tryz.prog 39 = 7 := by kernel_rfl
theorem a215 : ty? Tryz.prog 39 = some (true, 14) := by kernel_rfl
theorem a216 : sl? Tryz.prog 39 = none := by kernel_rfl
theorem a217 : ar? Tryz.prog 39 = none := by kernel_rfl
theorem a218 : fo? Tryz.prog 39 0 = some (0, 3) := by kernel_rfl
theorem a219 : fo? Tryz.prog 39 1 = some (1, 3) := by kernel_rfl
theorem a220 : fo? Tryz.prog 39 2 = some (2, 3) := by kernel_rfl
theorem a221 : fo? Tryz.prog 39 3 = some (3, 31) := by kernel_rfl
theorem a222 : fo? Tryz.prog 39 4 = some (4, 31) := by kernel_rfl
theorem a223 : fo? Tryz.prog 39 5 = some (5, 37) := by kernel_rfl
theorem a224 : fo? Tryz.prog 39 6 = some (13, 31) := by kernel_rfl
theorem a225 : cellsT Tryz.prog 39 = some [2, 2, 2, 2, 2, 2, 0, 0, 0, 0, 0, 0, 2, 2] := by kernel_rfl
theorem a226 : zero? Tryz.prog 39 = some [.d (.int .i64 (0)), .d (.int .i64 (0)), .d (.int .i64 (0)), .d (.int .u64 (0)), .d (.int .u64 (0)), .d (.int .i64 (0)), .d (.str []), .d (.str []), .d (.str []), .d (.str []), .d (.str []), .d (.str []), .d (.int .i64 (0)), .d (.int .u64 (0))] := by kernel_rfl
theorem a227 : kd? Tryz.prog 40 = 13 := by kernel_rfl
theorem a228 : ty? Tryz.prog 40 = some (false, 1) := by kernel_rfl
theorem a229 : sl? Tryz.prog 40 = none := by kernel_rfl
theorem a230 : zero? Tryz.prog 40 = some [.d (.int .i64 (0))] := by kernel_rfl
theorem a231 : kd? Tryz.prog 41 = 7 := by kernel_rfl
theorem a232 : ty? Tryz.prog 41 = some (true, 16) := by kernel_rfl
theorem a233 : sl? Tryz.prog 41 = none := by kernel_rfl
theorem a234 : ar? Tryz.prog 41 = none := by kernel_rfl
theorem a235 : fo? Tryz.prog 41 0 = some (0, 39) := by kernel_rfl
theorem a236 : fo? Tryz.prog 41 1 = some (14, 3) := by kernel_rfl
theorem a237 : fo? Tryz.prog 41 2 = some (15, 40) := by kernel_rfl
theorem a238 : cellsT Tryz.prog 41 = some [2, 2, 2, 2, 2, 2, 0, 0, 0, 0, 0, 0, 2, 2, 2, 2] := by kernel_rfl
theorem a239 : zero? Tryz.prog 41 = some [.d (.int .i64 (0)), .d (.int .i64 (0)), .d (.int .i64 (0)), .d (.int .u64 (0)), .d (.int .u64 (0)), .d (.int .i64 (0)), .d (.str []), .d (.str []), .d (.str []), .d (.str []), .d (.str []), .d (.str []), .d (.int .i64 (0)), .d (.int .u64 (0)), .d (.int .i64 (0)), .d (.int .i64 (0))] := by kernel_rfl
theorem a240 : kd? Tryz.prog 42 = 7 := by kernel_rfl
theorem a241 : ty? Tryz.prog 42 = some (true, 16) := by kernel_rfl
theorem a242 : sl? Tryz.prog 42 = none := by kernel_rfl
theorem a243 : ar? Tryz.prog 42 = none := by kernel_rfl
theorem a244 : fo? Tryz.prog 42 0 = some (0, 39) := by kernel_rfl
theorem a245 : fo? Tryz.prog 42 1 = some (14, 3) := by kernel_rfl
theorem a246 : fo? Tryz.prog 42 2 = some (15, 40) := by kernel_rfl
theorem a247 : cellsT Tryz.prog 42 = some [2, 2, 2, 2, 2, 2, 0, 0, 0, 0, 0, 0, 2, 2, 2, 2] := by kernel_rfl
theorem a248 : zero? Tryz.prog 42 = some [.d (.int .i64 (0)), .d (.int .i64 (0)), .d (.int .i64 (0)), .d (.int .u64 (0)), .d (.int .u64 (0)), .d (.int .i64 (0)), .d (.str []), .d (.str []), .d (.str []), .d (.str []), .d (.str []), .d (.str []), .d (.int .i64 (0)), .d (.int .u64 (0)), .d (.int .i64 (0)), .d (.int .i64 (0))] := by kernel_rfl
theorem a249 : kd? Tryz.prog 43 = 2 := by kernel_rfl
theorem a250 : ty? Tryz.prog 43 = some (false, 1) := by kernel_rfl
theorem a251 : sl? Tryz.prog 43 = none := by kernel_rfl
theorem a252 : zero? Tryz.prog 43 = some [.d (.raw .nilFunc)] := by kernel_rfl
theorem a253 : kd? Tryz.prog 44 = 2 := by kernel_rfl
theorem a254 : ty? Tryz.prog 44 = some (false, 1) := by kernel_rfl
theorem a255 : sl? Tryz.prog 44 = none := by kernel_rfl
theorem a256 : zero? Tryz.prog 44 = some [.d (.raw .nilFunc)] := by kernel_rfl
theorem a257 : kd? Tryz.prog 45 = 2 := by kernel_rfl
theorem a258 : ty? Tryz.prog 45 = some (false, 1) := by kernel_rfl
theorem a259 : sl? Tryz.prog 45 = none := by kernel_rfl
theorem a260 : zero? Tryz.prog 45 = some [.d (.raw .nilFunc)] := by kernel_rfl
theorem a261 : kd? Tryz.prog 46 = 2 := by kernel_rfl
theorem a262 : ty? Tryz.prog 46 = some (false, 1) := by kernel_rfl
theorem a263 : sl? Tryz.prog 46 = none := by kernel_rfl
theorem a264 : zero? Tryz.prog 46 = some [.d (.raw .nilFunc)] := by kernel_rfl
theorem a265 : kd? Tryz.prog 47 = 2 := by kernel_rfl
theorem a266 : ty? Tryz.prog 47 = some (false, 1) := by kernel_rfl
theorem a267 : sl? Tryz.prog 47 = none := by kernel_rfl
theorem a268 : zero? Tryz.prog 47 = some [.d (.raw .nilFunc)] := by kernel_rfl
theorem a269 : kd? Tryz.prog 48 = 2 := by kernel_rfl
theorem a270 : ty? Tryz.prog 48 = some (false, 1) := by kernel_rfl
theorem a271 : sl? Tryz.prog 48 = none := by kernel_rfl
theorem a272 : zero? Tryz.prog 48 = some [.d (.raw .nilFunc)] := by kernel_rfl
theorem a273 : kd? Tryz.prog 49 = 2 := by kernel_rfl
theorem a274 : ty? Tryz.prog 49 = some (false, 1) := by kernel_rfl
theorem a275 : sl? Tryz.prog 49 = none := by kernel_rfl
theorem a276 : zero? Tryz.prog 49 = some [.undef] := by kernel_rfl
theorem a277 : kd? Tryz.prog 50 = 2 := by kernel_rfl
theorem a278 : ty? Tryz.prog 50 = some (false, 1) := by kernel_rfl
theorem a279 : sl? Tryz.prog 50 = none := by kernel_rfl
theorem a280 : zero? Tryz.prog 50 = some [.d (.raw .nilFunc)] := by kernel_rfl
theorem a281 : kd? Tryz.prog 51 = 2 := by kernel_rfl
theorem a282 : ty? Tryz.prog 51 = some (false, 1) := by kernel_rfl
theorem a283 : sl? Tryz.prog 51 = none := by kernel_rfl
theorem a284 : zero? Tryz.prog 51 = some [.d (.raw .nilFunc)] := by kernel_rfl
theorem a285 : kd? Tryz.prog 52 = 4 := by kernel_rfl
theorem a286 : ty? Tryz.prog 52 = some (true, 6) := by kernel_rfl
theorem a287 : sl? Tryz.prog 52 = none := by kernel_rfl
theorem a288 : ar? Tryz.prog 52 = some (6, 1) := by kernel_rfl
theorem a289 : zero? Tryz.prog 52 = some [.d (.int .u8 (0)), .d (.int .u8 (0)), .d (.int .u8 (0)), .d (.int .u8 (0)), .d (.int .u8 (0)), .d (.int .u8 (0))] := by kernel_rfl
theorem a290 : kd? Tryz.prog 53 = 4 := by kernel_rfl
theorem a291 : ty? Tryz.prog 53 = some (true, 6) := by kernel_rfl
theorem a292 : sl? Tryz.prog 53 = none := by kernel_rfl
theorem a293 : ar? Tryz.prog 53 = some (6, 1) := by kernel_rfl
theorem a294 : zero? Tryz.prog 53 = some [.d (.int .u8 (0)), .d (.int .u8 (0)), .d (.int .u8 (0)), .d (.int .u8 (0)), .d (.int .u8 (0)), .d (.int .u8 (0))] := by kernel_rfl
theorem a295 : kd? Tryz.prog 54 = 2 := by kernel_rfl
theorem a296 : ty? Tryz.prog 54 = some (false, 1) := by kernel_rfl
theorem a297 : sl? Tryz.prog 54 = none := by kernel_rfl
theorem a298 : zero? Tryz.prog 54 = some [.d (.raw .nilFunc)] := by kernel_rfl
theorem a299 : kd? Tryz.prog 55 = 2 := by kernel_rfl
theorem a300 : ty? Tryz.prog 55 = some (false, 1) := by kernel_rfl
theorem a301 : sl? Tryz.prog 55 = none := by kernel_rfl
theorem a302 : zero? Tryz.prog 55 = some [.d (.raw .nilFunc)] := by kernel_rfl
theorem a303 : kd? Tryz.prog 56 = 2 := by kernel_rfl
theorem a304 : ty? Tryz.prog 56 = some (false, 1) := by kernel_rfl
theorem a305 : sl? Tryz.prog 56 = none := by kernel_rfl
theorem a306 : zero? Tryz.prog 56 = some [.d (.raw .nilFunc)] := by kernel_rfl
theorem a307 : kd? Tryz.prog 57 = 2 := by kernel_rfl
theorem a308 : ty? Tryz.prog 57 = some (false, 1) := by kernel_rfl
theorem a309 : sl? Tryz.prog 57 = none := by kernel_rfl
theorem a310 : zero? Tryz.prog 57 = some [.undef] := by kernel_rfl
theorem a311 : kd? Tryz.prog 58 = 2 := by kernel_rfl
theorem a312 : ty? Tryz.prog 58 = some (false, 1) := by kernel_rfl
theorem a313 : sl? Tryz.prog 58 = none := by kernel_rfl
theorem a314 : zero? Tryz.prog 58 = some [.d (.raw .nilFunc)] := by kernel_rfl
theorem a315 : kd? Tryz.prog 59 = 2 := by kernel_rfl
theorem a316 : ty? Tryz.prog 59 = some (false, 1) := by kernel_rfl
theorem a317 : sl? Tryz.prog 59 = none := by kernel_rfl
theorem a318 : zero? Tryz.prog 59 = some [.d (.raw .nilFunc)] := by kernel_rfl
theorem a319 : kd? Tryz.prog 60 = 2 := by kernel_rfl
theorem a320 : ty? Tryz.prog 60 = some (false, 1) := by kernel_rfl
theorem a321 : sl? Tryz.prog 60 = none := by kernel_rfl
theorem a322 : zero? Tryz.prog 60 = some [.d (.raw .nilFunc)] := by kernel_rfl
theorem a323 : kd? Tryz.prog 61 = 2 := by kernel_rfl
theorem a324 : ty? Tryz.prog 61 = some (false, 1) := by kernel_rfl
theorem a325 : sl? Tryz.prog 61 = none := by kernel_rfl
theorem a326 : zero? Tryz.prog 61 = some [.d (.raw .nilFunc)] := by kernel_rfl
theorem a327 : kd? Tryz.prog 62 = 2 := by kernel_rfl
theorem a328 : ty? Tryz.prog 62 = some (false, 1) := by kernel_rfl
theorem a329 : sl? Tryz.prog 62 = none := by kernel_rfl
theorem a330 : zero? Tryz.prog 62 = some [.d (.raw .nilFunc)] := by kernel_rfl
theorem a331 : kd? Tryz.prog 63 = 2 := by kernel_rfl
theorem a332 : ty? Tryz.prog 63 = some (false, 1) := by kernel_rfl
theorem a333 : sl? Tryz.prog 63 = none := by kernel_rfl
theorem a334 : zero? Tryz.prog 63 = some [.d (.raw .nilFunc)] := by kernel_rfl
theorem a335 : kd? Tryz.prog 64 = 2 := by kernel_rfl
theorem a336 : ty? Tryz.prog 64 = some (false, 1) := by kernel_rfl
theorem a337 : sl? Tryz.prog 64 = none := by kernel_rfl
theorem a338 : zero? Tryz.prog 64 = some [.undef] := by kernel_rfl
theorem a339 : kd? Tryz.prog 65 = 2 := by kernel_rfl
theorem a340 : ty? Tryz.prog 65 = some (false, 1) := by kernel_rfl
theorem a341 : sl? Tryz.prog 65 = none := by kernel_rfl
theorem a342 : zero? Tryz.prog 65 = some [.d (.raw .nilFunc)] := by kernel_rfl
theorem a343 : kd? Tryz.prog 66 = 5 := by kernel_rfl
theorem a344 : ty? Tryz.prog 66 = some (false, 1) := by kernel_rfl
theorem a345 : sl? Tryz.prog 66 = none := by kernel_rfl
theorem a346 : zero? Tryz.prog 66 = some [.d (.raw (.pointer none))] := by kernel_rfl
theorem a347 : kd? Tryz.prog 67 = 2 := by kernel_rfl
theorem a348 : ty? Tryz.prog 67 = some (false, 1) := by kernel_rfl
theorem a349 : sl? Tryz.prog 67 = none := by kernel_rfl
theorem a350 : zero? Tryz.prog 67 = some [.d (.raw .nilFunc)] := by kernel_rfl
theorem a351 : kd? Tryz.prog 68 = 2 := by kernel_rfl
theorem a352 : ty? Tryz.prog 68 = some (false, 1) := by kernel_rfl
theorem a353 : sl? Tryz.prog 68 = none := by kernel_rfl
theorem a354 : zero? Tryz.prog 68 = some [.d (.raw .nilFunc)] := by kernel_rfl
theorem a355 : kd? Tryz.prog 69 = 2 := by kernel_rfl
theorem a356 : ty? Tryz.prog 69 = some (false, 1) := by kernel_rfl
theorem a357 : sl? Tryz.prog 69 = none := by kernel_rfl
theorem a358 : zero? Tryz.prog 69 = some [.d (.raw .nilFunc)] := by kernel_rfl
theorem a359 : kd? Tryz.prog 70 = 2 := by kernel_rfl
theorem a360 : ty? Tryz.prog 70 = some (false, 1) := by kernel_rfl
theorem a361 : sl? Tryz.prog 70 = none := by kernel_rfl
theorem a362 : zero? Tryz.prog 70 = some [.undef] := by kernel_rfl
theorem a363 : kd? Tryz.prog 71 = 4 := by kernel_rfl
theorem a364 : ty? Tryz.prog 71 = some (true, 2) := by kernel_rfl
theorem a365 : sl? Tryz.prog 71 = none := by kernel_rfl
theorem a366 : ar? Tryz.prog 71 = some (2, 1) := by kernel_rfl
theorem a367 : zero? Tryz.prog 71 = some [.d (.str []), .d (.str [])] := by kernel_rfl
theorem a368 : kd? Tryz.prog 72 = 2 := by kernel_rfl
theorem a369 : ty? Tryz.prog 72 = some (false, 1) := by kernel_rfl
theorem a370 : sl? Tryz.prog 72 = none := by kernel_rfl
theorem a371 : zero? Tryz.prog 72 = some [.undef] := by kernel_rfl
theorem a372 : kd? Tryz.prog 73 = 2 := by kernel_rfl
theorem a373 : ty? Tryz.prog 73 = some (false, 1) := by kernel_rfl
theorem a374 : sl? Tryz.prog 73 = none := by kernel_rfl
theorem a375 : zero? Tryz.prog 73 = some [.d (.raw .nilFunc)] := by kernel_rfl
theorem a376 : kd? Tryz.prog 74 = 2 := by kernel_rfl
theorem a377 : ty? Tryz.prog 74 = some (false, 1) := by kernel_rfl
theorem a378 : sl? Tryz.prog 74 = none := by kernel_rfl
theorem a379 : zero? Tryz.prog 74 = some [.d (.raw .nilFunc)] := by kernel_rfl
theorem a380 : kd? Tryz.prog 75 = 2 := by kernel_rfl
theorem a381 : ty? Tryz.prog 75 = some (false, 1) := by kernel_rfl
theorem a382 : sl? Tryz.prog 75 = none := by kernel_rfl
theorem a383 : zero? Tryz.prog 75 = some [.d (.raw .nilFunc)] := by kernel_rfl
theorem a384 : kd? Tryz.prog 76 = 2 := by kernel_rfl
theorem a385 : ty? Tryz.prog 76 = some (false, 1) := by kernel_rfl
theorem a386 : sl? Tryz.prog 76 = none := by kernel_rfl
theorem a387 : zero? Tryz.prog 76 = some [.d (.raw .nilFunc)] := by kernel_rfl
theorem a388 : kd? Tryz.prog 77 = 2 := by kernel_rfl
theorem a389 : ty? Tryz.prog 77 = some (false, 1) := by kernel_rfl
theorem a390 : sl? Tryz.prog 77 = none := by kernel_rfl
theorem a391 : zero? Tryz.prog 77 = some [.d (.raw .nilFunc)] := by kernel_rfl
theorem a392 : kd? Tryz.prog 78 = 6 := by kernel_rfl
theorem a393 : ty? Tryz.prog 78 = some (false, 1) := by kernel_rfl
theorem a394 : sl? Tryz.prog 78 = some (9, 1, 16) := by kernel_rfl
theorem a395 : zero? Tryz.prog 78 = some [.nilS] := by kernel_rfl
theorem a396 : kd? Tryz.prog 79 = 2 := by kernel_rfl
theorem a397 : ty? Tryz.prog 79 = some (false, 1) := by kernel_rfl
theorem a398 : sl? Tryz.prog 79 = none := by kernel_rfl
theorem a399 : zero? Tryz.prog 79 = some [.undef] := by kernel_rfl
theorem a400 : kd? Tryz.prog 80 = 2 := by kernel_rfl
theorem a401 : ty? Tryz.prog 80 = some (false, 1) := by kernel_rfl
theorem a402 : sl? Tryz.prog 80 = none := by kernel_rfl
theorem a403 : zero? Tryz.prog 80 = some [.d (.raw .nilFunc)] := by kernel_rfl
theorem a404 : kd? Tryz.prog 81 = 2 := by kernel_rfl
theorem a405 : ty? Tryz.prog 81 = some (false, 1) := by kernel_rfl
theorem a406 : sl? Tryz.prog 81 = none := by kernel_rfl
theorem a407 : zero? Tryz.prog 81 = some [.d (.raw .nilFunc)] := by kernel_rfl
theorem a408 : kd? Tryz.prog 82 = 2 := by kernel_rfl
theorem a409 : ty? Tryz.prog 82 = some (false, 1) := by kernel_rfl
theorem a410 : sl? Tryz.prog 82 = none := by kernel_rfl
theorem a411 : zero? Tryz.prog 82 = some [.d (.raw .nilFunc)] := by kernel_rfl
theorem a412 : kd? Tryz.prog 83 = 5 := by kernel_rfl
theorem a413 : ty? Tryz.prog 83 = some (false, 1) := by kernel_rfl
theorem a414 : sl? Tryz.prog 83 = none := by kernel_rfl
theorem a415 : zero? Tryz.prog 83 = some [.d (.raw (.pointer none))] := by kernel_rfl
theorem a416 : kd? Tryz.prog 84 = 7 := by kernel_rfl
theorem a417 : ty? Tryz.prog 84 = some (true, 1) := by kernel_rfl
theorem a418 : sl? Tryz.prog 84 = none := by kernel_rfl
theorem a419 : ar? Tryz.prog 84 = none := by kernel_rfl
theorem a420 : fo? Tryz.prog 84 0 = some (0, 23) := by kernel_rfl
theorem a421 : zero? Tryz.prog 84 = some [.nilS] := by kernel_rfl
theorem a422 : kd? Tryz.prog 85 = 7 := by kernel_rfl
theorem a423 : ty? Tryz.prog 85 = some (true, 1) := by kernel_rfl
theorem a424 : sl? Tryz.prog 85 = none := by kernel_rfl
theorem a425 : ar? Tryz.prog 85 = none := by kernel_rfl
theorem a426 : fo? Tryz.prog 85 0 = some (0, 23) := by kernel_rfl
theorem a427 : zero? Tryz.prog 85 = some [.nilS] := by kernel_rfl
theorem a428 : kd? Tryz.prog 86 = 3 := by kernel_rfl
theorem a429 : ty? Tryz.prog 86 = some (false, 1) := by kernel_rfl
theorem a430 : sl? Tryz.prog 86 = none := by kernel_rfl
theorem a431 : zero? Tryz.prog 86 = some [.d (.nilI)] := by kernel_rfl
theorem a432 : kd? Tryz.prog 87 = 3 := by kernel_rfl
theorem a433 : ty? Tryz.prog 87 = some (false, 1) := by kernel_rfl
theorem a434 : sl? Tryz.prog 87 = none := by kernel_rfl
theorem a435 : zero? Tryz.prog 87 = some [.d (.nilI)] := by kernel_rfl
theorem a436 : kd? Tryz.prog 88 = 2 := by kernel_rfl
theorem a437 : ty? Tryz.prog 88 = some (false, 1) := by kernel_rfl
theorem a438 : sl? Tryz.prog 88 = none := by kernel_rfl
theorem a439 : zero? Tryz.prog 88 = some [.d (.raw .nilFunc)] := by kernel_rfl
theorem a440 : kd? Tryz.prog 89 = 2 := by kernel_rfl
theorem a441 : ty? Tryz.prog 89 = some (false, 1) := by kernel_rfl
theorem a442 : sl? Tryz.prog 89 = none := by kernel_rfl
theorem a443 : zero? Tryz.prog 89 = some [.d (.raw .nilFunc)] := by kernel_rfl
theorem a444 : kd? Tryz.prog 90 = 2 := by kernel_rfl
theorem a445 : ty? Tryz.prog 90 = some (false, 1) := by kernel_rfl
theorem a446 : sl? Tryz.prog 90 = none := by kernel_rfl
theorem a447 : zero? Tryz.prog 90 = some [.d (.raw .nilFunc)] := by kernel_rfl
theorem a448 : kd? Tryz.prog 91 = 2 := by kernel_rfl
theorem a449 : ty? Tryz.prog 91 = some (false, 1) := by kernel_rfl
theorem a450 : sl? Tryz.prog 91 = none := by kernel_rfl
theorem a451 : zero? Tryz.prog 91 = some [.d (.raw .nilFunc)] := by kernel_rfl
theorem a452 : kd? Tryz.prog 92 = 2 := by kernel_rfl
theorem a453 : ty? Tryz.prog 92 = some (false, 1) := by kernel_rfl
theorem a454 : sl? Tryz.prog 92 = none := by kernel_rfl
theorem a455 : zero? Tryz.prog 92 = some [.d (.raw .nilFunc)] := by kernel_rfl
theorem a456 : kd? Tryz.prog 93 = 5 := by kernel_rfl
theorem a457 : ty? Tryz.prog 93 = some (false, 1) := by kernel_rfl
theorem a458 : sl? Tryz.prog 93 = none := by kernel_rfl
theorem a459 : zero? Tryz.prog 93 = some [.d (.raw (.pointer none))] := by kernel_rfl
theorem a460 : kd? Tryz.prog 94 = 7 := by kernel_rfl
theorem a461 : ty? Tryz.prog 94 = some (true, 2) := by kernel_rfl
theorem a462 : sl? Tryz.prog 94 = none := by kernel_rfl
theorem a463 : ar? Tryz.prog 94 = none := by kernel_rfl
theorem a464 : fo? Tryz.prog 94 0 = some (0, 23) := by kernel_rfl
theorem a465 : fo? Tryz.prog 94 1 = some (1, 4) := by kernel_rfl
theorem a466 : zero? Tryz.prog 94 = some [.nilS, .d (.bool false)] := by kernel_rfl
theorem a467 : kd? Tryz.prog 95 = 7 := by kernel_rfl
theorem a468 : ty? Tryz.prog 95 = some (true, 2) := by kernel_rfl
theorem a469 : sl? Tryz.prog 95 = none := by kernel_rfl
theorem a470 : ar? Tryz.prog 95 = none := by kernel_rfl
theorem a471 : fo? Tryz.prog 95 0 = some (0, 23) := by kernel_rfl
theorem a472 : fo? Tryz.prog 95 1 = some (1, 4) := by kernel_rfl
theorem a473 : zero? Tryz.prog 95 = some [.nilS, .d (.bool false)] := by kernel_rfl
theorem a474 : kd? Tryz.prog 96 = 2 := by kernel_rfl
theorem a475 : ty? Tryz.prog 96 = some (false, 1) := by kernel_rfl
theorem a476 : sl? Tryz.prog 96 = none := by kernel_rfl
theorem a477 : zero? Tryz.prog 96 = some [.d (.raw .nilFunc)] := by kernel_rfl
theorem a478 : kd? Tryz.prog 97 = 2 := by kernel_rfl
theorem a479 : ty? Tryz.prog 97 = some (false, 1) := by kernel_rfl
theorem a480 : sl? Tryz.prog 97 = none := by kernel_rfl
theorem a481 : zero? Tryz.prog 97 = some [.d (.raw .nilFunc)] := by kernel_rfl
theorem a482 : kd? Tryz.prog 98 = 7 := by kernel_rfl
theorem a483 : ty? Tryz.prog 98 = some (true, 8) := by kernel_rfl
theorem a484 : sl? Tryz.prog 98 = none := by kernel_rfl
theorem a485 : ar? Tryz.prog 98 = none := by kernel_rfl
theorem a486 : fo? Tryz.prog 98 0 = some (0, 3) := by kernel_rfl
theorem a487 : fo? Tryz.prog 98 1 = some (1, 9) := by kernel_rfl
theorem a488 : fo? Tryz.prog 98 2 = some (2, 9) := by kernel_rfl
theorem a489 : fo? Tryz.prog 98 3 = some (3, 35) := by kernel_rfl
theorem a490 : fo? Tryz.prog 98 4 = some (5, 9) := by kernel_rfl
theorem a491 : fo? Tryz.prog 98 5 = some (6, 9) := by kernel_rfl
theorem a492 : fo? Tryz.prog 98 6 = some (7, 3) := by kernel_rfl
theorem a493 : cellsT Tryz.prog 98 = some [2, 0, 0, 0, 0, 0, 0, 2] := by kernel_rfl
theorem a494 : zero? Tryz.prog 98 = some [.d (.int .i64 (0)), .d (.str []), .d (.str []), .d (.str []), .d (.str []), .d (.str []), .d (.str []), .d (.int .i64 (0))] := by kernel_rfl
theorem a495 : kd? Tryz.prog 99 = 7 := by kernel_rfl
theorem a496 : ty? Tryz.prog 99 = some (true, 8) := by kernel_rfl
theorem a497 : sl? Tryz.prog 99 = none := by kernel_rfl
theorem a498 : ar? Tryz.prog 99 = none := by kernel_rfl
theorem a499 : fo? Tryz.prog 99 0 = some (0, 3) := by kernel_rfl
theorem a500 : fo? Tryz.prog 99 1 = some (1, 9) := by kernel_rfl
theorem a501 : fo? Tryz.prog 99 2 = some (2, 9) := by kernel_rfl
theorem a502 : fo? Tryz.prog 99 3 = some (3, 35) := by kernel_rfl
theorem a503 : fo? Tryz.prog 99 4 = some (5, 9) := by kernel_rfl
theorem a504 : fo? Tryz.prog 99 5 = some (6, 9) := by kernel_rfl
theorem a505 : fo? Tryz.prog 99 6 = some (7, 3) := by kernel_rfl
theorem a506 : cellsT Tryz.prog 99 = some [2, 0, 0, 0, 0, 0, 0, 2] := by kernel_rfl
theorem a507 : zero? Tryz.prog 99 = some [.d (.int .i64 (0)), .d (.str []), .d (.str []), .d (.str []), .d (.str []), .d (.str []), .d (.str []), .d (.int .i64 (0))] := by kernel_rfl
theorem a508 : kd? Tryz.prog 100 = 7 := by kernel_rfl
theorem a509 : ty? Tryz.prog 100 = some (true, 8) := by kernel_rfl
theorem a510 : sl? Tryz.prog 100 = none := by kernel_rfl
theorem a511 : ar? Tryz.prog 100 = none := by kernel_rfl
theorem a512 : fo? Tryz.prog 100 0 = some (0, 3) := by kernel_rfl
theorem a513 : fo? Tryz.prog 100 1 = some (1, 9) := by kernel_rfl
theorem a514 : fo? Tryz.prog 100 2 = some (2, 9) := by kernel_rfl
theorem a515 : fo? Tryz.prog 100 3 = some (3, 35) := by kernel_rfl
theorem a516 : fo? Tryz.prog 100 4 = some (5, 9) := by kernel_rfl
theorem a517 : fo? Tryz.prog 100 5 = some (6, 9) := by kernel_rfl
theorem a518 : fo? Tryz.prog 100 6 = some (7, 3) := by kernel_rfl
theorem a519 : cellsT Tryz.prog 100 = some [2, 0, 0, 0, 0, 0, 0, 2] := by kernel_rfl
theorem a520 : zero? Tryz.prog 100 = some [.d (.int .i64 (0)), .d (.str []), .d (.str []), .d (.str []), .d (.str []), .d (.str []), .d (.str []), .d (.int .i64 (0))] := by kernel_rfl
theorem a521 : kd? Tryz.prog 101 = 7 := by kernel_rfl
theorem a522 : ty? Tryz.prog 101 = some (true, 8) := by kernel_rfl
theorem a523 : sl? Tryz.prog 101 = none := by kernel_rfl
theorem a524 : ar? Tryz.prog 101 = none := by kernel_rfl
theorem a525 : fo? Tryz.prog 101 0 = some (0, 3) := by kernel_rfl
theorem a526 : fo? Tryz.prog 101 1 = some (1, 9) := by kernel_rfl
theorem a527 : fo? Tryz.prog 101 2 = some (2, 9) := by kernel_rfl
theorem a528 : fo? Tryz.prog 101 3 = some (3, 35) := by kernel_rfl
theorem a529 : fo? Tryz.prog 101 4 = some (5, 9) := by kernel_rfl
theorem a530 : fo? Tryz.prog 101 5 = some (6, 9) := by kernel_rfl
theorem a531 : fo? Tryz.prog 101 6 = some (7, 3) := by kernel_rfl
theorem a532 : cellsT Tryz.prog 101 = some [2, 0, 0, 0, 0, 0, 0, 2] := by kernel_rfl
theorem a533 : zero? Tryz.prog 101 = some [.d (.int .i64 (0)), .d (.str []), .d (.str []), .d (.str []), .d (.str []), .d (.str []), .d (.str []), .d (.int .i64 (0))] := by kernel_rfl
theorem a534 : kd? Tryz.prog 102 = 7 := by kernel_rfl
theorem a535 : ty? Tryz.prog 102 = some (true, 8) := by kernel_rfl
theorem a536 : sl? Tryz.prog 102 = none := by kernel_rfl
theorem a537 : ar? Tryz.prog 102 = none := by kernel_rfl
theorem a538 : fo? Tryz.prog 102 0 = some (0, 3) := by kernel_rfl
theorem a539 : fo? Tryz.prog 102 1 = some (1, 9) := by kernel_rfl
theorem a540 : fo? Tryz.prog 102 2 = some (2, 9) := by kernel_rfl
theorem a541 : fo? Tryz.prog 102 3 = some (3, 35) := by kernel_rfl
theorem a542 : fo? Tryz.prog 102 4 = some (5, 9) := by kernel_rfl
theorem a543 : fo? Tryz.prog 102 5 = some (6, 9) := by kernel_rfl
theorem a544 : fo? Tryz.prog 102 6 = some (7, 3) := by kernel_rfl
theorem a545 : cellsT Tryz.prog 102 = some [2, 0, 0, 0, 0, 0, 0, 2] := by kernel_rfl
theorem a546 : zero? Tryz.prog 102 = some [.d (.int .i64 (0)), .d (.str []), .d (.str []), .d (.str []), .d (.str []), .d (.str []), .d (.str []), .d (.int .i64 (0))] := by kernel_rfl
theorem a547 : kd? Tryz.prog 103 = 7 := by kernel_rfl
theorem a548 : ty? Tryz.prog 103 = some (true, 8) := by kernel_rfl
theorem a549 : sl? Tryz.prog 103 = none := by kernel_rfl
theorem a550 : ar? Tryz.prog 103 = none := by kernel_rfl
theorem a551 : fo? Tryz.prog 103 0 = some (0, 3) := by kernel_rfl
theorem a552 : fo? Tryz.prog 103 1 = some (1, 9) := by kernel_rfl
theorem a553 : fo? Tryz.prog 103 2 = some (2, 9) := by kernel_rfl
theorem a554 : fo? Tryz.prog 103 3 = some (3, 35) := by kernel_rfl
theorem a555 : fo? Tryz.prog 103 4 = some (5, 9) := by kernel_rfl
theorem a556 : fo? Tryz.prog 103 5 = some (6, 9) := by kernel_rfl
theorem a557 : fo? Tryz.prog 103 6 = some (7, 3) := by kernel_rfl
theorem a558 : cellsT Tryz.prog 103 = some [2, 0, 0, 0, 0, 0, 0, 2] := by kernel_rfl
theorem a559 : zero? Tryz.prog 103 = some [.d (.int .i64 (0)), .d (.str []), .d (.str []), .d (.str []), .d (.str []), .d (.str []), .d (.str []), .d (.int .i64 (0))] := by kernel_rfl
theorem a560 : kd? Tryz.prog 104 = 2 := by kernel_rfl
theorem a561 : ty? Tryz.prog 104 = some (false, 1) := by kernel_rfl
theorem a562 : sl? Tryz.prog 104 = none := by kernel_rfl
theorem a563 : zero? Tryz.prog 104 = some [.d (.raw .nilFunc)] := by kernel_rfl
theorem a564 : kd? Tryz.prog 105 = 7 := by kernel_rfl
theorem a565 : ty? Tryz.prog 105 = some (true, 4) := by kernel_rfl
theorem a566 : sl? Tryz.prog 105 = none := by kernel_rfl
theorem a567 : ar? Tryz.prog 105 = none := by kernel_rfl
theorem a568 : fo? Tryz.prog 105 0 = some (0, 17) := by kernel_rfl
theorem a569 : fo? Tryz.prog 105 1 = some (1, 17) := by kernel_rfl
theorem a570 : fo? Tryz.prog 105 2 = some (2, 17) := by kernel_rfl
theorem a571 : fo? Tryz.prog 105 3 = some (3, 9) := by kernel_rfl
theorem a572 : zero? Tryz.prog 105 = some [.d (.raw (.pointer none)), .d (.raw (.pointer none)), .d (.raw (.pointer none)), .d (.str [])] := by kernel_rfl
theorem a573 : kd? Tryz.prog 106 = 7 := by kernel_rfl
theorem a574 : ty? Tryz.prog 106 = some (true, 4) := by kernel_rfl
theorem a575 : sl? Tryz.prog 106 = none := by kernel_rfl
theorem a576 : ar? Tryz.prog 106 = none := by kernel_rfl
theorem a577 : fo? Tryz.prog 106 0 = some (0, 17) := by kernel_rfl
theorem a578 : fo? Tryz.prog 106 1 = some (1, 17) := by kernel_rfl
theorem a579 : fo? Tryz.prog 106 2 = some (2, 17) := by kernel_rfl
theorem a580 : fo? Tryz.prog 106 3 = some (3, 9) := by kernel_rfl
theorem a581 : zero? Tryz.prog 106 = some [.d (.raw (.pointer none)), .d (.raw (.pointer none)), .d (.raw (.pointer none)), .d (.str [])] := by kernel_rfl
theorem a582 : kd? Tryz.prog 107 = 4 := by kernel_rfl
theorem a583 : ty? Tryz.prog 107 = some (true, 0) := by kernel_rfl
theorem a584 : sl? Tryz.prog 107 = none := by kernel_rfl
theorem a585 : ar? Tryz.prog 107 = some (0, 1) := by kernel_rfl
theorem a586 : zero? Tryz.prog 107 = some [] := by kernel_rfl
theorem a587 : kd? Tryz.prog 108 = 7 := by kernel_rfl
theorem a588 : ty? Tryz.prog 108 = some (true, 0) := by kernel_rfl
theorem a589 : sl? Tryz.prog 108 = none := by kernel_rfl
theorem a590 : ar? Tryz.prog 108 = none := by kernel_rfl
theorem a591 : zero? Tryz.prog 108 = some [] := by kernel_rfl
theorem a592 : kd? Tryz.prog 109 = 7 := by kernel_rfl
theorem a593 : ty? Tryz.prog 109 = some (true, 0) := by kernel_rfl
theorem a594 : sl? Tryz.prog 109 = none := by kernel_rfl
theorem a595 : ar? Tryz.prog 109 = none := by kernel_rfl
theorem a596 : zero? Tryz.prog 109 = some [] := by kernel_rfl
theorem a597 : kd? Tryz.prog 110 = 2 := by kernel_rfl
theorem a598 : ty? Tryz.prog 110 = some (false, 1) := by kernel_rfl
theorem a599 : sl? Tryz.prog 110 = none := by kernel_rfl
theorem a600 : zero? Tryz.prog 110 = some [.d (.raw .nilFunc)] := by kernel_rfl
theorem a601 : kd? Tryz.prog 111 = 14 := by kernel_rfl
theorem a602 : ty? Tryz.prog 111 = some (false, 1) := by kernel_rfl
theorem a603 : sl? Tryz.prog 111 = none := by kernel_rfl
theorem a604 : zero? Tryz.prog 111 = some [.d (.int .u8 (0))] := by kernel_rfl
theorem a605 : kd? Tryz.prog 112 = 14 := by kernel_rfl
theorem a606 : ty? Tryz.prog 112 = some (false, 1) := by kernel_rfl
theorem a607 : sl? Tryz.prog 112 = none := by kernel_rfl
theorem a608 : zero? Tryz.prog 112 = some [.d (.int .u8 (0))] := by kernel_rfl
theorem a609 : kd? Tryz.prog 113 = 2 := by kernel_rfl
theorem a610 : ty? Tryz.prog 113 = some (false, 1) := by kernel_rfl
theorem a611 : sl? Tryz.prog 113 = none := by kernel_rfl
theorem a612 : zero? Tryz.prog 113 = some [.d (.raw .nilFunc)] := by kernel_rfl
theorem a613 : kd? Tryz.prog 114 = 5 := by kernel_rfl
theorem a614 : ty? Tryz.prog 114 = some (false, 1) := by kernel_rfl
theorem a615 : sl? Tryz.prog 114 = none := by kernel_rfl
theorem a616 : zero? Tryz.prog 114 = some [.d (.raw (.pointer none))] := by kernel_rfl
theorem a617 : kd? Tryz.prog 115 = 12 := by kernel_rfl
theorem a618 : ty? Tryz.prog 115 = some (false, 1) := by kernel_rfl
theorem a619 : sl? Tryz.prog 115 = none := by kernel_rfl
theorem a620 : zero? Tryz.prog 115 = some [.d (.int .i32 (0))] := by kernel_rfl
theorem a621 : kd? Tryz.prog 116 = 12 := by kernel_rfl
theorem a622 : ty? Tryz.prog 116 = some (false, 1) := by kernel_rfl
theorem a623 : sl? Tryz.prog 116 = none := by kernel_rfl
theorem a624 : zero? Tryz.prog 116 = some [.d (.int .i32 (0))] := by kernel_rfl
theorem a625 : kd? Tryz.prog 117 = 7 := by kernel_rfl
theorem a626 : ty? Tryz.prog 117 = some (true, 11) := by kernel_rfl
theorem a627 : sl? Tryz.prog 117 = none := by kernel_rfl
theorem a628 : ar? Tryz.prog 117 = none := by kernel_rfl
theorem a629 : fo? Tryz.prog 117 0 = some (0, 12) := by kernel_rfl
theorem a630 : fo? Tryz.prog 117 1 = some (1, 12) := by kernel_rfl
theorem a631 : fo? Tryz.prog 117 2 = some (2, 24) := by kernel_rfl
theorem a632 : fo? Tryz.prog 117 3 = some (3, 111) := by kernel_rfl
theorem a633 : fo? Tryz.prog 117 4 = some (4, 5) := by kernel_rfl
theorem a634 : fo? Tryz.prog 117 5 = some (5, 5) := by kernel_rfl
theorem a635 : fo? Tryz.prog 117 6 = some (6, 112) := by kernel_rfl
theorem a636 : fo? Tryz.prog 117 7 = some (7, 113) := by kernel_rfl
theorem a637 : fo? Tryz.prog 117 8 = some (8, 114) := by kernel_rfl
theorem a638 : fo? Tryz.prog 117 9 = some (9, 115) := by kernel_rfl
theorem a639 : fo? Tryz.prog 117 10 = some (10, 116) := by kernel_rfl
theorem a640 : zero? Tryz.prog 117 = some [.d (.int .u64 (0)), .d (.int .u64 (0)), .d (.int .u32 (0)), .d (.int .u8 (0)), .d (.int .u8 (0)), .d (.int .u8 (0)), .d (.int .u8 (0)), .d (.raw .nilFunc), .d (.raw (.pointer none)), .d (.int .i32 (0)), .d (.int .i32 (0))] := by kernel_rfl
theorem a641 : kd? Tryz.prog 118 = 7 := by kernel_rfl
theorem a642 : ty? Tryz.prog 118 = some (true, 11) := by kernel_rfl
theorem a643 : sl? Tryz.prog 118 = none := by kernel_rfl
theorem a644 : ar? Tryz.prog 118 = none := by kernel_rfl
theorem a645 : fo? Tryz.prog 118 0 = some (0, 12) := by kernel_rfl
theorem a646 : fo? Tryz.prog 118 1 = some (1, 12) := by kernel_rfl
theorem a647 : fo? Tryz.prog 118 2 = some (2, 24) := by kernel_rfl
theorem a648 : fo? Tryz.prog 118 3 = some (3, 111) := by kernel_rfl
theorem a649 : fo? Tryz.prog 118 4 = some (4, 5) := by kernel_rfl
theorem a650 : fo? Tryz.prog 118 5 = some (5, 5) := by kernel_rfl
theorem a651 : fo? Tryz.prog 118 6 = some (6, 112) := by kernel_rfl
theorem a652 : fo? Tryz.prog 118 7 = some (7, 113) := by kernel_rfl
theorem a653 : fo? Tryz.prog 118 8 = some (8, 114) := by kernel_rfl
theorem a654 : fo? Tryz.prog 118 9 = some (9, 115) := by kernel_rfl
theorem a655 : fo? Tryz.prog 118 10 = some (10, 116) := by kernel_rfl
theorem a656 : zero? Tryz.prog 118 = some [.d (.int .u64 (0)), .d (.int .u64 (0)), .d (.int .u32 (0)), .d (.int .u8 (0)), .d (.int .u8 (0)), .d (.int .u8 (0)), .d (.int .u8 (0)), .d (.raw .nilFunc), .d (.raw (.pointer none)), .d (.int .i32 (0)), .d (.int .i32 (0))] := by kernel_rfl
theorem a657 : kd? Tryz.prog 119 = 2 := by kernel_rfl
theorem a658 : ty? Tryz.prog 119 = some (false, 1) := by kernel_rfl
theorem a659 : sl? Tryz.prog 119 = none := by kernel_rfl
theorem a660 : zero? Tryz.prog 119 = some [.d (.raw .nilFunc)] := by kernel_rfl
theorem a661 : kd? Tryz.prog 120 = 2 := by kernel_rfl
theorem a662 : ty? Tryz.prog 120 = some (false, 1) := by kernel_rfl
theorem a663 : sl? Tryz.prog 120 = none := by kernel_rfl
theorem a664 : zero? Tryz.prog 120 = some [.d (.raw .nilFunc)] := by kernel_rfl
theorem a665 : kd? Tryz.prog 121 = 2 := by kernel_rfl
theorem a666 : ty? Tryz.prog 121 = some (false, 1) := by kernel_rfl
theorem a667 : sl? Tryz.prog 121 = none := by kernel_rfl
theorem a668 : zero? Tryz.prog 121 = some [.d (.raw .nilFunc)] := by kernel_rfl
theorem a669 : kd? Tryz.prog 122 = 2 := by kernel_rfl
theorem a670 : ty? Tryz.prog 122 = some (false, 1) := by kernel_rfl
theorem a671 : sl? Tryz.prog 122 = none := by kernel_rfl
theorem a672 : zero? Tryz.prog 122 = some [.d (.raw .nilFunc)] := by kernel_rfl
theorem a673 : kd? Tryz.prog 123 = 2 := by kernel_rfl
theorem a674 : ty? Tryz.prog 123 = some (false, 1) := by kernel_rfl
theorem a675 : sl? Tryz.prog 123 = none := by kernel_rfl
theorem a676 : zero? Tryz.prog 123 = some [.d (.raw (.pointer none))] := by kernel_rfl
theorem a677 : kd? Tryz.prog 124 = 6 := by kernel_rfl
theorem a678 : ty? Tryz.prog 124 = some (false, 1) := by kernel_rfl
theorem a679 : sl? Tryz.prog 124 = some (127, 3, 40) := by kernel_rfl
theorem a680 : zero? Tryz.prog 124 = some [.nilS] := by kernel_rfl
theorem a681 : kd? Tryz.prog 125 = 6 := by kernel_rfl
theorem a682 : ty? Tryz.prog 125 = some (false, 1) := by kernel_rfl
theorem a683 : sl? Tryz.prog 125 = some (35, 2, 32) := by kernel_rfl
theorem a684 : zero? Tryz.prog 125 = some [.nilS] := by kernel_rfl
theorem a685 : kd? Tryz.prog 126 = 7 := by kernel_rfl
theorem a686 : ty? Tryz.prog 126 = some (true, 3) := by kernel_rfl
theorem a687 : sl? Tryz.prog 126 = none := by kernel_rfl
theorem a688 : ar? Tryz.prog 126 = none := by kernel_rfl
theorem a689 : fo? Tryz.prog 126 0 = some (0, 9) := by kernel_rfl
theorem a690 : fo? Tryz.prog 126 1 = some (1, 9) := by kernel_rfl
theorem a691 : fo? Tryz.prog 126 2 = some (2, 3) := by kernel_rfl
theorem a692 : cellsT Tryz.prog 126 = some [0, 0, 2] := by kernel_rfl
theorem a693 : zero? Tryz.prog 126 = some [.d (.str []), .d (.str []), .d (.int .i64 (0))] := by kernel_rfl
theorem a694 : kd? Tryz.prog 127 = 7 := by kernel_rfl
theorem a695 : ty? Tryz.prog 127 = some (true, 3) := by kernel_rfl
theorem a696 : sl? Tryz.prog 127 = none := by kernel_rfl
theorem a697 : ar? Tryz.prog 127 = none := by kernel_rfl
theorem a698 : fo? Tryz.prog 127 0 = some (0, 9) := by kernel_rfl
theorem a699 : fo? Tryz.prog 127 1 = some (1, 9) := by kernel_rfl
theorem a700 : fo? Tryz.prog 127 2 = some (2, 3) := by kernel_rfl
theorem a701 : cellsT Tryz.prog 127 = some [0, 0, 2] := by kernel_rfl
theorem a702 : zero? Tryz.prog 127 = some [.d (.str []), .d (.str []), .d (.int .i64 (0))] := by kernel_rfl
theorem a703 : meth? Tryz.prog 8 "Error" = some 63 := by kernel_rfl
theorem a704 : meth? Tryz.prog 8 "RuntimeError" = some 64 := by kernel_rfl
theorem a705 : meth? Tryz.prog 10 "Error" = some 65 := by kernel_rfl
theorem a706 : meth? Tryz.prog 10 "RuntimeError" = some 66 := by kernel_rfl
theorem a707 : meth? Tryz.prog 11 "Error" = some 67 := by kernel_rfl
theorem a708 : meth? Tryz.prog 11 "RuntimeError" = some 68 := by kernel_rfl
theorem a709 : meth? Tryz.prog 14 "Error" = some 69 := by kernel_rfl
theorem a710 : meth? Tryz.prog 14 "RuntimeError" = some 70 := by kernel_rfl
theorem a711 : meth? Tryz.prog 15 "Error" = some 71 := by kernel_rfl
theorem a712 : meth? Tryz.prog 15 "RuntimeError" = some 72 := by kernel_rfl
theorem a713 : meth? Tryz.prog 16 "Error" = some 73 := by kernel_rfl
theorem a714 : meth? Tryz.prog 16 "RuntimeError" = some 74 := by kernel_rfl
theorem a715 : meth? Tryz.prog 17 "Align" = some 75 := by kernel_rfl
theorem a716 : meth? Tryz.prog 19 "Error" = some 76 := by kernel_rfl
theorem a717 : meth? Tryz.prog 19 "RuntimeError" = some 77 := by kernel_rfl
theorem a718 : meth? Tryz.prog 40 "Error" = some 78 := by kernel_rfl
theorem a719 : meth? Tryz.prog 83 "downspout/msg.number" = some 87 := by kernel_rfl
theorem a720 : meth? Tryz.prog 83 "downspout/msg.text" = some 79 := by kernel_rfl
theorem a721 : meth? Tryz.prog 93 "downspout/msg.number" = some 59 := by kernel_rfl
theorem a722 : meth? Tryz.prog 93 "downspout/msg.take" = some 62 := by kernel_rfl
theorem a723 : meth? Tryz.prog 93 "downspout/msg.text" = some 60 := by kernel_rfl
theorem a724 : meth? Tryz.prog 98 "downspout/msg.apply" = some 80 := by kernel_rfl
theorem a725 : meth? Tryz.prog 98 "downspout/msg.bare" = some 81 := by kernel_rfl
theorem a726 : meth? Tryz.prog 98 "downspout/msg.reads" = some 82 := by kernel_rfl
theorem a727 : meth? Tryz.prog 98 "downspout/msg.valid" = some 83 := by kernel_rfl
theorem a728 : meth? Tryz.prog 98 "downspout/msg.write" = some 84 := by kernel_rfl
theorem a729 : meth? Tryz.prog 98 "downspout/msg.writes" = some 85 := by kernel_rfl
theorem a730 : meth? Tryz.prog 99 "downspout/msg.apply" = some 88 := by kernel_rfl
theorem a731 : meth? Tryz.prog 99 "downspout/msg.bare" = some 89 := by kernel_rfl
theorem a732 : meth? Tryz.prog 99 "downspout/msg.reads" = some 90 := by kernel_rfl
theorem a733 : meth? Tryz.prog 99 "downspout/msg.valid" = some 91 := by kernel_rfl
theorem a734 : meth? Tryz.prog 99 "downspout/msg.write" = some 92 := by kernel_rfl
theorem a735 : meth? Tryz.prog 99 "downspout/msg.writes" = some 93 := by kernel_rfl
theorem a736 : meth? Tryz.prog 100 "downspout/msg.apply" = some 94 := by kernel_rfl
theorem a737 : meth? Tryz.prog 100 "downspout/msg.bare" = some 95 := by kernel_rfl
theorem a738 : meth? Tryz.prog 100 "downspout/msg.reads" = some 96 := by kernel_rfl
theorem a739 : meth? Tryz.prog 100 "downspout/msg.valid" = some 97 := by kernel_rfl
theorem a740 : meth? Tryz.prog 100 "downspout/msg.write" = some 98 := by kernel_rfl
theorem a741 : meth? Tryz.prog 100 "downspout/msg.writes" = some 99 := by kernel_rfl
theorem a742 : meth? Tryz.prog 101 "downspout/msg.apply" = some 102 := by kernel_rfl
theorem a743 : meth? Tryz.prog 101 "downspout/msg.bare" = some 103 := by kernel_rfl
theorem a744 : meth? Tryz.prog 101 "downspout/msg.reads" = some 104 := by kernel_rfl
theorem a745 : meth? Tryz.prog 101 "downspout/msg.valid" = some 105 := by kernel_rfl
theorem a746 : meth? Tryz.prog 101 "downspout/msg.write" = some 106 := by kernel_rfl
theorem a747 : meth? Tryz.prog 101 "downspout/msg.writes" = some 107 := by kernel_rfl
theorem a748 : meth? Tryz.prog 102 "downspout/msg.apply" = some 111 := by kernel_rfl
theorem a749 : meth? Tryz.prog 102 "downspout/msg.bare" = some 112 := by kernel_rfl
theorem a750 : meth? Tryz.prog 102 "downspout/msg.reads" = some 113 := by kernel_rfl
theorem a751 : meth? Tryz.prog 102 "downspout/msg.valid" = some 114 := by kernel_rfl
theorem a752 : meth? Tryz.prog 102 "downspout/msg.write" = some 115 := by kernel_rfl
theorem a753 : meth? Tryz.prog 102 "downspout/msg.writes" = some 116 := by kernel_rfl
theorem a754 : meth? Tryz.prog 103 "downspout/msg.apply" = some 117 := by kernel_rfl
theorem a755 : meth? Tryz.prog 103 "downspout/msg.bare" = some 118 := by kernel_rfl
theorem a756 : meth? Tryz.prog 103 "downspout/msg.reads" = some 119 := by kernel_rfl
theorem a757 : meth? Tryz.prog 103 "downspout/msg.valid" = some 120 := by kernel_rfl
theorem a758 : meth? Tryz.prog 103 "downspout/msg.write" = some 121 := by kernel_rfl
theorem a759 : meth? Tryz.prog 103 "downspout/msg.writes" = some 122 := by kernel_rfl
theorem a760 : meth? Tryz.prog 112 "String" = some 123 := by kernel_rfl
def fB1 := And.intro a0 (And.intro a1 (And.intro a2 (And.intro a3 (And.intro a4 (And.intro a5 (And.intro a6 (And.intro a7 (And.intro a8 (And.intro a9 (And.intro a10 (And.intro a11 (And.intro a12 (And.intro a13 (And.intro a14 (And.intro a15 (And.intro a16 (And.intro a17 (And.intro a18 (And.intro a19 (And.intro a20 (And.intro a21 (And.intro a22 (And.intro a23 (And.intro a24 (And.intro a25 (And.intro a26 (And.intro a27 (And.intro a28 (And.intro a29 (And.intro a30 (And.intro a31 (And.intro a32 (And.intro a33 (And.intro a34 (And.intro a35 (And.intro a36 (And.intro a37 (And.intro a38 (a39)))))))))))))))))))))))))))))))))))))))
def fB2 := And.intro a40 (And.intro a41 (And.intro a42 (And.intro a43 (And.intro a44 (And.intro a45 (And.intro a46 (And.intro a47 (And.intro a48 (And.intro a49 (And.intro a50 (And.intro a51 (And.intro a52 (And.intro a53 (And.intro a54 (And.intro a55 (And.intro a56 (And.intro a57 (And.intro a58 (And.intro a59 (And.intro a60 (And.intro a61 (And.intro a62 (And.intro a63 (And.intro a64 (And.intro a65 (And.intro a66 (And.intro a67 (And.intro a68 (And.intro a69 (And.intro a70 (And.intro a71 (And.intro a72 (And.intro a73 (And.intro a74 (And.intro a75 (And.intro a76 (And.intro a77 (And.intro a78 (a79)))))))))))))))))))))))))))))))))))))))
def fB3 := And.intro a80 (And.intro a81 (And.intro a82 (And.intro a83 (And.intro a84 (And.intro a85 (And.intro a86 (And.intro a87 (And.intro a88 (And.intro a89 (And.intro a90 (And.intro a91 (And.intro a92 (And.intro a93 (And.intro a94 (And.intro a95 (And.intro a96 (And.intro a97 (And.intro a98 (And.intro a99 (And.intro a100 (And.intro a101 (And.intro a102 (And.intro a103 (And.intro a104 (And.intro a105 (And.intro a106 (And.intro a107 (And.intro a108 (And.intro a109 (And.intro a110 (And.intro a111 (And.intro a112 (And.intro a113 (And.intro a114 (And.intro a115 (And.intro a116 (And.intro a117 (And.intro a118 (a119)))))))))))))))))))))))))))))))))))))))
def fB4 := And.intro a120 (And.intro a121 (And.intro a122 (And.intro a123 (And.intro a124 (And.intro a125 (And.intro a126 (And.intro a127 (And.intro a128 (And.intro a129 (And.intro a130 (And.intro a131 (And.intro a132 (And.intro a133 (And.intro a134 (And.intro a135 (And.intro a136 (And.intro a137 (And.intro a138 (And.intro a139 (And.intro a140 (And.intro a141 (And.intro a142 (And.intro a143 (And.intro a144 (And.intro a145 (And.intro a146 (And.intro a147 (And.intro a148 (And.intro a149 (And.intro a150 (And.intro a151 (And.intro a152 (And.intro a153 (And.intro a154 (And.intro a155 (And.intro a156 (And.intro a157 (And.intro a158 (a159)))))))))))))))))))))))))))))))))))))))
def fB5 := And.intro a160 (And.intro a161 (And.intro a162 (And.intro a163 (And.intro a164 (And.intro a165 (And.intro a166 (And.intro a167 (And.intro a168 (And.intro a169 (And.intro a170 (And.intro a171 (And.intro a172 (And.intro a173 (And.intro a174 (And.intro a175 (And.intro a176 (And.intro a177 (And.intro a178 (And.intro a179 (And.intro a180 (And.intro a181 (And.intro a182 (And.intro a183 (And.intro a184 (And.intro a185 (And.intro a186 (And.intro a187 (And.intro a188 (And.intro a189 (And.intro a190 (And.intro a191 (And.intro a192 (And.intro a193 (And.intro a194 (And.intro a195 (And.intro a196 (And.intro a197 (And.intro a198 (a199)))))))))))))))))))))))))))))))))))))))
def fB6 := And.intro a200 (And.intro a201 (And.intro a202 (And.intro a203 (And.intro a204 (And.intro a205 (And.intro a206 (And.intro a207 (And.intro a208 (And.intro a209 (And.intro a210 (And.intro a211 (And.intro a212 (And.intro a213 (And.intro a214 (And.intro a215 (And.intro a216 (And.intro a217 (And.intro a218 (And.intro a219 (And.intro a220 (And.intro a221 (And.intro a222 (And.intro a223 (And.intro a224 (And.intro a225 (And.intro a226 (And.intro a227 (And.intro a228 (And.intro a229 (And.intro a230 (And.intro a231 (And.intro a232 (And.intro a233 (And.intro a234 (And.intro a235 (And.intro a236 (And.intro a237 (And.intro a238 (a239)))))))))))))))))))))))))))))))))))))))
def fB7 := And.intro a240 (And.intro a241 (And.intro a242 (And.intro a243 (And.intro a244 (And.intro a245 (And.intro a246 (And.intro a247 (And.intro a248 (And.intro a249 (And.intro a250 (And.intro a251 (And.intro a252 (And.intro a253 (And.intro a254 (And.intro a255 (And.intro a256 (And.intro a257 (And.intro a258 (And.intro a259 (And.intro a260 (And.intro a261 (And.intro a262 (And.intro a263 (And.intro a264 (And.intro a265 (And.intro a266 (And.intro a267 (And.intro a268 (And.intro a269 (And.intro a270 (And.intro a271 (And.intro a272 (And.intro a273 (And.intro a274 (And.intro a275 (And.intro a276 (And.intro a277 (And.intro a278 (a279)))))))))))))))))))))))))))))))))))))))
def fB8 := And.intro a280 (And.intro a281 (And.intro a282 (And.intro a283 (And.intro a284 (And.intro a285 (And.intro a286 (And.intro a287 (And.intro a288 (And.intro a289 (And.intro a290 (And.intro a291 (And.intro a292 (And.intro a293 (And.intro a294 (And.intro a295 (And.intro a296 (And.intro a297 (And.intro a298 (And.intro a299 (And.intro a300 (And.intro a301 (And.intro a302 (And.intro a303 (And.intro a304 (And.intro a305 (And.intro a306 (And.intro a307 (And.intro a308 (And.intro a309 (And.intro a310 (And.intro a311 (And.intro a312 (And.intro a313 (And.intro a314 (And.intro a315 (And.intro a316 (And.intro a317 (And.intro a318 (a319)))))))))))))))))))))))))))))))))))))))
def fB9 := And.intro a320 (And.intro a321 (And.intro a322 (And.intro a323 (And.intro a324 (And.intro a325 (And.intro a326 (And.intro a327 (And.intro a328 (And.intro a329 (And.intro a330 (And.intro a331 (And.intro a332 (And.intro a333 (And.intro a334 (And.intro a335 (And.intro a336 (And.intro a337 (And.intro a338 (And.intro a339 (And.intro a340 (And.intro a341 (And.intro a342 (And.intro a343 (And.intro a344 (And.intro a345 (And.intro a346 (And.intro a347 (And.intro a348 (And.intro a349 (And.intro a350 (And.intro a351 (And.intro a352 (And.intro a353 (And.intro a354 (And.intro a355 (And.intro a356 (And.intro a357 (And.intro a358 (a359)))))))))))))))))))))))))))))))))))))))
def fB10 := And.intro a360 (And.intro a361 (And.intro a362 (And.intro a363 (And.intro a364 (And.intro a365 (And.intro a366 (And.intro a367 (And.intro a368 (And.intro a369 (And.intro a370 (And.intro a371 (And.intro a372 (And.intro a373 (And.intro a374 (And.intro a375 (And.intro a376 (And.intro a377 (And.intro a378 (And.intro a379 (And.intro a380 (And.intro a381 (And.intro a382 (And.intro a383 (And.intro a384 (And.intro a385 (And.intro a386 (And.intro a387 (And.intro a388 (And.intro a389 (And.intro a390 (And.intro a391 (And.intro a392 (And.intro a393 (And.intro a394 (And.intro a395 (And.intro a396 (And.intro a397 (And.intro a398 (a399)))))))))))))))))))))))))))))))))))))))
def fB11 := And.intro a400 (And.intro a401 (And.intro a402 (And.intro a403 (And.intro a404 (And.intro a405 (And.intro a406 (And.intro a407 (And.intro a408 (And.intro a409 (And.intro a410 (And.intro a411 (And.intro a412 (And.intro a413 (And.intro a414 (And.intro a415 (And.intro a416 (And.intro a417 (And.intro a418 (And.intro a419 (And.intro a420 (And.intro a421 (And.intro a422 (And.intro a423 (And.intro a424 (And.intro a425 (And.intro a426 (And.intro a427 (And.intro a428 (And.intro a429 (And.intro a430 (And.intro a431 (And.intro a432 (And.intro a433 (And.intro a434 (And.intro a435 (And.intro a436 (And.intro a437 (And.intro a438 (a439)))))))))))))))))))))))))))))))))))))))
def fB12 := And.intro a440 (And.intro a441 (And.intro a442 (And.intro a443 (And.intro a444 (And.intro a445 (And.intro a446 (And.intro a447 (And.intro a448 (And.intro a449 (And.intro a450 (And.intro a451 (And.intro a452 (And.intro a453 (And.intro a454 (And.intro a455 (And.intro a456 (And.intro a457 (And.intro a458 (And.intro a459 (And.intro a460 (And.intro a461 (And.intro a462 (And.intro a463 (And.intro a464 (And.intro a465 (And.intro a466 (And.intro a467 (And.intro a468 (And.intro a469 (And.intro a470 (And.intro a471 (And.intro a472 (And.intro a473 (And.intro a474 (And.intro a475 (And.intro a476 (And.intro a477 (And.intro a478 (a479)))))))))))))))))))))))))))))))))))))))
def fB13 := And.intro a480 (And.intro a481 (And.intro a482 (And.intro a483 (And.intro a484 (And.intro a485 (And.intro a486 (And.intro a487 (And.intro a488 (And.intro a489 (And.intro a490 (And.intro a491 (And.intro a492 (And.intro a493 (And.intro a494 (And.intro a495 (And.intro a496 (And.intro a497 (And.intro a498 (And.intro a499 (And.intro a500 (And.intro a501 (And.intro a502 (And.intro a503 (And.intro a504 (And.intro a505 (And.intro a506 (And.intro a507 (And.intro a508 (And.intro a509 (And.intro a510 (And.intro a511 (And.intro a512 (And.intro a513 (And.intro a514 (And.intro a515 (And.intro a516 (And.intro a517 (And.intro a518 (a519)))))))))))))))))))))))))))))))))))))))
def fB14 := And.intro a520 (And.intro a521 (And.intro a522 (And.intro a523 (And.intro a524 (And.intro a525 (And.intro a526 (And.intro a527 (And.intro a528 (And.intro a529 (And.intro a530 (And.intro a531 (And.intro a532 (And.intro a533 (And.intro a534 (And.intro a535 (And.intro a536 (And.intro a537 (And.intro a538 (And.intro a539 (And.intro a540 (And.intro a541 (And.intro a542 (And.intro a543 (And.intro a544 (And.intro a545 (And.intro a546 (And.intro a547 (And.intro a548 (And.intro a549 (And.intro a550 (And.intro a551 (And.intro a552 (And.intro a553 (And.intro a554 (And.intro a555 (And.intro a556 (And.intro a557 (And.intro a558 (a559)))))))))))))))))))))))))))))))))))))))
def fB15 := And.intro a560 (And.intro a561 (And.intro a562 (And.intro a563 (And.intro a564 (And.intro a565 (And.intro a566 (And.intro a567 (And.intro a568 (And.intro a569 (And.intro a570 (And.intro a571 (And.intro a572 (And.intro a573 (And.intro a574 (And.intro a575 (And.intro a576 (And.intro a577 (And.intro a578 (And.intro a579 (And.intro a580 (And.intro a581 (And.intro a582 (And.intro a583 (And.intro a584 (And.intro a585 (And.intro a586 (And.intro a587 (And.intro a588 (And.intro a589 (And.intro a590 (And.intro a591 (And.intro a592 (And.intro a593 (And.intro a594 (And.intro a595 (And.intro a596 (And.intro a597 (And.intro a598 (a599)))))))))))))))))))))))))))))))))))))))
def fB16 := And.intro a600 (And.intro a601 (And.intro a602 (And.intro a603 (And.intro a604 (And.intro a605 (And.intro a606 (And.intro a607 (And.intro a608 (And.intro a609 (And.intro a610 (And.intro a611 (And.intro a612 (And.intro a613 (And.intro a614 (And.intro a615 (And.intro a616 (And.intro a617 (And.intro a618 (And.intro a619 (And.intro a620 (And.intro a621 (And.intro a622 (And.intro a623 (And.intro a624 (And.intro a625 (And.intro a626 (And.intro a627 (And.intro a628 (And.intro a629 (And.intro a630 (And.intro a631 (And.intro a632 (And.intro a633 (And.intro a634 (And.intro a635 (And.intro a636 (And.intro a637 (And.intro a638 (a639)))))))))))))))))))))))))))))))))))))))
def fB17 := And.intro a640 (And.intro a641 (And.intro a642 (And.intro a643 (And.intro a644 (And.intro a645 (And.intro a646 (And.intro a647 (And.intro a648 (And.intro a649 (And.intro a650 (And.intro a651 (And.intro a652 (And.intro a653 (And.intro a654 (And.intro a655 (And.intro a656 (And.intro a657 (And.intro a658 (And.intro a659 (And.intro a660 (And.intro a661 (And.intro a662 (And.intro a663 (And.intro a664 (And.intro a665 (And.intro a666 (And.intro a667 (And.intro a668 (And.intro a669 (And.intro a670 (And.intro a671 (And.intro a672 (And.intro a673 (And.intro a674 (And.intro a675 (And.intro a676 (And.intro a677 (And.intro a678 (a679)))))))))))))))))))))))))))))))))))))))
def fB18 := And.intro a680 (And.intro a681 (And.intro a682 (And.intro a683 (And.intro a684 (And.intro a685 (And.intro a686 (And.intro a687 (And.intro a688 (And.intro a689 (And.intro a690 (And.intro a691 (And.intro a692 (And.intro a693 (And.intro a694 (And.intro a695 (And.intro a696 (And.intro a697 (And.intro a698 (And.intro a699 (And.intro a700 (And.intro a701 (And.intro a702 (And.intro a703 (And.intro a704 (And.intro a705 (And.intro a706 (And.intro a707 (And.intro a708 (And.intro a709 (And.intro a710 (And.intro a711 (And.intro a712 (And.intro a713 (And.intro a714 (And.intro a715 (And.intro a716 (And.intro a717 (And.intro a718 (a719)))))))))))))))))))))))))))))))))))))))
def fB19 := And.intro a720 (And.intro a721 (And.intro a722 (And.intro a723 (And.intro a724 (And.intro a725 (And.intro a726 (And.intro a727 (And.intro a728 (And.intro a729 (And.intro a730 (And.intro a731 (And.intro a732 (And.intro a733 (And.intro a734 (And.intro a735 (And.intro a736 (And.intro a737 (And.intro a738 (And.intro a739 (And.intro a740 (And.intro a741 (And.intro a742 (And.intro a743 (And.intro a744 (And.intro a745 (And.intro a746 (And.intro a747 (And.intro a748 (And.intro a749 (And.intro a750 (And.intro a751 (And.intro a752 (And.intro a753 (And.intro a754 (And.intro a755 (And.intro a756 (And.intro a757 (And.intro a758 (a759)))))))))))))))))))))))))))))))))))))))
def fB20 := a760
def fBs := And.intro fB1 (And.intro fB2 (And.intro fB3 (And.intro fB4 (And.intro fB5 (And.intro fB6 (And.intro fB7 (And.intro fB8 (And.intro fB9 (And.intro fB10 (And.intro fB11 (And.intro fB12 (And.intro fB13 (And.intro fB14 (And.intro fB15 (And.intro fB16 (And.intro fB17 (And.intro fB18 (And.intro fB19 (fB20)))))))))))))))))))
end Go.PE.F
