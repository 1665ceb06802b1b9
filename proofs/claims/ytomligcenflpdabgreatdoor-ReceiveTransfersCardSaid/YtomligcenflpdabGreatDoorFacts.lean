/- Closed facts on the program's types (printed by wip/tools/facts.lean). -/
import Derived.Test.YtomligcenflpdabGreatDoorPe1
import Derived.Test.YtomligcenflpdabGreatDoorProg
import Derived.KernelRfl
set_option linter.defProp false
namespace Go.PE.F
open Go Go.Proofs
theorem mixed : Tryz.prog.follows .mixedOrders = true := by kernel_rfl
theorem a8 : kd? Tryz.prog 2 = 13 := by kernel_rfl
theorem a9 : ty? Tryz.prog 2 = some (false, 1) := by kernel_rfl
theorem a10 : sl? Tryz.prog 2 = none := by kernel_rfl
theorem a11 : zi? Tryz.prog 2 = some .i64 := by kernel_rfl
theorem a12 : zero? Tryz.prog 2 = some [.d (.int .i64 (0))] := by kernel_rfl
theorem a13 : kd? Tryz.prog 3 = 13 := by kernel_rfl
theorem a14 : ty? Tryz.prog 3 = some (false, 1) := by kernel_rfl
theorem a15 : sl? Tryz.prog 3 = none := by kernel_rfl
theorem a16 : zi? Tryz.prog 3 = some .i64 := by kernel_rfl
theorem a17 : zero? Tryz.prog 3 = some [.d (.int .i64 (0))] := by kernel_rfl
theorem a18 : kd? Tryz.prog 4 = 1 := by kernel_rfl
theorem a19 : ty? Tryz.prog 4 = some (false, 1) := by kernel_rfl
theorem a20 : sl? Tryz.prog 4 = none := by kernel_rfl
theorem a21 : zero? Tryz.prog 4 = some [.d (.bool false)] := by kernel_rfl
theorem a22 : kd? Tryz.prog 5 = 14 := by kernel_rfl
theorem a23 : ty? Tryz.prog 5 = some (false, 1) := by kernel_rfl
theorem a24 : sl? Tryz.prog 5 = none := by kernel_rfl
theorem a25 : zi? Tryz.prog 5 = some .u8 := by kernel_rfl
theorem a26 : zero? Tryz.prog 5 = some [.d (.int .u8 (0))] := by kernel_rfl
theorem a27 : kd? Tryz.prog 6 = 14 := by kernel_rfl
theorem a28 : ty? Tryz.prog 6 = some (false, 1) := by kernel_rfl
theorem a29 : sl? Tryz.prog 6 = none := by kernel_rfl
theorem a30 : zi? Tryz.prog 6 = some .u8 := by kernel_rfl
theorem a31 : zero? Tryz.prog 6 = some [.d (.int .u8 (0))] := by kernel_rfl
theorem a52 : kd? Tryz.prog 9 = 0 := by kernel_rfl
theorem a53 : ty? Tryz.prog 9 = some (false, 1) := by kernel_rfl
theorem a54 : sl? Tryz.prog 9 = none := by kernel_rfl
theorem a55 : zero? Tryz.prog 9 = some [.d (.str [])] := by kernel_rfl
theorem a64 : kd? Tryz.prog 12 = 17 := by kernel_rfl
theorem a65 : ty? Tryz.prog 12 = some (false, 1) := by kernel_rfl
theorem a66 : sl? Tryz.prog 12 = none := by kernel_rfl
theorem a67 : zi? Tryz.prog 12 = some .u64 := by kernel_rfl
theorem a68 : zero? Tryz.prog 12 = some [.d (.int .u64 (0))] := by kernel_rfl
theorem a91 : kd? Tryz.prog 17 = 5 := by kernel_rfl
theorem a92 : ty? Tryz.prog 17 = some (false, 1) := by kernel_rfl
theorem a93 : sl? Tryz.prog 17 = none := by kernel_rfl
theorem a94 : zero? Tryz.prog 17 = some [.d (.raw (.pointer none))] := by kernel_rfl
theorem a107 : kd? Tryz.prog 20 = 3 := by kernel_rfl
theorem a108 : ty? Tryz.prog 20 = some (false, 1) := by kernel_rfl
theorem a109 : sl? Tryz.prog 20 = none := by kernel_rfl
theorem a110 : zero? Tryz.prog 20 = some [.d (.nilI)] := by kernel_rfl
theorem a116 : kd? Tryz.prog 22 = 6 := by kernel_rfl
theorem a117 : ty? Tryz.prog 22 = some (false, 1) := by kernel_rfl
theorem a118 : sl? Tryz.prog 22 = some (72, 6, 6) := by kernel_rfl
theorem a119 : zero? Tryz.prog 22 = some [.nilS] := by kernel_rfl
theorem a120 : kd? Tryz.prog 23 = 4 := by kernel_rfl
theorem a121 : ty? Tryz.prog 23 = some (true, 4) := by kernel_rfl
theorem a122 : sl? Tryz.prog 23 = none := by kernel_rfl
theorem a123 : ar? Tryz.prog 23 = some (4, 1) := by kernel_rfl
theorem a124 : zero? Tryz.prog 23 = some [.d (.int .u8 (0)), .d (.int .u8 (0)), .d (.int .u8 (0)), .d (.int .u8 (0))] := by kernel_rfl
theorem a125 : kd? Tryz.prog 24 = 17 := by kernel_rfl
theorem a126 : ty? Tryz.prog 24 = some (false, 1) := by kernel_rfl
theorem a127 : sl? Tryz.prog 24 = none := by kernel_rfl
theorem a128 : zi? Tryz.prog 24 = some .u64 := by kernel_rfl
theorem a129 : zero? Tryz.prog 24 = some [.d (.int .u64 (0))] := by kernel_rfl
theorem a130 : kd? Tryz.prog 25 = 2 := by kernel_rfl
theorem a131 : ty? Tryz.prog 25 = some (false, 1) := by kernel_rfl
theorem a132 : sl? Tryz.prog 25 = none := by kernel_rfl
theorem a133 : zero? Tryz.prog 25 = some [.d (.raw .nilFunc)] := by kernel_rfl
theorem a134 : kd? Tryz.prog 26 = 6 := by kernel_rfl
theorem a135 : ty? Tryz.prog 26 = some (false, 1) := by kernel_rfl
theorem a136 : sl? Tryz.prog 26 = some (38, 14, 160) := by kernel_rfl
theorem a137 : zero? Tryz.prog 26 = some [.nilS] := by kernel_rfl
theorem a142 : kd? Tryz.prog 28 = 6 := by kernel_rfl
theorem a143 : ty? Tryz.prog 28 = some (false, 1) := by kernel_rfl
theorem a144 : sl? Tryz.prog 28 = some (36, 8, 112) := by kernel_rfl
theorem a145 : zero? Tryz.prog 28 = some [.nilS] := by kernel_rfl
theorem a163 : kd? Tryz.prog 31 = 7 := by kernel_rfl
theorem a164 : ty? Tryz.prog 31 = some (true, 8) := by kernel_rfl
theorem a165 : sl? Tryz.prog 31 = none := by kernel_rfl
theorem a166 : ar? Tryz.prog 31 = none := by kernel_rfl
theorem a167 : fo? Tryz.prog 31 0 = some (0, 4) := by kernel_rfl
theorem a168 : fo? Tryz.prog 31 1 = some (1, 4) := by kernel_rfl
theorem a169 : fo? Tryz.prog 31 2 = some (2, 3) := by kernel_rfl
theorem a170 : fo? Tryz.prog 31 3 = some (3, 3) := by kernel_rfl
theorem a171 : fo? Tryz.prog 31 4 = some (4, 24) := by kernel_rfl
theorem a172 : fo? Tryz.prog 31 5 = some (5, 24) := by kernel_rfl
theorem a173 : fo? Tryz.prog 31 6 = some (6, 24) := by kernel_rfl
theorem a174 : fo? Tryz.prog 31 7 = some (7, 28) := by kernel_rfl
theorem a175 : zero? Tryz.prog 31 = some [.d (.bool false), .d (.bool false), .d (.int .i64 (0)), .d (.int .i64 (0)), .d (.int .u64 (0)), .d (.int .u64 (0)), .d (.int .u64 (0)), .nilS] := by kernel_rfl
theorem a188 : kd? Tryz.prog 34 = 7 := by kernel_rfl
theorem a189 : ty? Tryz.prog 34 = some (true, 2) := by kernel_rfl
theorem a190 : sl? Tryz.prog 34 = none := by kernel_rfl
theorem a191 : ar? Tryz.prog 34 = none := by kernel_rfl
theorem a192 : fo? Tryz.prog 34 0 = some (0, 9) := by kernel_rfl
theorem a193 : fo? Tryz.prog 34 1 = some (1, 9) := by kernel_rfl
theorem a194 : cellsT Tryz.prog 34 = some [0, 0] := by kernel_rfl
theorem a195 : zero? Tryz.prog 34 = some [.d (.str []), .d (.str [])] := by kernel_rfl
theorem a209 : kd? Tryz.prog 36 = 7 := by kernel_rfl
theorem a210 : ty? Tryz.prog 36 = some (true, 8) := by kernel_rfl
theorem a211 : sl? Tryz.prog 36 = none := by kernel_rfl
theorem a212 : ar? Tryz.prog 36 = none := by kernel_rfl
theorem a213 : fo? Tryz.prog 36 0 = some (0, 3) := by kernel_rfl
theorem a214 : fo? Tryz.prog 36 1 = some (1, 9) := by kernel_rfl
theorem a215 : fo? Tryz.prog 36 2 = some (2, 9) := by kernel_rfl
theorem a216 : fo? Tryz.prog 36 3 = some (3, 34) := by kernel_rfl
theorem a217 : fo? Tryz.prog 36 4 = some (5, 9) := by kernel_rfl
theorem a218 : fo? Tryz.prog 36 5 = some (6, 9) := by kernel_rfl
theorem a219 : fo? Tryz.prog 36 6 = some (7, 3) := by kernel_rfl
theorem a220 : cellsT Tryz.prog 36 = some [2, 0, 0, 0, 0, 0, 0, 2] := by kernel_rfl
theorem a221 : zero? Tryz.prog 36 = some [.d (.int .i64 (0)), .d (.str []), .d (.str []), .d (.str []), .d (.str []), .d (.str []), .d (.str []), .d (.int .i64 (0))] := by kernel_rfl
theorem a235 : kd? Tryz.prog 38 = 7 := by kernel_rfl
theorem a236 : ty? Tryz.prog 38 = some (true, 14) := by kernel_rfl
theorem a237 : sl? Tryz.prog 38 = none := by kernel_rfl
theorem a238 : ar? Tryz.prog 38 = none := by kernel_rfl
theorem a239 : fo? Tryz.prog 38 0 = some (0, 3) := by kernel_rfl
theorem a240 : fo? Tryz.prog 38 1 = some (1, 3) := by kernel_rfl
theorem a241 : fo? Tryz.prog 38 2 = some (2, 3) := by kernel_rfl
theorem a242 : fo? Tryz.prog 38 3 = some (3, 24) := by kernel_rfl
theorem a243 : fo? Tryz.prog 38 4 = some (4, 24) := by kernel_rfl
theorem a244 : fo? Tryz.prog 38 5 = some (5, 36) := by kernel_rfl
theorem a245 : fo? Tryz.prog 38 6 = some (13, 24) := by kernel_rfl
theorem a246 : cellsT Tryz.prog 38 = some [2, 2, 2, 2, 2, 2, 0, 0, 0, 0, 0, 0, 2, 2] := by kernel_rfl
theorem a247 : zero? Tryz.prog 38 = some [.d (.int .i64 (0)), .d (.int .i64 (0)), .d (.int .i64 (0)), .d (.int .u64 (0)), .d (.int .u64 (0)), .d (.int .i64 (0)), .d (.str []), .d (.str []), .d (.str []), .d (.str []), .d (.str []), .d (.str []), .d (.int .i64 (0)), .d (.int .u64 (0))] := by kernel_rfl
theorem a248 : kd? Tryz.prog 39 = 13 := by kernel_rfl
theorem a249 : ty? Tryz.prog 39 = some (false, 1) := by kernel_rfl
theorem a250 : sl? Tryz.prog 39 = none := by kernel_rfl
theorem a251 : zi? Tryz.prog 39 = some .i64 := by kernel_rfl
theorem a252 : zero? Tryz.prog 39 = some [.d (.int .i64 (0))] := by kernel_rfl
theorem a260 : kd? Tryz.prog 41 = 7 := by kernel_rfl
theorem a261 : ty? Tryz.prog 41 = some (true, 9) := by kernel_rfl
theorem a262 : sl? Tryz.prog 41 = none := by kernel_rfl
theorem a263 : ar? Tryz.prog 41 = none := by kernel_rfl
theorem a264 : fo? Tryz.prog 41 0 = some (0, 31) := by kernel_rfl
theorem a265 : fo? Tryz.prog 41 1 = some (8, 39) := by kernel_rfl
theorem a266 : zero? Tryz.prog 41 = some [.d (.bool false), .d (.bool false), .d (.int .i64 (0)), .d (.int .i64 (0)), .d (.int .u64 (0)), .d (.int .u64 (0)), .d (.int .u64 (0)), .nilS, .d (.int .i64 (0))] := by kernel_rfl
theorem a275 : kd? Tryz.prog 44 = 6 := by kernel_rfl
theorem a276 : ty? Tryz.prog 44 = some (false, 1) := by kernel_rfl
theorem a277 : sl? Tryz.prog 44 = some (5, 1, 1) := by kernel_rfl
theorem a278 : zero? Tryz.prog 44 = some [.nilS] := by kernel_rfl
theorem a292 : kd? Tryz.prog 47 = 7 := by kernel_rfl
theorem a293 : ty? Tryz.prog 47 = some (true, 16) := by kernel_rfl
theorem a294 : sl? Tryz.prog 47 = none := by kernel_rfl
theorem a295 : ar? Tryz.prog 47 = none := by kernel_rfl
theorem a296 : fo? Tryz.prog 47 0 = some (0, 38) := by kernel_rfl
theorem a297 : fo? Tryz.prog 47 1 = some (14, 3) := by kernel_rfl
theorem a298 : fo? Tryz.prog 47 2 = some (15, 39) := by kernel_rfl
theorem a299 : cellsT Tryz.prog 47 = some [2, 2, 2, 2, 2, 2, 0, 0, 0, 0, 0, 0, 2, 2, 2, 2] := by kernel_rfl
theorem a300 : zero? Tryz.prog 47 = some [.d (.int .i64 (0)), .d (.int .i64 (0)), .d (.int .i64 (0)), .d (.int .u64 (0)), .d (.int .u64 (0)), .d (.int .i64 (0)), .d (.str []), .d (.str []), .d (.str []), .d (.str []), .d (.str []), .d (.str []), .d (.int .i64 (0)), .d (.int .u64 (0)), .d (.int .i64 (0)), .d (.int .i64 (0))] := by kernel_rfl
theorem a309 : kd? Tryz.prog 50 = 4 := by kernel_rfl
theorem a310 : ty? Tryz.prog 50 = some (true, 2) := by kernel_rfl
theorem a311 : sl? Tryz.prog 50 = none := by kernel_rfl
theorem a312 : ar? Tryz.prog 50 = some (2, 1) := by kernel_rfl
theorem a313 : zero? Tryz.prog 50 = some [.nilS, .nilS] := by kernel_rfl
theorem a326 : kd? Tryz.prog 54 = 4 := by kernel_rfl
theorem a327 : ty? Tryz.prog 54 = some (true, 2) := by kernel_rfl
theorem a328 : sl? Tryz.prog 54 = none := by kernel_rfl
theorem a329 : ar? Tryz.prog 54 = some (2, 1) := by kernel_rfl
theorem a330 : zero? Tryz.prog 54 = some [.d (.int .u64 (0)), .d (.int .u64 (0))] := by kernel_rfl
theorem a347 : kd? Tryz.prog 59 = 6 := by kernel_rfl
theorem a348 : ty? Tryz.prog 59 = some (false, 1) := by kernel_rfl
theorem a349 : sl? Tryz.prog 59 = some (203, 8, 136) := by kernel_rfl
theorem a350 : zero? Tryz.prog 59 = some [.nilS] := by kernel_rfl
theorem a357 : kd? Tryz.prog 61 = 7 := by kernel_rfl
theorem a358 : ty? Tryz.prog 61 = some (true, 1) := by kernel_rfl
theorem a359 : sl? Tryz.prog 61 = none := by kernel_rfl
theorem a360 : ar? Tryz.prog 61 = none := by kernel_rfl
theorem a361 : fo? Tryz.prog 61 0 = some (0, 59) := by kernel_rfl
theorem a362 : zero? Tryz.prog 61 = some [.nilS] := by kernel_rfl
theorem a372 : kd? Tryz.prog 63 = 7 := by kernel_rfl
theorem a373 : ty? Tryz.prog 63 = some (true, 3) := by kernel_rfl
theorem a374 : sl? Tryz.prog 63 = none := by kernel_rfl
theorem a375 : ar? Tryz.prog 63 = none := by kernel_rfl
theorem a376 : fo? Tryz.prog 63 0 = some (0, 3) := by kernel_rfl
theorem a377 : fo? Tryz.prog 63 1 = some (1, 3) := by kernel_rfl
theorem a378 : fo? Tryz.prog 63 2 = some (2, 3) := by kernel_rfl
theorem a379 : cellsT Tryz.prog 63 = some [2, 2, 2] := by kernel_rfl
theorem a380 : zero? Tryz.prog 63 = some [.d (.int .i64 (0)), .d (.int .i64 (0)), .d (.int .i64 (0))] := by kernel_rfl
theorem a381 : kd? Tryz.prog 64 = 6 := by kernel_rfl
theorem a382 : ty? Tryz.prog 64 = some (false, 1) := by kernel_rfl
theorem a383 : sl? Tryz.prog 64 = some (166, 5, 64) := by kernel_rfl
theorem a384 : zero? Tryz.prog 64 = some [.nilS] := by kernel_rfl
theorem a397 : kd? Tryz.prog 66 = 7 := by kernel_rfl
theorem a398 : ty? Tryz.prog 66 = some (true, 9) := by kernel_rfl
theorem a399 : sl? Tryz.prog 66 = none := by kernel_rfl
theorem a400 : ar? Tryz.prog 66 = none := by kernel_rfl
theorem a401 : fo? Tryz.prog 66 0 = some (0, 61) := by kernel_rfl
theorem a402 : fo? Tryz.prog 66 1 = some (1, 63) := by kernel_rfl
theorem a403 : fo? Tryz.prog 66 2 = some (4, 64) := by kernel_rfl
theorem a404 : fo? Tryz.prog 66 3 = some (5, 3) := by kernel_rfl
theorem a405 : fo? Tryz.prog 66 4 = some (6, 3) := by kernel_rfl
theorem a406 : fo? Tryz.prog 66 5 = some (7, 3) := by kernel_rfl
theorem a407 : fo? Tryz.prog 66 6 = some (8, 28) := by kernel_rfl
theorem a408 : zero? Tryz.prog 66 = some [.nilS, .d (.int .i64 (0)), .d (.int .i64 (0)), .d (.int .i64 (0)), .nilS, .d (.int .i64 (0)), .d (.int .i64 (0)), .d (.int .i64 (0)), .nilS] := by kernel_rfl
theorem a430 : kd? Tryz.prog 72 = 4 := by kernel_rfl
theorem a431 : ty? Tryz.prog 72 = some (true, 6) := by kernel_rfl
theorem a432 : sl? Tryz.prog 72 = none := by kernel_rfl
theorem a433 : ar? Tryz.prog 72 = some (6, 1) := by kernel_rfl
theorem a434 : zero? Tryz.prog 72 = some [.d (.int .u8 (0)), .d (.int .u8 (0)), .d (.int .u8 (0)), .d (.int .u8 (0)), .d (.int .u8 (0)), .d (.int .u8 (0))] := by kernel_rfl
theorem a479 : kd? Tryz.prog 84 = 6 := by kernel_rfl
theorem a480 : ty? Tryz.prog 84 = some (false, 1) := by kernel_rfl
theorem a481 : sl? Tryz.prog 84 = some (89, 3, 32) := by kernel_rfl
theorem a482 : zero? Tryz.prog 84 = some [.nilS] := by kernel_rfl
theorem a503 : kd? Tryz.prog 89 = 7 := by kernel_rfl
theorem a504 : ty? Tryz.prog 89 = some (true, 3) := by kernel_rfl
theorem a505 : sl? Tryz.prog 89 = none := by kernel_rfl
theorem a506 : ar? Tryz.prog 89 = none := by kernel_rfl
theorem a507 : fo? Tryz.prog 89 0 = some (0, 5) := by kernel_rfl
theorem a508 : fo? Tryz.prog 89 1 = some (1, 5) := by kernel_rfl
theorem a509 : fo? Tryz.prog 89 2 = some (2, 22) := by kernel_rfl
theorem a510 : zero? Tryz.prog 89 = some [.d (.int .u8 (0)), .d (.int .u8 (0)), .nilS] := by kernel_rfl
theorem a511 : kd? Tryz.prog 90 = 6 := by kernel_rfl
theorem a512 : ty? Tryz.prog 90 = some (false, 1) := by kernel_rfl
theorem a513 : sl? Tryz.prog 90 = some (133, 3, 40) := by kernel_rfl
theorem a514 : zero? Tryz.prog 90 = some [.nilS] := by kernel_rfl
theorem a551 : kd? Tryz.prog 100 = 5 := by kernel_rfl
theorem a552 : ty? Tryz.prog 100 = some (false, 1) := by kernel_rfl
theorem a553 : sl? Tryz.prog 100 = none := by kernel_rfl
theorem a554 : zero? Tryz.prog 100 = some [.d (.raw (.pointer none))] := by kernel_rfl
theorem a562 : kd? Tryz.prog 102 = 7 := by kernel_rfl
theorem a563 : ty? Tryz.prog 102 = some (true, 22) := by kernel_rfl
theorem a564 : sl? Tryz.prog 102 = none := by kernel_rfl
theorem a565 : ar? Tryz.prog 102 = none := by kernel_rfl
theorem a566 : fo? Tryz.prog 102 0 = some (0, 31) := by kernel_rfl
theorem a567 : fo? Tryz.prog 102 1 = some (8, 38) := by kernel_rfl
theorem a568 : zero? Tryz.prog 102 = some [.d (.bool false), .d (.bool false), .d (.int .i64 (0)), .d (.int .i64 (0)), .d (.int .u64 (0)), .d (.int .u64 (0)), .d (.int .u64 (0)), .nilS, .d (.int .i64 (0)), .d (.int .i64 (0)), .d (.int .i64 (0)), .d (.int .u64 (0)), .d (.int .u64 (0)), .d (.int .i64 (0)), .d (.str []), .d (.str []), .d (.str []), .d (.str []), .d (.str []), .d (.str []), .d (.int .i64 (0)), .d (.int .u64 (0))] := by kernel_rfl
theorem a593 : kd? Tryz.prog 109 = 4 := by kernel_rfl
theorem a594 : ty? Tryz.prog 109 = some (true, 2) := by kernel_rfl
theorem a595 : sl? Tryz.prog 109 = none := by kernel_rfl
theorem a596 : ar? Tryz.prog 109 = some (2, 1) := by kernel_rfl
theorem a597 : zero? Tryz.prog 109 = some [.d (.str []), .d (.str [])] := by kernel_rfl
theorem a634 : kd? Tryz.prog 118 = 7 := by kernel_rfl
theorem a635 : ty? Tryz.prog 118 = some (true, 5) := by kernel_rfl
theorem a636 : sl? Tryz.prog 118 = none := by kernel_rfl
theorem a637 : ar? Tryz.prog 118 = none := by kernel_rfl
theorem a638 : fo? Tryz.prog 118 0 = some (0, 61) := by kernel_rfl
theorem a639 : fo? Tryz.prog 118 1 = some (1, 3) := by kernel_rfl
theorem a640 : fo? Tryz.prog 118 2 = some (2, 63) := by kernel_rfl
theorem a641 : zero? Tryz.prog 118 = some [.nilS, .d (.int .i64 (0)), .d (.int .i64 (0)), .d (.int .i64 (0)), .d (.int .i64 (0))] := by kernel_rfl
theorem a696 : kd? Tryz.prog 130 = 7 := by kernel_rfl
theorem a697 : ty? Tryz.prog 130 = some (true, 1) := by kernel_rfl
theorem a698 : sl? Tryz.prog 130 = none := by kernel_rfl
theorem a699 : ar? Tryz.prog 130 = none := by kernel_rfl
theorem a700 : fo? Tryz.prog 130 0 = some (0, 44) := by kernel_rfl
theorem a701 : zero? Tryz.prog 130 = some [.nilS] := by kernel_rfl
theorem a715 : kd? Tryz.prog 133 = 7 := by kernel_rfl
theorem a716 : ty? Tryz.prog 133 = some (true, 3) := by kernel_rfl
theorem a717 : sl? Tryz.prog 133 = none := by kernel_rfl
theorem a718 : ar? Tryz.prog 133 = none := by kernel_rfl
theorem a719 : fo? Tryz.prog 133 0 = some (0, 9) := by kernel_rfl
theorem a720 : fo? Tryz.prog 133 1 = some (1, 9) := by kernel_rfl
theorem a721 : fo? Tryz.prog 133 2 = some (2, 3) := by kernel_rfl
theorem a722 : cellsT Tryz.prog 133 = some [0, 0, 2] := by kernel_rfl
theorem a723 : zero? Tryz.prog 133 = some [.d (.str []), .d (.str []), .d (.int .i64 (0))] := by kernel_rfl
theorem a752 : kd? Tryz.prog 141 = 6 := by kernel_rfl
theorem a753 : ty? Tryz.prog 141 = some (false, 1) := by kernel_rfl
theorem a754 : sl? Tryz.prog 141 = some (9, 1, 16) := by kernel_rfl
theorem a755 : zero? Tryz.prog 141 = some [.nilS] := by kernel_rfl
theorem a764 : kd? Tryz.prog 144 = 2 := by kernel_rfl
theorem a765 : ty? Tryz.prog 144 = some (false, 1) := by kernel_rfl
theorem a766 : sl? Tryz.prog 144 = none := by kernel_rfl
theorem a767 : zero? Tryz.prog 144 = some [.d (.raw .nilFunc)] := by kernel_rfl
theorem a768 : kd? Tryz.prog 145 = 6 := by kernel_rfl
theorem a769 : ty? Tryz.prog 145 = some (false, 1) := by kernel_rfl
theorem a770 : sl? Tryz.prog 145 = some (144, 1, 8) := by kernel_rfl
theorem a771 : zero? Tryz.prog 145 = some [.nilS] := by kernel_rfl
theorem a812 : kd? Tryz.prog 155 = 7 := by kernel_rfl
theorem a813 : ty? Tryz.prog 155 = some (true, 3) := by kernel_rfl
theorem a814 : sl? Tryz.prog 155 = none := by kernel_rfl
theorem a815 : ar? Tryz.prog 155 = none := by kernel_rfl
theorem a816 : fo? Tryz.prog 155 0 = some (0, 61) := by kernel_rfl
theorem a817 : fo? Tryz.prog 155 1 = some (1, 3) := by kernel_rfl
theorem a818 : fo? Tryz.prog 155 2 = some (2, 39) := by kernel_rfl
theorem a819 : zero? Tryz.prog 155 = some [.nilS, .d (.int .i64 (0)), .d (.int .i64 (0))] := by kernel_rfl
theorem a824 : kd? Tryz.prog 157 = 6 := by kernel_rfl
theorem a825 : ty? Tryz.prog 157 = some (false, 1) := by kernel_rfl
theorem a826 : sl? Tryz.prog 157 = some (3, 1, 8) := by kernel_rfl
theorem a827 : zero? Tryz.prog 157 = some [.nilS] := by kernel_rfl
theorem a828 : kd? Tryz.prog 158 = 6 := by kernel_rfl
theorem a829 : ty? Tryz.prog 158 = some (false, 1) := by kernel_rfl
theorem a830 : sl? Tryz.prog 158 = some (319, 4, 32) := by kernel_rfl
theorem a831 : zero? Tryz.prog 158 = some [.nilS] := by kernel_rfl
theorem a842 : kd? Tryz.prog 160 = 7 := by kernel_rfl
theorem a843 : ty? Tryz.prog 160 = some (true, 5) := by kernel_rfl
theorem a844 : sl? Tryz.prog 160 = none := by kernel_rfl
theorem a845 : ar? Tryz.prog 160 = none := by kernel_rfl
theorem a846 : fo? Tryz.prog 160 0 = some (0, 90) := by kernel_rfl
theorem a847 : fo? Tryz.prog 160 1 = some (1, 141) := by kernel_rfl
theorem a848 : fo? Tryz.prog 160 2 = some (2, 157) := by kernel_rfl
theorem a849 : fo? Tryz.prog 160 3 = some (3, 158) := by kernel_rfl
theorem a850 : fo? Tryz.prog 160 4 = some (4, 28) := by kernel_rfl
theorem a851 : zero? Tryz.prog 160 = some [.nilS, .nilS, .nilS, .nilS, .nilS] := by kernel_rfl
theorem a886 : kd? Tryz.prog 166 = 7 := by kernel_rfl
theorem a887 : ty? Tryz.prog 166 = some (true, 5) := by kernel_rfl
theorem a888 : sl? Tryz.prog 166 = none := by kernel_rfl
theorem a889 : ar? Tryz.prog 166 = none := by kernel_rfl
theorem a890 : fo? Tryz.prog 166 0 = some (0, 3) := by kernel_rfl
theorem a891 : fo? Tryz.prog 166 1 = some (1, 3) := by kernel_rfl
theorem a892 : fo? Tryz.prog 166 2 = some (2, 3) := by kernel_rfl
theorem a893 : fo? Tryz.prog 166 3 = some (3, 9) := by kernel_rfl
theorem a894 : fo? Tryz.prog 166 4 = some (4, 28) := by kernel_rfl
theorem a895 : zero? Tryz.prog 166 = some [.d (.int .i64 (0)), .d (.int .i64 (0)), .d (.int .i64 (0)), .d (.str []), .nilS] := by kernel_rfl
theorem a912 : kd? Tryz.prog 171 = 5 := by kernel_rfl
theorem a913 : ty? Tryz.prog 171 = some (false, 1) := by kernel_rfl
theorem a914 : sl? Tryz.prog 171 = none := by kernel_rfl
theorem a915 : zero? Tryz.prog 171 = some [.d (.raw (.pointer none))] := by kernel_rfl
theorem a923 : kd? Tryz.prog 173 = 7 := by kernel_rfl
theorem a924 : ty? Tryz.prog 173 = some (true, 2) := by kernel_rfl
theorem a925 : sl? Tryz.prog 173 = none := by kernel_rfl
theorem a926 : ar? Tryz.prog 173 = none := by kernel_rfl
theorem a927 : fo? Tryz.prog 173 0 = some (0, 61) := by kernel_rfl
theorem a928 : fo? Tryz.prog 173 1 = some (1, 39) := by kernel_rfl
theorem a929 : zero? Tryz.prog 173 = some [.nilS, .d (.int .i64 (0))] := by kernel_rfl
theorem a942 : kd? Tryz.prog 177 = 6 := by kernel_rfl
theorem a943 : ty? Tryz.prog 177 = some (false, 1) := by kernel_rfl
theorem a944 : sl? Tryz.prog 177 = some (34, 2, 32) := by kernel_rfl
theorem a945 : zero? Tryz.prog 177 = some [.nilS] := by kernel_rfl
theorem a950 : kd? Tryz.prog 179 = 3 := by kernel_rfl
theorem a951 : ty? Tryz.prog 179 = some (false, 1) := by kernel_rfl
theorem a952 : sl? Tryz.prog 179 = none := by kernel_rfl
theorem a953 : zero? Tryz.prog 179 = some [.d (.nilI)] := by kernel_rfl
theorem a1032 : kd? Tryz.prog 199 = 7 := by kernel_rfl
theorem a1033 : ty? Tryz.prog 199 = some (true, 1) := by kernel_rfl
theorem a1034 : sl? Tryz.prog 199 = none := by kernel_rfl
theorem a1035 : ar? Tryz.prog 199 = none := by kernel_rfl
theorem a1036 : fo? Tryz.prog 199 0 = some (0, 44) := by kernel_rfl
theorem a1037 : zero? Tryz.prog 199 = some [.nilS] := by kernel_rfl
theorem a1055 : kd? Tryz.prog 203 = 7 := by kernel_rfl
theorem a1056 : ty? Tryz.prog 203 = some (true, 8) := by kernel_rfl
theorem a1057 : sl? Tryz.prog 203 = none := by kernel_rfl
theorem a1058 : ar? Tryz.prog 203 = none := by kernel_rfl
theorem a1059 : fo? Tryz.prog 203 0 = some (0, 4) := by kernel_rfl
theorem a1060 : fo? Tryz.prog 203 1 = some (1, 4) := by kernel_rfl
theorem a1061 : fo? Tryz.prog 203 2 = some (2, 3) := by kernel_rfl
theorem a1062 : fo? Tryz.prog 203 3 = some (3, 160) := by kernel_rfl
theorem a1063 : zero? Tryz.prog 203 = some [.d (.bool false), .d (.bool false), .d (.int .i64 (0)), .nilS, .nilS, .nilS, .nilS, .nilS] := by kernel_rfl
theorem a1110 : kd? Tryz.prog 214 = 7 := by kernel_rfl
theorem a1111 : ty? Tryz.prog 214 = some (true, 8) := by kernel_rfl
theorem a1112 : sl? Tryz.prog 214 = none := by kernel_rfl
theorem a1113 : ar? Tryz.prog 214 = none := by kernel_rfl
theorem a1114 : fo? Tryz.prog 214 0 = some (0, 3) := by kernel_rfl
theorem a1115 : fo? Tryz.prog 214 1 = some (1, 9) := by kernel_rfl
theorem a1116 : fo? Tryz.prog 214 2 = some (2, 9) := by kernel_rfl
theorem a1117 : fo? Tryz.prog 214 3 = some (3, 34) := by kernel_rfl
theorem a1118 : fo? Tryz.prog 214 4 = some (5, 9) := by kernel_rfl
theorem a1119 : fo? Tryz.prog 214 5 = some (6, 9) := by kernel_rfl
theorem a1120 : fo? Tryz.prog 214 6 = some (7, 3) := by kernel_rfl
theorem a1121 : cellsT Tryz.prog 214 = some [2, 0, 0, 0, 0, 0, 0, 2] := by kernel_rfl
theorem a1122 : zero? Tryz.prog 214 = some [.d (.int .i64 (0)), .d (.str []), .d (.str []), .d (.str []), .d (.str []), .d (.str []), .d (.str []), .d (.int .i64 (0))] := by kernel_rfl
theorem a1123 : kd? Tryz.prog 215 = 7 := by kernel_rfl
theorem a1124 : ty? Tryz.prog 215 = some (true, 8) := by kernel_rfl
theorem a1125 : sl? Tryz.prog 215 = none := by kernel_rfl
theorem a1126 : ar? Tryz.prog 215 = none := by kernel_rfl
theorem a1127 : fo? Tryz.prog 215 0 = some (0, 3) := by kernel_rfl
theorem a1128 : fo? Tryz.prog 215 1 = some (1, 9) := by kernel_rfl
theorem a1129 : fo? Tryz.prog 215 2 = some (2, 9) := by kernel_rfl
theorem a1130 : fo? Tryz.prog 215 3 = some (3, 34) := by kernel_rfl
theorem a1131 : fo? Tryz.prog 215 4 = some (5, 9) := by kernel_rfl
theorem a1132 : fo? Tryz.prog 215 5 = some (6, 9) := by kernel_rfl
theorem a1133 : fo? Tryz.prog 215 6 = some (7, 3) := by kernel_rfl
theorem a1134 : cellsT Tryz.prog 215 = some [2, 0, 0, 0, 0, 0, 0, 2] := by kernel_rfl
theorem a1135 : zero? Tryz.prog 215 = some [.d (.int .i64 (0)), .d (.str []), .d (.str []), .d (.str []), .d (.str []), .d (.str []), .d (.str []), .d (.int .i64 (0))] := by kernel_rfl
theorem a1136 : kd? Tryz.prog 216 = 7 := by kernel_rfl
theorem a1137 : ty? Tryz.prog 216 = some (true, 8) := by kernel_rfl
theorem a1138 : sl? Tryz.prog 216 = none := by kernel_rfl
theorem a1139 : ar? Tryz.prog 216 = none := by kernel_rfl
theorem a1140 : fo? Tryz.prog 216 0 = some (0, 3) := by kernel_rfl
theorem a1141 : fo? Tryz.prog 216 1 = some (1, 9) := by kernel_rfl
theorem a1142 : fo? Tryz.prog 216 2 = some (2, 9) := by kernel_rfl
theorem a1143 : fo? Tryz.prog 216 3 = some (3, 34) := by kernel_rfl
theorem a1144 : fo? Tryz.prog 216 4 = some (5, 9) := by kernel_rfl
theorem a1145 : fo? Tryz.prog 216 5 = some (6, 9) := by kernel_rfl
theorem a1146 : fo? Tryz.prog 216 6 = some (7, 3) := by kernel_rfl
theorem a1147 : cellsT Tryz.prog 216 = some [2, 0, 0, 0, 0, 0, 0, 2] := by kernel_rfl
theorem a1148 : zero? Tryz.prog 216 = some [.d (.int .i64 (0)), .d (.str []), .d (.str []), .d (.str []), .d (.str []), .d (.str []), .d (.str []), .d (.int .i64 (0))] := by kernel_rfl
theorem a1149 : kd? Tryz.prog 217 = 7 := by kernel_rfl
theorem a1150 : ty? Tryz.prog 217 = some (true, 8) := by kernel_rfl
theorem a1151 : sl? Tryz.prog 217 = none := by kernel_rfl
theorem a1152 : ar? Tryz.prog 217 = none := by kernel_rfl
theorem a1153 : fo? Tryz.prog 217 0 = some (0, 3) := by kernel_rfl
theorem a1154 : fo? Tryz.prog 217 1 = some (1, 9) := by kernel_rfl
theorem a1155 : fo? Tryz.prog 217 2 = some (2, 9) := by kernel_rfl
theorem a1156 : fo? Tryz.prog 217 3 = some (3, 34) := by kernel_rfl
theorem a1157 : fo? Tryz.prog 217 4 = some (5, 9) := by kernel_rfl
theorem a1158 : fo? Tryz.prog 217 5 = some (6, 9) := by kernel_rfl
theorem a1159 : fo? Tryz.prog 217 6 = some (7, 3) := by kernel_rfl
theorem a1160 : cellsT Tryz.prog 217 = some [2, 0, 0, 0, 0, 0, 0, 2] := by kernel_rfl
theorem a1161 : zero? Tryz.prog 217 = some [.d (.int .i64 (0)), .d (.str []), .d (.str []), .d (.str []), .d (.str []), .d (.str []), .d (.str []), .d (.int .i64 (0))] := by kernel_rfl
theorem a1162 : kd? Tryz.prog 218 = 7 := by kernel_rfl
theorem a1163 : ty? Tryz.prog 218 = some (true, 8) := by kernel_rfl
theorem a1164 : sl? Tryz.prog 218 = none := by kernel_rfl
theorem a1165 : ar? Tryz.prog 218 = none := by kernel_rfl
theorem a1166 : fo? Tryz.prog 218 0 = some (0, 3) := by kernel_rfl
theorem a1167 : fo? Tryz.prog 218 1 = some (1, 9) := by kernel_rfl
theorem a1168 : fo? Tryz.prog 218 2 = some (2, 9) := by kernel_rfl
theorem a1169 : fo? Tryz.prog 218 3 = some (3, 34) := by kernel_rfl
theorem a1170 : fo? Tryz.prog 218 4 = some (5, 9) := by kernel_rfl
theorem a1171 : fo? Tryz.prog 218 5 = some (6, 9) := by kernel_rfl
theorem a1172 : fo? Tryz.prog 218 6 = some (7, 3) := by kernel_rfl
theorem a1173 : cellsT Tryz.prog 218 = some [2, 0, 0, 0, 0, 0, 0, 2] := by kernel_rfl
theorem a1174 : zero? Tryz.prog 218 = some [.d (.int .i64 (0)), .d (.str []), .d (.str []), .d (.str []), .d (.str []), .d (.str []), .d (.str []), .d (.int .i64 (0))] := by kernel_rfl
theorem a1175 : kd? Tryz.prog 219 = 7 := by kernel_rfl
theorem a1176 : ty? Tryz.prog 219 = some (true, 8) := by kernel_rfl
theorem a1177 : sl? Tryz.prog 219 = none := by kernel_rfl
theorem a1178 : ar? Tryz.prog 219 = none := by kernel_rfl
theorem a1179 : fo? Tryz.prog 219 0 = some (0, 3) := by kernel_rfl
theorem a1180 : fo? Tryz.prog 219 1 = some (1, 9) := by kernel_rfl
theorem a1181 : fo? Tryz.prog 219 2 = some (2, 9) := by kernel_rfl
theorem a1182 : fo? Tryz.prog 219 3 = some (3, 34) := by kernel_rfl
theorem a1183 : fo? Tryz.prog 219 4 = some (5, 9) := by kernel_rfl
theorem a1184 : fo? Tryz.prog 219 5 = some (6, 9) := by kernel_rfl
theorem a1185 : fo? Tryz.prog 219 6 = some (7, 3) := by kernel_rfl
theorem a1186 : cellsT Tryz.prog 219 = some [2, 0, 0, 0, 0, 0, 0, 2] := by kernel_rfl
theorem a1187 : zero? Tryz.prog 219 = some [.d (.int .i64 (0)), .d (.str []), .d (.str []), .d (.str []), .d (.str []), .d (.str []), .d (.str []), .d (.int .i64 (0))] := by kernel_rfl
theorem a1437 : kd? Tryz.prog 278 = 7 := by kernel_rfl
theorem a1438 : ty? Tryz.prog 278 = some (true, 2) := by kernel_rfl
theorem a1439 : sl? Tryz.prog 278 = none := by kernel_rfl
theorem a1440 : ar? Tryz.prog 278 = none := by kernel_rfl
theorem a1441 : fo? Tryz.prog 278 0 = some (0, 44) := by kernel_rfl
theorem a1442 : fo? Tryz.prog 278 1 = some (1, 4) := by kernel_rfl
theorem a1443 : zero? Tryz.prog 278 = some [.nilS, .d (.bool false)] := by kernel_rfl
theorem a1632 : kd? Tryz.prog 317 = 7 := by kernel_rfl
theorem a1633 : ty? Tryz.prog 317 = some (true, 2) := by kernel_rfl
theorem a1634 : sl? Tryz.prog 317 = none := by kernel_rfl
theorem a1635 : ar? Tryz.prog 317 = none := by kernel_rfl
theorem a1636 : fo? Tryz.prog 317 0 = some (0, 3) := by kernel_rfl
theorem a1637 : fo? Tryz.prog 317 1 = some (1, 3) := by kernel_rfl
theorem a1638 : cellsT Tryz.prog 317 = some [2, 2] := by kernel_rfl
theorem a1639 : zero? Tryz.prog 317 = some [.d (.int .i64 (0)), .d (.int .i64 (0))] := by kernel_rfl
theorem a1648 : kd? Tryz.prog 319 = 7 := by kernel_rfl
theorem a1649 : ty? Tryz.prog 319 = some (true, 4) := by kernel_rfl
theorem a1650 : sl? Tryz.prog 319 = none := by kernel_rfl
theorem a1651 : ar? Tryz.prog 319 = none := by kernel_rfl
theorem a1652 : fo? Tryz.prog 319 0 = some (0, 317) := by kernel_rfl
theorem a1653 : fo? Tryz.prog 319 1 = some (2, 317) := by kernel_rfl
theorem a1654 : cellsT Tryz.prog 319 = some [2, 2, 2, 2] := by kernel_rfl
theorem a1655 : zero? Tryz.prog 319 = some [.d (.int .i64 (0)), .d (.int .i64 (0)), .d (.int .i64 (0)), .d (.int .i64 (0))] := by kernel_rfl
theorem a2427 : meth? Tryz.prog 17 "Align" = some 395 := by kernel_rfl
theorem a2430 : meth? Tryz.prog 39 "Error" = some 398 := by kernel_rfl
theorem a2431 : meth? Tryz.prog 100 "downspout/receive.checks" = some 53 := by kernel_rfl
theorem a2432 : meth? Tryz.prog 100 "downspout/receive.end" = some 83 := by kernel_rfl
theorem a2433 : meth? Tryz.prog 100 "downspout/receive.fits" = some 86 := by kernel_rfl
theorem a2434 : meth? Tryz.prog 100 "downspout/receive.follows" = some 88 := by kernel_rfl
theorem a2435 : meth? Tryz.prog 100 "downspout/receive.like" = some 52 := by kernel_rfl
theorem a2438 : meth? Tryz.prog 171 "downspout/tree.below" = some 132 := by kernel_rfl
theorem a2439 : meth? Tryz.prog 171 "downspout/tree.pairs" = some 108 := by kernel_rfl
theorem a2442 : meth? Tryz.prog 214 "downspout/msg.apply" = some 400 := by kernel_rfl
theorem a2443 : meth? Tryz.prog 214 "downspout/msg.bare" = some 401 := by kernel_rfl
theorem a2444 : meth? Tryz.prog 214 "downspout/msg.reads" = some 402 := by kernel_rfl
theorem a2445 : meth? Tryz.prog 214 "downspout/msg.valid" = some 403 := by kernel_rfl
theorem a2446 : meth? Tryz.prog 214 "downspout/msg.write" = some 404 := by kernel_rfl
theorem a2447 : meth? Tryz.prog 214 "downspout/msg.writes" = some 405 := by kernel_rfl
theorem a2448 : meth? Tryz.prog 215 "downspout/msg.apply" = some 420 := by kernel_rfl
theorem a2449 : meth? Tryz.prog 215 "downspout/msg.bare" = some 421 := by kernel_rfl
theorem a2450 : meth? Tryz.prog 215 "downspout/msg.reads" = some 422 := by kernel_rfl
theorem a2451 : meth? Tryz.prog 215 "downspout/msg.valid" = some 423 := by kernel_rfl
theorem a2452 : meth? Tryz.prog 215 "downspout/msg.write" = some 424 := by kernel_rfl
theorem a2453 : meth? Tryz.prog 215 "downspout/msg.writes" = some 425 := by kernel_rfl
theorem a2454 : meth? Tryz.prog 216 "downspout/msg.apply" = some 431 := by kernel_rfl
theorem a2455 : meth? Tryz.prog 216 "downspout/msg.bare" = some 432 := by kernel_rfl
theorem a2456 : meth? Tryz.prog 216 "downspout/msg.reads" = some 433 := by kernel_rfl
theorem a2457 : meth? Tryz.prog 216 "downspout/msg.valid" = some 434 := by kernel_rfl
theorem a2458 : meth? Tryz.prog 216 "downspout/msg.write" = some 435 := by kernel_rfl
theorem a2459 : meth? Tryz.prog 216 "downspout/msg.writes" = some 436 := by kernel_rfl
theorem a2460 : meth? Tryz.prog 217 "downspout/msg.apply" = some 438 := by kernel_rfl
theorem a2461 : meth? Tryz.prog 217 "downspout/msg.bare" = some 439 := by kernel_rfl
theorem a2462 : meth? Tryz.prog 217 "downspout/msg.reads" = some 440 := by kernel_rfl
theorem a2463 : meth? Tryz.prog 217 "downspout/msg.valid" = some 441 := by kernel_rfl
theorem a2464 : meth? Tryz.prog 217 "downspout/msg.write" = some 442 := by kernel_rfl
theorem a2465 : meth? Tryz.prog 217 "downspout/msg.writes" = some 443 := by kernel_rfl
theorem a2466 : meth? Tryz.prog 218 "downspout/msg.apply" = some 444 := by kernel_rfl
theorem a2467 : meth? Tryz.prog 218 "downspout/msg.bare" = some 450 := by kernel_rfl
theorem a2468 : meth? Tryz.prog 218 "downspout/msg.reads" = some 451 := by kernel_rfl
theorem a2469 : meth? Tryz.prog 218 "downspout/msg.valid" = some 452 := by kernel_rfl
theorem a2470 : meth? Tryz.prog 218 "downspout/msg.write" = some 453 := by kernel_rfl
theorem a2471 : meth? Tryz.prog 218 "downspout/msg.writes" = some 454 := by kernel_rfl
theorem a2472 : meth? Tryz.prog 219 "downspout/msg.apply" = some 455 := by kernel_rfl
theorem a2473 : meth? Tryz.prog 219 "downspout/msg.bare" = some 456 := by kernel_rfl
theorem a2474 : meth? Tryz.prog 219 "downspout/msg.reads" = some 457 := by kernel_rfl
theorem a2475 : meth? Tryz.prog 219 "downspout/msg.valid" = some 458 := by kernel_rfl
theorem a2476 : meth? Tryz.prog 219 "downspout/msg.write" = some 459 := by kernel_rfl
theorem a2477 : meth? Tryz.prog 219 "downspout/msg.writes" = some 460 := by kernel_rfl
def fB1 := And.intro a8 (And.intro a9 (And.intro a10 (And.intro a11 (And.intro a12 (And.intro a13 (And.intro a14 (And.intro a15 (And.intro a16 (And.intro a17 (And.intro a18 (And.intro a19 (And.intro a20 (And.intro a21 (And.intro a22 (And.intro a23 (And.intro a24 (And.intro a25 (And.intro a26 (And.intro a27 (And.intro a28 (And.intro a29 (And.intro a30 (And.intro a31 (And.intro a52 (And.intro a53 (And.intro a54 (And.intro a55 (And.intro a64 (And.intro a65 (And.intro a66 (And.intro a67 (And.intro a68 (And.intro a91 (And.intro a92 (And.intro a93 (And.intro a94 (And.intro a107 (And.intro a108 (a109)))))))))))))))))))))))))))))))))))))))
def fB2 := And.intro a110 (And.intro a116 (And.intro a117 (And.intro a118 (And.intro a119 (And.intro a120 (And.intro a121 (And.intro a122 (And.intro a123 (And.intro a124 (And.intro a125 (And.intro a126 (And.intro a127 (And.intro a128 (And.intro a129 (And.intro a130 (And.intro a131 (And.intro a132 (And.intro a133 (And.intro a134 (And.intro a135 (And.intro a136 (And.intro a137 (And.intro a142 (And.intro a143 (And.intro a144 (And.intro a145 (And.intro a163 (And.intro a164 (And.intro a165 (And.intro a166 (And.intro a167 (And.intro a168 (And.intro a169 (And.intro a170 (And.intro a171 (And.intro a172 (And.intro a173 (And.intro a174 (a175)))))))))))))))))))))))))))))))))))))))
def fB3 := And.intro a188 (And.intro a189 (And.intro a190 (And.intro a191 (And.intro a192 (And.intro a193 (And.intro a194 (And.intro a195 (And.intro a209 (And.intro a210 (And.intro a211 (And.intro a212 (And.intro a213 (And.intro a214 (And.intro a215 (And.intro a216 (And.intro a217 (And.intro a218 (And.intro a219 (And.intro a220 (And.intro a221 (And.intro a235 (And.intro a236 (And.intro a237 (And.intro a238 (And.intro a239 (And.intro a240 (And.intro a241 (And.intro a242 (And.intro a243 (And.intro a244 (And.intro a245 (And.intro a246 (And.intro a247 (And.intro a248 (And.intro a249 (And.intro a250 (And.intro a251 (And.intro a252 (a260)))))))))))))))))))))))))))))))))))))))
def fB4 := And.intro a261 (And.intro a262 (And.intro a263 (And.intro a264 (And.intro a265 (And.intro a266 (And.intro a275 (And.intro a276 (And.intro a277 (And.intro a278 (And.intro a292 (And.intro a293 (And.intro a294 (And.intro a295 (And.intro a296 (And.intro a297 (And.intro a298 (And.intro a299 (And.intro a300 (And.intro a309 (And.intro a310 (And.intro a311 (And.intro a312 (And.intro a313 (And.intro a326 (And.intro a327 (And.intro a328 (And.intro a329 (And.intro a330 (And.intro a347 (And.intro a348 (And.intro a349 (And.intro a350 (And.intro a357 (And.intro a358 (And.intro a359 (And.intro a360 (And.intro a361 (And.intro a362 (a372)))))))))))))))))))))))))))))))))))))))
def fB5 := And.intro a373 (And.intro a374 (And.intro a375 (And.intro a376 (And.intro a377 (And.intro a378 (And.intro a379 (And.intro a380 (And.intro a381 (And.intro a382 (And.intro a383 (And.intro a384 (And.intro a397 (And.intro a398 (And.intro a399 (And.intro a400 (And.intro a401 (And.intro a402 (And.intro a403 (And.intro a404 (And.intro a405 (And.intro a406 (And.intro a407 (And.intro a408 (And.intro a430 (And.intro a431 (And.intro a432 (And.intro a433 (And.intro a434 (And.intro a479 (And.intro a480 (And.intro a481 (And.intro a482 (And.intro a503 (And.intro a504 (And.intro a505 (And.intro a506 (And.intro a507 (And.intro a508 (a509)))))))))))))))))))))))))))))))))))))))
def fB6 := And.intro a510 (And.intro a511 (And.intro a512 (And.intro a513 (And.intro a514 (And.intro a551 (And.intro a552 (And.intro a553 (And.intro a554 (And.intro a562 (And.intro a563 (And.intro a564 (And.intro a565 (And.intro a566 (And.intro a567 (And.intro a568 (And.intro a593 (And.intro a594 (And.intro a595 (And.intro a596 (And.intro a597 (And.intro a634 (And.intro a635 (And.intro a636 (And.intro a637 (And.intro a638 (And.intro a639 (And.intro a640 (And.intro a641 (And.intro a696 (And.intro a697 (And.intro a698 (And.intro a699 (And.intro a700 (And.intro a701 (And.intro a715 (And.intro a716 (And.intro a717 (And.intro a718 (a719)))))))))))))))))))))))))))))))))))))))
def fB7 := And.intro a720 (And.intro a721 (And.intro a722 (And.intro a723 (And.intro a752 (And.intro a753 (And.intro a754 (And.intro a755 (And.intro a764 (And.intro a765 (And.intro a766 (And.intro a767 (And.intro a768 (And.intro a769 (And.intro a770 (And.intro a771 (And.intro a812 (And.intro a813 (And.intro a814 (And.intro a815 (And.intro a816 (And.intro a817 (And.intro a818 (And.intro a819 (And.intro a824 (And.intro a825 (And.intro a826 (And.intro a827 (And.intro a828 (And.intro a829 (And.intro a830 (And.intro a831 (And.intro a842 (And.intro a843 (And.intro a844 (And.intro a845 (And.intro a846 (And.intro a847 (And.intro a848 (a849)))))))))))))))))))))))))))))))))))))))
def fB8 := And.intro a850 (And.intro a851 (And.intro a886 (And.intro a887 (And.intro a888 (And.intro a889 (And.intro a890 (And.intro a891 (And.intro a892 (And.intro a893 (And.intro a894 (And.intro a895 (And.intro a912 (And.intro a913 (And.intro a914 (And.intro a915 (And.intro a923 (And.intro a924 (And.intro a925 (And.intro a926 (And.intro a927 (And.intro a928 (And.intro a929 (And.intro a942 (And.intro a943 (And.intro a944 (And.intro a945 (And.intro a950 (And.intro a951 (And.intro a952 (And.intro a953 (And.intro a1032 (And.intro a1033 (And.intro a1034 (And.intro a1035 (And.intro a1036 (And.intro a1037 (And.intro a1055 (And.intro a1056 (a1057)))))))))))))))))))))))))))))))))))))))
def fB9 := And.intro a1058 (And.intro a1059 (And.intro a1060 (And.intro a1061 (And.intro a1062 (And.intro a1063 (And.intro a1110 (And.intro a1111 (And.intro a1112 (And.intro a1113 (And.intro a1114 (And.intro a1115 (And.intro a1116 (And.intro a1117 (And.intro a1118 (And.intro a1119 (And.intro a1120 (And.intro a1121 (And.intro a1122 (And.intro a1123 (And.intro a1124 (And.intro a1125 (And.intro a1126 (And.intro a1127 (And.intro a1128 (And.intro a1129 (And.intro a1130 (And.intro a1131 (And.intro a1132 (And.intro a1133 (And.intro a1134 (And.intro a1135 (And.intro a1136 (And.intro a1137 (And.intro a1138 (And.intro a1139 (And.intro a1140 (And.intro a1141 (And.intro a1142 (a1143)))))))))))))))))))))))))))))))))))))))
def fB10 := And.intro a1144 (And.intro a1145 (And.intro a1146 (And.intro a1147 (And.intro a1148 (And.intro a1149 (And.intro a1150 (And.intro a1151 (And.intro a1152 (And.intro a1153 (And.intro a1154 (And.intro a1155 (And.intro a1156 (And.intro a1157 (And.intro a1158 (And.intro a1159 (And.intro a1160 (And.intro a1161 (And.intro a1162 (And.intro a1163 (And.intro a1164 (And.intro a1165 (And.intro a1166 (And.intro a1167 (And.intro a1168 (And.intro a1169 (And.intro a1170 (And.intro a1171 (And.intro a1172 (And.intro a1173 (And.intro a1174 (And.intro a1175 (And.intro a1176 (And.intro a1177 (And.intro a1178 (And.intro a1179 (And.intro a1180 (And.intro a1181 (And.intro a1182 (a1183)))))))))))))))))))))))))))))))))))))))
def fB11 := And.intro a1184 (And.intro a1185 (And.intro a1186 (And.intro a1187 (And.intro a1437 (And.intro a1438 (And.intro a1439 (And.intro a1440 (And.intro a1441 (And.intro a1442 (And.intro a1443 (And.intro a1632 (And.intro a1633 (And.intro a1634 (And.intro a1635 (And.intro a1636 (And.intro a1637 (And.intro a1638 (And.intro a1639 (And.intro a1648 (And.intro a1649 (And.intro a1650 (And.intro a1651 (And.intro a1652 (And.intro a1653 (And.intro a1654 (And.intro a1655 (And.intro a2427 (And.intro a2430 (And.intro a2431 (And.intro a2432 (And.intro a2433 (And.intro a2434 (And.intro a2435 (And.intro a2438 (And.intro a2439 (And.intro a2442 (And.intro a2443 (And.intro a2444 (a2445)))))))))))))))))))))))))))))))))))))))
def fB12 := And.intro a2446 (And.intro a2447 (And.intro a2448 (And.intro a2449 (And.intro a2450 (And.intro a2451 (And.intro a2452 (And.intro a2453 (And.intro a2454 (And.intro a2455 (And.intro a2456 (And.intro a2457 (And.intro a2458 (And.intro a2459 (And.intro a2460 (And.intro a2461 (And.intro a2462 (And.intro a2463 (And.intro a2464 (And.intro a2465 (And.intro a2466 (And.intro a2467 (And.intro a2468 (And.intro a2469 (And.intro a2470 (And.intro a2471 (And.intro a2472 (And.intro a2473 (And.intro a2474 (And.intro a2475 (And.intro a2476 (a2477)))))))))))))))))))))))))))))))
def fBs := And.intro fB1 (And.intro fB2 (And.intro fB3 (And.intro fB4 (And.intro fB5 (And.intro fB6 (And.intro fB7 (And.intro fB8 (And.intro fB9 (And.intro fB10 (And.intro fB11 (fB12)))))))))))
end Go.PE.F
