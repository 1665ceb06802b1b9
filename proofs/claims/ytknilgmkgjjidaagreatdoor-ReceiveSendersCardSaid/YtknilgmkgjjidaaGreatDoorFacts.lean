/- Closed facts on the program's types (printed by wip/tools/facts.lean). -/
import Derived.Test.YtknilgmkgjjidaaGreatDoorPe1
import Derived.Test.YtknilgmkgjjidaaGreatDoorProg
import Derived.KernelRfl
set_option linter.defProp false
namespace Go.PE.F
open Go Go.Proofs
theorem mixed : Tryz.prog.follows .mixedOrders = true := by kernel_rfl
theorem a8 : kd? Tryz.prog 2 = 13 := by kernel_rfl
theorem a9 : ty? Tryz.prog 2 = some (false, 1) := by kernel_rfl
theorem a10 : sl? Tryz.prog 2 = none := by kernel_rfl
theorem a11 : zi? Tryz.prog 2 = some .i64 := by kernel_rfl
theorem a12 : zero? Tryz.prog 2 = some [.d (.int .i64 (0))] := by kernel_rfl
theorem a13 : kd? Tryz.prog 3 = 13 := by kernel_rfl
theorem a14 : ty? Tryz.prog 3 = some (false, 1) := by kernel_rfl
theorem a15 : sl? Tryz.prog 3 = none := by kernel_rfl
theorem a16 : zi? Tryz.prog 3 = some .i64 := by kernel_rfl
theorem a17 : zero? Tryz.prog 3 = some [.d (.int .i64 (0))] := by kernel_rfl
theorem a18 : kd? Tryz.prog 4 = 1 := by kernel_rfl
theorem a19 : ty? Tryz.prog 4 = some (false, 1) := by kernel_rfl
theorem a20 : sl? Tryz.prog 4 = none := by kernel_rfl
theorem a21 : zero? Tryz.prog 4 = some [.d (.bool false)] := by kernel_rfl
theorem a22 : kd? Tryz.prog 5 = 14 := by kernel_rfl
theorem a23 : ty? Tryz.prog 5 = some (false, 1) := by kernel_rfl
theorem a24 : sl? Tryz.prog 5 = none := by kernel_rfl
theorem a25 : zi? Tryz.prog 5 = some .u8 := by kernel_rfl
theorem a26 : zero? Tryz.prog 5 = some [.d (.int .u8 (0))] := by kernel_rfl
theorem a27 : kd? Tryz.prog 6 = 14 := by kernel_rfl
theorem a28 : ty? Tryz.prog 6 = some (false, 1) := by kernel_rfl
theorem a29 : sl? Tryz.prog 6 = none := by kernel_rfl
theorem a30 : zi? Tryz.prog 6 = some .u8 := by kernel_rfl
theorem a31 : zero? Tryz.prog 6 = some [.d (.int .u8 (0))] := by kernel_rfl
theorem a52 : kd? Tryz.prog 9 = 0 := by kernel_rfl
theorem a53 : ty? Tryz.prog 9 = some (false, 1) := by kernel_rfl
theorem a54 : sl? Tryz.prog 9 = none := by kernel_rfl
theorem a55 : zero? Tryz.prog 9 = some [.d (.str [])] := by kernel_rfl
theorem a64 : kd? Tryz.prog 12 = 17 := by kernel_rfl
theorem a65 : ty? Tryz.prog 12 = some (false, 1) := by kernel_rfl
theorem a66 : sl? Tryz.prog 12 = none := by kernel_rfl
theorem a67 : zi? Tryz.prog 12 = some .u64 := by kernel_rfl
theorem a68 : zero? Tryz.prog 12 = some [.d (.int .u64 (0))] := by kernel_rfl
theorem a107 : kd? Tryz.prog 20 = 3 := by kernel_rfl
theorem a108 : ty? Tryz.prog 20 = some (false, 1) := by kernel_rfl
theorem a109 : sl? Tryz.prog 20 = none := by kernel_rfl
theorem a110 : zero? Tryz.prog 20 = some [.d (.nilI)] := by kernel_rfl
theorem a116 : kd? Tryz.prog 22 = 6 := by kernel_rfl
theorem a117 : ty? Tryz.prog 22 = some (false, 1) := by kernel_rfl
theorem a118 : sl? Tryz.prog 22 = some (64, 6, 6) := by kernel_rfl
theorem a119 : zero? Tryz.prog 22 = some [.nilS] := by kernel_rfl
theorem a120 : kd? Tryz.prog 23 = 6 := by kernel_rfl
theorem a121 : ty? Tryz.prog 23 = some (false, 1) := by kernel_rfl
theorem a122 : sl? Tryz.prog 23 = some (5, 1, 1) := by kernel_rfl
theorem a123 : zero? Tryz.prog 23 = some [.nilS] := by kernel_rfl
theorem a128 : kd? Tryz.prog 25 = 6 := by kernel_rfl
theorem a129 : ty? Tryz.prog 25 = some (false, 1) := by kernel_rfl
theorem a130 : sl? Tryz.prog 25 = some (38, 14, 160) := by kernel_rfl
theorem a131 : zero? Tryz.prog 25 = some [.nilS] := by kernel_rfl
theorem a136 : kd? Tryz.prog 27 = 17 := by kernel_rfl
theorem a137 : ty? Tryz.prog 27 = some (false, 1) := by kernel_rfl
theorem a138 : sl? Tryz.prog 27 = none := by kernel_rfl
theorem a139 : zi? Tryz.prog 27 = some .u64 := by kernel_rfl
theorem a140 : zero? Tryz.prog 27 = some [.d (.int .u64 (0))] := by kernel_rfl
theorem a141 : kd? Tryz.prog 28 = 6 := by kernel_rfl
theorem a142 : ty? Tryz.prog 28 = some (false, 1) := by kernel_rfl
theorem a143 : sl? Tryz.prog 28 = some (36, 8, 112) := by kernel_rfl
theorem a144 : zero? Tryz.prog 28 = some [.nilS] := by kernel_rfl
theorem a162 : kd? Tryz.prog 31 = 7 := by kernel_rfl
theorem a163 : ty? Tryz.prog 31 = some (true, 8) := by kernel_rfl
theorem a164 : sl? Tryz.prog 31 = none := by kernel_rfl
theorem a165 : ar? Tryz.prog 31 = none := by kernel_rfl
theorem a166 : fo? Tryz.prog 31 0 = some (0, 4) := by kernel_rfl
theorem a167 : fo? Tryz.prog 31 1 = some (1, 4) := by kernel_rfl
theorem a168 : fo? Tryz.prog 31 2 = some (2, 3) := by kernel_rfl
theorem a169 : fo? Tryz.prog 31 3 = some (3, 3) := by kernel_rfl
theorem a170 : fo? Tryz.prog 31 4 = some (4, 27) := by kernel_rfl
theorem a171 : fo? Tryz.prog 31 5 = some (5, 27) := by kernel_rfl
theorem a172 : fo? Tryz.prog 31 6 = some (6, 27) := by kernel_rfl
theorem a173 : fo? Tryz.prog 31 7 = some (7, 28) := by kernel_rfl
theorem a174 : zero? Tryz.prog 31 = some [.d (.bool false), .d (.bool false), .d (.int .i64 (0)), .d (.int .i64 (0)), .d (.int .u64 (0)), .d (.int .u64 (0)), .d (.int .u64 (0)), .nilS] := by kernel_rfl
theorem a175 : kd? Tryz.prog 32 = 4 := by kernel_rfl
theorem a176 : ty? Tryz.prog 32 = some (true, 2) := by kernel_rfl
theorem a177 : sl? Tryz.prog 32 = none := by kernel_rfl
theorem a178 : ar? Tryz.prog 32 = some (2, 1) := by kernel_rfl
theorem a179 : zero? Tryz.prog 32 = some [.nilS, .nilS] := by kernel_rfl
theorem a188 : kd? Tryz.prog 34 = 7 := by kernel_rfl
theorem a189 : ty? Tryz.prog 34 = some (true, 2) := by kernel_rfl
theorem a190 : sl? Tryz.prog 34 = none := by kernel_rfl
theorem a191 : ar? Tryz.prog 34 = none := by kernel_rfl
theorem a192 : fo? Tryz.prog 34 0 = some (0, 9) := by kernel_rfl
theorem a193 : fo? Tryz.prog 34 1 = some (1, 9) := by kernel_rfl
theorem a194 : cellsT Tryz.prog 34 = some [0, 0] := by kernel_rfl
theorem a195 : zero? Tryz.prog 34 = some [.d (.str []), .d (.str [])] := by kernel_rfl
theorem a209 : kd? Tryz.prog 36 = 7 := by kernel_rfl
theorem a210 : ty? Tryz.prog 36 = some (true, 8) := by kernel_rfl
theorem a211 : sl? Tryz.prog 36 = none := by kernel_rfl
theorem a212 : ar? Tryz.prog 36 = none := by kernel_rfl
theorem a213 : fo? Tryz.prog 36 0 = some (0, 3) := by kernel_rfl
theorem a214 : fo? Tryz.prog 36 1 = some (1, 9) := by kernel_rfl
theorem a215 : fo? Tryz.prog 36 2 = some (2, 9) := by kernel_rfl
theorem a216 : fo? Tryz.prog 36 3 = some (3, 34) := by kernel_rfl
theorem a217 : fo? Tryz.prog 36 4 = some (5, 9) := by kernel_rfl
theorem a218 : fo? Tryz.prog 36 5 = some (6, 9) := by kernel_rfl
theorem a219 : fo? Tryz.prog 36 6 = some (7, 3) := by kernel_rfl
theorem a220 : cellsT Tryz.prog 36 = some [2, 0, 0, 0, 0, 0, 0, 2] := by kernel_rfl
theorem a221 : zero? Tryz.prog 36 = some [.d (.int .i64 (0)), .d (.str []), .d (.str []), .d (.str []), .d (.str []), .d (.str []), .d (.str []), .d (.int .i64 (0))] := by kernel_rfl
theorem a235 : kd? Tryz.prog 38 = 7 := by kernel_rfl
theorem a236 : ty? Tryz.prog 38 = some (true, 14) := by kernel_rfl
theorem a237 : sl? Tryz.prog 38 = none := by kernel_rfl
theorem a238 : ar? Tryz.prog 38 = none := by kernel_rfl
theorem a239 : fo? Tryz.prog 38 0 = some (0, 3) := by kernel_rfl
theorem a240 : fo? Tryz.prog 38 1 = some (1, 3) := by kernel_rfl
theorem a241 : fo? Tryz.prog 38 2 = some (2, 3) := by kernel_rfl
theorem a242 : fo? Tryz.prog 38 3 = some (3, 27) := by kernel_rfl
theorem a243 : fo? Tryz.prog 38 4 = some (4, 27) := by kernel_rfl
theorem a244 : fo? Tryz.prog 38 5 = some (5, 36) := by kernel_rfl
theorem a245 : fo? Tryz.prog 38 6 = some (13, 27) := by kernel_rfl
theorem a246 : cellsT Tryz.prog 38 = some [2, 2, 2, 2, 2, 2, 0, 0, 0, 0, 0, 0, 2, 2] := by kernel_rfl
theorem a247 : zero? Tryz.prog 38 = some [.d (.int .i64 (0)), .d (.int .i64 (0)), .d (.int .i64 (0)), .d (.int .u64 (0)), .d (.int .u64 (0)), .d (.int .i64 (0)), .d (.str []), .d (.str []), .d (.str []), .d (.str []), .d (.str []), .d (.str []), .d (.int .i64 (0)), .d (.int .u64 (0))] := by kernel_rfl
theorem a248 : kd? Tryz.prog 39 = 13 := by kernel_rfl
theorem a249 : ty? Tryz.prog 39 = some (false, 1) := by kernel_rfl
theorem a250 : sl? Tryz.prog 39 = none := by kernel_rfl
theorem a251 : zi? Tryz.prog 39 = some .i64 := by kernel_rfl
theorem a252 : zero? Tryz.prog 39 = some [.d (.int .i64 (0))] := by kernel_rfl
theorem a260 : kd? Tryz.prog 41 = 7 := by kernel_rfl
theorem a261 : ty? Tryz.prog 41 = some (true, 9) := by kernel_rfl
theorem a262 : sl? Tryz.prog 41 = none := by kernel_rfl
theorem a263 : ar? Tryz.prog 41 = none := by kernel_rfl
theorem a264 : fo? Tryz.prog 41 0 = some (0, 31) := by kernel_rfl
theorem a265 : fo? Tryz.prog 41 1 = some (8, 39) := by kernel_rfl
theorem a266 : zero? Tryz.prog 41 = some [.d (.bool false), .d (.bool false), .d (.int .i64 (0)), .d (.int .i64 (0)), .d (.int .u64 (0)), .d (.int .u64 (0)), .d (.int .u64 (0)), .nilS, .d (.int .i64 (0))] := by kernel_rfl
theorem a291 : kd? Tryz.prog 48 = 6 := by kernel_rfl
theorem a292 : ty? Tryz.prog 48 = some (false, 1) := by kernel_rfl
theorem a293 : sl? Tryz.prog 48 = some (182, 8, 136) := by kernel_rfl
theorem a294 : zero? Tryz.prog 48 = some [.nilS] := by kernel_rfl
theorem a301 : kd? Tryz.prog 50 = 7 := by kernel_rfl
theorem a302 : ty? Tryz.prog 50 = some (true, 1) := by kernel_rfl
theorem a303 : sl? Tryz.prog 50 = none := by kernel_rfl
theorem a304 : ar? Tryz.prog 50 = none := by kernel_rfl
theorem a305 : fo? Tryz.prog 50 0 = some (0, 48) := by kernel_rfl
theorem a306 : zero? Tryz.prog 50 = some [.nilS] := by kernel_rfl
theorem a316 : kd? Tryz.prog 52 = 7 := by kernel_rfl
theorem a317 : ty? Tryz.prog 52 = some (true, 3) := by kernel_rfl
theorem a318 : sl? Tryz.prog 52 = none := by kernel_rfl
theorem a319 : ar? Tryz.prog 52 = none := by kernel_rfl
theorem a320 : fo? Tryz.prog 52 0 = some (0, 3) := by kernel_rfl
theorem a321 : fo? Tryz.prog 52 1 = some (1, 3) := by kernel_rfl
theorem a322 : fo? Tryz.prog 52 2 = some (2, 3) := by kernel_rfl
theorem a323 : cellsT Tryz.prog 52 = some [2, 2, 2] := by kernel_rfl
theorem a324 : zero? Tryz.prog 52 = some [.d (.int .i64 (0)), .d (.int .i64 (0)), .d (.int .i64 (0))] := by kernel_rfl
theorem a325 : kd? Tryz.prog 53 = 6 := by kernel_rfl
theorem a326 : ty? Tryz.prog 53 = some (false, 1) := by kernel_rfl
theorem a327 : sl? Tryz.prog 53 = some (143, 5, 64) := by kernel_rfl
theorem a328 : zero? Tryz.prog 53 = some [.nilS] := by kernel_rfl
theorem a341 : kd? Tryz.prog 55 = 7 := by kernel_rfl
theorem a342 : ty? Tryz.prog 55 = some (true, 9) := by kernel_rfl
theorem a343 : sl? Tryz.prog 55 = none := by kernel_rfl
theorem a344 : ar? Tryz.prog 55 = none := by kernel_rfl
theorem a345 : fo? Tryz.prog 55 0 = some (0, 50) := by kernel_rfl
theorem a346 : fo? Tryz.prog 55 1 = some (1, 52) := by kernel_rfl
theorem a347 : fo? Tryz.prog 55 2 = some (4, 53) := by kernel_rfl
theorem a348 : fo? Tryz.prog 55 3 = some (5, 3) := by kernel_rfl
theorem a349 : fo? Tryz.prog 55 4 = some (6, 3) := by kernel_rfl
theorem a350 : fo? Tryz.prog 55 5 = some (7, 3) := by kernel_rfl
theorem a351 : fo? Tryz.prog 55 6 = some (8, 28) := by kernel_rfl
theorem a352 : zero? Tryz.prog 55 = some [.nilS, .d (.int .i64 (0)), .d (.int .i64 (0)), .d (.int .i64 (0)), .nilS, .d (.int .i64 (0)), .d (.int .i64 (0)), .d (.int .i64 (0)), .nilS] := by kernel_rfl
theorem a386 : kd? Tryz.prog 64 = 4 := by kernel_rfl
theorem a387 : ty? Tryz.prog 64 = some (true, 6) := by kernel_rfl
theorem a388 : sl? Tryz.prog 64 = none := by kernel_rfl
theorem a389 : ar? Tryz.prog 64 = some (6, 1) := by kernel_rfl
theorem a390 : zero? Tryz.prog 64 = some [.d (.int .u8 (0)), .d (.int .u8 (0)), .d (.int .u8 (0)), .d (.int .u8 (0)), .d (.int .u8 (0)), .d (.int .u8 (0))] := by kernel_rfl
theorem a411 : kd? Tryz.prog 70 = 6 := by kernel_rfl
theorem a412 : ty? Tryz.prog 70 = some (false, 1) := by kernel_rfl
theorem a413 : sl? Tryz.prog 70 = some (75, 3, 32) := by kernel_rfl
theorem a414 : zero? Tryz.prog 70 = some [.nilS] := by kernel_rfl
theorem a435 : kd? Tryz.prog 75 = 7 := by kernel_rfl
theorem a436 : ty? Tryz.prog 75 = some (true, 3) := by kernel_rfl
theorem a437 : sl? Tryz.prog 75 = none := by kernel_rfl
theorem a438 : ar? Tryz.prog 75 = none := by kernel_rfl
theorem a439 : fo? Tryz.prog 75 0 = some (0, 5) := by kernel_rfl
theorem a440 : fo? Tryz.prog 75 1 = some (1, 5) := by kernel_rfl
theorem a441 : fo? Tryz.prog 75 2 = some (2, 22) := by kernel_rfl
theorem a442 : zero? Tryz.prog 75 = some [.d (.int .u8 (0)), .d (.int .u8 (0)), .nilS] := by kernel_rfl
theorem a443 : kd? Tryz.prog 76 = 6 := by kernel_rfl
theorem a444 : ty? Tryz.prog 76 = some (false, 1) := by kernel_rfl
theorem a445 : sl? Tryz.prog 76 = some (113, 3, 40) := by kernel_rfl
theorem a446 : zero? Tryz.prog 76 = some [.nilS] := by kernel_rfl
theorem a487 : kd? Tryz.prog 87 = 5 := by kernel_rfl
theorem a488 : ty? Tryz.prog 87 = some (false, 1) := by kernel_rfl
theorem a489 : sl? Tryz.prog 87 = none := by kernel_rfl
theorem a490 : zero? Tryz.prog 87 = some [.d (.raw (.pointer none))] := by kernel_rfl
theorem a498 : kd? Tryz.prog 89 = 7 := by kernel_rfl
theorem a499 : ty? Tryz.prog 89 = some (true, 22) := by kernel_rfl
theorem a500 : sl? Tryz.prog 89 = none := by kernel_rfl
theorem a501 : ar? Tryz.prog 89 = none := by kernel_rfl
theorem a502 : fo? Tryz.prog 89 0 = some (0, 31) := by kernel_rfl
theorem a503 : fo? Tryz.prog 89 1 = some (8, 38) := by kernel_rfl
theorem a504 : zero? Tryz.prog 89 = some [.d (.bool false), .d (.bool false), .d (.int .i64 (0)), .d (.int .i64 (0)), .d (.int .u64 (0)), .d (.int .u64 (0)), .d (.int .u64 (0)), .nilS, .d (.int .i64 (0)), .d (.int .i64 (0)), .d (.int .i64 (0)), .d (.int .u64 (0)), .d (.int .u64 (0)), .d (.int .i64 (0)), .d (.str []), .d (.str []), .d (.str []), .d (.str []), .d (.str []), .d (.str []), .d (.int .i64 (0)), .d (.int .u64 (0))] := by kernel_rfl
theorem a541 : kd? Tryz.prog 98 = 7 := by kernel_rfl
theorem a542 : ty? Tryz.prog 98 = some (true, 5) := by kernel_rfl
theorem a543 : sl? Tryz.prog 98 = none := by kernel_rfl
theorem a544 : ar? Tryz.prog 98 = none := by kernel_rfl
theorem a545 : fo? Tryz.prog 98 0 = some (0, 50) := by kernel_rfl
theorem a546 : fo? Tryz.prog 98 1 = some (1, 3) := by kernel_rfl
theorem a547 : fo? Tryz.prog 98 2 = some (2, 52) := by kernel_rfl
theorem a548 : zero? Tryz.prog 98 = some [.nilS, .d (.int .i64 (0)), .d (.int .i64 (0)), .d (.int .i64 (0)), .d (.int .i64 (0))] := by kernel_rfl
theorem a603 : kd? Tryz.prog 110 = 7 := by kernel_rfl
theorem a604 : ty? Tryz.prog 110 = some (true, 1) := by kernel_rfl
theorem a605 : sl? Tryz.prog 110 = none := by kernel_rfl
theorem a606 : ar? Tryz.prog 110 = none := by kernel_rfl
theorem a607 : fo? Tryz.prog 110 0 = some (0, 23) := by kernel_rfl
theorem a608 : zero? Tryz.prog 110 = some [.nilS] := by kernel_rfl
theorem a622 : kd? Tryz.prog 113 = 7 := by kernel_rfl
theorem a623 : ty? Tryz.prog 113 = some (true, 3) := by kernel_rfl
theorem a624 : sl? Tryz.prog 113 = none := by kernel_rfl
theorem a625 : ar? Tryz.prog 113 = none := by kernel_rfl
theorem a626 : fo? Tryz.prog 113 0 = some (0, 9) := by kernel_rfl
theorem a627 : fo? Tryz.prog 113 1 = some (1, 9) := by kernel_rfl
theorem a628 : fo? Tryz.prog 113 2 = some (2, 3) := by kernel_rfl
theorem a629 : cellsT Tryz.prog 113 = some [0, 0, 2] := by kernel_rfl
theorem a630 : zero? Tryz.prog 113 = some [.d (.str []), .d (.str []), .d (.int .i64 (0))] := by kernel_rfl
theorem a659 : kd? Tryz.prog 121 = 6 := by kernel_rfl
theorem a660 : ty? Tryz.prog 121 = some (false, 1) := by kernel_rfl
theorem a661 : sl? Tryz.prog 121 = some (9, 1, 16) := by kernel_rfl
theorem a662 : zero? Tryz.prog 121 = some [.nilS] := by kernel_rfl
theorem a675 : kd? Tryz.prog 125 = 2 := by kernel_rfl
theorem a676 : ty? Tryz.prog 125 = some (false, 1) := by kernel_rfl
theorem a677 : sl? Tryz.prog 125 = none := by kernel_rfl
theorem a678 : zero? Tryz.prog 125 = some [.d (.raw .nilFunc)] := by kernel_rfl
theorem a679 : kd? Tryz.prog 126 = 6 := by kernel_rfl
theorem a680 : ty? Tryz.prog 126 = some (false, 1) := by kernel_rfl
theorem a681 : sl? Tryz.prog 126 = some (125, 1, 8) := by kernel_rfl
theorem a682 : zero? Tryz.prog 126 = some [.nilS] := by kernel_rfl
theorem a707 : kd? Tryz.prog 132 = 7 := by kernel_rfl
theorem a708 : ty? Tryz.prog 132 = some (true, 3) := by kernel_rfl
theorem a709 : sl? Tryz.prog 132 = none := by kernel_rfl
theorem a710 : ar? Tryz.prog 132 = none := by kernel_rfl
theorem a711 : fo? Tryz.prog 132 0 = some (0, 50) := by kernel_rfl
theorem a712 : fo? Tryz.prog 132 1 = some (1, 3) := by kernel_rfl
theorem a713 : fo? Tryz.prog 132 2 = some (2, 39) := by kernel_rfl
theorem a714 : zero? Tryz.prog 132 = some [.nilS, .d (.int .i64 (0)), .d (.int .i64 (0))] := by kernel_rfl
theorem a719 : kd? Tryz.prog 134 = 6 := by kernel_rfl
theorem a720 : ty? Tryz.prog 134 = some (false, 1) := by kernel_rfl
theorem a721 : sl? Tryz.prog 134 = some (3, 1, 8) := by kernel_rfl
theorem a722 : zero? Tryz.prog 134 = some [.nilS] := by kernel_rfl
theorem a723 : kd? Tryz.prog 135 = 6 := by kernel_rfl
theorem a724 : ty? Tryz.prog 135 = some (false, 1) := by kernel_rfl
theorem a725 : sl? Tryz.prog 135 = some (301, 4, 32) := by kernel_rfl
theorem a726 : zero? Tryz.prog 135 = some [.nilS] := by kernel_rfl
theorem a737 : kd? Tryz.prog 137 = 7 := by kernel_rfl
theorem a738 : ty? Tryz.prog 137 = some (true, 5) := by kernel_rfl
theorem a739 : sl? Tryz.prog 137 = none := by kernel_rfl
theorem a740 : ar? Tryz.prog 137 = none := by kernel_rfl
theorem a741 : fo? Tryz.prog 137 0 = some (0, 76) := by kernel_rfl
theorem a742 : fo? Tryz.prog 137 1 = some (1, 121) := by kernel_rfl
theorem a743 : fo? Tryz.prog 137 2 = some (2, 134) := by kernel_rfl
theorem a744 : fo? Tryz.prog 137 3 = some (3, 135) := by kernel_rfl
theorem a745 : fo? Tryz.prog 137 4 = some (4, 28) := by kernel_rfl
theorem a746 : zero? Tryz.prog 137 = some [.nilS, .nilS, .nilS, .nilS, .nilS] := by kernel_rfl
theorem a781 : kd? Tryz.prog 143 = 7 := by kernel_rfl
theorem a782 : ty? Tryz.prog 143 = some (true, 5) := by kernel_rfl
theorem a783 : sl? Tryz.prog 143 = none := by kernel_rfl
theorem a784 : ar? Tryz.prog 143 = none := by kernel_rfl
theorem a785 : fo? Tryz.prog 143 0 = some (0, 3) := by kernel_rfl
theorem a786 : fo? Tryz.prog 143 1 = some (1, 3) := by kernel_rfl
theorem a787 : fo? Tryz.prog 143 2 = some (2, 3) := by kernel_rfl
theorem a788 : fo? Tryz.prog 143 3 = some (3, 9) := by kernel_rfl
theorem a789 : fo? Tryz.prog 143 4 = some (4, 28) := by kernel_rfl
theorem a790 : zero? Tryz.prog 143 = some [.d (.int .i64 (0)), .d (.int .i64 (0)), .d (.int .i64 (0)), .d (.str []), .nilS] := by kernel_rfl
theorem a807 : kd? Tryz.prog 148 = 5 := by kernel_rfl
theorem a808 : ty? Tryz.prog 148 = some (false, 1) := by kernel_rfl
theorem a809 : sl? Tryz.prog 148 = none := by kernel_rfl
theorem a810 : zero? Tryz.prog 148 = some [.d (.raw (.pointer none))] := by kernel_rfl
theorem a818 : kd? Tryz.prog 150 = 7 := by kernel_rfl
theorem a819 : ty? Tryz.prog 150 = some (true, 2) := by kernel_rfl
theorem a820 : sl? Tryz.prog 150 = none := by kernel_rfl
theorem a821 : ar? Tryz.prog 150 = none := by kernel_rfl
theorem a822 : fo? Tryz.prog 150 0 = some (0, 50) := by kernel_rfl
theorem a823 : fo? Tryz.prog 150 1 = some (1, 39) := by kernel_rfl
theorem a824 : zero? Tryz.prog 150 = some [.nilS, .d (.int .i64 (0))] := by kernel_rfl
theorem a837 : kd? Tryz.prog 154 = 6 := by kernel_rfl
theorem a838 : ty? Tryz.prog 154 = some (false, 1) := by kernel_rfl
theorem a839 : sl? Tryz.prog 154 = some (34, 2, 32) := by kernel_rfl
theorem a840 : zero? Tryz.prog 154 = some [.nilS] := by kernel_rfl
theorem a845 : kd? Tryz.prog 156 = 3 := by kernel_rfl
theorem a846 : ty? Tryz.prog 156 = some (false, 1) := by kernel_rfl
theorem a847 : sl? Tryz.prog 156 = none := by kernel_rfl
theorem a848 : zero? Tryz.prog 156 = some [.d (.nilI)] := by kernel_rfl
theorem a911 : kd? Tryz.prog 172 = 7 := by kernel_rfl
theorem a912 : ty? Tryz.prog 172 = some (true, 1) := by kernel_rfl
theorem a913 : sl? Tryz.prog 172 = none := by kernel_rfl
theorem a914 : ar? Tryz.prog 172 = none := by kernel_rfl
theorem a915 : fo? Tryz.prog 172 0 = some (0, 23) := by kernel_rfl
theorem a916 : zero? Tryz.prog 172 = some [.nilS] := by kernel_rfl
theorem a958 : kd? Tryz.prog 182 = 7 := by kernel_rfl
theorem a959 : ty? Tryz.prog 182 = some (true, 8) := by kernel_rfl
theorem a960 : sl? Tryz.prog 182 = none := by kernel_rfl
theorem a961 : ar? Tryz.prog 182 = none := by kernel_rfl
theorem a962 : fo? Tryz.prog 182 0 = some (0, 4) := by kernel_rfl
theorem a963 : fo? Tryz.prog 182 1 = some (1, 4) := by kernel_rfl
theorem a964 : fo? Tryz.prog 182 2 = some (2, 3) := by kernel_rfl
theorem a965 : fo? Tryz.prog 182 3 = some (3, 137) := by kernel_rfl
theorem a966 : zero? Tryz.prog 182 = some [.d (.bool false), .d (.bool false), .d (.int .i64 (0)), .nilS, .nilS, .nilS, .nilS, .nilS] := by kernel_rfl
theorem a1013 : kd? Tryz.prog 193 = 7 := by kernel_rfl
theorem a1014 : ty? Tryz.prog 193 = some (true, 8) := by kernel_rfl
theorem a1015 : sl? Tryz.prog 193 = none := by kernel_rfl
theorem a1016 : ar? Tryz.prog 193 = none := by kernel_rfl
theorem a1017 : fo? Tryz.prog 193 0 = some (0, 3) := by kernel_rfl
theorem a1018 : fo? Tryz.prog 193 1 = some (1, 9) := by kernel_rfl
theorem a1019 : fo? Tryz.prog 193 2 = some (2, 9) := by kernel_rfl
theorem a1020 : fo? Tryz.prog 193 3 = some (3, 34) := by kernel_rfl
theorem a1021 : fo? Tryz.prog 193 4 = some (5, 9) := by kernel_rfl
theorem a1022 : fo? Tryz.prog 193 5 = some (6, 9) := by kernel_rfl
theorem a1023 : fo? Tryz.prog 193 6 = some (7, 3) := by kernel_rfl
theorem a1024 : cellsT Tryz.prog 193 = some [2, 0, 0, 0, 0, 0, 0, 2] := by kernel_rfl
theorem a1025 : zero? Tryz.prog 193 = some [.d (.int .i64 (0)), .d (.str []), .d (.str []), .d (.str []), .d (.str []), .d (.str []), .d (.str []), .d (.int .i64 (0))] := by kernel_rfl
theorem a1026 : kd? Tryz.prog 194 = 7 := by kernel_rfl
theorem a1027 : ty? Tryz.prog 194 = some (true, 8) := by kernel_rfl
theorem a1028 : sl? Tryz.prog 194 = none := by kernel_rfl
theorem a1029 : ar? Tryz.prog 194 = none := by kernel_rfl
theorem a1030 : fo? Tryz.prog 194 0 = some (0, 3) := by kernel_rfl
theorem a1031 : fo? Tryz.prog 194 1 = some (1, 9) := by kernel_rfl
theorem a1032 : fo? Tryz.prog 194 2 = some (2, 9) := by kernel_rfl
theorem a1033 : fo? Tryz.prog 194 3 = some (3, 34) := by kernel_rfl
theorem a1034 : fo? Tryz.prog 194 4 = some (5, 9) := by kernel_rfl
theorem a1035 : fo? Tryz.prog 194 5 = some (6, 9) := by kernel_rfl
theorem a1036 : fo? Tryz.prog 194 6 = some (7, 3) := by kernel_rfl
theorem a1037 : cellsT Tryz.prog 194 = some [2, 0, 0, 0, 0, 0, 0, 2] := by kernel_rfl
theorem a1038 : zero? Tryz.prog 194 = some [.d (.int .i64 (0)), .d (.str []), .d (.str []), .d (.str []), .d (.str []), .d (.str []), .d (.str []), .d (.int .i64 (0))] := by kernel_rfl
theorem a1039 : kd? Tryz.prog 195 = 7 := by kernel_rfl
theorem a1040 : ty? Tryz.prog 195 = some (true, 8) := by kernel_rfl
theorem a1041 : sl? Tryz.prog 195 = none := by kernel_rfl
theorem a1042 : ar? Tryz.prog 195 = none := by kernel_rfl
theorem a1043 : fo? Tryz.prog 195 0 = some (0, 3) := by kernel_rfl
theorem a1044 : fo? Tryz.prog 195 1 = some (1, 9) := by kernel_rfl
theorem a1045 : fo? Tryz.prog 195 2 = some (2, 9) := by kernel_rfl
theorem a1046 : fo? Tryz.prog 195 3 = some (3, 34) := by kernel_rfl
theorem a1047 : fo? Tryz.prog 195 4 = some (5, 9) := by kernel_rfl
theorem a1048 : fo? Tryz.prog 195 5 = some (6, 9) := by kernel_rfl
theorem a1049 : fo? Tryz.prog 195 6 = some (7, 3) := by kernel_rfl
theorem a1050 : cellsT Tryz.prog 195 = some [2, 0, 0, 0, 0, 0, 0, 2] := by kernel_rfl
theorem a1051 : zero? Tryz.prog 195 = some [.d (.int .i64 (0)), .d (.str []), .d (.str []), .d (.str []), .d (.str []), .d (.str []), .d (.str []), .d (.int .i64 (0))] := by kernel_rfl
theorem a1052 : kd? Tryz.prog 196 = 7 := by kernel_rfl
theorem a1053 : ty? Tryz.prog 196 = some (true, 8) := by kernel_rfl
theorem a1054 : sl? Tryz.prog 196 = none := by kernel_rfl
theorem a1055 : ar? Tryz.prog 196 = none := by kernel_rfl
theorem a1056 : fo? Tryz.prog 196 0 = some (0, 3) := by kernel_rfl
theorem a1057 : fo? Tryz.prog 196 1 = some (1, 9) := by kernel_rfl
theorem a1058 : fo? Tryz.prog 196 2 = some (2, 9) := by kernel_rfl
theorem a1059 : fo? Tryz.prog 196 3 = some (3, 34) := by kernel_rfl
theorem a1060 : fo? Tryz.prog 196 4 = some (5, 9) := by kernel_rfl
theorem a1061 : fo? Tryz.prog 196 5 = some (6, 9) := by kernel_rfl
theorem a1062 : fo? Tryz.prog 196 6 = some (7, 3) := by kernel_rfl
theorem a1063 : cellsT Tryz.prog 196 = some [2, 0, 0, 0, 0, 0, 0, 2] := by kernel_rfl
theorem a1064 : zero? Tryz.prog 196 = some [.d (.int .i64 (0)), .d (.str []), .d (.str []), .d (.str []), .d (.str []), .d (.str []), .d (.str []), .d (.int .i64 (0))] := by kernel_rfl
theorem a1065 : kd? Tryz.prog 197 = 7 := by kernel_rfl
theorem a1066 : ty? Tryz.prog 197 = some (true, 8) := by kernel_rfl
theorem a1067 : sl? Tryz.prog 197 = none := by kernel_rfl
theorem a1068 : ar? Tryz.prog 197 = none := by kernel_rfl
theorem a1069 : fo? Tryz.prog 197 0 = some (0, 3) := by kernel_rfl
theorem a1070 : fo? Tryz.prog 197 1 = some (1, 9) := by kernel_rfl
theorem a1071 : fo? Tryz.prog 197 2 = some (2, 9) := by kernel_rfl
theorem a1072 : fo? Tryz.prog 197 3 = some (3, 34) := by kernel_rfl
theorem a1073 : fo? Tryz.prog 197 4 = some (5, 9) := by kernel_rfl
theorem a1074 : fo? Tryz.prog 197 5 = some (6, 9) := by kernel_rfl
theorem a1075 : fo? Tryz.prog 197 6 = some (7, 3) := by kernel_rfl
theorem a1076 : cellsT Tryz.prog 197 = some [2, 0, 0, 0, 0, 0, 0, 2] := by kernel_rfl
theorem a1077 : zero? Tryz.prog 197 = some [.d (.int .i64 (0)), .d (.str []), .d (.str []), .d (.str []), .d (.str []), .d (.str []), .d (.str []), .d (.int .i64 (0))] := by kernel_rfl
theorem a1078 : kd? Tryz.prog 198 = 7 := by kernel_rfl
theorem a1079 : ty? Tryz.prog 198 = some (true, 8) := by kernel_rfl
theorem a1080 : sl? Tryz.prog 198 = none := by kernel_rfl
theorem a1081 : ar? Tryz.prog 198 = none := by kernel_rfl
theorem a1082 : fo? Tryz.prog 198 0 = some (0, 3) := by kernel_rfl
theorem a1083 : fo? Tryz.prog 198 1 = some (1, 9) := by kernel_rfl
theorem a1084 : fo? Tryz.prog 198 2 = some (2, 9) := by kernel_rfl
theorem a1085 : fo? Tryz.prog 198 3 = some (3, 34) := by kernel_rfl
theorem a1086 : fo? Tryz.prog 198 4 = some (5, 9) := by kernel_rfl
theorem a1087 : fo? Tryz.prog 198 5 = some (6, 9) := by kernel_rfl
theorem a1088 : fo? Tryz.prog 198 6 = some (7, 3) := by kernel_rfl
theorem a1089 : cellsT Tryz.prog 198 = some [2, 0, 0, 0, 0, 0, 0, 2] := by kernel_rfl
theorem a1090 : zero? Tryz.prog 198 = some [.d (.int .i64 (0)), .d (.str []), .d (.str []), .d (.str []), .d (.str []), .d (.str []), .d (.str []), .d (.int .i64 (0))] := by kernel_rfl
theorem a1352 : kd? Tryz.prog 260 = 7 := by kernel_rfl
theorem a1353 : ty? Tryz.prog 260 = some (true, 2) := by kernel_rfl
theorem a1354 : sl? Tryz.prog 260 = none := by kernel_rfl
theorem a1355 : ar? Tryz.prog 260 = none := by kernel_rfl
theorem a1356 : fo? Tryz.prog 260 0 = some (0, 23) := by kernel_rfl
theorem a1357 : fo? Tryz.prog 260 1 = some (1, 4) := by kernel_rfl
theorem a1358 : zero? Tryz.prog 260 = some [.nilS, .d (.bool false)] := by kernel_rfl
theorem a1547 : kd? Tryz.prog 299 = 7 := by kernel_rfl
theorem a1548 : ty? Tryz.prog 299 = some (true, 2) := by kernel_rfl
theorem a1549 : sl? Tryz.prog 299 = none := by kernel_rfl
theorem a1550 : ar? Tryz.prog 299 = none := by kernel_rfl
theorem a1551 : fo? Tryz.prog 299 0 = some (0, 3) := by kernel_rfl
theorem a1552 : fo? Tryz.prog 299 1 = some (1, 3) := by kernel_rfl
theorem a1553 : cellsT Tryz.prog 299 = some [2, 2] := by kernel_rfl
theorem a1554 : zero? Tryz.prog 299 = some [.d (.int .i64 (0)), .d (.int .i64 (0))] := by kernel_rfl
theorem a1563 : kd? Tryz.prog 301 = 7 := by kernel_rfl
theorem a1564 : ty? Tryz.prog 301 = some (true, 4) := by kernel_rfl
theorem a1565 : sl? Tryz.prog 301 = none := by kernel_rfl
theorem a1566 : ar? Tryz.prog 301 = none := by kernel_rfl
theorem a1567 : fo? Tryz.prog 301 0 = some (0, 299) := by kernel_rfl
theorem a1568 : fo? Tryz.prog 301 1 = some (2, 299) := by kernel_rfl
theorem a1569 : cellsT Tryz.prog 301 = some [2, 2, 2, 2] := by kernel_rfl
theorem a1570 : zero? Tryz.prog 301 = some [.d (.int .i64 (0)), .d (.int .i64 (0)), .d (.int .i64 (0)), .d (.int .i64 (0))] := by kernel_rfl
theorem a2345 : meth? Tryz.prog 39 "Error" = some 380 := by kernel_rfl
theorem a2346 : meth? Tryz.prog 87 "downspout/receive.checks" = some 42 := by kernel_rfl
theorem a2347 : meth? Tryz.prog 87 "downspout/receive.end" = some 66 := by kernel_rfl
theorem a2348 : meth? Tryz.prog 87 "downspout/receive.fits" = some 69 := by kernel_rfl
theorem a2349 : meth? Tryz.prog 87 "downspout/receive.follows" = some 71 := by kernel_rfl
theorem a2350 : meth? Tryz.prog 87 "downspout/receive.like" = some 41 := by kernel_rfl
theorem a2353 : meth? Tryz.prog 148 "downspout/tree.below" = some 113 := by kernel_rfl
theorem a2354 : meth? Tryz.prog 148 "downspout/tree.pairs" = some 88 := by kernel_rfl
theorem a2357 : meth? Tryz.prog 193 "downspout/msg.apply" = some 382 := by kernel_rfl
theorem a2358 : meth? Tryz.prog 193 "downspout/msg.bare" = some 383 := by kernel_rfl
theorem a2359 : meth? Tryz.prog 193 "downspout/msg.reads" = some 384 := by kernel_rfl
theorem a2360 : meth? Tryz.prog 193 "downspout/msg.valid" = some 385 := by kernel_rfl
theorem a2361 : meth? Tryz.prog 193 "downspout/msg.write" = some 386 := by kernel_rfl
theorem a2362 : meth? Tryz.prog 193 "downspout/msg.writes" = some 387 := by kernel_rfl
theorem a2363 : meth? Tryz.prog 194 "downspout/msg.apply" = some 402 := by kernel_rfl
theorem a2364 : meth? Tryz.prog 194 "downspout/msg.bare" = some 403 := by kernel_rfl
theorem a2365 : meth? Tryz.prog 194 "downspout/msg.reads" = some 404 := by kernel_rfl
theorem a2366 : meth? Tryz.prog 194 "downspout/msg.valid" = some 405 := by kernel_rfl
theorem a2367 : meth? Tryz.prog 194 "downspout/msg.write" = some 406 := by kernel_rfl
theorem a2368 : meth? Tryz.prog 194 "downspout/msg.writes" = some 407 := by kernel_rfl
theorem a2369 : meth? Tryz.prog 195 "downspout/msg.apply" = some 413 := by kernel_rfl
theorem a2370 : meth? Tryz.prog 195 "downspout/msg.bare" = some 414 := by kernel_rfl
theorem a2371 : meth? Tryz.prog 195 "downspout/msg.reads" = some 415 := by kernel_rfl
theorem a2372 : meth? Tryz.prog 195 "downspout/msg.valid" = some 416 := by kernel_rfl
theorem a2373 : meth? Tryz.prog 195 "downspout/msg.write" = some 417 := by kernel_rfl
theorem a2374 : meth? Tryz.prog 195 "downspout/msg.writes" = some 418 := by kernel_rfl
theorem a2375 : meth? Tryz.prog 196 "downspout/msg.apply" = some 420 := by kernel_rfl
theorem a2376 : meth? Tryz.prog 196 "downspout/msg.bare" = some 421 := by kernel_rfl
theorem a2377 : meth? Tryz.prog 196 "downspout/msg.reads" = some 422 := by kernel_rfl
theorem a2378 : meth? Tryz.prog 196 "downspout/msg.valid" = some 423 := by kernel_rfl
theorem a2379 : meth? Tryz.prog 196 "downspout/msg.write" = some 424 := by kernel_rfl
theorem a2380 : meth? Tryz.prog 196 "downspout/msg.writes" = some 425 := by kernel_rfl
theorem a2381 : meth? Tryz.prog 197 "downspout/msg.apply" = some 426 := by kernel_rfl
theorem a2382 : meth? Tryz.prog 197 "downspout/msg.bare" = some 432 := by kernel_rfl
theorem a2383 : meth? Tryz.prog 197 "downspout/msg.reads" = some 433 := by kernel_rfl
theorem a2384 : meth? Tryz.prog 197 "downspout/msg.valid" = some 434 := by kernel_rfl
theorem a2385 : meth? Tryz.prog 197 "downspout/msg.write" = some 435 := by kernel_rfl
theorem a2386 : meth? Tryz.prog 197 "downspout/msg.writes" = some 436 := by kernel_rfl
theorem a2387 : meth? Tryz.prog 198 "downspout/msg.apply" = some 437 := by kernel_rfl
theorem a2388 : meth? Tryz.prog 198 "downspout/msg.bare" = some 438 := by kernel_rfl
theorem a2389 : meth? Tryz.prog 198 "downspout/msg.reads" = some 439 := by kernel_rfl
theorem a2390 : meth? Tryz.prog 198 "downspout/msg.valid" = some 440 := by kernel_rfl
theorem a2391 : meth? Tryz.prog 198 "downspout/msg.write" = some 441 := by kernel_rfl
theorem a2392 : meth? Tryz.prog 198 "downspout/msg.writes" = some 442 := by kernel_rfl
def fB1 := And.intro a8 (And.intro a9 (And.intro a10 (And.intro a11 (And.intro a12 (And.intro a13 (And.intro a14 (And.intro a15 (And.intro a16 (And.intro a17 (And.intro a18 (And.intro a19 (And.intro a20 (And.intro a21 (And.intro a22 (And.intro a23 (And.intro a24 (And.intro a25 (And.intro a26 (And.intro a27 (And.intro a28 (And.intro a29 (And.intro a30 (And.intro a31 (And.intro a52 (And.intro a53 (And.intro a54 (And.intro a55 (And.intro a64 (And.intro a65 (And.intro a66 (And.intro a67 (And.intro a68 (And.intro a107 (And.intro a108 (And.intro a109 (And.intro a110 (And.intro a116 (And.intro a117 (a118)))))))))))))))))))))))))))))))))))))))
def fB2 := And.intro a119 (And.intro a120 (And.intro a121 (And.intro a122 (And.intro a123 (And.intro a128 (And.intro a129 (And.intro a130 (And.intro a131 (And.intro a136 (And.intro a137 (And.intro a138 (And.intro a139 (And.intro a140 (And.intro a141 (And.intro a142 (And.intro a143 (And.intro a144 (And.intro a162 (And.intro a163 (And.intro a164 (And.intro a165 (And.intro a166 (And.intro a167 (And.intro a168 (And.intro a169 (And.intro a170 (And.intro a171 (And.intro a172 (And.intro a173 (And.intro a174 (And.intro a175 (And.intro a176 (And.intro a177 (And.intro a178 (And.intro a179 (And.intro a188 (And.intro a189 (And.intro a190 (a191)))))))))))))))))))))))))))))))))))))))
def fB3 := And.intro a192 (And.intro a193 (And.intro a194 (And.intro a195 (And.intro a209 (And.intro a210 (And.intro a211 (And.intro a212 (And.intro a213 (And.intro a214 (And.intro a215 (And.intro a216 (And.intro a217 (And.intro a218 (And.intro a219 (And.intro a220 (And.intro a221 (And.intro a235 (And.intro a236 (And.intro a237 (And.intro a238 (And.intro a239 (And.intro a240 (And.intro a241 (And.intro a242 (And.intro a243 (And.intro a244 (And.intro a245 (And.intro a246 (And.intro a247 (And.intro a248 (And.intro a249 (And.intro a250 (And.intro a251 (And.intro a252 (And.intro a260 (And.intro a261 (And.intro a262 (And.intro a263 (a264)))))))))))))))))))))))))))))))))))))))
def fB4 := And.intro a265 (And.intro a266 (And.intro a291 (And.intro a292 (And.intro a293 (And.intro a294 (And.intro a301 (And.intro a302 (And.intro a303 (And.intro a304 (And.intro a305 (And.intro a306 (And.intro a316 (And.intro a317 (And.intro a318 (And.intro a319 (And.intro a320 (And.intro a321 (And.intro a322 (And.intro a323 (And.intro a324 (And.intro a325 (And.intro a326 (And.intro a327 (And.intro a328 (And.intro a341 (And.intro a342 (And.intro a343 (And.intro a344 (And.intro a345 (And.intro a346 (And.intro a347 (And.intro a348 (And.intro a349 (And.intro a350 (And.intro a351 (And.intro a352 (And.intro a386 (And.intro a387 (a388)))))))))))))))))))))))))))))))))))))))
def fB5 := And.intro a389 (And.intro a390 (And.intro a411 (And.intro a412 (And.intro a413 (And.intro a414 (And.intro a435 (And.intro a436 (And.intro a437 (And.intro a438 (And.intro a439 (And.intro a440 (And.intro a441 (And.intro a442 (And.intro a443 (And.intro a444 (And.intro a445 (And.intro a446 (And.intro a487 (And.intro a488 (And.intro a489 (And.intro a490 (And.intro a498 (And.intro a499 (And.intro a500 (And.intro a501 (And.intro a502 (And.intro a503 (And.intro a504 (And.intro a541 (And.intro a542 (And.intro a543 (And.intro a544 (And.intro a545 (And.intro a546 (And.intro a547 (And.intro a548 (And.intro a603 (And.intro a604 (a605)))))))))))))))))))))))))))))))))))))))
def fB6 := And.intro a606 (And.intro a607 (And.intro a608 (And.intro a622 (And.intro a623 (And.intro a624 (And.intro a625 (And.intro a626 (And.intro a627 (And.intro a628 (And.intro a629 (And.intro a630 (And.intro a659 (And.intro a660 (And.intro a661 (And.intro a662 (And.intro a675 (And.intro a676 (And.intro a677 (And.intro a678 (And.intro a679 (And.intro a680 (And.intro a681 (And.intro a682 (And.intro a707 (And.intro a708 (And.intro a709 (And.intro a710 (And.intro a711 (And.intro a712 (And.intro a713 (And.intro a714 (And.intro a719 (And.intro a720 (And.intro a721 (And.intro a722 (And.intro a723 (And.intro a724 (And.intro a725 (a726)))))))))))))))))))))))))))))))))))))))
def fB7 := And.intro a737 (And.intro a738 (And.intro a739 (And.intro a740 (And.intro a741 (And.intro a742 (And.intro a743 (And.intro a744 (And.intro a745 (And.intro a746 (And.intro a781 (And.intro a782 (And.intro a783 (And.intro a784 (And.intro a785 (And.intro a786 (And.intro a787 (And.intro a788 (And.intro a789 (And.intro a790 (And.intro a807 (And.intro a808 (And.intro a809 (And.intro a810 (And.intro a818 (And.intro a819 (And.intro a820 (And.intro a821 (And.intro a822 (And.intro a823 (And.intro a824 (And.intro a837 (And.intro a838 (And.intro a839 (And.intro a840 (And.intro a845 (And.intro a846 (And.intro a847 (And.intro a848 (a911)))))))))))))))))))))))))))))))))))))))
def fB8 := And.intro a912 (And.intro a913 (And.intro a914 (And.intro a915 (And.intro a916 (And.intro a958 (And.intro a959 (And.intro a960 (And.intro a961 (And.intro a962 (And.intro a963 (And.intro a964 (And.intro a965 (And.intro a966 (And.intro a1013 (And.intro a1014 (And.intro a1015 (And.intro a1016 (And.intro a1017 (And.intro a1018 (And.intro a1019 (And.intro a1020 (And.intro a1021 (And.intro a1022 (And.intro a1023 (And.intro a1024 (And.intro a1025 (And.intro a1026 (And.intro a1027 (And.intro a1028 (And.intro a1029 (And.intro a1030 (And.intro a1031 (And.intro a1032 (And.intro a1033 (And.intro a1034 (And.intro a1035 (And.intro a1036 (And.intro a1037 (a1038)))))))))))))))))))))))))))))))))))))))
def fB9 := And.intro a1039 (And.intro a1040 (And.intro a1041 (And.intro a1042 (And.intro a1043 (And.intro a1044 (And.intro a1045 (And.intro a1046 (And.intro a1047 (And.intro a1048 (And.intro a1049 (And.intro a1050 (And.intro a1051 (And.intro a1052 (And.intro a1053 (And.intro a1054 (And.intro a1055 (And.intro a1056 (And.intro a1057 (And.intro a1058 (And.intro a1059 (And.intro a1060 (And.intro a1061 (And.intro a1062 (And.intro a1063 (And.intro a1064 (And.intro a1065 (And.intro a1066 (And.intro a1067 (And.intro a1068 (And.intro a1069 (And.intro a1070 (And.intro a1071 (And.intro a1072 (And.intro a1073 (And.intro a1074 (And.intro a1075 (And.intro a1076 (And.intro a1077 (a1078)))))))))))))))))))))))))))))))))))))))
def fB10 := And.intro a1079 (And.intro a1080 (And.intro a1081 (And.intro a1082 (And.intro a1083 (And.intro a1084 (And.intro a1085 (And.intro a1086 (And.intro a1087 (And.intro a1088 (And.intro a1089 (And.intro a1090 (And.intro a1352 (And.intro a1353 (And.intro a1354 (And.intro a1355 (And.intro a1356 (And.intro a1357 (And.intro a1358 (And.intro a1547 (And.intro a1548 (And.intro a1549 (And.intro a1550 (And.intro a1551 (And.intro a1552 (And.intro a1553 (And.intro a1554 (And.intro a1563 (And.intro a1564 (And.intro a1565 (And.intro a1566 (And.intro a1567 (And.intro a1568 (And.intro a1569 (And.intro a1570 (And.intro a2345 (And.intro a2346 (And.intro a2347 (And.intro a2348 (a2349)))))))))))))))))))))))))))))))))))))))
def fB11 := And.intro a2350 (And.intro a2353 (And.intro a2354 (And.intro a2357 (And.intro a2358 (And.intro a2359 (And.intro a2360 (And.intro a2361 (And.intro a2362 (And.intro a2363 (And.intro a2364 (And.intro a2365 (And.intro a2366 (And.intro a2367 (And.intro a2368 (And.intro a2369 (And.intro a2370 (And.intro a2371 (And.intro a2372 (And.intro a2373 (And.intro a2374 (And.intro a2375 (And.intro a2376 (And.intro a2377 (And.intro a2378 (And.intro a2379 (And.intro a2380 (And.intro a2381 (And.intro a2382 (And.intro a2383 (And.intro a2384 (And.intro a2385 (And.intro a2386 (And.intro a2387 (And.intro a2388 (And.intro a2389 (And.intro a2390 (And.intro a2391 (a2392))))))))))))))))))))))))))))))))))))))
def fBs := And.intro fB1 (And.intro fB2 (And.intro fB3 (And.intro fB4 (And.intro fB5 (And.intro fB6 (And.intro fB7 (And.intro fB8 (And.intro fB9 (And.intro fB10 (fB11))))))))))
end Go.PE.F
