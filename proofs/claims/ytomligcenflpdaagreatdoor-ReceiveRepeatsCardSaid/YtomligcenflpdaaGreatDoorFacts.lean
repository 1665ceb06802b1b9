/- Closed facts on the program's types (printed by wip/tools/facts.lean). -/
import Derived.Test.YtomligcenflpdaaGreatDoorPe1
import Derived.Test.YtomligcenflpdaaGreatDoorProg
import Derived.KernelRfl
set_option linter.defProp false
namespace Go.PE.F
open Go Go.Proofs
theorem mixed : Tryz.prog.follows .mixedOrders = true := by kernel_rfl
theorem a8 : kd? Tryz.prog 2 = 13 := by kernel_rfl
theorem a9 : ty? Tryz.prog 2 = some (false, 1) := by kernel_rfl
theorem a10 : sl? Tryz.prog 2 = none := by kernel_rfl
theorem a11 : zi? Tryz.prog 2 = some .i64 := by kernel_rfl
theorem a12 : zero? Tryz.prog 2 = some [.d (.int .i64 (0))] := by kernel_rfl
theorem a13 : kd? Tryz.prog 3 = 13 := by kernel_rfl
theorem a14 : ty? Tryz.prog 3 = some (false, 1) := by kernel_rfl
theorem a15 : sl? Tryz.prog 3 = none := by kernel_rfl
theorem a16 : zi? Tryz.prog 3 = some .i64 := by kernel_rfl
theorem a17 : zero? Tryz.prog 3 = some [.d (.int .i64 (0))] := by kernel_rfl
theorem a18 : kd? Tryz.prog 4 = 1 := by kernel_rfl
theorem a19 : ty? Tryz.prog 4 = some (false, 1) := by kernel_rfl
theorem a20 : sl? Tryz.prog 4 = none := by kernel_rfl
theorem a21 : zero? Tryz.prog 4 = some [.d (.bool false)] := by kernel_rfl
theorem a22 : kd? Tryz.prog 5 = 14 := by kernel_rfl
theorem a23 : ty? Tryz.prog 5 = some (false, 1) := by kernel_rfl
theorem a24 : sl? Tryz.prog 5 = none := by kernel_rfl
theorem a25 : zi? Tryz.prog 5 = some .u8 := by kernel_rfl
theorem a26 : zero? Tryz.prog 5 = some [.d (.int .u8 (0))] := by kernel_rfl
theorem a27 : kd? Tryz.prog 6 = 14 := by kernel_rfl
theorem a28 : ty? Tryz.prog 6 = some (false, 1) := by kernel_rfl
theorem a29 : sl? Tryz.prog 6 = none := by kernel_rfl
theorem a30 : zi? Tryz.prog 6 = some .u8 := by kernel_rfl
theorem a31 : zero? Tryz.prog 6 = some [.d (.int .u8 (0))] := by kernel_rfl
theorem a52 : kd? Tryz.prog 9 = 0 := by kernel_rfl
theorem a53 : ty? Tryz.prog 9 = some (false, 1) := by kernel_rfl
theorem a54 : sl? Tryz.prog 9 = none := by kernel_rfl
theorem a55 : zero? Tryz.prog 9 = some [.d (.str [])] := by kernel_rfl
theorem a64 : kd? Tryz.prog 12 = 17 := by kernel_rfl
theorem a65 : ty? Tryz.prog 12 = some (false, 1) := by kernel_rfl
theorem a66 : sl? Tryz.prog 12 = none := by kernel_rfl
theorem a67 : zi? Tryz.prog 12 = some .u64 := by kernel_rfl
theorem a68 : zero? Tryz.prog 12 = some [.d (.int .u64 (0))] := by kernel_rfl
theorem a107 : kd? Tryz.prog 20 = 3 := by kernel_rfl
theorem a108 : ty? Tryz.prog 20 = some (false, 1) := by kernel_rfl
theorem a109 : sl? Tryz.prog 20 = none := by kernel_rfl
theorem a110 : zero? Tryz.prog 20 = some [.d (.nilI)] := by kernel_rfl
theorem a116 : kd? Tryz.prog 22 = 6 := by kernel_rfl
theorem a117 : ty? Tryz.prog 22 = some (false, 1) := by kernel_rfl
theorem a118 : sl? Tryz.prog 22 = some (52, 6, 6) := by kernel_rfl
theorem a119 : zero? Tryz.prog 22 = some [.nilS] := by kernel_rfl
theorem a120 : kd? Tryz.prog 23 = 4 := by kernel_rfl
theorem a121 : ty? Tryz.prog 23 = some (true, 2) := by kernel_rfl
theorem a122 : sl? Tryz.prog 23 = none := by kernel_rfl
theorem a123 : ar? Tryz.prog 23 = some (2, 1) := by kernel_rfl
theorem a124 : zero? Tryz.prog 23 = some [.nilS, .nilS] := by kernel_rfl
theorem a125 : kd? Tryz.prog 24 = 6 := by kernel_rfl
theorem a126 : ty? Tryz.prog 24 = some (false, 1) := by kernel_rfl
theorem a127 : sl? Tryz.prog 24 = some (40, 4, 4) := by kernel_rfl
theorem a128 : zero? Tryz.prog 24 = some [.nilS] := by kernel_rfl
theorem a129 : kd? Tryz.prog 25 = 17 := by kernel_rfl
theorem a130 : ty? Tryz.prog 25 = some (false, 1) := by kernel_rfl
theorem a131 : sl? Tryz.prog 25 = none := by kernel_rfl
theorem a132 : zi? Tryz.prog 25 = some .u64 := by kernel_rfl
theorem a133 : zero? Tryz.prog 25 = some [.d (.int .u64 (0))] := by kernel_rfl
theorem a142 : kd? Tryz.prog 27 = 7 := by kernel_rfl
theorem a143 : ty? Tryz.prog 27 = some (true, 2) := by kernel_rfl
theorem a144 : sl? Tryz.prog 27 = none := by kernel_rfl
theorem a145 : ar? Tryz.prog 27 = none := by kernel_rfl
theorem a146 : fo? Tryz.prog 27 0 = some (0, 9) := by kernel_rfl
theorem a147 : fo? Tryz.prog 27 1 = some (1, 9) := by kernel_rfl
theorem a148 : cellsT Tryz.prog 27 = some [0, 0] := by kernel_rfl
theorem a149 : zero? Tryz.prog 27 = some [.d (.str []), .d (.str [])] := by kernel_rfl
theorem a163 : kd? Tryz.prog 29 = 7 := by kernel_rfl
theorem a164 : ty? Tryz.prog 29 = some (true, 8) := by kernel_rfl
theorem a165 : sl? Tryz.prog 29 = none := by kernel_rfl
theorem a166 : ar? Tryz.prog 29 = none := by kernel_rfl
theorem a167 : fo? Tryz.prog 29 0 = some (0, 3) := by kernel_rfl
theorem a168 : fo? Tryz.prog 29 1 = some (1, 9) := by kernel_rfl
theorem a169 : fo? Tryz.prog 29 2 = some (2, 9) := by kernel_rfl
theorem a170 : fo? Tryz.prog 29 3 = some (3, 27) := by kernel_rfl
theorem a171 : fo? Tryz.prog 29 4 = some (5, 9) := by kernel_rfl
theorem a172 : fo? Tryz.prog 29 5 = some (6, 9) := by kernel_rfl
theorem a173 : fo? Tryz.prog 29 6 = some (7, 3) := by kernel_rfl
theorem a174 : cellsT Tryz.prog 29 = some [2, 0, 0, 0, 0, 0, 0, 2] := by kernel_rfl
theorem a175 : zero? Tryz.prog 29 = some [.d (.int .i64 (0)), .d (.str []), .d (.str []), .d (.str []), .d (.str []), .d (.str []), .d (.str []), .d (.int .i64 (0))] := by kernel_rfl
theorem a189 : kd? Tryz.prog 31 = 7 := by kernel_rfl
theorem a190 : ty? Tryz.prog 31 = some (true, 14) := by kernel_rfl
theorem a191 : sl? Tryz.prog 31 = none := by kernel_rfl
theorem a192 : ar? Tryz.prog 31 = none := by kernel_rfl
theorem a193 : fo? Tryz.prog 31 0 = some (0, 3) := by kernel_rfl
theorem a194 : fo? Tryz.prog 31 1 = some (1, 3) := by kernel_rfl
theorem a195 : fo? Tryz.prog 31 2 = some (2, 3) := by kernel_rfl
theorem a196 : fo? Tryz.prog 31 3 = some (3, 25) := by kernel_rfl
theorem a197 : fo? Tryz.prog 31 4 = some (4, 25) := by kernel_rfl
theorem a198 : fo? Tryz.prog 31 5 = some (5, 29) := by kernel_rfl
theorem a199 : fo? Tryz.prog 31 6 = some (13, 25) := by kernel_rfl
theorem a200 : cellsT Tryz.prog 31 = some [2, 2, 2, 2, 2, 2, 0, 0, 0, 0, 0, 0, 2, 2] := by kernel_rfl
theorem a201 : zero? Tryz.prog 31 = some [.d (.int .i64 (0)), .d (.int .i64 (0)), .d (.int .i64 (0)), .d (.int .u64 (0)), .d (.int .u64 (0)), .d (.int .i64 (0)), .d (.str []), .d (.str []), .d (.str []), .d (.str []), .d (.str []), .d (.str []), .d (.int .i64 (0)), .d (.int .u64 (0))] := by kernel_rfl
theorem a206 : kd? Tryz.prog 33 = 6 := by kernel_rfl
theorem a207 : ty? Tryz.prog 33 = some (false, 1) := by kernel_rfl
theorem a208 : sl? Tryz.prog 33 = some (31, 14, 160) := by kernel_rfl
theorem a209 : zero? Tryz.prog 33 = some [.nilS] := by kernel_rfl
theorem a214 : kd? Tryz.prog 35 = 6 := by kernel_rfl
theorem a215 : ty? Tryz.prog 35 = some (false, 1) := by kernel_rfl
theorem a216 : sl? Tryz.prog 35 = some (29, 8, 112) := by kernel_rfl
theorem a217 : zero? Tryz.prog 35 = some [.nilS] := by kernel_rfl
theorem a222 : kd? Tryz.prog 37 = 4 := by kernel_rfl
theorem a223 : ty? Tryz.prog 37 = some (true, 2) := by kernel_rfl
theorem a224 : sl? Tryz.prog 37 = none := by kernel_rfl
theorem a225 : ar? Tryz.prog 37 = some (2, 1) := by kernel_rfl
theorem a226 : zero? Tryz.prog 37 = some [.nilS, .nilS] := by kernel_rfl
theorem a240 : kd? Tryz.prog 39 = 7 := by kernel_rfl
theorem a241 : ty? Tryz.prog 39 = some (true, 8) := by kernel_rfl
theorem a242 : sl? Tryz.prog 39 = none := by kernel_rfl
theorem a243 : ar? Tryz.prog 39 = none := by kernel_rfl
theorem a244 : fo? Tryz.prog 39 0 = some (0, 4) := by kernel_rfl
theorem a245 : fo? Tryz.prog 39 1 = some (1, 4) := by kernel_rfl
theorem a246 : fo? Tryz.prog 39 2 = some (2, 3) := by kernel_rfl
theorem a247 : fo? Tryz.prog 39 3 = some (3, 3) := by kernel_rfl
theorem a248 : fo? Tryz.prog 39 4 = some (4, 25) := by kernel_rfl
theorem a249 : fo? Tryz.prog 39 5 = some (5, 25) := by kernel_rfl
theorem a250 : fo? Tryz.prog 39 6 = some (6, 25) := by kernel_rfl
theorem a251 : fo? Tryz.prog 39 7 = some (7, 35) := by kernel_rfl
theorem a252 : zero? Tryz.prog 39 = some [.d (.bool false), .d (.bool false), .d (.int .i64 (0)), .d (.int .i64 (0)), .d (.int .u64 (0)), .d (.int .u64 (0)), .d (.int .u64 (0)), .nilS] := by kernel_rfl
theorem a253 : kd? Tryz.prog 40 = 4 := by kernel_rfl
theorem a254 : ty? Tryz.prog 40 = some (true, 4) := by kernel_rfl
theorem a255 : sl? Tryz.prog 40 = none := by kernel_rfl
theorem a256 : ar? Tryz.prog 40 = some (4, 1) := by kernel_rfl
theorem a257 : zero? Tryz.prog 40 = some [.d (.int .u8 (0)), .d (.int .u8 (0)), .d (.int .u8 (0)), .d (.int .u8 (0))] := by kernel_rfl
theorem a262 : kd? Tryz.prog 42 = 4 := by kernel_rfl
theorem a263 : ty? Tryz.prog 42 = some (true, 2) := by kernel_rfl
theorem a264 : sl? Tryz.prog 42 = none := by kernel_rfl
theorem a265 : ar? Tryz.prog 42 = some (2, 1) := by kernel_rfl
theorem a266 : zero? Tryz.prog 42 = some [.d (.int .u8 (0)), .d (.int .u8 (0))] := by kernel_rfl
theorem a267 : kd? Tryz.prog 43 = 13 := by kernel_rfl
theorem a268 : ty? Tryz.prog 43 = some (false, 1) := by kernel_rfl
theorem a269 : sl? Tryz.prog 43 = none := by kernel_rfl
theorem a270 : zi? Tryz.prog 43 = some .i64 := by kernel_rfl
theorem a271 : zero? Tryz.prog 43 = some [.d (.int .i64 (0))] := by kernel_rfl
theorem a279 : kd? Tryz.prog 45 = 7 := by kernel_rfl
theorem a280 : ty? Tryz.prog 45 = some (true, 9) := by kernel_rfl
theorem a281 : sl? Tryz.prog 45 = none := by kernel_rfl
theorem a282 : ar? Tryz.prog 45 = none := by kernel_rfl
theorem a283 : fo? Tryz.prog 45 0 = some (0, 39) := by kernel_rfl
theorem a284 : fo? Tryz.prog 45 1 = some (8, 43) := by kernel_rfl
theorem a285 : zero? Tryz.prog 45 = some [.d (.bool false), .d (.bool false), .d (.int .i64 (0)), .d (.int .i64 (0)), .d (.int .u64 (0)), .d (.int .u64 (0)), .d (.int .u64 (0)), .nilS, .d (.int .i64 (0))] := by kernel_rfl
theorem a312 : kd? Tryz.prog 52 = 4 := by kernel_rfl
theorem a313 : ty? Tryz.prog 52 = some (true, 6) := by kernel_rfl
theorem a314 : sl? Tryz.prog 52 = none := by kernel_rfl
theorem a315 : ar? Tryz.prog 52 = some (6, 1) := by kernel_rfl
theorem a316 : zero? Tryz.prog 52 = some [.d (.int .u8 (0)), .d (.int .u8 (0)), .d (.int .u8 (0)), .d (.int .u8 (0)), .d (.int .u8 (0)), .d (.int .u8 (0))] := by kernel_rfl
theorem a341 : kd? Tryz.prog 59 = 6 := by kernel_rfl
theorem a342 : ty? Tryz.prog 59 = some (false, 1) := by kernel_rfl
theorem a343 : sl? Tryz.prog 59 = some (186, 8, 136) := by kernel_rfl
theorem a344 : zero? Tryz.prog 59 = some [.nilS] := by kernel_rfl
theorem a351 : kd? Tryz.prog 61 = 7 := by kernel_rfl
theorem a352 : ty? Tryz.prog 61 = some (true, 1) := by kernel_rfl
theorem a353 : sl? Tryz.prog 61 = none := by kernel_rfl
theorem a354 : ar? Tryz.prog 61 = none := by kernel_rfl
theorem a355 : fo? Tryz.prog 61 0 = some (0, 59) := by kernel_rfl
theorem a356 : zero? Tryz.prog 61 = some [.nilS] := by kernel_rfl
theorem a366 : kd? Tryz.prog 63 = 7 := by kernel_rfl
theorem a367 : ty? Tryz.prog 63 = some (true, 3) := by kernel_rfl
theorem a368 : sl? Tryz.prog 63 = none := by kernel_rfl
theorem a369 : ar? Tryz.prog 63 = none := by kernel_rfl
theorem a370 : fo? Tryz.prog 63 0 = some (0, 3) := by kernel_rfl
theorem a371 : fo? Tryz.prog 63 1 = some (1, 3) := by kernel_rfl
theorem a372 : fo? Tryz.prog 63 2 = some (2, 3) := by kernel_rfl
theorem a373 : cellsT Tryz.prog 63 = some [2, 2, 2] := by kernel_rfl
theorem a374 : zero? Tryz.prog 63 = some [.d (.int .i64 (0)), .d (.int .i64 (0)), .d (.int .i64 (0))] := by kernel_rfl
theorem a375 : kd? Tryz.prog 64 = 6 := by kernel_rfl
theorem a376 : ty? Tryz.prog 64 = some (false, 1) := by kernel_rfl
theorem a377 : sl? Tryz.prog 64 = some (152, 5, 64) := by kernel_rfl
theorem a378 : zero? Tryz.prog 64 = some [.nilS] := by kernel_rfl
theorem a391 : kd? Tryz.prog 66 = 7 := by kernel_rfl
theorem a392 : ty? Tryz.prog 66 = some (true, 9) := by kernel_rfl
theorem a393 : sl? Tryz.prog 66 = none := by kernel_rfl
theorem a394 : ar? Tryz.prog 66 = none := by kernel_rfl
theorem a395 : fo? Tryz.prog 66 0 = some (0, 61) := by kernel_rfl
theorem a396 : fo? Tryz.prog 66 1 = some (1, 63) := by kernel_rfl
theorem a397 : fo? Tryz.prog 66 2 = some (4, 64) := by kernel_rfl
theorem a398 : fo? Tryz.prog 66 3 = some (5, 3) := by kernel_rfl
theorem a399 : fo? Tryz.prog 66 4 = some (6, 3) := by kernel_rfl
theorem a400 : fo? Tryz.prog 66 5 = some (7, 3) := by kernel_rfl
theorem a401 : fo? Tryz.prog 66 6 = some (8, 35) := by kernel_rfl
theorem a402 : zero? Tryz.prog 66 = some [.nilS, .d (.int .i64 (0)), .d (.int .i64 (0)), .d (.int .i64 (0)), .nilS, .d (.int .i64 (0)), .d (.int .i64 (0)), .d (.int .i64 (0)), .nilS] := by kernel_rfl
theorem a447 : kd? Tryz.prog 78 = 6 := by kernel_rfl
theorem a448 : ty? Tryz.prog 78 = some (false, 1) := by kernel_rfl
theorem a449 : sl? Tryz.prog 78 = some (5, 1, 1) := by kernel_rfl
theorem a450 : zero? Tryz.prog 78 = some [.nilS] := by kernel_rfl
theorem a463 : kd? Tryz.prog 82 = 6 := by kernel_rfl
theorem a464 : ty? Tryz.prog 82 = some (false, 1) := by kernel_rfl
theorem a465 : sl? Tryz.prog 82 = some (87, 3, 32) := by kernel_rfl
theorem a466 : zero? Tryz.prog 82 = some [.nilS] := by kernel_rfl
theorem a487 : kd? Tryz.prog 87 = 7 := by kernel_rfl
theorem a488 : ty? Tryz.prog 87 = some (true, 3) := by kernel_rfl
theorem a489 : sl? Tryz.prog 87 = none := by kernel_rfl
theorem a490 : ar? Tryz.prog 87 = none := by kernel_rfl
theorem a491 : fo? Tryz.prog 87 0 = some (0, 5) := by kernel_rfl
theorem a492 : fo? Tryz.prog 87 1 = some (1, 5) := by kernel_rfl
theorem a493 : fo? Tryz.prog 87 2 = some (2, 22) := by kernel_rfl
theorem a494 : zero? Tryz.prog 87 = some [.d (.int .u8 (0)), .d (.int .u8 (0)), .nilS] := by kernel_rfl
theorem a495 : kd? Tryz.prog 88 = 6 := by kernel_rfl
theorem a496 : ty? Tryz.prog 88 = some (false, 1) := by kernel_rfl
theorem a497 : sl? Tryz.prog 88 = some (122, 3, 40) := by kernel_rfl
theorem a498 : zero? Tryz.prog 88 = some [.nilS] := by kernel_rfl
theorem a527 : kd? Tryz.prog 96 = 5 := by kernel_rfl
theorem a528 : ty? Tryz.prog 96 = some (false, 1) := by kernel_rfl
theorem a529 : sl? Tryz.prog 96 = none := by kernel_rfl
theorem a530 : zero? Tryz.prog 96 = some [.d (.raw (.pointer none))] := by kernel_rfl
theorem a538 : kd? Tryz.prog 98 = 7 := by kernel_rfl
theorem a539 : ty? Tryz.prog 98 = some (true, 22) := by kernel_rfl
theorem a540 : sl? Tryz.prog 98 = none := by kernel_rfl
theorem a541 : ar? Tryz.prog 98 = none := by kernel_rfl
theorem a542 : fo? Tryz.prog 98 0 = some (0, 39) := by kernel_rfl
theorem a543 : fo? Tryz.prog 98 1 = some (8, 31) := by kernel_rfl
theorem a544 : zero? Tryz.prog 98 = some [.d (.bool false), .d (.bool false), .d (.int .i64 (0)), .d (.int .i64 (0)), .d (.int .u64 (0)), .d (.int .u64 (0)), .d (.int .u64 (0)), .nilS, .d (.int .i64 (0)), .d (.int .i64 (0)), .d (.int .i64 (0)), .d (.int .u64 (0)), .d (.int .u64 (0)), .d (.int .i64 (0)), .d (.str []), .d (.str []), .d (.str []), .d (.str []), .d (.str []), .d (.str []), .d (.int .i64 (0)), .d (.int .u64 (0))] := by kernel_rfl
theorem a565 : kd? Tryz.prog 104 = 6 := by kernel_rfl
theorem a566 : ty? Tryz.prog 104 = some (false, 1) := by kernel_rfl
theorem a567 : sl? Tryz.prog 104 = some (9, 1, 16) := by kernel_rfl
theorem a568 : zero? Tryz.prog 104 = some [.nilS] := by kernel_rfl
theorem a581 : kd? Tryz.prog 107 = 7 := by kernel_rfl
theorem a582 : ty? Tryz.prog 107 = some (true, 5) := by kernel_rfl
theorem a583 : sl? Tryz.prog 107 = none := by kernel_rfl
theorem a584 : ar? Tryz.prog 107 = none := by kernel_rfl
theorem a585 : fo? Tryz.prog 107 0 = some (0, 61) := by kernel_rfl
theorem a586 : fo? Tryz.prog 107 1 = some (1, 3) := by kernel_rfl
theorem a587 : fo? Tryz.prog 107 2 = some (2, 63) := by kernel_rfl
theorem a588 : zero? Tryz.prog 107 = some [.nilS, .d (.int .i64 (0)), .d (.int .i64 (0)), .d (.int .i64 (0)), .d (.int .i64 (0))] := by kernel_rfl
theorem a643 : kd? Tryz.prog 119 = 7 := by kernel_rfl
theorem a644 : ty? Tryz.prog 119 = some (true, 1) := by kernel_rfl
theorem a645 : sl? Tryz.prog 119 = none := by kernel_rfl
theorem a646 : ar? Tryz.prog 119 = none := by kernel_rfl
theorem a647 : fo? Tryz.prog 119 0 = some (0, 78) := by kernel_rfl
theorem a648 : zero? Tryz.prog 119 = some [.nilS] := by kernel_rfl
theorem a662 : kd? Tryz.prog 122 = 7 := by kernel_rfl
theorem a663 : ty? Tryz.prog 122 = some (true, 3) := by kernel_rfl
theorem a664 : sl? Tryz.prog 122 = none := by kernel_rfl
theorem a665 : ar? Tryz.prog 122 = none := by kernel_rfl
theorem a666 : fo? Tryz.prog 122 0 = some (0, 9) := by kernel_rfl
theorem a667 : fo? Tryz.prog 122 1 = some (1, 9) := by kernel_rfl
theorem a668 : fo? Tryz.prog 122 2 = some (2, 3) := by kernel_rfl
theorem a669 : cellsT Tryz.prog 122 = some [0, 0, 2] := by kernel_rfl
theorem a670 : zero? Tryz.prog 122 = some [.d (.str []), .d (.str []), .d (.int .i64 (0))] := by kernel_rfl
theorem a715 : kd? Tryz.prog 134 = 2 := by kernel_rfl
theorem a716 : ty? Tryz.prog 134 = some (false, 1) := by kernel_rfl
theorem a717 : sl? Tryz.prog 134 = none := by kernel_rfl
theorem a718 : zero? Tryz.prog 134 = some [.d (.raw .nilFunc)] := by kernel_rfl
theorem a719 : kd? Tryz.prog 135 = 6 := by kernel_rfl
theorem a720 : ty? Tryz.prog 135 = some (false, 1) := by kernel_rfl
theorem a721 : sl? Tryz.prog 135 = some (134, 1, 8) := by kernel_rfl
theorem a722 : zero? Tryz.prog 135 = some [.nilS] := by kernel_rfl
theorem a747 : kd? Tryz.prog 141 = 7 := by kernel_rfl
theorem a748 : ty? Tryz.prog 141 = some (true, 3) := by kernel_rfl
theorem a749 : sl? Tryz.prog 141 = none := by kernel_rfl
theorem a750 : ar? Tryz.prog 141 = none := by kernel_rfl
theorem a751 : fo? Tryz.prog 141 0 = some (0, 61) := by kernel_rfl
theorem a752 : fo? Tryz.prog 141 1 = some (1, 3) := by kernel_rfl
theorem a753 : fo? Tryz.prog 141 2 = some (2, 43) := by kernel_rfl
theorem a754 : zero? Tryz.prog 141 = some [.nilS, .d (.int .i64 (0)), .d (.int .i64 (0))] := by kernel_rfl
theorem a759 : kd? Tryz.prog 143 = 6 := by kernel_rfl
theorem a760 : ty? Tryz.prog 143 = some (false, 1) := by kernel_rfl
theorem a761 : sl? Tryz.prog 143 = some (3, 1, 8) := by kernel_rfl
theorem a762 : zero? Tryz.prog 143 = some [.nilS] := by kernel_rfl
theorem a763 : kd? Tryz.prog 144 = 6 := by kernel_rfl
theorem a764 : ty? Tryz.prog 144 = some (false, 1) := by kernel_rfl
theorem a765 : sl? Tryz.prog 144 = some (308, 4, 32) := by kernel_rfl
theorem a766 : zero? Tryz.prog 144 = some [.nilS] := by kernel_rfl
theorem a777 : kd? Tryz.prog 146 = 7 := by kernel_rfl
theorem a778 : ty? Tryz.prog 146 = some (true, 5) := by kernel_rfl
theorem a779 : sl? Tryz.prog 146 = none := by kernel_rfl
theorem a780 : ar? Tryz.prog 146 = none := by kernel_rfl
theorem a781 : fo? Tryz.prog 146 0 = some (0, 88) := by kernel_rfl
theorem a782 : fo? Tryz.prog 146 1 = some (1, 104) := by kernel_rfl
theorem a783 : fo? Tryz.prog 146 2 = some (2, 143) := by kernel_rfl
theorem a784 : fo? Tryz.prog 146 3 = some (3, 144) := by kernel_rfl
theorem a785 : fo? Tryz.prog 146 4 = some (4, 35) := by kernel_rfl
theorem a786 : zero? Tryz.prog 146 = some [.nilS, .nilS, .nilS, .nilS, .nilS] := by kernel_rfl
theorem a821 : kd? Tryz.prog 152 = 7 := by kernel_rfl
theorem a822 : ty? Tryz.prog 152 = some (true, 5) := by kernel_rfl
theorem a823 : sl? Tryz.prog 152 = none := by kernel_rfl
theorem a824 : ar? Tryz.prog 152 = none := by kernel_rfl
theorem a825 : fo? Tryz.prog 152 0 = some (0, 3) := by kernel_rfl
theorem a826 : fo? Tryz.prog 152 1 = some (1, 3) := by kernel_rfl
theorem a827 : fo? Tryz.prog 152 2 = some (2, 3) := by kernel_rfl
theorem a828 : fo? Tryz.prog 152 3 = some (3, 9) := by kernel_rfl
theorem a829 : fo? Tryz.prog 152 4 = some (4, 35) := by kernel_rfl
theorem a830 : zero? Tryz.prog 152 = some [.d (.int .i64 (0)), .d (.int .i64 (0)), .d (.int .i64 (0)), .d (.str []), .nilS] := by kernel_rfl
theorem a847 : kd? Tryz.prog 157 = 5 := by kernel_rfl
theorem a848 : ty? Tryz.prog 157 = some (false, 1) := by kernel_rfl
theorem a849 : sl? Tryz.prog 157 = none := by kernel_rfl
theorem a850 : zero? Tryz.prog 157 = some [.d (.raw (.pointer none))] := by kernel_rfl
theorem a858 : kd? Tryz.prog 159 = 7 := by kernel_rfl
theorem a859 : ty? Tryz.prog 159 = some (true, 2) := by kernel_rfl
theorem a860 : sl? Tryz.prog 159 = none := by kernel_rfl
theorem a861 : ar? Tryz.prog 159 = none := by kernel_rfl
theorem a862 : fo? Tryz.prog 159 0 = some (0, 61) := by kernel_rfl
theorem a863 : fo? Tryz.prog 159 1 = some (1, 43) := by kernel_rfl
theorem a864 : zero? Tryz.prog 159 = some [.nilS, .d (.int .i64 (0))] := by kernel_rfl
theorem a877 : kd? Tryz.prog 163 = 6 := by kernel_rfl
theorem a878 : ty? Tryz.prog 163 = some (false, 1) := by kernel_rfl
theorem a879 : sl? Tryz.prog 163 = some (27, 2, 32) := by kernel_rfl
theorem a880 : zero? Tryz.prog 163 = some [.nilS] := by kernel_rfl
theorem a885 : kd? Tryz.prog 165 = 3 := by kernel_rfl
theorem a886 : ty? Tryz.prog 165 = some (false, 1) := by kernel_rfl
theorem a887 : sl? Tryz.prog 165 = none := by kernel_rfl
theorem a888 : zero? Tryz.prog 165 = some [.d (.nilI)] := by kernel_rfl
theorem a974 : kd? Tryz.prog 186 = 7 := by kernel_rfl
theorem a975 : ty? Tryz.prog 186 = some (true, 8) := by kernel_rfl
theorem a976 : sl? Tryz.prog 186 = none := by kernel_rfl
theorem a977 : ar? Tryz.prog 186 = none := by kernel_rfl
theorem a978 : fo? Tryz.prog 186 0 = some (0, 4) := by kernel_rfl
theorem a979 : fo? Tryz.prog 186 1 = some (1, 4) := by kernel_rfl
theorem a980 : fo? Tryz.prog 186 2 = some (2, 3) := by kernel_rfl
theorem a981 : fo? Tryz.prog 186 3 = some (3, 146) := by kernel_rfl
theorem a982 : zero? Tryz.prog 186 = some [.d (.bool false), .d (.bool false), .d (.int .i64 (0)), .nilS, .nilS, .nilS, .nilS, .nilS] := by kernel_rfl
theorem a1029 : kd? Tryz.prog 197 = 7 := by kernel_rfl
theorem a1030 : ty? Tryz.prog 197 = some (true, 8) := by kernel_rfl
theorem a1031 : sl? Tryz.prog 197 = none := by kernel_rfl
theorem a1032 : ar? Tryz.prog 197 = none := by kernel_rfl
theorem a1033 : fo? Tryz.prog 197 0 = some (0, 3) := by kernel_rfl
theorem a1034 : fo? Tryz.prog 197 1 = some (1, 9) := by kernel_rfl
theorem a1035 : fo? Tryz.prog 197 2 = some (2, 9) := by kernel_rfl
theorem a1036 : fo? Tryz.prog 197 3 = some (3, 27) := by kernel_rfl
theorem a1037 : fo? Tryz.prog 197 4 = some (5, 9) := by kernel_rfl
theorem a1038 : fo? Tryz.prog 197 5 = some (6, 9) := by kernel_rfl
theorem a1039 : fo? Tryz.prog 197 6 = some (7, 3) := by kernel_rfl
theorem a1040 : cellsT Tryz.prog 197 = some [2, 0, 0, 0, 0, 0, 0, 2] := by kernel_rfl
theorem a1041 : zero? Tryz.prog 197 = some [.d (.int .i64 (0)), .d (.str []), .d (.str []), .d (.str []), .d (.str []), .d (.str []), .d (.str []), .d (.int .i64 (0))] := by kernel_rfl
theorem a1042 : kd? Tryz.prog 198 = 7 := by kernel_rfl
theorem a1043 : ty? Tryz.prog 198 = some (true, 8) := by kernel_rfl
theorem a1044 : sl? Tryz.prog 198 = none := by kernel_rfl
theorem a1045 : ar? Tryz.prog 198 = none := by kernel_rfl
theorem a1046 : fo? Tryz.prog 198 0 = some (0, 3) := by kernel_rfl
theorem a1047 : fo? Tryz.prog 198 1 = some (1, 9) := by kernel_rfl
theorem a1048 : fo? Tryz.prog 198 2 = some (2, 9) := by kernel_rfl
theorem a1049 : fo? Tryz.prog 198 3 = some (3, 27) := by kernel_rfl
theorem a1050 : fo? Tryz.prog 198 4 = some (5, 9) := by kernel_rfl
theorem a1051 : fo? Tryz.prog 198 5 = some (6, 9) := by kernel_rfl
theorem a1052 : fo? Tryz.prog 198 6 = some (7, 3) := by kernel_rfl
theorem a1053 : cellsT Tryz.prog 198 = some [2, 0, 0, 0, 0, 0, 0, 2] := by kernel_rfl
theorem a1054 : zero? Tryz.prog 198 = some [.d (.int .i64 (0)), .d (.str []), .d (.str []), .d (.str []), .d (.str []), .d (.str []), .d (.str []), .d (.int .i64 (0))] := by kernel_rfl
theorem a1055 : kd? Tryz.prog 199 = 7 := by kernel_rfl
theorem a1056 : ty? Tryz.prog 199 = some (true, 8) := by kernel_rfl
theorem a1057 : sl? Tryz.prog 199 = none := by kernel_rfl
theorem a1058 : ar? Tryz.prog 199 = none := by kernel_rfl
theorem a1059 : fo? Tryz.prog 199 0 = some (0, 3) := by kernel_rfl
theorem a1060 : fo? Tryz.prog 199 1 = some (1, 9) := by kernel_rfl
theorem a1061 : fo? Tryz.prog 199 2 = some (2, 9) := by kernel_rfl
theorem a1062 : fo? Tryz.prog 199 3 = some (3, 27) := by kernel_rfl
theorem a1063 : fo? Tryz.prog 199 4 = some (5, 9) := by kernel_rfl
theorem a1064 : fo? Tryz.prog 199 5 = some (6, 9) := by kernel_rfl
theorem a1065 : fo? Tryz.prog 199 6 = some (7, 3) := by kernel_rfl
theorem a1066 : cellsT Tryz.prog 199 = some [2, 0, 0, 0, 0, 0, 0, 2] := by kernel_rfl
theorem a1067 : zero? Tryz.prog 199 = some [.d (.int .i64 (0)), .d (.str []), .d (.str []), .d (.str []), .d (.str []), .d (.str []), .d (.str []), .d (.int .i64 (0))] := by kernel_rfl
theorem a1068 : kd? Tryz.prog 200 = 7 := by kernel_rfl
theorem a1069 : ty? Tryz.prog 200 = some (true, 8) := by kernel_rfl
theorem a1070 : sl? Tryz.prog 200 = none := by kernel_rfl
theorem a1071 : ar? Tryz.prog 200 = none := by kernel_rfl
theorem a1072 : fo? Tryz.prog 200 0 = some (0, 3) := by kernel_rfl
theorem a1073 : fo? Tryz.prog 200 1 = some (1, 9) := by kernel_rfl
theorem a1074 : fo? Tryz.prog 200 2 = some (2, 9) := by kernel_rfl
theorem a1075 : fo? Tryz.prog 200 3 = some (3, 27) := by kernel_rfl
theorem a1076 : fo? Tryz.prog 200 4 = some (5, 9) := by kernel_rfl
theorem a1077 : fo? Tryz.prog 200 5 = some (6, 9) := by kernel_rfl
theorem a1078 : fo? Tryz.prog 200 6 = some (7, 3) := by kernel_rfl
theorem a1079 : cellsT Tryz.prog 200 = some [2, 0, 0, 0, 0, 0, 0, 2] := by kernel_rfl
theorem a1080 : zero? Tryz.prog 200 = some [.d (.int .i64 (0)), .d (.str []), .d (.str []), .d (.str []), .d (.str []), .d (.str []), .d (.str []), .d (.int .i64 (0))] := by kernel_rfl
theorem a1081 : kd? Tryz.prog 201 = 7 := by kernel_rfl
theorem a1082 : ty? Tryz.prog 201 = some (true, 8) := by kernel_rfl
theorem a1083 : sl? Tryz.prog 201 = none := by kernel_rfl
theorem a1084 : ar? Tryz.prog 201 = none := by kernel_rfl
theorem a1085 : fo? Tryz.prog 201 0 = some (0, 3) := by kernel_rfl
theorem a1086 : fo? Tryz.prog 201 1 = some (1, 9) := by kernel_rfl
theorem a1087 : fo? Tryz.prog 201 2 = some (2, 9) := by kernel_rfl
theorem a1088 : fo? Tryz.prog 201 3 = some (3, 27) := by kernel_rfl
theorem a1089 : fo? Tryz.prog 201 4 = some (5, 9) := by kernel_rfl
theorem a1090 : fo? Tryz.prog 201 5 = some (6, 9) := by kernel_rfl
theorem a1091 : fo? Tryz.prog 201 6 = some (7, 3) := by kernel_rfl
theorem a1092 : cellsT Tryz.prog 201 = some [2, 0, 0, 0, 0, 0, 0, 2] := by kernel_rfl
theorem a1093 : zero? Tryz.prog 201 = some [.d (.int .i64 (0)), .d (.str []), .d (.str []), .d (.str []), .d (.str []), .d (.str []), .d (.str []), .d (.int .i64 (0))] := by kernel_rfl
theorem a1094 : kd? Tryz.prog 202 = 7 := by kernel_rfl
theorem a1095 : ty? Tryz.prog 202 = some (true, 8) := by kernel_rfl
theorem a1096 : sl? Tryz.prog 202 = none := by kernel_rfl
theorem a1097 : ar? Tryz.prog 202 = none := by kernel_rfl
theorem a1098 : fo? Tryz.prog 202 0 = some (0, 3) := by kernel_rfl
theorem a1099 : fo? Tryz.prog 202 1 = some (1, 9) := by kernel_rfl
theorem a1100 : fo? Tryz.prog 202 2 = some (2, 9) := by kernel_rfl
theorem a1101 : fo? Tryz.prog 202 3 = some (3, 27) := by kernel_rfl
theorem a1102 : fo? Tryz.prog 202 4 = some (5, 9) := by kernel_rfl
theorem a1103 : fo? Tryz.prog 202 5 = some (6, 9) := by kernel_rfl
theorem a1104 : fo? Tryz.prog 202 6 = some (7, 3) := by kernel_rfl
theorem a1105 : cellsT Tryz.prog 202 = some [2, 0, 0, 0, 0, 0, 0, 2] := by kernel_rfl
theorem a1106 : zero? Tryz.prog 202 = some [.d (.int .i64 (0)), .d (.str []), .d (.str []), .d (.str []), .d (.str []), .d (.str []), .d (.str []), .d (.int .i64 (0))] := by kernel_rfl
theorem a1364 : kd? Tryz.prog 263 = 7 := by kernel_rfl
theorem a1365 : ty? Tryz.prog 263 = some (true, 2) := by kernel_rfl
theorem a1366 : sl? Tryz.prog 263 = none := by kernel_rfl
theorem a1367 : ar? Tryz.prog 263 = none := by kernel_rfl
theorem a1368 : fo? Tryz.prog 263 0 = some (0, 78) := by kernel_rfl
theorem a1369 : fo? Tryz.prog 263 1 = some (1, 4) := by kernel_rfl
theorem a1370 : zero? Tryz.prog 263 = some [.nilS, .d (.bool false)] := by kernel_rfl
theorem a1389 : kd? Tryz.prog 268 = 7 := by kernel_rfl
theorem a1390 : ty? Tryz.prog 268 = some (true, 1) := by kernel_rfl
theorem a1391 : sl? Tryz.prog 268 = none := by kernel_rfl
theorem a1392 : ar? Tryz.prog 268 = none := by kernel_rfl
theorem a1393 : fo? Tryz.prog 268 0 = some (0, 78) := by kernel_rfl
theorem a1394 : zero? Tryz.prog 268 = some [.nilS] := by kernel_rfl
theorem a1579 : kd? Tryz.prog 306 = 7 := by kernel_rfl
theorem a1580 : ty? Tryz.prog 306 = some (true, 2) := by kernel_rfl
theorem a1581 : sl? Tryz.prog 306 = none := by kernel_rfl
theorem a1582 : ar? Tryz.prog 306 = none := by kernel_rfl
theorem a1583 : fo? Tryz.prog 306 0 = some (0, 3) := by kernel_rfl
theorem a1584 : fo? Tryz.prog 306 1 = some (1, 3) := by kernel_rfl
theorem a1585 : cellsT Tryz.prog 306 = some [2, 2] := by kernel_rfl
theorem a1586 : zero? Tryz.prog 306 = some [.d (.int .i64 (0)), .d (.int .i64 (0))] := by kernel_rfl
theorem a1595 : kd? Tryz.prog 308 = 7 := by kernel_rfl
theorem a1596 : ty? Tryz.prog 308 = some (true, 4) := by kernel_rfl
theorem a1597 : sl? Tryz.prog 308 = none := by kernel_rfl
theorem a1598 : ar? Tryz.prog 308 = none := by kernel_rfl
theorem a1599 : fo? Tryz.prog 308 0 = some (0, 306) := by kernel_rfl
theorem a1600 : fo? Tryz.prog 308 1 = some (2, 306) := by kernel_rfl
theorem a1601 : cellsT Tryz.prog 308 = some [2, 2, 2, 2] := by kernel_rfl
theorem a1602 : zero? Tryz.prog 308 = some [.d (.int .i64 (0)), .d (.int .i64 (0)), .d (.int .i64 (0)), .d (.int .i64 (0))] := by kernel_rfl
theorem a2377 : meth? Tryz.prog 43 "Error" = some 386 := by kernel_rfl
theorem a2378 : meth? Tryz.prog 96 "downspout/receive.checks" = some 45 := by kernel_rfl
theorem a2379 : meth? Tryz.prog 96 "downspout/receive.end" = some 71 := by kernel_rfl
theorem a2380 : meth? Tryz.prog 96 "downspout/receive.fits" = some 74 := by kernel_rfl
theorem a2381 : meth? Tryz.prog 96 "downspout/receive.follows" = some 76 := by kernel_rfl
theorem a2382 : meth? Tryz.prog 96 "downspout/receive.like" = some 44 := by kernel_rfl
theorem a2385 : meth? Tryz.prog 157 "downspout/tree.below" = some 119 := by kernel_rfl
theorem a2386 : meth? Tryz.prog 157 "downspout/tree.pairs" = some 92 := by kernel_rfl
theorem a2387 : meth? Tryz.prog 197 "downspout/msg.apply" = some 387 := by kernel_rfl
theorem a2388 : meth? Tryz.prog 197 "downspout/msg.bare" = some 388 := by kernel_rfl
theorem a2389 : meth? Tryz.prog 197 "downspout/msg.reads" = some 389 := by kernel_rfl
theorem a2390 : meth? Tryz.prog 197 "downspout/msg.valid" = some 390 := by kernel_rfl
theorem a2391 : meth? Tryz.prog 197 "downspout/msg.write" = some 391 := by kernel_rfl
theorem a2392 : meth? Tryz.prog 197 "downspout/msg.writes" = some 392 := by kernel_rfl
theorem a2393 : meth? Tryz.prog 198 "downspout/msg.apply" = some 408 := by kernel_rfl
theorem a2394 : meth? Tryz.prog 198 "downspout/msg.bare" = some 409 := by kernel_rfl
theorem a2395 : meth? Tryz.prog 198 "downspout/msg.reads" = some 410 := by kernel_rfl
theorem a2396 : meth? Tryz.prog 198 "downspout/msg.valid" = some 411 := by kernel_rfl
theorem a2397 : meth? Tryz.prog 198 "downspout/msg.write" = some 412 := by kernel_rfl
theorem a2398 : meth? Tryz.prog 198 "downspout/msg.writes" = some 413 := by kernel_rfl
theorem a2399 : meth? Tryz.prog 199 "downspout/msg.apply" = some 419 := by kernel_rfl
theorem a2400 : meth? Tryz.prog 199 "downspout/msg.bare" = some 420 := by kernel_rfl
theorem a2401 : meth? Tryz.prog 199 "downspout/msg.reads" = some 421 := by kernel_rfl
theorem a2402 : meth? Tryz.prog 199 "downspout/msg.valid" = some 422 := by kernel_rfl
theorem a2403 : meth? Tryz.prog 199 "downspout/msg.write" = some 423 := by kernel_rfl
theorem a2404 : meth? Tryz.prog 199 "downspout/msg.writes" = some 424 := by kernel_rfl
theorem a2405 : meth? Tryz.prog 200 "downspout/msg.apply" = some 426 := by kernel_rfl
theorem a2406 : meth? Tryz.prog 200 "downspout/msg.bare" = some 427 := by kernel_rfl
theorem a2407 : meth? Tryz.prog 200 "downspout/msg.reads" = some 428 := by kernel_rfl
theorem a2408 : meth? Tryz.prog 200 "downspout/msg.valid" = some 429 := by kernel_rfl
theorem a2409 : meth? Tryz.prog 200 "downspout/msg.write" = some 430 := by kernel_rfl
theorem a2410 : meth? Tryz.prog 200 "downspout/msg.writes" = some 431 := by kernel_rfl
theorem a2411 : meth? Tryz.prog 201 "downspout/msg.apply" = some 432 := by kernel_rfl
theorem a2412 : meth? Tryz.prog 201 "downspout/msg.bare" = some 438 := by kernel_rfl
theorem a2413 : meth? Tryz.prog 201 "downspout/msg.reads" = some 439 := by kernel_rfl
theorem a2414 : meth? Tryz.prog 201 "downspout/msg.valid" = some 440 := by kernel_rfl
theorem a2415 : meth? Tryz.prog 201 "downspout/msg.write" = some 441 := by kernel_rfl
theorem a2416 : meth? Tryz.prog 201 "downspout/msg.writes" = some 442 := by kernel_rfl
theorem a2417 : meth? Tryz.prog 202 "downspout/msg.apply" = some 443 := by kernel_rfl
theorem a2418 : meth? Tryz.prog 202 "downspout/msg.bare" = some 444 := by kernel_rfl
theorem a2419 : meth? Tryz.prog 202 "downspout/msg.reads" = some 445 := by kernel_rfl
theorem a2420 : meth? Tryz.prog 202 "downspout/msg.valid" = some 446 := by kernel_rfl
theorem a2421 : meth? Tryz.prog 202 "downspout/msg.write" = some 447 := by kernel_rfl
theorem a2422 : meth? Tryz.prog 202 "downspout/msg.writes" = some 448 := by kernel_rfl
def fB1 := And.intro a8 (And.intro a9 (And.intro a10 (And.intro a11 (And.intro a12 (And.intro a13 (And.intro a14 (And.intro a15 (And.intro a16 (And.intro a17 (And.intro a18 (And.intro a19 (And.intro a20 (And.intro a21 (And.intro a22 (And.intro a23 (And.intro a24 (And.intro a25 (And.intro a26 (And.intro a27 (And.intro a28 (And.intro a29 (And.intro a30 (And.intro a31 (And.intro a52 (And.intro a53 (And.intro a54 (And.intro a55 (And.intro a64 (And.intro a65 (And.intro a66 (And.intro a67 (And.intro a68 (And.intro a107 (And.intro a108 (And.intro a109 (And.intro a110 (And.intro a116 (And.intro a117 (a118)))))))))))))))))))))))))))))))))))))))
def fB2 := And.intro a119 (And.intro a120 (And.intro a121 (And.intro a122 (And.intro a123 (And.intro a124 (And.intro a125 (And.intro a126 (And.intro a127 (And.intro a128 (And.intro a129 (And.intro a130 (And.intro a131 (And.intro a132 (And.intro a133 (And.intro a142 (And.intro a143 (And.intro a144 (And.intro a145 (And.intro a146 (And.intro a147 (And.intro a148 (And.intro a149 (And.intro a163 (And.intro a164 (And.intro a165 (And.intro a166 (And.intro a167 (And.intro a168 (And.intro a169 (And.intro a170 (And.intro a171 (And.intro a172 (And.intro a173 (And.intro a174 (And.intro a175 (And.intro a189 (And.intro a190 (And.intro a191 (a192)))))))))))))))))))))))))))))))))))))))
def fB3 := And.intro a193 (And.intro a194 (And.intro a195 (And.intro a196 (And.intro a197 (And.intro a198 (And.intro a199 (And.intro a200 (And.intro a201 (And.intro a206 (And.intro a207 (And.intro a208 (And.intro a209 (And.intro a214 (And.intro a215 (And.intro a216 (And.intro a217 (And.intro a222 (And.intro a223 (And.intro a224 (And.intro a225 (And.intro a226 (And.intro a240 (And.intro a241 (And.intro a242 (And.intro a243 (And.intro a244 (And.intro a245 (And.intro a246 (And.intro a247 (And.intro a248 (And.intro a249 (And.intro a250 (And.intro a251 (And.intro a252 (And.intro a253 (And.intro a254 (And.intro a255 (And.intro a256 (a257)))))))))))))))))))))))))))))))))))))))
def fB4 := And.intro a262 (And.intro a263 (And.intro a264 (And.intro a265 (And.intro a266 (And.intro a267 (And.intro a268 (And.intro a269 (And.intro a270 (And.intro a271 (And.intro a279 (And.intro a280 (And.intro a281 (And.intro a282 (And.intro a283 (And.intro a284 (And.intro a285 (And.intro a312 (And.intro a313 (And.intro a314 (And.intro a315 (And.intro a316 (And.intro a341 (And.intro a342 (And.intro a343 (And.intro a344 (And.intro a351 (And.intro a352 (And.intro a353 (And.intro a354 (And.intro a355 (And.intro a356 (And.intro a366 (And.intro a367 (And.intro a368 (And.intro a369 (And.intro a370 (And.intro a371 (And.intro a372 (a373)))))))))))))))))))))))))))))))))))))))
def fB5 := And.intro a374 (And.intro a375 (And.intro a376 (And.intro a377 (And.intro a378 (And.intro a391 (And.intro a392 (And.intro a393 (And.intro a394 (And.intro a395 (And.intro a396 (And.intro a397 (And.intro a398 (And.intro a399 (And.intro a400 (And.intro a401 (And.intro a402 (And.intro a447 (And.intro a448 (And.intro a449 (And.intro a450 (And.intro a463 (And.intro a464 (And.intro a465 (And.intro a466 (And.intro a487 (And.intro a488 (And.intro a489 (And.intro a490 (And.intro a491 (And.intro a492 (And.intro a493 (And.intro a494 (And.intro a495 (And.intro a496 (And.intro a497 (And.intro a498 (And.intro a527 (And.intro a528 (a529)))))))))))))))))))))))))))))))))))))))
def fB6 := And.intro a530 (And.intro a538 (And.intro a539 (And.intro a540 (And.intro a541 (And.intro a542 (And.intro a543 (And.intro a544 (And.intro a565 (And.intro a566 (And.intro a567 (And.intro a568 (And.intro a581 (And.intro a582 (And.intro a583 (And.intro a584 (And.intro a585 (And.intro a586 (And.intro a587 (And.intro a588 (And.intro a643 (And.intro a644 (And.intro a645 (And.intro a646 (And.intro a647 (And.intro a648 (And.intro a662 (And.intro a663 (And.intro a664 (And.intro a665 (And.intro a666 (And.intro a667 (And.intro a668 (And.intro a669 (And.intro a670 (And.intro a715 (And.intro a716 (And.intro a717 (And.intro a718 (a719)))))))))))))))))))))))))))))))))))))))
def fB7 := And.intro a720 (And.intro a721 (And.intro a722 (And.intro a747 (And.intro a748 (And.intro a749 (And.intro a750 (And.intro a751 (And.intro a752 (And.intro a753 (And.intro a754 (And.intro a759 (And.intro a760 (And.intro a761 (And.intro a762 (And.intro a763 (And.intro a764 (And.intro a765 (And.intro a766 (And.intro a777 (And.intro a778 (And.intro a779 (And.intro a780 (And.intro a781 (And.intro a782 (And.intro a783 (And.intro a784 (And.intro a785 (And.intro a786 (And.intro a821 (And.intro a822 (And.intro a823 (And.intro a824 (And.intro a825 (And.intro a826 (And.intro a827 (And.intro a828 (And.intro a829 (And.intro a830 (a847)))))))))))))))))))))))))))))))))))))))
def fB8 := And.intro a848 (And.intro a849 (And.intro a850 (And.intro a858 (And.intro a859 (And.intro a860 (And.intro a861 (And.intro a862 (And.intro a863 (And.intro a864 (And.intro a877 (And.intro a878 (And.intro a879 (And.intro a880 (And.intro a885 (And.intro a886 (And.intro a887 (And.intro a888 (And.intro a974 (And.intro a975 (And.intro a976 (And.intro a977 (And.intro a978 (And.intro a979 (And.intro a980 (And.intro a981 (And.intro a982 (And.intro a1029 (And.intro a1030 (And.intro a1031 (And.intro a1032 (And.intro a1033 (And.intro a1034 (And.intro a1035 (And.intro a1036 (And.intro a1037 (And.intro a1038 (And.intro a1039 (And.intro a1040 (a1041)))))))))))))))))))))))))))))))))))))))
def fB9 := And.intro a1042 (And.intro a1043 (And.intro a1044 (And.intro a1045 (And.intro a1046 (And.intro a1047 (And.intro a1048 (And.intro a1049 (And.intro a1050 (And.intro a1051 (And.intro a1052 (And.intro a1053 (And.intro a1054 (And.intro a1055 (And.intro a1056 (And.intro a1057 (And.intro a1058 (And.intro a1059 (And.intro a1060 (And.intro a1061 (And.intro a1062 (And.intro a1063 (And.intro a1064 (And.intro a1065 (And.intro a1066 (And.intro a1067 (And.intro a1068 (And.intro a1069 (And.intro a1070 (And.intro a1071 (And.intro a1072 (And.intro a1073 (And.intro a1074 (And.intro a1075 (And.intro a1076 (And.intro a1077 (And.intro a1078 (And.intro a1079 (And.intro a1080 (a1081)))))))))))))))))))))))))))))))))))))))
def fB10 := And.intro a1082 (And.intro a1083 (And.intro a1084 (And.intro a1085 (And.intro a1086 (And.intro a1087 (And.intro a1088 (And.intro a1089 (And.intro a1090 (And.intro a1091 (And.intro a1092 (And.intro a1093 (And.intro a1094 (And.intro a1095 (And.intro a1096 (And.intro a1097 (And.intro a1098 (And.intro a1099 (And.intro a1100 (And.intro a1101 (And.intro a1102 (And.intro a1103 (And.intro a1104 (And.intro a1105 (And.intro a1106 (And.intro a1364 (And.intro a1365 (And.intro a1366 (And.intro a1367 (And.intro a1368 (And.intro a1369 (And.intro a1370 (And.intro a1389 (And.intro a1390 (And.intro a1391 (And.intro a1392 (And.intro a1393 (And.intro a1394 (And.intro a1579 (a1580)))))))))))))))))))))))))))))))))))))))
def fB11 := And.intro a1581 (And.intro a1582 (And.intro a1583 (And.intro a1584 (And.intro a1585 (And.intro a1586 (And.intro a1595 (And.intro a1596 (And.intro a1597 (And.intro a1598 (And.intro a1599 (And.intro a1600 (And.intro a1601 (And.intro a1602 (And.intro a2377 (And.intro a2378 (And.intro a2379 (And.intro a2380 (And.intro a2381 (And.intro a2382 (And.intro a2385 (And.intro a2386 (And.intro a2387 (And.intro a2388 (And.intro a2389 (And.intro a2390 (And.intro a2391 (And.intro a2392 (And.intro a2393 (And.intro a2394 (And.intro a2395 (And.intro a2396 (And.intro a2397 (And.intro a2398 (And.intro a2399 (And.intro a2400 (And.intro a2401 (And.intro a2402 (And.intro a2403 (a2404)))))))))))))))))))))))))))))))))))))))
def fB12 := And.intro a2405 (And.intro a2406 (And.intro a2407 (And.intro a2408 (And.intro a2409 (And.intro a2410 (And.intro a2411 (And.intro a2412 (And.intro a2413 (And.intro a2414 (And.intro a2415 (And.intro a2416 (And.intro a2417 (And.intro a2418 (And.intro a2419 (And.intro a2420 (And.intro a2421 (a2422)))))))))))))))))
def fBs := And.intro fB1 (And.intro fB2 (And.intro fB3 (And.intro fB4 (And.intro fB5 (And.intro fB6 (And.intro fB7 (And.intro fB8 (And.intro fB9 (And.intro fB10 (And.intro fB11 (fB12)))))))))))
end Go.PE.F
