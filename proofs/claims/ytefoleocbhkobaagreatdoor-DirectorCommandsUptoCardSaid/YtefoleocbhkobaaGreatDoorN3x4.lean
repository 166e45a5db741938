/-
  Part 4 of the proof.
-/
import Derived.Test.YtefoleocbhkobaaGreatDoorN3x3
import Derived.ProofKit
import Derived.Below
import Derived.Test.YtefoleocbhkobaaGreatDoorChecked
import Derived.Shelf.Strings.OnBuilder
import Derived.Test.YtefoleocbhkobaaGreatDoorProg
import Derived.Shelf.Spec.SlicesInsert
import Derived.Lib.AppendZerosOnto
import Derived.Laws.NewBlocks
import Derived.KernelRfl
import Derived.IntWalk
namespace Go.Proofs.YtefoleocbhkobaaGreatDoor
open Go Go.Ev
set_option linter.unusedSectionVars false
set_option linter.unusedSimpArgs false
set_option linter.unusedVariables false
def o55_1 : List Opn := [⟨some 1, none, .box 100001 (.t 0)⟩,
⟨some 2, none, .mov (.c (.nul))⟩]
def o55_2 : List Opn := [⟨some 4, none, .faddr 8 (.t 1)⟩,
⟨some 5, none, .load 20 true (.t 4)⟩,
⟨some 3, none, .alloc 100003 [.int .i64 0, .int .i64 0, .int .i64 0, .int .i64 0, .int .i64 0, .int .i64 0, .int .i64 0, .int .i64 0, .str [], .nul, .int .i64 0, .int .i64 0, .int .i64 0, .str [], .str [], .nul, .int .i64 0, .int .i64 0, .int .i64 0, .nul]⟩,
⟨none, none, .store 20 (.t 3) (.t 5)⟩]
def o55_3 : List Opn := [⟨some 6, none, .faddr 0 (.t 3)⟩,
⟨some 7, none, .load 1 false (.t 6)⟩]
def o55_4 : List Opn := [⟨some 9, none, .eq false false [.i] (.t 7) (.c (.int .i64 4))⟩,
⟨some 8, none, .mov (.t 9)⟩]
def o55_5 : List Opn := [⟨some 10, none, .load 29 true (.t 1)⟩,
⟨some 11, none, .call 96 [(.shut, (.t 10))] [] 410011000⟩,
⟨some 2, none, .mov (.t 11)⟩]
def o55_6 : List Opn := [⟨some 13, none, .eq false false [.i] (.t 7) (.c (.int .i64 5))⟩,
⟨some 12, none, .mov (.t 13)⟩]
def o55_7 : List Opn := [⟨some 14, none, .faddr 1 (.t 3)⟩,
⟨some 15, none, .load 1 false (.t 14)⟩,
⟨some 16, none, .eq true false [.i] (.t 15) (.c (.int .i64 1))⟩]
def o55_8 : List Opn := [⟨some 2, none, .mov (.c (.nul))⟩]
def o55_9 : List Opn := [⟨some 17, none, .faddr 19 (.t 3)⟩,
⟨some 18, none, .load 1 false (.t 17)⟩,
⟨some 19, none, .iaddr 1 (.t 18) (.c (.int .i64 0))⟩,
⟨some 20, none, .load 1 false (.t 19)⟩,
⟨some 21, none, .faddr 5 (.t 3)⟩,
⟨some 22, none, .load 1 false (.t 21)⟩,
⟨some 23, none, .faddr 1 (.t 1)⟩,
⟨some 24, none, .load 1 false (.t 23)⟩,
⟨some 25, none, .faddr 5 (.t 3)⟩,
⟨some 26, none, .load 1 false (.t 25)⟩,
⟨some 27, none, .bin .sub (.t 26) (.c (.int .i64 1))⟩,
⟨some 28, none, .iaddr 3 (.t 24) (.t 27)⟩,
⟨some 29, none, .faddr 0 (.t 28)⟩,
⟨some 30, none, .load 1 false (.t 29)⟩,
⟨some 31, none, .bin .add (.t 30) (.c (.int .i64 1))⟩,
⟨some 32, none, .faddr 19 (.t 3)⟩,
⟨some 33, none, .load 1 false (.t 32)⟩,
⟨some 34, none, .call 43 [(.shut, (.t 33))] [(0, 203400)] 810034000⟩,
⟨some 35, none, .build [.int .i64 0, .int .i64 0, .int .i64 0, .int .i64 0, .int .i64 0, .int .i64 0, .int .i64 0, .int .i64 0, .int .i64 0, .int .i64 0, .int .i64 0, .int .i64 0, .str [], .int .i64 0, .int .i64 0, .int .i64 0, .str [], .str [], .bool false, .str [], .int .i64 0, .int .i64 0, .int .i64 0, .str [], .int .i64 0, .int .i64 0, .int .i64 0, .int .i64 0, .int .i64 0, .bool false, .str [], .nul, .str [], .bool false, .nul, .nul] [(0, 1, (.c (.int .i64 33))), (2, 1, (.t 20)), (7, 1, (.t 22)), (4, 1, (.t 31)), (35, 1, (.t 34))]⟩,
⟨some 36, none, .bslice 100036 36 [(.t 35)]⟩,
⟨some 2, none, .mov (.t 36)⟩]
def o55_10 : List Opn := [⟨some 38, none, .eq false false [.i] (.t 7) (.c (.int .i64 1))⟩,
⟨some 37, none, .mov (.t 38)⟩]
def o55_11 : List Opn := [⟨some 39, none, .eq false false [.i] (.t 7) (.c (.int .i64 2))⟩,
⟨some 37, none, .mov (.t 39)⟩]
def o55_12 : List Opn := [⟨some 40, none, .eq false false [.i] (.t 7) (.c (.int .i64 3))⟩,
⟨some 37, none, .mov (.t 40)⟩]
def o55_13 : List Opn := [⟨some 41, none, .load 29 true (.t 1)⟩,
⟨some 42, none, .call 97 [(.shut, (.t 41))] [] 1210042000⟩,
⟨some 2, none, .mov (.t 42)⟩]
def o55_14 : List Opn := [⟨some 2, none, .mov (.c (.nul))⟩]
def c55 : IFn := ⟨1, [.t 2], [], [],
.seq (.reg o55_1)
(.seq (.reg o55_2)
(.seq (.seq (.reg o55_3)
(.block 0 (.seq (.reg o55_4)
(.cond (.t 8) (.seq (.reg o55_5)
(.ret))
(.seq (.reg o55_6)
(.cond (.t 12) (.seq (.seq (.reg o55_7)
(.cond (.t 16) (.seq (.reg o55_8)
(.ret))
(.skip)))
(.seq (.dreg o55_9
[(0, 17), (1, 17), (2, 17), (3, 17), (4, 17), (5, 17), (6, 17), (7, 17), (8, 17), (9, 17), (11, 17), (12, 17), (13, 17)])
(.ret)))
(.seq (.seq (.reg o55_10)
(.cond (.t 37) (.skip)
(.seq (.reg o55_11)
(.cond (.t 37) (.skip)
(.reg o55_12)))))
(.cond (.t 37) (.seq (.reg o55_13)
(.ret))
(.skip)))))))))
(.seq (.reg o55_14)
(.ret))))⟩
def ob56_1_1 : List Opn := [⟨some 14, none, .mov (.t 6)⟩,
⟨some 15, none, .mov (.t 0)⟩,
⟨some 16, none, .len (.t 15)⟩,
⟨some 17, none, .bin .lss (.t 14) (.t 16)⟩]
def ob56_1_2 : List Opn := [⟨some 20, none, .mov (.t 1)⟩,
⟨some 21, none, .mov (.t 0)⟩,
⟨some 22, none, .mov (.t 6)⟩,
⟨some 23, none, .iaddr 3 (.t 21) (.t 22)⟩,
⟨some 24, none, .load 3 true (.t 23)⟩,
⟨some 25, none, .load 3 true (.t 5)⟩,
⟨some 26, none, .callv (.t 20) [(.shut, (.t 24)), (.shut, (.t 25))] [] 710026000⟩,
⟨some 27, none, .bin .gtr (.t 26) (.c (.int .i64 0))⟩]
def ob56_1_3 : List Opn := [⟨some 28, none, .mov (.t 0)⟩,
⟨some 29, none, .mov (.t 6)⟩,
⟨some 30, none, .iaddr 3 (.t 28) (.t 29)⟩,
⟨some 31, none, .load 3 true (.t 30)⟩,
⟨none, none, .store 3 (.t 5) (.t 31)⟩]
def ob56_1_4 : List Opn := [⟨some 18, none, .mov (.t 6)⟩,
⟨some 19, none, .bin .add (.t 18) (.c (.int .i64 1))⟩,
⟨some 6, none, .mov (.t 19)⟩]
def b56_1 : IC := (.seq (.gh (.keep [0, 1, 4, 5, 6] [100004, 100005]))
(.seq (.seq (.reg ob56_1_1)
(.cond (.t 17) (.skip)
(.exit 0)))
(.seq (.block 1 (.seq (.dreg ob56_1_2
[])
(.cond (.t 27) (.reg ob56_1_3)
(.skip))))
(.reg ob56_1_4))))
def o56_1 : List Opn := [⟨some 4, none, .alloc 100004 [.int .i64 0, .int .i64 0, .int .i64 0]⟩]
def o56_2 : List Opn := [⟨some 7, none, .mov (.t 0)⟩,
⟨some 8, none, .len (.t 7)⟩,
⟨some 9, none, .bin .lss (.t 8) (.c (.int .i64 1))⟩]
def o56_3 : List Opn := [⟨some 10, none, .mki 9 (.c (.str [115, 108, 105, 99, 101, 115, 46, 77, 97, 120, 70, 117, 110, 99, 58, 32, 101, 109, 112, 116, 121, 32, 108, 105, 115, 116]))⟩,
⟨none, none, .stop⟩]
def o56_4 : List Opn := [⟨some 11, none, .mov (.t 0)⟩,
⟨some 12, none, .iaddr 3 (.t 11) (.c (.int .i64 0))⟩,
⟨some 13, none, .load 3 true (.t 12)⟩,
⟨some 5, none, .alloc 100005 [.int .i64 0, .int .i64 0, .int .i64 0]⟩,
⟨none, none, .store 3 (.t 5) (.t 13)⟩]
def o56_5 : List Opn := [⟨some 6, none, .mov (.c (.int .i64 1))⟩]
def o56_6 : List Opn := [⟨some 32, none, .load 3 true (.t 5)⟩,
⟨none, none, .store 3 (.t 4) (.t 32)⟩]
def c56 : IFn := ⟨2, [.m 4 3 true], [], [],
.seq (.reg o56_1)
(.seq (.seq (.reg o56_2)
(.cond (.t 9) (.reg o56_3)
(.skip)))
(.seq (.reg o56_4)
(.seq (.seq (.reg o56_5)
(.block 0 (.loop b56_1)))
(.seq (.reg o56_6)
(.ret)))))⟩
def o57_1 : List Opn := [⟨some 2, none, .box 100002 (.t 0)⟩,
⟨some 4, none, .mov (.c (.int .i64 0))⟩]
def o57_2 : List Opn := [⟨some 5, none, .faddr 1 (.t 2)⟩,
⟨some 6, none, .load 1 false (.t 5)⟩,
⟨some 7, none, .mov (.t 1)⟩,
⟨some 8, none, .bin .sub (.t 7) (.c (.int .i64 1))⟩,
⟨some 9, none, .iaddr 3 (.t 6) (.t 8)⟩,
⟨some 10, none, .faddr 1 (.t 9)⟩,
⟨some 11, none, .load 1 false (.t 10)⟩,
⟨some 12, none, .iaddr 1 (.t 11) (.c (.int .i64 0))⟩,
⟨some 13, none, .load 1 false (.t 12)⟩,
⟨some 4, none, .mov (.t 13)⟩]
def c57 : IFn := ⟨2, [.t 4], [], [],
.seq (.reg o57_1)
(.seq (.reg o57_2)
(.ret))⟩
def ob58_1_1 : List Opn := [⟨some 5, none, .mov (.t 4)⟩,
⟨some 6, none, .mov (.t 0)⟩,
⟨some 7, none, .len (.t 6)⟩,
⟨some 8, none, .bin .lss (.t 5) (.t 7)⟩]
def ob58_1_2 : List Opn := [⟨some 11, none, .mov (.t 0)⟩,
⟨some 12, none, .mov (.t 4)⟩,
⟨some 13, none, .iaddr 5 (.t 11) (.t 12)⟩,
⟨some 14, none, .faddr 1 (.t 13)⟩,
⟨some 15, none, .load 1 false (.t 14)⟩,
⟨some 16, none, .bin .gtr (.t 15) (.c (.int .i64 1))⟩]
def ob58_1_3 : List Opn := [⟨some 17, none, .mov (.t 3)⟩,
⟨some 18, none, .mov (.t 0)⟩,
⟨some 19, none, .mov (.t 4)⟩,
⟨some 20, none, .iaddr 5 (.t 18) (.t 19)⟩,
⟨some 21, none, .faddr 0 (.t 20)⟩,
⟨some 22, none, .load 1 false (.t 21)⟩,
⟨some 23, none, .mov (.t 0)⟩,
⟨some 24, none, .mov (.t 4)⟩,
⟨some 25, none, .iaddr 5 (.t 23) (.t 24)⟩,
⟨some 26, none, .faddr 1 (.t 25)⟩,
⟨some 27, none, .load 1 false (.t 26)⟩,
⟨some 28, none, .bin .sub (.t 27) (.c (.int .i64 1))⟩,
⟨some 29, none, .mov (.t 0)⟩,
⟨some 30, none, .mov (.t 4)⟩,
⟨some 31, none, .iaddr 5 (.t 29) (.t 30)⟩,
⟨some 32, none, .faddr 2 (.t 31)⟩,
⟨some 33, none, .load 3 true (.t 32)⟩,
⟨some 34, none, .build [.int .i64 0, .int .i64 0, .int .i64 0, .int .i64 0, .int .i64 0] [(0, 1, (.t 22)), (1, 1, (.t 28)), (2, 3, (.t 33))]⟩,
⟨some 35, none, .bslice 100035 5 [(.t 34)]⟩,
⟨some 36, none, .app 100036 5 40 (.t 17) (.t 35)⟩,
⟨some 3, none, .mov (.t 36)⟩]
def ob58_1_4 : List Opn := [⟨some 9, none, .mov (.t 4)⟩,
⟨some 10, none, .bin .add (.t 9) (.c (.int .i64 1))⟩,
⟨some 4, none, .mov (.t 10)⟩]
def b58_1 : IC := (.seq (.gh (.keep [0, 3, 4] [300003]))
(.seq (.seq (.reg ob58_1_1)
(.cond (.t 8) (.skip)
(.exit 0)))
(.seq (.block 1 (.seq (.reg ob58_1_2)
(.cond (.t 16) (.dreg ob58_1_3
[])
(.skip))))
(.reg ob58_1_4))))
def o58_1 : List Opn := [⟨some 2, none, .mov (.c (.nul))⟩]
def o58_2 : List Opn := [⟨some 3, none, .mov (.c (.nul))⟩]
def o58_3 : List Opn := [⟨some 4, none, .mov (.c (.int .i64 0))⟩]
def o58_4 : List Opn := [⟨some 37, none, .mov (.t 3)⟩,
⟨some 2, none, .mov (.t 37)⟩]
def c58 : IFn := ⟨1, [.t 2], [], [],
.seq (.reg o58_1)
(.seq (.reg o58_2)
(.seq (.seq (.reg o58_3)
(.block 0 (.seq (.gh (.room 3 300003 5))
(.loop b58_1))))
(.seq (.reg o58_4)
(.ret))))⟩
def o59_1 : List Opn := [⟨some 2, none, .box 100002 (.t 0)⟩,
⟨some 4, none, .mov (.c (.int .i64 0))⟩]
def o59_2 : List Opn := [⟨some 5, none, .faddr 1 (.t 2)⟩,
⟨some 6, none, .load 1 false (.t 5)⟩,
⟨some 7, none, .mov (.t 1)⟩,
⟨some 8, none, .bin .sub (.t 7) (.c (.int .i64 1))⟩,
⟨some 9, none, .iaddr 3 (.t 6) (.t 8)⟩,
⟨some 10, none, .faddr 1 (.t 9)⟩,
⟨some 11, none, .load 1 false (.t 10)⟩,
⟨some 12, none, .iaddr 1 (.t 11) (.c (.int .i64 0))⟩,
⟨some 13, none, .load 1 false (.t 12)⟩,
⟨some 4, none, .mov (.t 13)⟩]
def c59 : IFn := ⟨2, [.t 4], [], [],
.seq (.reg o59_1)
(.seq (.reg o59_2)
(.ret))⟩
def o61_1 : List Opn := [⟨some 2, none, .box 100002 (.t 0)⟩,
⟨some 3, none, .box 100003 (.t 1)⟩,
⟨some 4, none, .alloc 100004 [.int .i64 0, .int .i64 0, .int .i64 0]⟩]
def o61_2 : List Opn := [⟨some 5, none, .load 3 true (.t 2)⟩,
⟨some 6, none, .load 3 true (.t 3)⟩,
⟨some 7, none, .call 98 [(.shut, (.t 5)), (.shut, (.t 6))] [] 110007000⟩]
def o61_3 : List Opn := [⟨some 8, none, .load 3 true (.t 3)⟩,
⟨none, none, .store 3 (.t 4) (.t 8)⟩]
def o61_4 : List Opn := [⟨some 9, none, .load 3 true (.t 2)⟩,
⟨none, none, .store 3 (.t 4) (.t 9)⟩]
def c61 : IFn := ⟨2, [.m 4 3 true], [], [],
.seq (.reg o61_1)
(.seq (.seq (.reg o61_2)
(.cond (.t 7) (.seq (.reg o61_3)
(.ret))
(.skip)))
(.seq (.reg o61_4)
(.ret)))⟩
def o62_1 : List Opn := [⟨some 2, none, .box 100002 (.t 0)⟩,
⟨some 3, none, .box 100003 (.t 1)⟩,
⟨some 4, none, .alloc 100004 [.int .i64 0, .int .i64 0, .int .i64 0]⟩]
def o62_2 : List Opn := [⟨some 5, none, .load 3 true (.t 3)⟩,
⟨some 6, none, .load 3 true (.t 2)⟩,
⟨some 7, none, .call 98 [(.shut, (.t 5)), (.shut, (.t 6))] [] 110007000⟩]
def o62_3 : List Opn := [⟨some 8, none, .load 3 true (.t 3)⟩,
⟨none, none, .store 3 (.t 4) (.t 8)⟩]
def o62_4 : List Opn := [⟨some 9, none, .load 3 true (.t 2)⟩,
⟨none, none, .store 3 (.t 4) (.t 9)⟩]
def c62 : IFn := ⟨2, [.m 4 3 true], [], [],
.seq (.reg o62_1)
(.seq (.seq (.reg o62_2)
(.cond (.t 7) (.seq (.reg o62_3)
(.ret))
(.skip)))
(.seq (.reg o62_4)
(.ret)))⟩
def o64_1 : List Opn := [⟨some 2, none, .mov (.c (.nul))⟩]
def o64_2 : List Opn := [⟨some 3, none, .mov (.t 0)⟩,
⟨some 4, none, .isnl false (.t 3)⟩]
def o64_3 : List Opn := [⟨some 2, none, .mov (.c (.nul))⟩]
def o64_4 : List Opn := [⟨some 5, none, .bslice 100005 5 []⟩,
⟨some 6, none, .mov (.t 0)⟩,
⟨some 7, none, .app 100007 5 56 (.t 5) (.t 6)⟩,
⟨some 2, none, .mov (.t 7)⟩]
def c64 : IFn := ⟨1, [.t 2], [5], [],
.seq (.reg o64_1)
(.seq (.seq (.reg o64_2)
(.cond (.t 4) (.seq (.reg o64_3)
(.ret))
(.skip)))
(.seq (.reg o64_4)
(.ret)))⟩
def o70_1 : List Opn := [⟨some 2, none, .box 100002 (.t 0)⟩,
⟨some 3, none, .box 100003 (.t 1)⟩,
⟨some 4, none, .alloc 100004 [.nul, .nul, .int .i64 0, .nul, .nul, .int .i64 0, .int .i64 0, .int .i64 0, .int .i64 0, .int .i64 0, .int .i64 0, .int .i64 0, .int .i64 0, .int .i64 0, .int .i64 0, .int .i64 0, .str [], .nul, .int .i64 0, .int .i64 0, .int .i64 0, .str [], .str [], .nul, .int .i64 0, .int .i64 0, .int .i64 0, .nul, .nul]⟩,
⟨some 5, none, .mov (.c (.bool false))⟩]
def o70_2 : List Opn := [⟨some 10, none, .faddr 8 (.t 2)⟩,
⟨some 11, none, .load 20 true (.t 10)⟩,
⟨some 6, none, .alloc 100006 [.int .i64 0, .int .i64 0, .int .i64 0, .int .i64 0, .int .i64 0, .int .i64 0, .int .i64 0, .int .i64 0, .str [], .nul, .int .i64 0, .int .i64 0, .int .i64 0, .str [], .str [], .nul, .int .i64 0, .int .i64 0, .int .i64 0, .nul]⟩,
⟨none, none, .store 20 (.t 6) (.t 11)⟩]
def o70_3 : List Opn := [⟨some 12, none, .faddr 0 (.t 6)⟩,
⟨some 13, none, .load 1 false (.t 12)⟩,
⟨some 14, none, .eq false false [.i] (.t 13) (.c (.int .i64 1))⟩,
⟨some 7, none, .mov (.t 14)⟩]
def o70_4 : List Opn := [⟨some 17, none, .faddr 0 (.t 3)⟩,
⟨some 18, none, .load 1 false (.t 17)⟩,
⟨some 19, none, .eq false false [.i] (.t 18) (.c (.int .i64 13))⟩,
⟨some 20, none, .mov (.t 19)⟩,
⟨some 21, some (20, true), .mov (.t 7)⟩,
⟨some 22, none, .pick (.t 20) (.t 21) (.c (.bool false))⟩,
⟨some 23, none, .mov (.t 22)⟩,
⟨some 24, some (23, true), .faddr 1 (.t 6)⟩,
⟨some 25, some (23, true), .load 1 false (.t 24)⟩,
⟨some 26, some (23, true), .eq false false [.i] (.t 25) (.c (.int .i64 1))⟩,
⟨some 27, none, .pick (.t 23) (.t 26) (.c (.bool false))⟩,
⟨some 16, none, .mov (.t 27)⟩]
def o70_5 : List Opn := [⟨some 28, none, .faddr 8 (.t 3)⟩,
⟨some 29, none, .load 1 false (.t 28)⟩,
⟨some 30, none, .faddr 8 (.t 2)⟩,
⟨some 31, none, .faddr 1 (.t 30)⟩,
⟨none, none, .store 1 (.t 31) (.c (.int .i64 2))⟩,
⟨some 32, none, .faddr 8 (.t 2)⟩,
⟨some 33, none, .faddr 10 (.t 32)⟩,
⟨none, none, .store 1 (.t 33) (.t 29)⟩]
def o70_6 : List Opn := [⟨some 35, none, .faddr 0 (.t 3)⟩,
⟨some 36, none, .load 1 false (.t 35)⟩,
⟨some 37, none, .eq false false [.i] (.t 36) (.c (.int .i64 15))⟩,
⟨some 38, none, .mov (.t 37)⟩,
⟨some 39, some (38, true), .mov (.t 7)⟩,
⟨some 40, none, .pick (.t 38) (.t 39) (.c (.bool false))⟩,
⟨some 41, none, .mov (.t 40)⟩,
⟨some 42, some (41, true), .faddr 1 (.t 6)⟩,
⟨some 43, some (41, true), .load 1 false (.t 42)⟩,
⟨some 44, some (41, true), .eq false false [.i] (.t 43) (.c (.int .i64 2))⟩,
⟨some 45, none, .pick (.t 41) (.t 44) (.c (.bool false))⟩,
⟨some 46, none, .mov (.t 45)⟩,
⟨some 47, some (46, true), .faddr 8 (.t 3)⟩,
⟨some 48, some (46, true), .load 1 false (.t 47)⟩,
⟨some 49, some (46, true), .faddr 9 (.t 6)⟩,
⟨some 50, some (46, true), .load 1 false (.t 49)⟩,
⟨some 51, some (46, true), .len (.t 50)⟩,
⟨some 52, some (46, true), .eq false false [.i] (.t 48) (.t 51)⟩,
⟨some 53, none, .pick (.t 46) (.t 52) (.c (.bool false))⟩,
⟨some 54, none, .mov (.t 53)⟩,
⟨some 55, some (54, true), .faddr 4 (.t 3)⟩,
⟨some 56, some (54, true), .load 1 false (.t 55)⟩,
⟨some 57, some (54, true), .faddr 10 (.t 6)⟩,
⟨some 58, some (54, true), .load 1 false (.t 57)⟩,
⟨some 59, some (54, true), .eq false false [.i] (.t 56) (.t 58)⟩,
⟨some 60, none, .pick (.t 54) (.t 59) (.c (.bool false))⟩,
⟨some 34, none, .mov (.t 60)⟩]
def o70_7 : List Opn := [⟨some 61, none, .faddr 9 (.t 6)⟩,
⟨some 62, none, .load 1 false (.t 61)⟩,
⟨some 63, none, .call 113 [(.shut, (.t 62))] [(0, 206300)] 710063000⟩,
⟨some 64, none, .faddr 12 (.t 3)⟩,
⟨some 65, none, .load 1 false (.t 64)⟩,
⟨some 66, none, .bslice 100066 1 [(.t 65)]⟩,
⟨some 67, none, .app 100067 1 16 (.t 63) (.t 66)⟩,
⟨some 68, none, .faddr 8 (.t 2)⟩,
⟨some 69, none, .faddr 9 (.t 68)⟩,
⟨none, none, .store 1 (.t 69) (.t 67)⟩]
def o70_8 : List Opn := [⟨some 70, none, .faddr 8 (.t 2)⟩,
⟨some 71, none, .faddr 9 (.t 70)⟩,
⟨some 72, none, .load 1 false (.t 71)⟩,
⟨some 73, none, .len (.t 72)⟩,
⟨some 74, none, .faddr 10 (.t 6)⟩,
⟨some 75, none, .load 1 false (.t 74)⟩,
⟨some 76, none, .eq false false [.i] (.t 73) (.t 75)⟩]
def o70_9 : List Opn := [⟨some 77, none, .faddr 8 (.t 2)⟩,
⟨some 78, none, .faddr 1 (.t 77)⟩,
⟨none, none, .store 1 (.t 78) (.c (.int .i64 3))⟩]
def o70_10 : List Opn := [⟨some 80, none, .faddr 0 (.t 3)⟩,
⟨some 81, none, .load 1 false (.t 80)⟩,
⟨some 82, none, .eq false false [.i] (.t 81) (.c (.int .i64 17))⟩,
⟨some 83, none, .mov (.t 82)⟩,
⟨some 84, some (83, true), .mov (.t 7)⟩,
⟨some 85, none, .pick (.t 83) (.t 84) (.c (.bool false))⟩,
⟨some 86, none, .mov (.t 85)⟩,
⟨some 87, some (86, true), .faddr 1 (.t 6)⟩,
⟨some 88, some (86, true), .load 1 false (.t 87)⟩,
⟨some 89, some (86, true), .eq false false [.i] (.t 88) (.c (.int .i64 3))⟩,
⟨some 90, none, .pick (.t 86) (.t 89) (.c (.bool false))⟩,
⟨some 79, none, .mov (.t 90)⟩]
def o70_11 : List Opn := [⟨some 92, none, .faddr 0 (.t 2)⟩,
⟨some 93, none, .load 1 false (.t 92)⟩,
⟨some 94, none, .faddr 3 (.t 6)⟩,
⟨some 95, none, .load 1 false (.t 94)⟩,
⟨some 96, none, .faddr 6 (.t 6)⟩,
⟨some 97, none, .load 1 false (.t 96)⟩,
⟨some 98, none, .faddr 2 (.t 6)⟩,
⟨some 99, none, .load 1 false (.t 98)⟩,
⟨some 100, none, .call 44 [(.shut, (.t 93)), (.shut, (.t 95)), (.shut, (.t 97)), (.shut, (.t 99))] [] 1110100000⟩,
⟨some 91, none, .mov (.t 100)⟩,
⟨some 101, none, .ext (.t 91) 0⟩,
⟨some 102, none, .ext (.t 91) 1⟩,
⟨some 8, none, .mov (.t 101)⟩,
⟨some 9, none, .mov (.t 102)⟩]
def o70_12 : List Opn := [⟨some 103, none, .mov (.t 9)⟩,
⟨some 104, none, .eq false false [.i] (.t 103) (.c (.int .i64 0))⟩]
def o70_13 : List Opn := [⟨some 105, none, .mov (.t 8)⟩,
⟨some 106, none, .faddr 0 (.t 2)⟩,
⟨none, none, .store 1 (.t 106) (.t 105)⟩]
def o70_14 : List Opn := [⟨some 107, none, .faddr 8 (.t 2)⟩,
⟨some 108, none, .faddr 1 (.t 107)⟩,
⟨none, none, .store 1 (.t 108) (.c (.int .i64 4))⟩]
def o70_15 : List Opn := [⟨some 110, none, .faddr 0 (.t 3)⟩,
⟨some 111, none, .load 1 false (.t 110)⟩,
⟨some 112, none, .eq false false [.i] (.t 111) (.c (.int .i64 19))⟩,
⟨some 113, none, .mov (.t 112)⟩,
⟨some 114, some (113, true), .mov (.t 7)⟩,
⟨some 115, none, .pick (.t 113) (.t 114) (.c (.bool false))⟩,
⟨some 116, none, .mov (.t 115)⟩,
⟨some 117, some (116, true), .faddr 1 (.t 6)⟩,
⟨some 118, some (116, true), .load 1 false (.t 117)⟩,
⟨some 119, some (116, true), .eq false false [.i] (.t 118) (.c (.int .i64 4))⟩,
⟨some 120, none, .pick (.t 116) (.t 119) (.c (.bool false))⟩,
⟨some 109, none, .mov (.t 120)⟩]
def o70_16 : List Opn := [⟨some 121, none, .faddr 8 (.t 2)⟩,
⟨some 122, none, .faddr 1 (.t 121)⟩,
⟨none, none, .store 1 (.t 122) (.c (.int .i64 5))⟩]
def o70_17 : List Opn := [⟨some 124, none, .faddr 0 (.t 3)⟩,
⟨some 125, none, .load 1 false (.t 124)⟩,
⟨some 126, none, .eq false false [.i] (.t 125) (.c (.int .i64 21))⟩,
⟨some 127, none, .mov (.t 126)⟩,
⟨some 128, some (127, true), .mov (.t 7)⟩,
⟨some 129, none, .pick (.t 127) (.t 128) (.c (.bool false))⟩,
⟨some 130, none, .mov (.t 129)⟩,
⟨some 131, some (130, true), .faddr 1 (.t 6)⟩,
⟨some 132, some (130, true), .load 1 false (.t 131)⟩,
⟨some 133, some (130, true), .eq false false [.i] (.t 132) (.c (.int .i64 5))⟩,
⟨some 134, none, .pick (.t 130) (.t 133) (.c (.bool false))⟩,
⟨some 123, none, .mov (.t 134)⟩]
def o70_18 : List Opn := [⟨some 135, none, .build [.int .i64 0, .int .i64 0, .int .i64 0, .int .i64 0, .int .i64 0, .int .i64 0, .int .i64 0, .int .i64 0, .str [], .nul, .int .i64 0, .int .i64 0, .int .i64 0, .str [], .str [], .nul, .int .i64 0, .int .i64 0, .int .i64 0, .nul] []⟩,
⟨some 136, none, .faddr 8 (.t 2)⟩,
⟨none, none, .store 20 (.t 136) (.t 135)⟩]
def o70_19 : List Opn := [⟨some 138, none, .faddr 0 (.t 3)⟩,
⟨some 139, none, .load 1 false (.t 138)⟩,
⟨some 140, none, .eq false false [.i] (.t 139) (.c (.int .i64 25))⟩,
⟨some 141, none, .mov (.t 140)⟩,
⟨some 142, some (141, true), .mov (.t 7)⟩,
⟨some 143, none, .pick (.t 141) (.t 142) (.c (.bool false))⟩,
⟨some 144, none, .mov (.t 143)⟩,
⟨some 145, some (144, true), .faddr 1 (.t 6)⟩,
⟨some 146, some (144, true), .load 1 false (.t 145)⟩,
⟨some 147, some (144, true), .eq false false [.i] (.t 146) (.c (.int .i64 6))⟩,
⟨some 148, none, .pick (.t 144) (.t 147) (.c (.bool false))⟩,
⟨some 137, none, .mov (.t 148)⟩]
def o70_20 : List Opn := [⟨some 149, none, .faddr 8 (.t 2)⟩,
⟨some 150, none, .faddr 1 (.t 149)⟩,
⟨none, none, .store 1 (.t 150) (.c (.int .i64 7))⟩]
def o70_21 : List Opn := [⟨some 152, none, .faddr 0 (.t 3)⟩,
⟨some 153, none, .load 1 false (.t 152)⟩,
⟨some 154, none, .eq false false [.i] (.t 153) (.c (.int .i64 27))⟩,
⟨some 155, none, .mov (.t 154)⟩,
⟨some 156, some (155, true), .faddr 0 (.t 6)⟩,
⟨some 157, some (155, true), .load 1 false (.t 156)⟩,
⟨some 158, some (155, true), .eq false false [.i] (.t 157) (.c (.int .i64 2))⟩,
⟨some 159, none, .pick (.t 155) (.t 158) (.c (.bool false))⟩,
⟨some 160, none, .mov (.t 159)⟩,
⟨some 161, some (160, false), .faddr 0 (.t 3)⟩,
⟨some 162, some (160, false), .load 1 false (.t 161)⟩,
⟨some 163, some (160, false), .eq false false [.i] (.t 162) (.c (.int .i64 29))⟩,
⟨some 164, some (160, false), .mov (.t 163)⟩,
⟨some 165, some (164, true), .faddr 0 (.t 6)⟩,
⟨some 166, some (164, true), .load 1 false (.t 165)⟩,
⟨some 167, some (164, true), .eq false false [.i] (.t 166) (.c (.int .i64 3))⟩,
⟨some 168, some (160, false), .pick (.t 164) (.t 167) (.c (.bool false))⟩,
⟨some 169, none, .pick (.t 160) (.c (.bool true)) (.t 168)⟩,
⟨some 170, none, .mov (.t 169)⟩,
⟨some 171, some (170, true), .faddr 1 (.t 6)⟩,
⟨some 172, some (170, true), .load 1 false (.t 171)⟩,
⟨some 173, some (170, true), .eq false false [.i] (.t 172) (.c (.int .i64 1))⟩,
⟨some 174, some (170, true), .mov (.t 173)⟩,
⟨some 175, some (174, false), .faddr 1 (.t 6)⟩,
⟨some 176, some (174, false), .load 1 false (.t 175)⟩,
⟨some 177, some (174, false), .eq false false [.i] (.t 176) (.c (.int .i64 7))⟩,
⟨some 178, some (170, true), .pick (.t 174) (.c (.bool true)) (.t 177)⟩,
⟨some 179, none, .pick (.t 170) (.t 178) (.c (.bool false))⟩,
⟨some 151, none, .mov (.t 179)⟩]
def o70_22 : List Opn := [⟨some 180, none, .load 29 true (.t 2)⟩,
⟨some 181, none, .call 114 [(.shut, (.t 180))] [] 2210181000⟩,
⟨none, none, .store 29 (.t 2) (.t 181)⟩]
def o70_23 : List Opn := [⟨some 183, none, .faddr 0 (.t 3)⟩,
⟨some 184, none, .load 1 false (.t 183)⟩,
⟨some 185, none, .eq false false [.i] (.t 184) (.c (.int .i64 23))⟩,
⟨some 186, none, .mov (.t 185)⟩,
⟨some 187, some (186, true), .faddr 1 (.t 6)⟩,
⟨some 188, some (186, true), .load 1 false (.t 187)⟩,
⟨some 189, some (186, true), .eq false false [.i] (.t 188) (.c (.int .i64 7))⟩,
⟨some 190, none, .pick (.t 186) (.t 189) (.c (.bool false))⟩,
⟨some 182, none, .mov (.t 190)⟩]
def o70_24 : List Opn := [⟨some 191, none, .mov (.t 7)⟩,
⟨some 192, none, .un .not (.t 191)⟩,
⟨some 193, none, .mov (.t 192)⟩,
⟨some 194, some (193, true), .faddr 4 (.t 3)⟩,
⟨some 195, some (193, true), .load 1 false (.t 194)⟩,
⟨some 196, some (193, true), .faddr 2 (.t 6)⟩,
⟨some 197, some (193, true), .load 1 false (.t 196)⟩,
⟨some 198, some (193, true), .eq false false [.i] (.t 195) (.t 197)⟩,
⟨some 199, none, .pick (.t 193) (.t 198) (.c (.bool false))⟩]
def o70_25 : List Opn := [⟨some 200, none, .load 29 true (.t 2)⟩,
⟨some 201, none, .call 114 [(.shut, (.t 200))] [] 2510201000⟩,
⟨none, none, .store 29 (.t 2) (.t 201)⟩]
def o70_26 : List Opn := [⟨some 202, none, .build [.int .i64 0, .int .i64 0, .int .i64 0, .int .i64 0, .int .i64 0, .int .i64 0, .int .i64 0, .int .i64 0, .str [], .nul, .int .i64 0, .int .i64 0, .int .i64 0, .str [], .str [], .nul, .int .i64 0, .int .i64 0, .int .i64 0, .nul] []⟩,
⟨some 203, none, .faddr 8 (.t 2)⟩,
⟨none, none, .store 20 (.t 203) (.t 202)⟩]
def o70_27 : List Opn := [⟨some 15, none, .load 29 true (.t 2)⟩,
⟨none, none, .store 29 (.t 4) (.t 15)⟩,
⟨some 5, none, .mov (.c (.bool false))⟩]
def o70_28 : List Opn := [⟨some 204, none, .load 29 true (.t 2)⟩,
⟨none, none, .store 29 (.t 4) (.t 204)⟩,
⟨some 5, none, .mov (.c (.bool true))⟩]
def c70 : IFn := ⟨2, [.m 4 29 true, .t 5], [], [],
.seq (.reg o70_1)
(.seq (.reg o70_2)
(.seq (.reg o70_3)
(.seq (.block 0 (.seq (.reg o70_4)
(.cond (.t 16) (.dreg o70_5
[(0, 4), (1, 4)])
(.seq (.reg o70_6)
(.cond (.t 34) (.seq (.dreg o70_7
[(2, 3), (2, 4), (0, 5), (1, 5), (2, 5)])
(.seq (.reg o70_8)
(.cond (.t 76) (.reg o70_9)
(.skip))))
(.seq (.reg o70_10)
(.cond (.t 79) (.seq (.seq (.reg o70_11)
(.seq (.reg o70_12)
(.cond (.t 104) (.reg o70_13)
(.skip))))
(.reg o70_14))
(.seq (.reg o70_15)
(.cond (.t 109) (.reg o70_16)
(.seq (.reg o70_17)
(.cond (.t 123) (.reg o70_18)
(.seq (.reg o70_19)
(.cond (.t 137) (.reg o70_20)
(.seq (.reg o70_21)
(.cond (.t 151) (.reg o70_22)
(.seq (.reg o70_23)
(.cond (.t 182) (.seq (.seq (.reg o70_24)
(.cond (.t 199) (.reg o70_25)
(.skip)))
(.reg o70_26))
(.seq (.reg o70_27)
(.ret)))))))))))))))))))
(.seq (.reg o70_28)
(.ret)))))⟩
def o71_1 : List Opn := [⟨some 4, none, .mov (.c (.bool false))⟩]
def o71_2 : List Opn := [⟨some 5, none, .mov (.t 0)⟩,
⟨some 6, none, .mov (.t 1)⟩,
⟨some 7, none, .call 115 [(.shut, (.t 5)), (.shut, (.t 6))] [] 110007000⟩,
⟨some 8, none, .bin .geq (.t 7) (.c (.int .i64 0))⟩,
⟨some 4, none, .mov (.t 8)⟩]
def c71 : IFn := ⟨2, [.t 4], [], [],
.seq (.reg o71_1)
(.seq (.reg o71_2)
(.ret))⟩
def ob72_1_1 : List Opn := [⟨some 41, none, .bin .lss (.t 40) (.t 39)⟩]
def ob72_1_2 : List Opn := [⟨some 42, none, .iaddr 5 (.t 38) (.t 40)⟩,
⟨some 43, none, .load 5 true (.t 42)⟩,
⟨some 5, none, .alloc 100005 [.str [], .str [], .int .i64 0, .int .i64 0, .int .i64 0]⟩,
⟨none, none, .store 5 (.t 5) (.t 43)⟩]
def ob72_1_3 : List Opn := [⟨some 44, none, .mov (.t 3)⟩,
⟨some 45, none, .faddr 2 (.t 5)⟩,
⟨some 46, none, .load 1 false (.t 45)⟩,
⟨some 47, none, .faddr 3 (.t 5)⟩,
⟨some 48, none, .load 1 false (.t 47)⟩,
⟨some 49, none, .faddr 4 (.t 5)⟩,
⟨some 50, none, .load 1 false (.t 49)⟩,
⟨some 51, none, .bslice 100051 1 [(.t 46), (.t 48), (.t 50)]⟩,
⟨some 52, none, .app 100052 1 8 (.t 44) (.t 51)⟩,
⟨some 3, none, .mov (.t 52)⟩]
def ob72_1_4 : List Opn := [⟨some 53, none, .bin .add (.t 40) (.c (.int .i64 1))⟩,
⟨some 40, none, .mov (.t 53)⟩]
def b72_1 : IC := (.seq (.gh (.keep [1, 3, 38, 39, 40] [100001, 100036, 300003]))
(.seq (.reg ob72_1_1)
(.seq (.cond (.t 41) (.skip)
(.exit 0))
(.seq (.block 1 (.seq (.reg ob72_1_2)
(.reg ob72_1_3)))
(.reg ob72_1_4)))))
def o72_1 : List Opn := [⟨some 1, none, .box 100001 (.t 0)⟩,
⟨some 2, none, .mov (.c (.nul))⟩]
def o72_2 : List Opn := [⟨some 6, none, .faddr 0 (.t 1)⟩,
⟨some 7, none, .load 1 false (.t 6)⟩,
⟨some 8, none, .faddr 1 (.t 1)⟩,
⟨some 9, none, .load 1 false (.t 8)⟩,
⟨some 10, none, .faddr 2 (.t 1)⟩,
⟨some 11, none, .load 1 false (.t 10)⟩,
⟨some 12, none, .faddr 3 (.t 1)⟩,
⟨some 13, none, .load 1 false (.t 12)⟩,
⟨some 14, none, .faddr 4 (.t 1)⟩,
⟨some 15, none, .load 1 false (.t 14)⟩,
⟨some 16, none, .faddr 5 (.t 1)⟩,
⟨some 17, none, .load 1 false (.t 16)⟩,
⟨some 18, none, .faddr 6 (.t 1)⟩,
⟨some 19, none, .load 1 false (.t 18)⟩,
⟨some 20, none, .faddr 7 (.t 1)⟩,
⟨some 21, none, .load 1 false (.t 20)⟩,
⟨some 22, none, .faddr 8 (.t 1)⟩,
⟨some 23, none, .load 1 false (.t 22)⟩,
⟨some 24, none, .faddr 13 (.t 1)⟩,
⟨some 25, none, .faddr 0 (.t 24)⟩,
⟨some 26, none, .load 1 false (.t 25)⟩,
⟨some 27, none, .faddr 13 (.t 1)⟩,
⟨some 28, none, .faddr 1 (.t 27)⟩,
⟨some 29, none, .load 1 false (.t 28)⟩,
⟨some 30, none, .faddr 13 (.t 1)⟩,
⟨some 31, none, .faddr 2 (.t 30)⟩,
⟨some 32, none, .load 1 false (.t 31)⟩,
⟨some 33, none, .faddr 13 (.t 1)⟩,
⟨some 34, none, .faddr 11 (.t 33)⟩,
⟨some 35, none, .load 1 false (.t 34)⟩,
⟨some 36, none, .bslice 100036 1 [(.t 7), (.t 9), (.t 11), (.t 13), (.t 15), (.t 17), (.t 19), (.t 21), (.t 23), (.t 26), (.t 29), (.t 32), (.t 35)]⟩,
⟨some 3, none, .mov (.t 36)⟩]
def o72_3 : List Opn := [⟨some 37, none, .faddr 34 (.t 1)⟩,
⟨some 38, none, .load 1 false (.t 37)⟩,
⟨some 39, none, .len (.t 38)⟩,
⟨some 40, none, .mov (.c (.int .i64 0))⟩]
def o72_4 : List Opn := [⟨some 54, none, .mov (.t 3)⟩,
⟨some 55, none, .faddr 35 (.t 1)⟩,
⟨some 56, none, .load 1 false (.t 55)⟩,
⟨some 57, none, .app 100057 1 8 (.t 54) (.t 56)⟩,
⟨some 2, none, .mov (.t 57)⟩]
def c72 : IFn := ⟨1, [.t 2], [], [],
.seq (.reg o72_1)
(.seq (.reg o72_2)
(.seq (.seq (.reg o72_3)
(.block 0 (.seq (.gh (.room 3 300003 1))
(.loop b72_1))))
(.seq (.reg o72_4)
(.ret))))⟩
def o73_1 : List Opn := [⟨some 2, none, .mov (.c (.bool false))⟩]
def o73_2 : List Opn := [⟨some 3, none, .mov (.t 0)⟩,
⟨some 4, none, .bin .lss (.t 3) (.c (.int .i64 0))⟩,
⟨some 5, none, .mov (.t 4)⟩,
⟨some 6, some (5, false), .mov (.t 0)⟩,
⟨some 7, some (5, false), .bin .gtr (.t 6) (.c (.int .i64 1099511627776))⟩,
⟨some 8, none, .pick (.t 5) (.c (.bool true)) (.t 7)⟩,
⟨some 2, none, .mov (.t 8)⟩]
def c73 : IFn := ⟨1, [.t 2], [], [],
.seq (.reg o73_1)
(.seq (.reg o73_2)
(.ret))⟩
def ob74_1_1 : List Opn := [⟨some 9, none, .bin .lss (.t 8) (.t 7)⟩]
def ob74_1_2 : List Opn := [⟨some 10, none, .iaddr 1 (.t 6) (.t 8)⟩,
⟨some 11, none, .load 1 false (.t 10)⟩,
⟨some 5, none, .mov (.t 11)⟩]
def ob74_1_3 : List Opn := [⟨some 12, none, .mov (.t 5)⟩,
⟨some 13, none, .mov (.t 3)⟩,
⟨some 14, none, .eq true false [.i] (.t 12) (.t 13)⟩]
def ob74_1_4 : List Opn := [⟨some 15, none, .mov (.t 5)⟩,
⟨some 2, none, .mov (.t 15)⟩]
def ob74_1_5 : List Opn := [⟨some 16, none, .bin .add (.t 8) (.c (.int .i64 1))⟩,
⟨some 8, none, .mov (.t 16)⟩]
def b74_1 : IC := (.seq (.gh (.keep [3, 6, 7, 8] []))
(.seq (.reg ob74_1_1)
(.seq (.cond (.t 9) (.skip)
(.exit 0))
(.seq (.block 1 (.seq (.reg ob74_1_2)
(.seq (.reg ob74_1_3)
(.cond (.t 14) (.seq (.reg ob74_1_4)
(.ret))
(.skip)))))
(.reg ob74_1_5)))))
def o74_1 : List Opn := [⟨some 2, none, .mov (.c (.int .i64 0))⟩]
def o74_2 : List Opn := [⟨some 3, none, .mov (.c (.int .i64 0))⟩]
def o74_3 : List Opn := [⟨some 6, none, .mov (.t 0)⟩,
⟨some 7, none, .len (.t 6)⟩,
⟨some 8, none, .mov (.c (.int .i64 0))⟩]
def o74_4 : List Opn := [⟨some 17, none, .mov (.t 3)⟩,
⟨some 2, none, .mov (.t 17)⟩]
def c74 : IFn := ⟨1, [.t 2], [], [],
.seq (.reg o74_1)
(.seq (.reg o74_2)
(.seq (.seq (.reg o74_3)
(.block 0 (.loop b74_1)))
(.seq (.reg o74_4)
(.ret))))⟩
def o75_1 : List Opn := [⟨some 4, none, .mov (.c (.int .i64 0))⟩]
def o75_2 : List Opn := [⟨some 7, none, .mov (.t 0)⟩,
⟨some 8, none, .call 116 [(.shut, (.t 7))] [] 110008000⟩,
⟨some 5, none, .mov (.t 8)⟩]
def o75_3 : List Opn := [⟨some 9, none, .mov (.t 1)⟩,
⟨some 10, none, .call 116 [(.shut, (.t 9))] [] 210010000⟩,
⟨some 6, none, .mov (.t 10)⟩]
def o75_4 : List Opn := [⟨some 11, none, .mov (.t 5)⟩]
def o75_5 : List Opn := [⟨some 12, none, .mov (.t 6)⟩]
def o75_6 : List Opn := [⟨some 4, none, .mov (.c (.int .i64 0))⟩]
def o75_7 : List Opn := [⟨some 4, none, .mov (.c (.int .i64 (-1)))⟩]
def o75_8 : List Opn := [⟨some 13, none, .mov (.t 6)⟩]
def o75_9 : List Opn := [⟨some 4, none, .mov (.c (.int .i64 1))⟩]
def o75_10 : List Opn := [⟨some 14, none, .mov (.t 0)⟩,
⟨some 15, none, .mov (.t 1)⟩,
⟨some 16, none, .bin .lss (.t 14) (.t 15)⟩]
def o75_11 : List Opn := [⟨some 4, none, .mov (.c (.int .i64 (-1)))⟩]
def o75_12 : List Opn := [⟨some 17, none, .mov (.t 0)⟩,
⟨some 18, none, .mov (.t 1)⟩,
⟨some 19, none, .bin .gtr (.t 17) (.t 18)⟩]
def o75_13 : List Opn := [⟨some 4, none, .mov (.c (.int .i64 1))⟩]
def o75_14 : List Opn := [⟨some 4, none, .mov (.c (.int .i64 0))⟩]
def c75 : IFn := ⟨2, [.t 4], [], [],
.seq (.reg o75_1)
(.seq (.reg o75_2)
(.seq (.reg o75_3)
(.seq (.seq (.reg o75_4)
(.cond (.t 11) (.seq (.seq (.reg o75_5)
(.cond (.t 12) (.seq (.reg o75_6)
(.ret))
(.skip)))
(.seq (.reg o75_7)
(.ret)))
(.skip)))
(.seq (.seq (.reg o75_8)
(.cond (.t 13) (.seq (.reg o75_9)
(.ret))
(.skip)))
(.seq (.seq (.reg o75_10)
(.cond (.t 16) (.seq (.reg o75_11)
(.ret))
(.skip)))
(.seq (.seq (.reg o75_12)
(.cond (.t 19) (.seq (.reg o75_13)
(.ret))
(.skip)))
(.seq (.reg o75_14)
(.ret))))))))⟩
def o76_1 : List Opn := [⟨some 2, none, .box 100002 (.t 0)⟩,
⟨some 3, none, .box 100003 (.t 1)⟩,
⟨some 4, none, .alloc 100004 [.int .i64 0, .int .i64 0, .int .i64 0]⟩]
def o76_2 : List Opn := [⟨some 5, none, .load 3 true (.t 2)⟩,
⟨some 6, none, .load 3 true (.t 3)⟩,
⟨some 7, none, .call 24 [(.shut, (.t 5)), (.shut, (.t 6))] [] 110007000⟩,
⟨some 8, none, .bin .gtr (.t 7) (.c (.int .i64 0))⟩]
def o76_3 : List Opn := [⟨some 9, none, .load 3 true (.t 3)⟩,
⟨none, none, .store 3 (.t 4) (.t 9)⟩]
def o76_4 : List Opn := [⟨some 10, none, .load 3 true (.t 2)⟩,
⟨none, none, .store 3 (.t 4) (.t 10)⟩]
def c76 : IFn := ⟨2, [.m 4 3 true], [], [],
.seq (.reg o76_1)
(.seq (.seq (.reg o76_2)
(.cond (.t 8) (.seq (.reg o76_3)
(.ret))
(.skip)))
(.seq (.reg o76_4)
(.ret)))⟩
def o77_1 : List Opn := [⟨some 2, none, .mov (.c (.bool false))⟩]
def o77_2 : List Opn := [⟨some 3, none, .mov (.t 0)⟩,
⟨some 4, none, .bin .geq (.t 3) (.c (.int .i64 1))⟩,
⟨some 5, none, .mov (.t 4)⟩,
⟨some 6, some (5, true), .mov (.t 0)⟩,
⟨some 7, some (5, true), .bin .leq (.t 6) (.c (.int .i64 3))⟩,
⟨some 8, none, .pick (.t 5) (.t 7) (.c (.bool false))⟩,
⟨some 2, none, .mov (.t 8)⟩]
def c77 : IFn := ⟨1, [.t 2], [], [],
.seq (.reg o77_1)
(.seq (.reg o77_2)
(.ret))⟩
def o78_1 : List Opn := [⟨some 2, none, .mov (.c (.bool false))⟩]
def o78_2 : List Opn := [⟨some 3, none, .mov (.t 0)⟩,
⟨some 4, none, .bin .geq (.t 3) (.c (.int .i64 1))⟩,
⟨some 5, none, .mov (.t 4)⟩,
⟨some 6, some (5, true), .mov (.t 0)⟩,
⟨some 7, some (5, true), .bin .leq (.t 6) (.c (.int .i64 1099511627776))⟩,
⟨some 8, none, .pick (.t 5) (.t 7) (.c (.bool false))⟩,
⟨some 2, none, .mov (.t 8)⟩]
def c78 : IFn := ⟨1, [.t 2], [], [],
.seq (.reg o78_1)
(.seq (.reg o78_2)
(.ret))⟩
def o79_1 : List Opn := [⟨some 2, none, .mov (.c (.bool false))⟩]
def o79_2 : List Opn := [⟨some 3, none, .mov (.t 0)⟩,
⟨some 4, none, .bin .geq (.t 3) (.c (.int .i64 1))⟩,
⟨some 5, none, .mov (.t 4)⟩,
⟨some 6, some (5, true), .mov (.t 0)⟩,
⟨some 7, some (5, true), .bin .leq (.t 6) (.c (.int .i64 3))⟩,
⟨some 8, none, .pick (.t 5) (.t 7) (.c (.bool false))⟩,
⟨some 2, none, .mov (.t 8)⟩]
def c79 : IFn := ⟨1, [.t 2], [], [],
.seq (.reg o79_1)
(.seq (.reg o79_2)
(.ret))⟩
def o80_1 : List Opn := [⟨some 4, none, .mov (.c (.bool false))⟩]
def o80_2 : List Opn := [⟨some 5, none, .mov (.t 0)⟩,
⟨some 6, none, .mov (.t 1)⟩,
⟨some 7, none, .call 117 [(.shut, (.t 5)), (.shut, (.t 6))] [] 110007000⟩,
⟨some 8, none, .bin .geq (.t 7) (.c (.int .i64 0))⟩,
⟨some 4, none, .mov (.t 8)⟩]
def c80 : IFn := ⟨2, [.t 4], [], [],
.seq (.reg o80_1)
(.seq (.reg o80_2)
(.ret))⟩
def o81_1 : List Opn := [⟨some 2, none, .box 100002 (.t 0)⟩,
⟨some 3, none, .mov (.c (.bool false))⟩]
def o81_2 : List Opn := [⟨some 4, none, .faddr 2 (.t 2)⟩,
⟨some 5, none, .load 1 false (.t 4)⟩,
⟨some 6, none, .faddr 2 (.t 1)⟩,
⟨some 7, none, .load 1 false (.t 6)⟩,
⟨some 8, none, .eq false false [.i] (.t 5) (.t 7)⟩,
⟨some 3, none, .mov (.t 8)⟩]
def c81 : IFn := ⟨2, [.t 3], [], [],
.seq (.reg o81_1)
(.seq (.reg o81_2)
(.ret))⟩
def ob82_1_1 : List Opn := [⟨some 9, none, .bin .lss (.t 8) (.t 7)⟩]
def ob82_1_2 : List Opn := [⟨some 10, none, .mov (.t 8)⟩,
⟨some 11, none, .iaddr 2 (.t 6) (.t 8)⟩,
⟨some 12, none, .load 2 true (.t 11)⟩,
⟨some 5, none, .alloc 100005 [.str [], .str []]⟩,
⟨some 4, none, .mov (.t 10)⟩,
⟨none, none, .store 2 (.t 5) (.t 12)⟩]
def ob82_1_3 : List Opn := [⟨some 13, none, .load 2 true (.t 5)⟩,
⟨some 14, none, .call 108 [(.shut, (.t 13))] [] 510014000⟩,
⟨some 15, none, .un .not (.t 14)⟩,
⟨some 16, none, .mov (.t 15)⟩,
⟨some 17, some (16, false), .faddr 0 (.t 5)⟩,
⟨some 18, some (16, false), .load 1 false (.t 17)⟩,
⟨some 19, some (16, false), .mov (.t 3)⟩,
⟨some 20, some (16, false), .eq true false [.s] (.t 18) (.t 19)⟩,
⟨some 21, none, .pick (.t 16) (.c (.bool true)) (.t 20)⟩,
⟨some 22, none, .mov (.t 21)⟩,
⟨some 23, some (22, false), .mov (.t 4)⟩,
⟨some 24, some (22, false), .bin .gtr (.t 23) (.c (.int .i64 0))⟩,
⟨some 25, some (22, false), .mov (.t 24)⟩,
⟨some 26, some (25, true), .mov (.t 3)⟩,
⟨some 27, some (25, true), .eq false false [.s] (.t 26) (.c (.str []))⟩,
⟨some 28, some (22, false), .pick (.t 25) (.t 27) (.c (.bool false))⟩,
⟨some 29, none, .pick (.t 22) (.c (.bool true)) (.t 28)⟩]
def ob82_1_4 : List Opn := [⟨some 2, none, .mov (.c (.bool false))⟩]
def ob82_1_5 : List Opn := [⟨some 30, none, .faddr 1 (.t 5)⟩,
⟨some 31, none, .load 1 false (.t 30)⟩,
⟨some 3, none, .mov (.t 31)⟩]
def ob82_1_6 : List Opn := [⟨some 32, none, .bin .add (.t 8) (.c (.int .i64 1))⟩,
⟨some 8, none, .mov (.t 32)⟩]
def b82_1 : IC := (.seq (.gh (.keep [0, 3, 6, 7, 8] []))
(.seq (.reg ob82_1_1)
(.seq (.cond (.t 9) (.skip)
(.exit 0))
(.seq (.block 1 (.seq (.reg ob82_1_2)
(.seq (.seq (.reg ob82_1_3)
(.cond (.t 29) (.seq (.reg ob82_1_4)
(.ret))
(.skip)))
(.reg ob82_1_5))))
(.reg ob82_1_6)))))
def o82_1 : List Opn := [⟨some 2, none, .mov (.c (.bool false))⟩]
def o82_2 : List Opn := [⟨some 3, none, .mov (.c (.str []))⟩]
def o82_3 : List Opn := [⟨some 6, none, .mov (.t 0)⟩,
⟨some 7, none, .len (.t 6)⟩,
⟨some 8, none, .mov (.c (.int .i64 0))⟩]
def o82_4 : List Opn := [⟨some 33, none, .mov (.t 0)⟩,
⟨some 34, none, .len (.t 33)⟩,
⟨some 35, none, .bin .gtr (.t 34) (.c (.int .i64 0))⟩,
⟨some 36, none, .mov (.t 35)⟩,
⟨some 37, some (36, true), .mov (.t 3)⟩,
⟨some 38, some (36, true), .eq false false [.s] (.t 37) (.c (.str []))⟩,
⟨some 39, none, .pick (.t 36) (.t 38) (.c (.bool false))⟩,
⟨some 2, none, .mov (.t 39)⟩]
def c82 : IFn := ⟨1, [.t 2], [], [],
.seq (.reg o82_1)
(.seq (.reg o82_2)
(.seq (.seq (.reg o82_3)
(.block 0 (.loop b82_1)))
(.seq (.reg o82_4)
(.ret))))⟩
def o83_1 : List Opn := [⟨some 4, none, .mov (.c (.bool false))⟩]
def o83_2 : List Opn := [⟨some 5, none, .mov (.t 0)⟩,
⟨some 6, none, .bin .geq (.t 5) (.c (.int .i64 0))⟩,
⟨some 7, none, .mov (.t 6)⟩,
⟨some 8, some (7, true), .mov (.t 0)⟩,
⟨some 9, some (7, true), .mov (.t 1)⟩,
⟨some 10, some (7, true), .bin .leq (.t 8) (.t 9)⟩,
⟨some 11, none, .pick (.t 7) (.t 10) (.c (.bool false))⟩,
⟨some 4, none, .mov (.t 11)⟩]
def c83 : IFn := ⟨2, [.t 4], [], [],
.seq (.reg o83_1)
(.seq (.reg o83_2)
(.ret))⟩
def o84_1 : List Opn := [⟨some 3, none, .mov (.c (.bool false))⟩]
def o84_2 : List Opn := [⟨some 4, none, .mov (.t 0)⟩,
⟨some 5, none, .load 1 false (.t 1)⟩,
⟨some 6, none, .bin .lss (.t 4) (.t 5)⟩,
⟨some 7, none, .mov (.t 6)⟩,
⟨some 8, some (7, false), .mov (.t 0)⟩,
⟨some 9, some (7, false), .bin .gtr (.t 8) (.c (.int .i64 1099511627776))⟩,
⟨some 10, none, .pick (.t 7) (.c (.bool true)) (.t 9)⟩,
⟨some 3, none, .mov (.t 10)⟩]
def c84 : IFn := ⟨2, [.t 3], [], [],
.seq (.reg o84_1)
(.seq (.reg o84_2)
(.ret))⟩
def o85_1 : List Opn := [⟨some 2, none, .mov (.c (.bool false))⟩]
def o85_2 : List Opn := [⟨some 3, none, .mov (.t 0)⟩,
⟨some 4, none, .bin .gtr (.t 3) (.c (.int .i64 0))⟩,
⟨some 5, none, .mov (.t 4)⟩,
⟨some 6, some (5, true), .mov (.t 0)⟩,
⟨some 7, some (5, true), .bin .leq (.t 6) (.c (.int .i64 1099511627776))⟩,
⟨some 8, none, .pick (.t 5) (.t 7) (.c (.bool false))⟩,
⟨some 2, none, .mov (.t 8)⟩]
def c85 : IFn := ⟨1, [.t 2], [], [],
.seq (.reg o85_1)
(.seq (.reg o85_2)
(.ret))⟩
def ob86_1_1 : List Opn := [⟨some 20, none, .mov (.t 4)⟩,
⟨some 21, none, .mov (.t 0)⟩,
⟨some 22, none, .len (.t 21)⟩,
⟨some 23, none, .bin .lss (.t 20) (.t 22)⟩]
def ob86_1_2 : List Opn := [⟨some 27, none, .load 2 true (.t 3)⟩,
⟨some 28, none, .mov (.t 0)⟩,
⟨some 29, none, .mov (.t 4)⟩,
⟨some 30, none, .iaddr 2 (.t 28) (.t 29)⟩,
⟨some 31, none, .load 2 true (.t 30)⟩,
⟨some 32, none, .call 95 [(.shut, (.t 27)), (.shut, (.t 31))] [] 710032000⟩,
⟨some 26, none, .mov (.t 32)⟩,
⟨some 33, none, .ext (.t 26) 0⟩,
⟨some 34, none, .ext (.t 26) 1⟩,
⟨some 5, none, .alloc 100005 [.str [], .str []]⟩,
⟨none, none, .store 2 (.t 5) (.t 33)⟩,
⟨some 6, none, .mov (.t 34)⟩]
def ob86_1_3 : List Opn := [⟨some 35, none, .mov (.t 6)⟩,
⟨some 36, none, .eq true false [.i] (.t 35) (.c (.int .i64 0))⟩]
def ob86_1_4 : List Opn := [⟨some 2, none, .mov (.c (.bool false))⟩]
def ob86_1_5 : List Opn := [⟨some 37, none, .load 2 true (.t 5)⟩,
⟨none, none, .store 2 (.t 3) (.t 37)⟩]
def ob86_1_6 : List Opn := [⟨some 24, none, .mov (.t 4)⟩,
⟨some 25, none, .bin .add (.t 24) (.c (.int .i64 1))⟩,
⟨some 4, none, .mov (.t 25)⟩]
def b86_1 : IC := (.seq (.gh (.keep [0, 3, 4] [100003]))
(.seq (.seq (.reg ob86_1_1)
(.cond (.t 23) (.skip)
(.exit 0)))
(.seq (.block 1 (.seq (.dreg ob86_1_2
[(0, 9), (3, 9), (4, 9), (5, 9)])
(.seq (.seq (.reg ob86_1_3)
(.cond (.t 36) (.seq (.reg ob86_1_4)
(.ret))
(.skip)))
(.reg ob86_1_5))))
(.reg ob86_1_6))))
def o86_1 : List Opn := [⟨some 2, none, .mov (.c (.bool false))⟩]
def o86_2 : List Opn := [⟨some 7, none, .mov (.t 0)⟩,
⟨some 8, none, .len (.t 7)⟩,
⟨some 9, none, .eq false false [.i] (.t 8) (.c (.int .i64 0))⟩,
⟨some 10, none, .mov (.t 9)⟩,
⟨some 11, some (10, false), .mov (.t 0)⟩,
⟨some 12, some (10, false), .iaddr 2 (.t 11) (.c (.int .i64 0))⟩,
⟨some 13, some (10, false), .load 2 true (.t 12)⟩,
⟨some 14, some (10, false), .call 118 [(.shut, (.t 13))] [] 110014000⟩,
⟨some 15, some (10, false), .un .not (.t 14)⟩,
⟨some 16, none, .pick (.t 10) (.c (.bool true)) (.t 15)⟩]
def o86_3 : List Opn := [⟨some 2, none, .mov (.c (.bool false))⟩]
def o86_4 : List Opn := [⟨some 17, none, .mov (.t 0)⟩,
⟨some 18, none, .iaddr 2 (.t 17) (.c (.int .i64 0))⟩,
⟨some 19, none, .load 2 true (.t 18)⟩,
⟨some 3, none, .alloc 100003 [.str [], .str []]⟩,
⟨none, none, .store 2 (.t 3) (.t 19)⟩]
def o86_5 : List Opn := [⟨some 4, none, .mov (.c (.int .i64 1))⟩]
def o86_6 : List Opn := [⟨some 38, none, .load 2 true (.t 3)⟩,
⟨some 39, none, .build [.str [], .str []] []⟩,
⟨some 40, none, .eq false true [.s, .s] (.t 38) (.t 39)⟩,
⟨some 2, none, .mov (.t 40)⟩]
def c86 : IFn := ⟨1, [.t 2], [], [],
.seq (.reg o86_1)
(.seq (.seq (.reg o86_2)
(.cond (.t 16) (.seq (.reg o86_3)
(.ret))
(.skip)))
(.seq (.reg o86_4)
(.seq (.seq (.reg o86_5)
(.block 0 (.loop b86_1)))
(.seq (.reg o86_6)
(.ret)))))⟩
def ob87_1_1 : List Opn := [⟨some 9, none, .bin .lss (.t 8) (.t 7)⟩]
def ob87_1_2 : List Opn := [⟨some 10, none, .mov (.t 8)⟩,
⟨some 5, none, .mov (.t 10)⟩]
def ob87_1_3 : List Opn := [⟨some 11, none, .mov (.t 1)⟩,
⟨some 12, none, .mov (.t 0)⟩,
⟨some 13, none, .mov (.t 5)⟩,
⟨some 14, none, .iaddr 1 (.t 12) (.t 13)⟩,
⟨some 15, none, .load 1 false (.t 14)⟩,
⟨some 16, none, .eq false false [.i] (.t 11) (.t 15)⟩]
def ob87_1_4 : List Opn := [⟨some 17, none, .mov (.t 5)⟩,
⟨some 4, none, .mov (.t 17)⟩]
def ob87_1_5 : List Opn := [⟨some 18, none, .bin .add (.t 8) (.c (.int .i64 1))⟩,
⟨some 8, none, .mov (.t 18)⟩]
def b87_1 : IC := (.seq (.gh (.keep [0, 1, 7, 8] []))
(.seq (.reg ob87_1_1)
(.seq (.cond (.t 9) (.skip)
(.exit 0))
(.seq (.block 1 (.seq (.reg ob87_1_2)
(.seq (.reg ob87_1_3)
(.cond (.t 16) (.seq (.reg ob87_1_4)
(.ret))
(.skip)))))
(.reg ob87_1_5)))))
def o87_1 : List Opn := [⟨some 4, none, .mov (.c (.int .i64 0))⟩]
def o87_2 : List Opn := [⟨some 6, none, .mov (.t 0)⟩,
⟨some 7, none, .len (.t 6)⟩,
⟨some 8, none, .mov (.c (.int .i64 0))⟩]
def o87_3 : List Opn := [⟨some 4, none, .mov (.c (.int .i64 (-1)))⟩]
def c87 : IFn := ⟨2, [.t 4], [], [],
.seq (.reg o87_1)
(.seq (.seq (.reg o87_2)
(.block 0 (.loop b87_1)))
(.seq (.reg o87_3)
(.ret)))⟩
def o88_1 : List Opn := [⟨some 6, none, .mov (.c (.int .i64 0))⟩,
⟨some 7, none, .mov (.c (.int .i64 0))⟩]
def o88_2 : List Opn := [⟨some 9, none, .mov (.t 0)⟩,
⟨some 10, none, .mov (.t 1)⟩,
⟨some 11, none, .call 89 [(.shut, (.t 9)), (.shut, (.t 10))] [] 110011000⟩,
⟨some 8, none, .mov (.t 11)⟩]
def o88_3 : List Opn := [⟨some 13, none, .mov (.t 0)⟩,
⟨some 14, none, .call 29 [(.shut, (.t 13))] [] 210014000⟩,
⟨some 15, none, .un .not (.t 14)⟩,
⟨some 16, none, .mov (.t 15)⟩,
⟨some 17, some (16, false), .mov (.t 2)⟩,
⟨some 18, some (16, false), .call 78 [(.shut, (.t 17))] [] 210018000⟩,
⟨some 19, some (16, false), .un .not (.t 18)⟩,
⟨some 20, none, .pick (.t 16) (.c (.bool true)) (.t 19)⟩,
⟨some 12, none, .mov (.t 20)⟩]
def o88_4 : List Opn := [⟨some 6, none, .mov (.c (.int .i64 0))⟩,
⟨some 7, none, .mov (.c (.int .i64 1))⟩]
def o88_5 : List Opn := [⟨some 22, none, .mov (.t 8)⟩,
⟨some 23, none, .bin .lss (.t 22) (.c (.int .i64 0))⟩,
⟨some 21, none, .mov (.t 23)⟩]
def o88_6 : List Opn := [⟨some 6, none, .mov (.c (.int .i64 0))⟩,
⟨some 7, none, .mov (.c (.int .i64 7))⟩]
def o88_7 : List Opn := [⟨some 25, none, .mov (.t 2)⟩,
⟨some 26, none, .mov (.t 0)⟩,
⟨some 27, none, .mov (.t 8)⟩,
⟨some 28, none, .iaddr 5 (.t 26) (.t 27)⟩,
⟨some 29, none, .faddr 4 (.t 28)⟩,
⟨some 30, none, .load 1 false (.t 29)⟩,
⟨some 31, none, .bin .leq (.t 25) (.t 30)⟩,
⟨some 24, none, .mov (.t 31)⟩]
def o88_8 : List Opn := [⟨some 6, none, .mov (.c (.int .i64 0))⟩,
⟨some 7, none, .mov (.c (.int .i64 9))⟩]
def o88_9 : List Opn := [⟨some 32, none, .mov (.t 8)⟩,
⟨some 6, none, .mov (.t 32)⟩,
⟨some 7, none, .mov (.c (.int .i64 0))⟩]
def c88 : IFn := ⟨3, [.t 6, .t 7], [], [],
.seq (.reg o88_1)
(.seq (.reg o88_2)
(.seq (.block 0 (.seq (.reg o88_3)
(.cond (.t 12) (.seq (.reg o88_4)
(.ret))
(.seq (.reg o88_5)
(.cond (.t 21) (.seq (.reg o88_6)
(.ret))
(.seq (.reg o88_7)
(.cond (.t 24) (.seq (.reg o88_8)
(.ret))
(.skip))))))))
(.seq (.reg o88_9)
(.ret))))⟩
def o89_1 : List Opn := [⟨some 3, none, .box 100003 (.t 1)⟩,
⟨some 4, none, .mov (.c (.int .i64 0))⟩]
def o89_2 : List Opn := [⟨some 5, none, .mov (.t 0)⟩,
⟨some 6, none, .mkf 119 [(.t 3)]⟩,
⟨some 7, none, .call 117 [(.shut, (.t 5)), (.shut, (.t 6))] [] 110007000⟩,
⟨some 4, none, .mov (.t 7)⟩]
def c89 : IFn := ⟨2, [.t 4], [], [],
.seq (.reg o89_1)
(.seq (.reg o89_2)
(.ret))⟩
def o90_1 : List Opn := [⟨some 2, none, .box 100002 (.t 0)⟩,
⟨some 4, none, .alloc 100004 [.str [], .str []]⟩,
⟨some 5, none, .alloc 100005 [.str [], .str []]⟩,
⟨some 6, none, .mov (.c (.int .i64 0))⟩]
def o90_2 : List Opn := [⟨some 8, none, .load 2 true (.t 2)⟩,
⟨some 9, none, .call 108 [(.shut, (.t 8))] [] 110009000⟩,
⟨some 10, none, .un .not (.t 9)⟩,
⟨some 11, none, .mov (.t 10)⟩,
⟨some 12, some (11, false), .mov (.t 1)⟩,
⟨some 13, some (11, false), .call 120 [(.shut, (.t 12))] [] 110013000⟩,
⟨some 14, some (11, false), .un .not (.t 13)⟩,
⟨some 15, none, .pick (.t 11) (.c (.bool true)) (.t 14)⟩,
⟨some 7, none, .mov (.t 15)⟩]
def o90_3 : List Opn := [⟨some 16, none, .build [.str [], .str []] []⟩,
⟨some 17, none, .build [.str [], .str []] []⟩,
⟨none, none, .store 2 (.t 4) (.t 16)⟩,
⟨none, none, .store 2 (.t 5) (.t 17)⟩,
⟨some 6, none, .mov (.c (.int .i64 1))⟩]
def o90_4 : List Opn := [⟨some 19, none, .mov (.t 1)⟩,
⟨some 20, none, .faddr 0 (.t 2)⟩,
⟨some 21, none, .load 1 false (.t 20)⟩,
⟨some 22, none, .eq false false [.s] (.t 19) (.t 21)⟩,
⟨some 23, none, .mov (.t 22)⟩,
⟨some 24, some (23, false), .load 2 true (.t 2)⟩,
⟨some 25, some (23, false), .mov (.t 1)⟩,
⟨some 26, some (23, false), .call 121 [(.shut, (.t 24)), (.shut, (.t 25))] [] 310026000⟩,
⟨some 27, some (23, false), .un .not (.t 26)⟩,
⟨some 28, none, .pick (.t 23) (.c (.bool true)) (.t 27)⟩,
⟨some 18, none, .mov (.t 28)⟩]
def o90_5 : List Opn := [⟨some 29, none, .build [.str [], .str []] []⟩,
⟨some 30, none, .build [.str [], .str []] []⟩,
⟨none, none, .store 2 (.t 4) (.t 29)⟩,
⟨none, none, .store 2 (.t 5) (.t 30)⟩,
⟨some 6, none, .mov (.c (.int .i64 9))⟩]
def o90_6 : List Opn := [⟨some 31, none, .faddr 0 (.t 2)⟩,
⟨some 32, none, .load 1 false (.t 31)⟩,
⟨some 33, none, .mov (.t 1)⟩,
⟨some 34, none, .build [.str [], .str []] [(0, 1, (.t 32)), (1, 1, (.t 33))]⟩,
⟨some 35, none, .mov (.t 1)⟩,
⟨some 36, none, .faddr 1 (.t 2)⟩,
⟨some 37, none, .load 1 false (.t 36)⟩,
⟨some 38, none, .build [.str [], .str []] [(0, 1, (.t 35)), (1, 1, (.t 37))]⟩,
⟨none, none, .store 2 (.t 4) (.t 34)⟩,
⟨none, none, .store 2 (.t 5) (.t 38)⟩,
⟨some 6, none, .mov (.c (.int .i64 0))⟩]
def c90 : IFn := ⟨2, [.m 4 2 true, .m 5 2 true, .t 6], [], [],
.seq (.reg o90_1)
(.seq (.block 0 (.seq (.reg o90_2)
(.cond (.t 7) (.seq (.reg o90_3)
(.ret))
(.seq (.reg o90_4)
(.cond (.t 18) (.seq (.reg o90_5)
(.ret))
(.skip))))))
(.seq (.dreg o90_6
[(5, 8), (6, 8)])
(.ret)))⟩
def o91_1 : List Opn := [⟨some 6, none, .mov (.c (.nul))⟩]
def o91_2 : List Opn := [⟨some 10, none, .mov (.t 0)⟩,
⟨some 11, none, .mov (.t 1)⟩,
⟨some 12, none, .slc 5 (.t 10) (some (.t 11)) none none⟩]
def o91_3 : List Opn := [⟨some 13, none, .mov (.t 2)⟩,
⟨some 14, none, .len (.t 13)⟩,
⟨some 7, none, .mov (.t 14)⟩]
def o91_4 : List Opn := [⟨some 15, none, .mov (.t 7)⟩,
⟨some 16, none, .eq false false [.i] (.t 15) (.c (.int .i64 0))⟩]
def o91_5 : List Opn := [⟨some 17, none, .mov (.t 0)⟩,
⟨some 6, none, .mov (.t 17)⟩]
def o91_6 : List Opn := [⟨some 18, none, .mov (.t 0)⟩,
⟨some 19, none, .len (.t 18)⟩,
⟨some 8, none, .mov (.t 19)⟩]
def o91_7 : List Opn := [⟨some 20, none, .mov (.t 1)⟩,
⟨some 21, none, .mov (.t 8)⟩,
⟨some 22, none, .eq false false [.i] (.t 20) (.t 21)⟩]
def o91_8 : List Opn := [⟨some 23, none, .mov (.t 0)⟩,
⟨some 24, none, .mov (.t 2)⟩,
⟨some 25, none, .app 100025 5 56 (.t 23) (.t 24)⟩,
⟨some 6, none, .mov (.t 25)⟩]
def o91_9 : List Opn := [⟨some 26, none, .mov (.t 8)⟩,
⟨some 27, none, .mov (.t 7)⟩,
⟨some 28, none, .bin .add (.t 26) (.t 27)⟩,
⟨some 29, none, .mov (.t 0)⟩,
⟨some 30, none, .stop⟩,
⟨some 31, none, .bin .gtr (.t 28) (.t 30)⟩]
def o91_10 : List Opn := [⟨some 32, none, .mov (.t 0)⟩,
⟨some 33, none, .mov (.t 1)⟩,
⟨some 34, none, .slc 5 (.t 32) none (some (.t 33)) none⟩,
⟨some 35, none, .mov (.t 8)⟩,
⟨some 36, none, .mov (.t 7)⟩,
⟨some 37, none, .bin .add (.t 35) (.t 36)⟩,
⟨some 38, none, .mov (.t 1)⟩,
⟨some 39, none, .bin .sub (.t 37) (.t 38)⟩,
⟨some 40, none, .stop⟩,
⟨some 9, none, .mov (.t 40)⟩]
def o91_11 : List Opn := [⟨some 41, none, .mov (.t 9)⟩,
⟨some 42, none, .mov (.t 1)⟩,
⟨some 43, none, .slc 5 (.t 41) (some (.t 42)) none none⟩,
⟨some 44, none, .mov (.t 2)⟩,
⟨some 45, none, .copy 5 (.t 43) (.t 44)⟩]
def o91_12 : List Opn := [⟨some 46, none, .mov (.t 9)⟩,
⟨some 47, none, .mov (.t 1)⟩,
⟨some 48, none, .mov (.t 7)⟩,
⟨some 49, none, .bin .add (.t 47) (.t 48)⟩,
⟨some 50, none, .slc 5 (.t 46) (some (.t 49)) none none⟩,
⟨some 51, none, .mov (.t 0)⟩,
⟨some 52, none, .mov (.t 1)⟩,
⟨some 53, none, .slc 5 (.t 51) (some (.t 52)) none none⟩,
⟨some 54, none, .copy 5 (.t 50) (.t 53)⟩]
def o91_13 : List Opn := [⟨some 55, none, .mov (.t 9)⟩,
⟨some 6, none, .mov (.t 55)⟩]
def o91_14 : List Opn := [⟨some 56, none, .mov (.t 0)⟩,
⟨some 57, none, .mov (.t 8)⟩,
⟨some 58, none, .mov (.t 7)⟩,
⟨some 59, none, .bin .add (.t 57) (.t 58)⟩,
⟨some 60, none, .slc 5 (.t 56) none (some (.t 59)) none⟩,
⟨some 0, none, .mov (.t 60)⟩]
def o91_15 : List Opn := [⟨some 61, none, .mov (.t 2)⟩,
⟨some 62, none, .mov (.t 0)⟩,
⟨some 63, none, .mov (.t 1)⟩,
⟨some 64, none, .mov (.t 7)⟩,
⟨some 65, none, .bin .add (.t 63) (.t 64)⟩,
⟨some 66, none, .slc 5 (.t 62) (some (.t 65)) none none⟩,
⟨some 67, none, .call 122 [(.shut, (.t 61)), (.shut, (.t 66))] [] 1410067000⟩,
⟨some 68, none, .un .not (.t 67)⟩]
def o91_16 : List Opn := [⟨some 69, none, .mov (.t 0)⟩,
⟨some 70, none, .mov (.t 1)⟩,
⟨some 71, none, .mov (.t 7)⟩,
⟨some 72, none, .bin .add (.t 70) (.t 71)⟩,
⟨some 73, none, .slc 5 (.t 69) (some (.t 72)) none none⟩,
⟨some 74, none, .mov (.t 0)⟩,
⟨some 75, none, .mov (.t 1)⟩,
⟨some 76, none, .slc 5 (.t 74) (some (.t 75)) none none⟩,
⟨some 77, none, .copy 5 (.t 73) (.t 76)⟩]
def o91_17 : List Opn := [⟨some 78, none, .mov (.t 0)⟩,
⟨some 79, none, .mov (.t 1)⟩,
⟨some 80, none, .slc 5 (.t 78) (some (.t 79)) none none⟩,
⟨some 81, none, .mov (.t 2)⟩,
⟨some 82, none, .copy 5 (.t 80) (.t 81)⟩]
def o91_18 : List Opn := [⟨some 83, none, .mov (.t 0)⟩,
⟨some 6, none, .mov (.t 83)⟩]
def o91_19 : List Opn := [⟨some 84, none, .mov (.t 0)⟩,
⟨some 85, none, .mov (.t 8)⟩,
⟨some 86, none, .slc 5 (.t 84) (some (.t 85)) none none⟩,
⟨some 87, none, .mov (.t 2)⟩,
⟨some 88, none, .copy 5 (.t 86) (.t 87)⟩]
def o91_20 : List Opn := [⟨some 89, none, .mov (.t 0)⟩,
⟨some 90, none, .mov (.t 1)⟩,
⟨some 91, none, .slc 5 (.t 89) (some (.t 90)) none none⟩,
⟨some 92, none, .mov (.t 7)⟩,
⟨some 93, none, .call 123 [(.shut, (.t 91)), (.shut, (.t 92))] [] 1910093000⟩]
def o91_21 : List Opn := [⟨some 94, none, .mov (.t 0)⟩,
⟨some 6, none, .mov (.t 94)⟩]
def c91 : IFn := ⟨3, [.t 6], [5], [],
.seq (.reg o91_1)
(.seq (.reg o91_2)
(.seq (.reg o91_3)
(.seq (.seq (.reg o91_4)
(.cond (.t 16) (.seq (.reg o91_5)
(.ret))
(.skip)))
(.seq (.reg o91_6)
(.seq (.seq (.reg o91_7)
(.cond (.t 22) (.seq (.reg o91_8)
(.ret))
(.skip)))
(.seq (.seq (.reg o91_9)
(.cond (.t 31) (.seq (.reg o91_10)
(.seq (.reg o91_11)
(.seq (.dreg o91_12
[])
(.seq (.reg o91_13)
(.ret)))))
(.skip)))
(.seq (.reg o91_14)
(.seq (.seq (.reg o91_15)
(.cond (.t 68) (.seq (.dreg o91_16
[])
(.seq (.reg o91_17)
(.seq (.reg o91_18)
(.ret))))
(.skip)))
(.seq (.reg o91_19)
(.seq (.reg o91_20)
(.seq (.reg o91_21)
(.ret))))))))))))⟩
def o92_1 : List Opn := [⟨some 6, none, .mov (.c (.nul))⟩]
def o92_2 : List Opn := [⟨some 8, none, .mov (.t 0)⟩,
⟨some 9, none, .mov (.t 1)⟩,
⟨some 10, none, .mov (.t 2)⟩,
⟨some 11, none, .mov (.t 0)⟩,
⟨some 12, none, .len (.t 11)⟩,
⟨some 13, none, .slc 5 (.t 8) (some (.t 9)) (some (.t 10)) (some (.t 12))⟩]
def o92_3 : List Opn := [⟨some 14, none, .mov (.t 1)⟩,
⟨some 15, none, .mov (.t 2)⟩,
⟨some 16, none, .eq false false [.i] (.t 14) (.t 15)⟩]
def o92_4 : List Opn := [⟨some 17, none, .mov (.t 0)⟩,
⟨some 6, none, .mov (.t 17)⟩]
def o92_5 : List Opn := [⟨some 18, none, .mov (.t 0)⟩,
⟨some 19, none, .len (.t 18)⟩,
⟨some 7, none, .mov (.t 19)⟩]
def o92_6 : List Opn := [⟨some 20, none, .mov (.t 0)⟩,
⟨some 21, none, .mov (.t 1)⟩,
⟨some 22, none, .slc 5 (.t 20) none (some (.t 21)) none⟩,
⟨some 23, none, .mov (.t 0)⟩,
⟨some 24, none, .mov (.t 2)⟩,
⟨some 25, none, .slc 5 (.t 23) (some (.t 24)) none none⟩,
⟨some 26, none, .app 100026 5 56 (.t 22) (.t 25)⟩,
⟨some 0, none, .mov (.t 26)⟩]
def o92_7 : List Opn := [⟨some 27, none, .mov (.t 0)⟩,
⟨some 28, none, .mov (.t 0)⟩,
⟨some 29, none, .len (.t 28)⟩,
⟨some 30, none, .mov (.t 7)⟩,
⟨some 31, none, .slc 5 (.t 27) (some (.t 29)) (some (.t 30)) none⟩,
⟨none, none, .clear 5 [.str [], .str [], .int .i64 0, .int .i64 0, .int .i64 0] (.t 31)⟩]
def o92_8 : List Opn := [⟨some 32, none, .mov (.t 0)⟩,
⟨some 6, none, .mov (.t 32)⟩]
def c92 : IFn := ⟨3, [.t 6], [5], [],
.seq (.reg o92_1)
(.seq (.reg o92_2)
(.seq (.seq (.reg o92_3)
(.cond (.t 16) (.seq (.reg o92_4)
(.ret))
(.skip)))
(.seq (.reg o92_5)
(.seq (.dreg o92_6
[])
(.seq (.reg o92_7)
(.seq (.reg o92_8)
(.ret)))))))⟩
def ob93_1_1 : List Opn := [⟨some 9, none, .mov (.t 8)⟩,
⟨some 10, none, .mov (.t 0)⟩,
⟨some 11, none, .len (.t 10)⟩,
⟨some 12, none, .bin .lss (.t 9) (.t 11)⟩]
def ob93_1_2 : List Opn := [⟨some 15, none, .mov (.t 0)⟩,
⟨some 16, none, .mov (.t 8)⟩,
⟨some 17, none, .iaddr 5 (.t 15) (.t 16)⟩,
⟨some 18, none, .faddr 2 (.t 17)⟩,
⟨some 19, none, .load 1 false (.t 18)⟩,
⟨some 20, none, .mov (.t 1)⟩,
⟨some 21, none, .eq false false [.i] (.t 19) (.t 20)⟩]
def ob93_1_3 : List Opn := [⟨some 22, none, .mov (.t 7)⟩,
⟨some 23, none, .mov (.t 2)⟩,
⟨some 24, none, .app 100024 5 56 (.t 22) (.t 23)⟩,
⟨some 7, none, .mov (.t 24)⟩]
def ob93_1_4 : List Opn := [⟨some 25, none, .mov (.t 7)⟩,
⟨some 26, none, .mov (.t 0)⟩,
⟨some 27, none, .mov (.t 8)⟩,
⟨some 28, none, .iaddr 5 (.t 26) (.t 27)⟩,
⟨some 29, none, .load 5 true (.t 28)⟩,
⟨some 30, none, .bslice 100030 5 [(.t 29)]⟩,
⟨some 31, none, .app 100031 5 56 (.t 25) (.t 30)⟩,
⟨some 7, none, .mov (.t 31)⟩]
def ob93_1_5 : List Opn := [⟨some 13, none, .mov (.t 8)⟩,
⟨some 14, none, .bin .add (.t 13) (.c (.int .i64 1))⟩,
⟨some 8, none, .mov (.t 14)⟩]
def b93_1 : IC := (.seq (.gh (.keep [0, 1, 2, 7, 8] [300007]))
(.seq (.seq (.reg ob93_1_1)
(.cond (.t 12) (.skip)
(.exit 0)))
(.seq (.block 1 (.seq (.reg ob93_1_2)
(.cond (.t 21) (.reg ob93_1_3)
(.reg ob93_1_4))))
(.reg ob93_1_5))))
def o93_1 : List Opn := [⟨some 6, none, .mov (.c (.nul))⟩]
def o93_2 : List Opn := [⟨some 7, none, .mov (.c (.nul))⟩]
def o93_3 : List Opn := [⟨some 8, none, .mov (.c (.int .i64 0))⟩]
def o93_4 : List Opn := [⟨some 32, none, .mov (.t 7)⟩,
⟨some 6, none, .mov (.t 32)⟩]
def c93 : IFn := ⟨3, [.t 6], [], [],
.seq (.reg o93_1)
(.seq (.reg o93_2)
(.seq (.seq (.reg o93_3)
(.block 0 (.seq (.gh (.room 7 300007 5))
(.loop b93_1))))
(.seq (.reg o93_4)
(.ret))))⟩
def o94_1 : List Opn := [⟨some 2, none, .box 100002 (.t 0)⟩,
⟨some 4, none, .alloc 100004 [.str [], .str []]⟩,
⟨some 5, none, .alloc 100005 [.str [], .str []]⟩,
⟨some 6, none, .mov (.c (.int .i64 0))⟩]
def o94_2 : List Opn := [⟨some 9, none, .load 2 true (.t 2)⟩,
⟨some 10, none, .call 118 [(.shut, (.t 9))] [] 110010000⟩,
⟨some 11, none, .un .not (.t 10)⟩,
⟨some 12, none, .mov (.t 11)⟩,
⟨some 13, some (12, false), .mov (.t 1)⟩,
⟨some 14, some (12, false), .call 124 [(.shut, (.t 13))] [] 110014000⟩,
⟨some 15, some (12, false), .un .not (.t 14)⟩,
⟨some 16, none, .pick (.t 12) (.c (.bool true)) (.t 15)⟩]
def o94_3 : List Opn := [⟨some 17, none, .build [.str [], .str []] []⟩,
⟨some 18, none, .build [.str [], .str []] []⟩,
⟨none, none, .store 2 (.t 4) (.t 17)⟩,
⟨none, none, .store 2 (.t 5) (.t 18)⟩,
⟨some 6, none, .mov (.c (.int .i64 1))⟩]
def o94_4 : List Opn := [⟨some 19, none, .faddr 0 (.t 2)⟩,
⟨some 20, none, .load 1 false (.t 19)⟩,
⟨some 21, none, .mov (.t 1)⟩,
⟨some 22, none, .build [.str [], .str []] [(0, 1, (.t 20)), (1, 1, (.t 21))]⟩,
⟨some 23, none, .mov (.t 1)⟩,
⟨some 24, none, .faddr 1 (.t 2)⟩,
⟨some 25, none, .load 1 false (.t 24)⟩,
⟨some 26, none, .build [.str [], .str []] [(0, 1, (.t 23)), (1, 1, (.t 25))]⟩,
⟨some 7, none, .alloc 100007 [.str [], .str []]⟩,
⟨some 8, none, .alloc 100008 [.str [], .str []]⟩,
⟨none, none, .store 2 (.t 7) (.t 22)⟩,
⟨none, none, .store 2 (.t 8) (.t 26)⟩]
def o94_5 : List Opn := [⟨some 27, none, .load 2 true (.t 7)⟩,
⟨some 28, none, .call 118 [(.shut, (.t 27))] [] 410028000⟩,
⟨some 29, none, .un .not (.t 28)⟩,
⟨some 30, none, .mov (.t 29)⟩,
⟨some 31, some (30, false), .load 2 true (.t 8)⟩,
⟨some 32, some (30, false), .call 118 [(.shut, (.t 31))] [] 410032000⟩,
⟨some 33, some (30, false), .un .not (.t 32)⟩,
⟨some 34, none, .pick (.t 30) (.c (.bool true)) (.t 33)⟩]
def o94_6 : List Opn := [⟨some 35, none, .build [.str [], .str []] []⟩,
⟨some 36, none, .build [.str [], .str []] []⟩,
⟨none, none, .store 2 (.t 4) (.t 35)⟩,
⟨none, none, .store 2 (.t 5) (.t 36)⟩,
⟨some 6, none, .mov (.c (.int .i64 9))⟩]
def o94_7 : List Opn := [⟨some 37, none, .load 2 true (.t 7)⟩,
⟨some 38, none, .load 2 true (.t 8)⟩,
⟨none, none, .store 2 (.t 4) (.t 37)⟩,
⟨none, none, .store 2 (.t 5) (.t 38)⟩,
⟨some 6, none, .mov (.c (.int .i64 0))⟩]
def c94 : IFn := ⟨2, [.m 4 2 true, .m 5 2 true, .t 6], [], [],
.seq (.reg o94_1)
(.seq (.seq (.reg o94_2)
(.cond (.t 16) (.seq (.reg o94_3)
(.ret))
(.skip)))
(.seq (.dreg o94_4
[(0, 8), (1, 8), (5, 8), (6, 8), (0, 9), (1, 9), (5, 9), (6, 9), (8, 9), (5, 10), (6, 10)])
(.seq (.seq (.reg o94_5)
(.cond (.t 34) (.seq (.reg o94_6)
(.ret))
(.skip)))
(.seq (.dreg o94_7
[(1, 2)])
(.ret)))))⟩
def o95_1 : List Opn := [⟨some 2, none, .box 100002 (.t 0)⟩,
⟨some 3, none, .box 100003 (.t 1)⟩,
⟨some 4, none, .alloc 100004 [.str [], .str []]⟩,
⟨some 5, none, .mov (.c (.int .i64 0))⟩]
def o95_2 : List Opn := [⟨some 6, none, .load 2 true (.t 2)⟩,
⟨some 7, none, .call 118 [(.shut, (.t 6))] [] 110007000⟩,
⟨some 8, none, .un .not (.t 7)⟩,
⟨some 9, none, .mov (.t 8)⟩,
⟨some 10, some (9, false), .load 2 true (.t 3)⟩,
⟨some 11, some (9, false), .call 118 [(.shut, (.t 10))] [] 110011000⟩,
⟨some 12, some (9, false), .un .not (.t 11)⟩,
⟨some 13, none, .pick (.t 9) (.c (.bool true)) (.t 12)⟩]
def o95_3 : List Opn := [⟨some 14, none, .build [.str [], .str []] []⟩,
⟨none, none, .store 2 (.t 4) (.t 14)⟩,
⟨some 5, none, .mov (.c (.int .i64 1))⟩]
def o95_4 : List Opn := [⟨some 15, none, .faddr 1 (.t 2)⟩,
⟨some 16, none, .load 1 false (.t 15)⟩,
⟨some 17, none, .lenS (.t 16)⟩,
⟨some 18, none, .eq false false [.i] (.t 17) (.c (.int .i64 0))⟩,
⟨some 19, none, .mov (.t 18)⟩,
⟨some 20, some (19, false), .faddr 1 (.t 2)⟩,
⟨some 21, some (19, false), .load 1 false (.t 20)⟩,
⟨some 22, some (19, false), .faddr 0 (.t 3)⟩,
⟨some 23, some (19, false), .load 1 false (.t 22)⟩,
⟨some 24, some (19, false), .eq true false [.s] (.t 21) (.t 23)⟩,
⟨some 25, none, .pick (.t 19) (.c (.bool true)) (.t 24)⟩]
def o95_5 : List Opn := [⟨some 26, none, .build [.str [], .str []] []⟩,
⟨none, none, .store 2 (.t 4) (.t 26)⟩,
⟨some 5, none, .mov (.c (.int .i64 9))⟩]
def o95_6 : List Opn := [⟨some 27, none, .faddr 0 (.t 2)⟩,
⟨some 28, none, .load 1 false (.t 27)⟩,
⟨some 29, none, .faddr 1 (.t 3)⟩,
⟨some 30, none, .load 1 false (.t 29)⟩,
⟨some 31, none, .build [.str [], .str []] [(0, 1, (.t 28)), (1, 1, (.t 30))]⟩,
⟨none, none, .store 2 (.t 4) (.t 31)⟩,
⟨some 5, none, .mov (.c (.int .i64 0))⟩]
def c95 : IFn := ⟨2, [.m 4 2 true, .t 5], [], [],
.seq (.reg o95_1)
(.seq (.seq (.reg o95_2)
(.cond (.t 13) (.seq (.reg o95_3)
(.ret))
(.skip)))
(.seq (.seq (.reg o95_4)
(.cond (.t 25) (.seq (.reg o95_5)
(.ret))
(.skip)))
(.seq (.reg o95_6)
(.ret))))⟩
def o97_1 : List Opn := [⟨some 1, none, .box 100001 (.t 0)⟩,
⟨some 2, none, .mov (.c (.nul))⟩]
def o97_2 : List Opn := [⟨some 5, none, .faddr 8 (.t 1)⟩,
⟨some 6, none, .load 20 true (.t 5)⟩,
⟨some 3, none, .alloc 100003 [.int .i64 0, .int .i64 0, .int .i64 0, .int .i64 0, .int .i64 0, .int .i64 0, .int .i64 0, .int .i64 0, .str [], .nul, .int .i64 0, .int .i64 0, .int .i64 0, .str [], .str [], .nul, .int .i64 0, .int .i64 0, .int .i64 0, .nul]⟩,
⟨none, none, .store 20 (.t 3) (.t 6)⟩]
def o97_3 : List Opn := [⟨some 7, none, .load 29 true (.t 1)⟩,
⟨some 8, none, .faddr 5 (.t 3)⟩,
⟨some 9, none, .load 1 false (.t 8)⟩,
⟨some 10, none, .call 57 [(.shut, (.t 7)), (.shut, (.t 9))] [] 210010000⟩,
⟨some 11, none, .faddr 5 (.t 3)⟩,
⟨some 12, none, .load 1 false (.t 11)⟩,
⟨some 13, none, .faddr 3 (.t 3)⟩,
⟨some 14, none, .load 1 false (.t 13)⟩,
⟨some 15, none, .faddr 2 (.t 3)⟩,
⟨some 16, none, .load 1 false (.t 15)⟩,
⟨some 17, none, .build [.int .i64 0, .int .i64 0, .int .i64 0, .int .i64 0, .int .i64 0, .int .i64 0, .int .i64 0, .int .i64 0, .int .i64 0, .int .i64 0, .int .i64 0, .int .i64 0, .str [], .int .i64 0, .int .i64 0, .int .i64 0, .str [], .str [], .bool false, .str [], .int .i64 0, .int .i64 0, .int .i64 0, .str [], .int .i64 0, .int .i64 0, .int .i64 0, .int .i64 0, .int .i64 0, .bool false, .str [], .nul, .str [], .bool false, .nul, .nul] [(2, 1, (.t 10)), (7, 1, (.t 12)), (3, 1, (.t 14)), (5, 1, (.t 16))]⟩,
⟨some 4, none, .alloc 100004 [.int .i64 0, .int .i64 0, .int .i64 0, .int .i64 0, .int .i64 0, .int .i64 0, .int .i64 0, .int .i64 0, .int .i64 0, .int .i64 0, .int .i64 0, .int .i64 0, .str [], .int .i64 0, .int .i64 0, .int .i64 0, .str [], .str [], .bool false, .str [], .int .i64 0, .int .i64 0, .int .i64 0, .str [], .int .i64 0, .int .i64 0, .int .i64 0, .int .i64 0, .int .i64 0, .bool false, .str [], .nul, .str [], .bool false, .nul, .nul]⟩,
⟨none, none, .store 36 (.t 4) (.t 17)⟩]
def o97_4 : List Opn := [⟨some 19, none, .faddr 1 (.t 3)⟩,
⟨some 20, none, .load 1 false (.t 19)⟩,
⟨some 21, none, .eq false false [.i] (.t 20) (.c (.int .i64 7))⟩,
⟨some 18, none, .mov (.t 21)⟩]
def o97_5 : List Opn := [⟨some 22, none, .faddr 0 (.t 4)⟩,
⟨none, none, .store 1 (.t 22) (.c (.int .i64 22))⟩]
def o97_6 : List Opn := [⟨some 24, none, .faddr 0 (.t 3)⟩,
⟨some 25, none, .load 1 false (.t 24)⟩,
⟨some 26, none, .eq false false [.i] (.t 25) (.c (.int .i64 2))⟩,
⟨some 27, none, .mov (.t 26)⟩,
⟨some 28, some (27, true), .faddr 1 (.t 3)⟩,
⟨some 29, some (27, true), .load 1 false (.t 28)⟩,
⟨some 30, some (27, true), .eq false false [.i] (.t 29) (.c (.int .i64 1))⟩,
⟨some 31, none, .pick (.t 27) (.t 30) (.c (.bool false))⟩,
⟨some 23, none, .mov (.t 31)⟩]
def o97_7 : List Opn := [⟨some 32, none, .faddr 7 (.t 3)⟩,
⟨some 33, none, .load 1 false (.t 32)⟩,
⟨some 34, none, .faddr 2 (.t 3)⟩,
⟨some 35, none, .load 1 false (.t 34)⟩,
⟨some 36, none, .faddr 8 (.t 3)⟩,
⟨some 37, none, .load 1 false (.t 36)⟩,
⟨some 38, none, .faddr 0 (.t 4)⟩,
⟨none, none, .store 1 (.t 38) (.c (.int .i64 26))⟩,
⟨some 39, none, .faddr 4 (.t 4)⟩,
⟨none, none, .store 1 (.t 39) (.t 33)⟩,
⟨some 40, none, .faddr 8 (.t 4)⟩,
⟨none, none, .store 1 (.t 40) (.t 35)⟩,
⟨some 41, none, .faddr 12 (.t 4)⟩,
⟨none, none, .store 1 (.t 41) (.t 37)⟩]
def o97_8 : List Opn := [⟨some 43, none, .faddr 0 (.t 3)⟩,
⟨some 44, none, .load 1 false (.t 43)⟩,
⟨some 45, none, .eq false false [.i] (.t 44) (.c (.int .i64 3))⟩,
⟨some 46, none, .mov (.t 45)⟩,
⟨some 47, some (46, true), .faddr 1 (.t 3)⟩,
⟨some 48, some (46, true), .load 1 false (.t 47)⟩,
⟨some 49, some (46, true), .eq false false [.i] (.t 48) (.c (.int .i64 1))⟩,
⟨some 50, none, .pick (.t 46) (.t 49) (.c (.bool false))⟩,
⟨some 42, none, .mov (.t 50)⟩]
def o97_9 : List Opn := [⟨some 51, none, .faddr 7 (.t 3)⟩,
⟨some 52, none, .load 1 false (.t 51)⟩,
⟨some 53, none, .faddr 4 (.t 3)⟩,
⟨some 54, none, .load 1 false (.t 53)⟩,
⟨some 55, none, .faddr 0 (.t 4)⟩,
⟨none, none, .store 1 (.t 55) (.c (.int .i64 28))⟩,
⟨some 56, none, .faddr 4 (.t 4)⟩,
⟨none, none, .store 1 (.t 56) (.t 52)⟩,
⟨some 57, none, .faddr 8 (.t 4)⟩,
⟨none, none, .store 1 (.t 57) (.t 54)⟩]
def o97_10 : List Opn := [⟨some 59, none, .faddr 0 (.t 3)⟩,
⟨some 60, none, .load 1 false (.t 59)⟩,
⟨some 61, none, .eq true false [.i] (.t 60) (.c (.int .i64 1))⟩,
⟨some 58, none, .mov (.t 61)⟩]
def o97_11 : List Opn := [⟨some 2, none, .mov (.c (.nul))⟩]
def o97_12 : List Opn := [⟨some 63, none, .faddr 1 (.t 3)⟩,
⟨some 64, none, .load 1 false (.t 63)⟩,
⟨some 65, none, .eq false false [.i] (.t 64) (.c (.int .i64 1))⟩,
⟨some 62, none, .mov (.t 65)⟩]
def o97_13 : List Opn := [⟨some 66, none, .faddr 7 (.t 3)⟩,
⟨some 67, none, .load 1 false (.t 66)⟩,
⟨some 68, none, .faddr 0 (.t 4)⟩,
⟨none, none, .store 1 (.t 68) (.c (.int .i64 12))⟩,
⟨some 69, none, .faddr 4 (.t 4)⟩,
⟨none, none, .store 1 (.t 69) (.t 67)⟩]
def o97_14 : List Opn := [⟨some 71, none, .faddr 1 (.t 3)⟩,
⟨some 72, none, .load 1 false (.t 71)⟩,
⟨some 73, none, .eq false false [.i] (.t 72) (.c (.int .i64 2))⟩,
⟨some 70, none, .mov (.t 73)⟩]
def o97_15 : List Opn := [⟨some 74, none, .faddr 9 (.t 3)⟩,
⟨some 75, none, .load 1 false (.t 74)⟩,
⟨some 76, none, .len (.t 75)⟩,
⟨some 77, none, .faddr 0 (.t 4)⟩,
⟨none, none, .store 1 (.t 77) (.c (.int .i64 14))⟩,
⟨some 78, none, .faddr 8 (.t 4)⟩,
⟨none, none, .store 1 (.t 78) (.t 76)⟩]
def o97_16 : List Opn := [⟨some 80, none, .faddr 1 (.t 3)⟩,
⟨some 81, none, .load 1 false (.t 80)⟩,
⟨some 82, none, .eq false false [.i] (.t 81) (.c (.int .i64 3))⟩,
⟨some 79, none, .mov (.t 82)⟩]
def o97_17 : List Opn := [⟨some 83, none, .faddr 9 (.t 3)⟩,
⟨some 84, none, .load 1 false (.t 83)⟩,
⟨some 85, none, .call 125 [(.shut, (.t 84)), (.shut, (.c (.str [])))] [] 1710085000⟩,
⟨some 86, none, .faddr 0 (.t 4)⟩,
⟨none, none, .store 1 (.t 86) (.c (.int .i64 16))⟩,
⟨some 87, none, .faddr 3 (.t 4)⟩,
⟨none, none, .store 1 (.t 87) (.c (.int .i64 0))⟩,
⟨some 88, none, .faddr 12 (.t 4)⟩,
⟨none, none, .store 1 (.t 88) (.t 85)⟩]
def o97_18 : List Opn := [⟨some 90, none, .faddr 1 (.t 3)⟩,
⟨some 91, none, .load 1 false (.t 90)⟩,
⟨some 92, none, .eq false false [.i] (.t 91) (.c (.int .i64 4))⟩,
⟨some 89, none, .mov (.t 92)⟩]
def o97_19 : List Opn := [⟨some 93, none, .faddr 2 (.t 3)⟩,
⟨some 94, none, .load 1 false (.t 93)⟩,
⟨some 95, none, .faddr 0 (.t 4)⟩,
⟨none, none, .store 1 (.t 95) (.c (.int .i64 18))⟩,
⟨some 96, none, .faddr 4 (.t 4)⟩,
⟨none, none, .store 1 (.t 96) (.t 94)⟩]
def o97_20 : List Opn := [⟨some 98, none, .faddr 1 (.t 3)⟩,
⟨some 99, none, .load 1 false (.t 98)⟩,
⟨some 100, none, .eq false false [.i] (.t 99) (.c (.int .i64 5))⟩,
⟨some 97, none, .mov (.t 100)⟩]
def o97_21 : List Opn := [⟨some 101, none, .faddr 0 (.t 4)⟩,
⟨none, none, .store 1 (.t 101) (.c (.int .i64 20))⟩]
def o97_22 : List Opn := [⟨some 103, none, .faddr 1 (.t 3)⟩,
⟨some 104, none, .load 1 false (.t 103)⟩,
⟨some 105, none, .eq false false [.i] (.t 104) (.c (.int .i64 6))⟩,
⟨some 102, none, .mov (.t 105)⟩]
def o97_23 : List Opn := [⟨some 106, none, .faddr 0 (.t 4)⟩,
⟨none, none, .store 1 (.t 106) (.c (.int .i64 24))⟩]
def o97_24 : List Opn := [⟨some 2, none, .mov (.c (.nul))⟩]
def o97_25 : List Opn := [⟨some 107, none, .faddr 0 (.t 4)⟩,
⟨some 108, none, .load 1 false (.t 107)⟩,
⟨some 109, none, .eq false false [.i] (.t 108) (.c (.int .i64 16))⟩,
⟨some 110, none, .mov (.t 109)⟩,
⟨some 111, some (110, false), .faddr 0 (.t 4)⟩,
⟨some 112, some (110, false), .load 1 false (.t 111)⟩,
⟨some 113, some (110, false), .eq false false [.i] (.t 112) (.c (.int .i64 18))⟩,
⟨some 114, none, .pick (.t 110) (.c (.bool true)) (.t 113)⟩,
⟨some 115, none, .mov (.t 114)⟩,
⟨some 116, some (115, false), .faddr 0 (.t 4)⟩,
⟨some 117, some (115, false), .load 1 false (.t 116)⟩,
⟨some 118, some (115, false), .eq false false [.i] (.t 117) (.c (.int .i64 24))⟩,
⟨some 119, none, .pick (.t 115) (.c (.bool true)) (.t 118)⟩]
def o97_26 : List Opn := [⟨some 120, none, .load 29 true (.t 1)⟩,
⟨some 121, none, .faddr 6 (.t 3)⟩,
⟨some 122, none, .load 1 false (.t 121)⟩,
⟨some 123, none, .call 57 [(.shut, (.t 120)), (.shut, (.t 122))] [] 2510123000⟩,
⟨some 124, none, .faddr 6 (.t 3)⟩,
⟨some 125, none, .load 1 false (.t 124)⟩,
⟨some 126, none, .faddr 2 (.t 4)⟩,
⟨none, none, .store 1 (.t 126) (.t 123)⟩,
⟨some 127, none, .faddr 7 (.t 4)⟩,
⟨none, none, .store 1 (.t 127) (.t 125)⟩]
def o97_27 : List Opn := [⟨some 128, none, .load 36 true (.t 4)⟩,
⟨some 129, none, .bslice 100129 36 [(.t 128)]⟩,
⟨some 2, none, .mov (.t 129)⟩]
def c97 : IFn := ⟨1, [.t 2], [], [],
.seq (.reg o97_1)
(.seq (.reg o97_2)
(.seq (.dreg o97_3
[(3, 4), (3, 5), (3, 6), (3, 7), (3, 8), (3, 9), (0, 11), (1, 11), (2, 11), (3, 11), (4, 11), (5, 11), (6, 11), (7, 11), (8, 11), (9, 11)])
(.seq (.block 0 (.seq (.reg o97_4)
(.cond (.t 18) (.reg o97_5)
(.seq (.reg o97_6)
(.cond (.t 23) (.dreg o97_7
[(0, 7), (1, 7), (2, 7), (3, 7), (4, 7), (5, 7), (2, 9), (3, 9), (4, 9), (5, 9), (4, 11), (5, 11)])
(.seq (.reg o97_8)
(.cond (.t 42) (.dreg o97_9
[(0, 5), (1, 5), (2, 5), (3, 5), (2, 7), (3, 7)])
(.seq (.reg o97_10)
(.cond (.t 58) (.seq (.reg o97_11)
(.ret))
(.seq (.reg o97_12)
(.cond (.t 62) (.dreg o97_13
[(0, 3), (1, 3)])
(.seq (.reg o97_14)
(.cond (.t 70) (.dreg o97_15
[(0, 4), (1, 4), (2, 4)])
(.seq (.reg o97_16)
(.cond (.t 79) (.reg o97_17)
(.seq (.reg o97_18)
(.cond (.t 89) (.dreg o97_19
[(0, 3), (1, 3)])
(.seq (.reg o97_20)
(.cond (.t 97) (.reg o97_21)
(.seq (.reg o97_22)
(.cond (.t 102) (.reg o97_23)
(.seq (.reg o97_24)
(.ret)))))))))))))))))))))))
(.seq (.seq (.reg o97_25)
(.cond (.t 119) (.dreg o97_26
[(3, 4), (3, 5), (4, 7), (5, 7)])
(.skip)))
(.seq (.reg o97_27)
(.ret))))))⟩
def o98_1 : List Opn := [⟨some 2, none, .box 100002 (.t 0)⟩,
⟨some 3, none, .box 100003 (.t 1)⟩,
⟨some 4, none, .mov (.c (.bool false))⟩]
def o98_2 : List Opn := [⟨some 5, none, .faddr 0 (.t 2)⟩,
⟨some 6, none, .load 1 false (.t 5)⟩,
⟨some 7, none, .faddr 0 (.t 3)⟩,
⟨some 8, none, .load 1 false (.t 7)⟩,
⟨some 9, none, .eq true false [.i] (.t 6) (.t 8)⟩]
def o98_3 : List Opn := [⟨some 10, none, .faddr 0 (.t 2)⟩,
⟨some 11, none, .load 1 false (.t 10)⟩,
⟨some 12, none, .faddr 0 (.t 3)⟩,
⟨some 13, none, .load 1 false (.t 12)⟩,
⟨some 14, none, .bin .lss (.t 11) (.t 13)⟩,
⟨some 4, none, .mov (.t 14)⟩]
def o98_4 : List Opn := [⟨some 15, none, .faddr 1 (.t 2)⟩,
⟨some 16, none, .load 1 false (.t 15)⟩,
⟨some 17, none, .faddr 1 (.t 3)⟩,
⟨some 18, none, .load 1 false (.t 17)⟩,
⟨some 19, none, .eq true false [.i] (.t 16) (.t 18)⟩]
def o98_5 : List Opn := [⟨some 20, none, .faddr 1 (.t 2)⟩,
⟨some 21, none, .load 1 false (.t 20)⟩,
⟨some 22, none, .faddr 1 (.t 3)⟩,
⟨some 23, none, .load 1 false (.t 22)⟩,
⟨some 24, none, .bin .lss (.t 21) (.t 23)⟩,
⟨some 4, none, .mov (.t 24)⟩]
def o98_6 : List Opn := [⟨some 25, none, .faddr 2 (.t 2)⟩,
⟨some 26, none, .load 1 false (.t 25)⟩,
⟨some 27, none, .faddr 2 (.t 3)⟩,
⟨some 28, none, .load 1 false (.t 27)⟩,
⟨some 29, none, .bin .lss (.t 26) (.t 28)⟩,
⟨some 4, none, .mov (.t 29)⟩]
def c98 : IFn := ⟨2, [.t 4], [], [],
.seq (.reg o98_1)
(.seq (.seq (.reg o98_2)
(.cond (.t 9) (.seq (.reg o98_3)
(.ret))
(.skip)))
(.seq (.seq (.reg o98_4)
(.cond (.t 19) (.seq (.reg o98_5)
(.ret))
(.skip)))
(.seq (.reg o98_6)
(.ret))))⟩
def o102_1 : List Opn := [⟨some 2, none, .mov (.c (.nul))⟩]
def o102_2 : List Opn := [⟨some 3, none, .mov (.t 0)⟩,
⟨some 4, none, .isnl false (.t 3)⟩]
def o102_3 : List Opn := [⟨some 2, none, .mov (.c (.nul))⟩]
def o102_4 : List Opn := [⟨some 5, none, .bslice 100005 5 []⟩,
⟨some 6, none, .mov (.t 0)⟩,
⟨some 7, none, .app 100007 5 40 (.t 5) (.t 6)⟩,
⟨some 2, none, .mov (.t 7)⟩]
def c102 : IFn := ⟨1, [.t 2], [5], [],
.seq (.reg o102_1)
(.seq (.seq (.reg o102_2)
(.cond (.t 4) (.seq (.reg o102_3)
(.ret))
(.skip)))
(.seq (.reg o102_4)
(.ret)))⟩
def o103_1 : List Opn := [⟨some 2, none, .mov (.c (.nul))⟩]
def o103_2 : List Opn := [⟨some 3, none, .mov (.t 0)⟩,
⟨some 4, none, .isnl false (.t 3)⟩]
def o103_3 : List Opn := [⟨some 2, none, .mov (.c (.nul))⟩]
def o103_4 : List Opn := [⟨some 5, none, .bslice 100005 3 []⟩,
⟨some 6, none, .mov (.t 0)⟩,
⟨some 7, none, .app 100007 3 24 (.t 5) (.t 6)⟩,
⟨some 2, none, .mov (.t 7)⟩]
def c103 : IFn := ⟨1, [.t 2], [3], [],
.seq (.reg o103_1)
(.seq (.seq (.reg o103_2)
(.cond (.t 4) (.seq (.reg o103_3)
(.ret))
(.skip)))
(.seq (.reg o103_4)
(.ret)))⟩
def o106_1 : List Opn := [⟨some 2, none, .mov (.c (.nul))⟩]
def o106_2 : List Opn := [⟨some 3, none, .mov (.t 0)⟩,
⟨some 4, none, .isnl false (.t 3)⟩]
def o106_3 : List Opn := [⟨some 2, none, .mov (.c (.nul))⟩]
def o106_4 : List Opn := [⟨some 5, none, .bslice 100005 3 []⟩,
⟨some 6, none, .mov (.t 0)⟩,
⟨some 7, none, .app 100007 3 40 (.t 5) (.t 6)⟩,
⟨some 2, none, .mov (.t 7)⟩]
def c106 : IFn := ⟨1, [.t 2], [3], [],
.seq (.reg o106_1)
(.seq (.seq (.reg o106_2)
(.cond (.t 4) (.seq (.reg o106_3)
(.ret))
(.skip)))
(.seq (.reg o106_4)
(.ret)))⟩
def o108_1 : List Opn := [⟨some 1, none, .box 100001 (.t 0)⟩,
⟨some 2, none, .mov (.c (.bool false))⟩]
def o108_2 : List Opn := [⟨some 3, none, .faddr 0 (.t 1)⟩,
⟨some 4, none, .load 1 false (.t 3)⟩,
⟨some 5, none, .eq true false [.s] (.t 4) (.c (.str []))⟩,
⟨some 6, none, .mov (.t 5)⟩,
⟨some 7, some (6, true), .faddr 0 (.t 1)⟩,
⟨some 8, some (6, true), .load 1 false (.t 7)⟩,
⟨some 9, some (6, true), .call 120 [(.shut, (.t 8))] [] 110009000⟩,
⟨some 10, some (6, true), .un .not (.t 9)⟩,
⟨some 11, none, .pick (.t 6) (.t 10) (.c (.bool false))⟩]
def o108_3 : List Opn := [⟨some 2, none, .mov (.c (.bool false))⟩]
def o108_4 : List Opn := [⟨some 12, none, .faddr 1 (.t 1)⟩,
⟨some 13, none, .load 1 false (.t 12)⟩,
⟨some 14, none, .eq false false [.s] (.t 13) (.c (.str []))⟩,
⟨some 15, none, .mov (.t 14)⟩,
⟨some 16, some (15, false), .faddr 1 (.t 1)⟩,
⟨some 17, some (15, false), .load 1 false (.t 16)⟩,
⟨some 18, some (15, false), .call 120 [(.shut, (.t 17))] [] 310018000⟩,
⟨some 19, some (15, false), .mov (.t 18)⟩,
⟨some 20, some (19, true), .faddr 0 (.t 1)⟩,
⟨some 21, some (19, true), .load 1 false (.t 20)⟩,
⟨some 22, some (19, true), .faddr 1 (.t 1)⟩,
⟨some 23, some (19, true), .load 1 false (.t 22)⟩,
⟨some 24, some (19, true), .call 132 [(.shut, (.t 21)), (.shut, (.t 23))] [] 310024000⟩,
⟨some 25, some (19, true), .bin .lss (.t 24) (.c (.int .i64 0))⟩,
⟨some 26, some (15, false), .pick (.t 19) (.t 25) (.c (.bool false))⟩,
⟨some 27, none, .pick (.t 15) (.c (.bool true)) (.t 26)⟩,
⟨some 2, none, .mov (.t 27)⟩]
def c108 : IFn := ⟨1, [.t 2], [], [],
.seq (.reg o108_1)
(.seq (.seq (.reg o108_2)
(.cond (.t 11) (.seq (.reg o108_3)
(.ret))
(.skip)))
(.seq (.reg o108_4)
(.ret)))⟩
def o113_1 : List Opn := [⟨some 2, none, .mov (.c (.nul))⟩]
def o113_2 : List Opn := [⟨some 3, none, .mov (.t 0)⟩,
⟨some 4, none, .isnl false (.t 3)⟩]
def o113_3 : List Opn := [⟨some 2, none, .mov (.c (.nul))⟩]
def o113_4 : List Opn := [⟨some 5, none, .bslice 100005 1 []⟩,
⟨some 6, none, .mov (.t 0)⟩,
⟨some 7, none, .app 100007 1 16 (.t 5) (.t 6)⟩,
⟨some 2, none, .mov (.t 7)⟩]
def c113 : IFn := ⟨1, [.t 2], [1], [],
.seq (.reg o113_1)
(.seq (.seq (.reg o113_2)
(.cond (.t 4) (.seq (.reg o113_3)
(.ret))
(.skip)))
(.seq (.reg o113_4)
(.ret)))⟩
def o114_1 : List Opn := [⟨some 1, none, .box 100001 (.t 0)⟩,
⟨some 2, none, .alloc 100002 [.nul, .nul, .int .i64 0, .nul, .nul, .int .i64 0, .int .i64 0, .int .i64 0, .int .i64 0, .int .i64 0, .int .i64 0, .int .i64 0, .int .i64 0, .int .i64 0, .int .i64 0, .int .i64 0, .str [], .nul, .int .i64 0, .int .i64 0, .int .i64 0, .str [], .str [], .nul, .int .i64 0, .int .i64 0, .int .i64 0, .nul, .nul]⟩]
def o114_2 : List Opn := [⟨some 6, none, .faddr 8 (.t 1)⟩,
⟨some 7, none, .load 20 true (.t 6)⟩,
⟨some 3, none, .alloc 100003 [.int .i64 0, .int .i64 0, .int .i64 0, .int .i64 0, .int .i64 0, .int .i64 0, .int .i64 0, .int .i64 0, .str [], .nul, .int .i64 0, .int .i64 0, .int .i64 0, .str [], .str [], .nul, .int .i64 0, .int .i64 0, .int .i64 0, .nul]⟩,
⟨none, none, .store 20 (.t 3) (.t 7)⟩]
def o114_3 : List Opn := [⟨some 9, none, .faddr 0 (.t 1)⟩,
⟨some 10, none, .load 1 false (.t 9)⟩,
⟨some 11, none, .faddr 3 (.t 3)⟩,
⟨some 12, none, .load 1 false (.t 11)⟩,
⟨some 13, none, .faddr 8 (.t 3)⟩,
⟨some 14, none, .load 1 false (.t 13)⟩,
⟨some 15, none, .faddr 2 (.t 3)⟩,
⟨some 16, none, .load 1 false (.t 15)⟩,
⟨some 17, none, .faddr 2 (.t 3)⟩,
⟨some 18, none, .load 1 false (.t 17)⟩,
⟨some 19, none, .call 45 [(.shut, (.t 10)), (.shut, (.t 12)), (.shut, (.t 14)), (.shut, (.t 16)), (.shut, (.t 18))] [] 210019000⟩,
⟨some 8, none, .mov (.t 19)⟩,
⟨some 20, none, .ext (.t 8) 0⟩,
⟨some 21, none, .ext (.t 8) 1⟩,
⟨some 4, none, .mov (.t 20)⟩,
⟨some 5, none, .mov (.t 21)⟩]
def o114_4 : List Opn := [⟨some 22, none, .faddr 0 (.t 3)⟩,
⟨some 23, none, .load 1 false (.t 22)⟩,
⟨some 24, none, .eq false false [.i] (.t 23) (.c (.int .i64 3))⟩]
def o114_5 : List Opn := [⟨some 26, none, .faddr 0 (.t 1)⟩,
⟨some 27, none, .load 1 false (.t 26)⟩,
⟨some 28, none, .faddr 3 (.t 3)⟩,
⟨some 29, none, .load 1 false (.t 28)⟩,
⟨some 30, none, .faddr 4 (.t 3)⟩,
⟨some 31, none, .load 1 false (.t 30)⟩,
⟨some 32, none, .faddr 2 (.t 3)⟩,
⟨some 33, none, .load 1 false (.t 32)⟩,
⟨some 34, none, .call 46 [(.shut, (.t 27)), (.shut, (.t 29)), (.shut, (.t 31)), (.shut, (.t 33))] [] 410034000⟩,
⟨some 25, none, .mov (.t 34)⟩,
⟨some 35, none, .ext (.t 25) 0⟩,
⟨some 36, none, .ext (.t 25) 1⟩,
⟨some 4, none, .mov (.t 35)⟩,
⟨some 5, none, .mov (.t 36)⟩]
def o114_6 : List Opn := [⟨some 37, none, .mov (.t 5)⟩,
⟨some 38, none, .eq false false [.i] (.t 37) (.c (.int .i64 0))⟩]
def o114_7 : List Opn := [⟨some 39, none, .mov (.t 4)⟩,
⟨some 40, none, .faddr 0 (.t 1)⟩,
⟨none, none, .store 1 (.t 40) (.t 39)⟩]
def o114_8 : List Opn := [⟨some 41, none, .build [.int .i64 0, .int .i64 0, .int .i64 0, .int .i64 0, .int .i64 0, .int .i64 0, .int .i64 0, .int .i64 0, .str [], .nul, .int .i64 0, .int .i64 0, .int .i64 0, .str [], .str [], .nul, .int .i64 0, .int .i64 0, .int .i64 0, .nul] []⟩,
⟨some 42, none, .faddr 8 (.t 1)⟩,
⟨none, none, .store 20 (.t 42) (.t 41)⟩]
def o114_9 : List Opn := [⟨some 43, none, .load 29 true (.t 1)⟩,
⟨none, none, .store 29 (.t 2) (.t 43)⟩]
def c114 : IFn := ⟨1, [.m 2 29 true], [], [],
.seq (.reg o114_1)
(.seq (.reg o114_2)
(.seq (.reg o114_3)
(.seq (.seq (.reg o114_4)
(.cond (.t 24) (.reg o114_5)
(.skip)))
(.seq (.seq (.reg o114_6)
(.cond (.t 38) (.reg o114_7)
(.skip)))
(.seq (.reg o114_8)
(.seq (.reg o114_9)
(.ret)))))))⟩
def ob115_1_1 : List Opn := [⟨some 9, none, .bin .lss (.t 8) (.t 7)⟩]
def ob115_1_2 : List Opn := [⟨some 10, none, .mov (.t 8)⟩,
⟨some 5, none, .mov (.t 10)⟩]
def ob115_1_3 : List Opn := [⟨some 11, none, .mov (.t 1)⟩,
⟨some 12, none, .mov (.t 0)⟩,
⟨some 13, none, .mov (.t 5)⟩,
⟨some 14, none, .iaddr 1 (.t 12) (.t 13)⟩,
⟨some 15, none, .load 1 false (.t 14)⟩,
⟨some 16, none, .callv (.t 11) [(.shut, (.t 15))] [] 410016000⟩]
def ob115_1_4 : List Opn := [⟨some 17, none, .mov (.t 5)⟩,
⟨some 4, none, .mov (.t 17)⟩]
def ob115_1_5 : List Opn := [⟨some 18, none, .bin .add (.t 8) (.c (.int .i64 1))⟩,
⟨some 8, none, .mov (.t 18)⟩]
def b115_1 : IC := (.seq (.gh (.keep [0, 1, 7, 8] []))
(.seq (.reg ob115_1_1)
(.seq (.cond (.t 9) (.skip)
(.exit 0))
(.seq (.block 1 (.seq (.reg ob115_1_2)
(.seq (.reg ob115_1_3)
(.cond (.t 16) (.seq (.reg ob115_1_4)
(.ret))
(.skip)))))
(.reg ob115_1_5)))))
def o115_1 : List Opn := [⟨some 4, none, .mov (.c (.int .i64 0))⟩]
def o115_2 : List Opn := [⟨some 6, none, .mov (.t 0)⟩,
⟨some 7, none, .len (.t 6)⟩,
⟨some 8, none, .mov (.c (.int .i64 0))⟩]
def o115_3 : List Opn := [⟨some 4, none, .mov (.c (.int .i64 (-1)))⟩]
def c115 : IFn := ⟨2, [.t 4], [], [],
.seq (.reg o115_1)
(.seq (.seq (.reg o115_2)
(.block 0 (.loop b115_1)))
(.seq (.reg o115_3)
(.ret)))⟩
def o116_1 : List Opn := [⟨some 2, none, .mov (.c (.bool false))⟩]
def o116_2 : List Opn := [⟨some 3, none, .mov (.t 0)⟩,
⟨some 4, none, .mov (.t 0)⟩,
⟨some 5, none, .eq true false [.i] (.t 3) (.t 4)⟩,
⟨some 2, none, .mov (.t 5)⟩]
def c116 : IFn := ⟨1, [.t 2], [], [],
.seq (.reg o116_1)
(.seq (.reg o116_2)
(.ret))⟩
def ob117_1_1 : List Opn := [⟨some 9, none, .bin .lss (.t 8) (.t 7)⟩]
def ob117_1_2 : List Opn := [⟨some 10, none, .mov (.t 8)⟩,
⟨some 5, none, .mov (.t 10)⟩]
def ob117_1_3 : List Opn := [⟨some 11, none, .mov (.t 1)⟩,
⟨some 12, none, .mov (.t 0)⟩,
⟨some 13, none, .mov (.t 5)⟩,
⟨some 14, none, .iaddr 5 (.t 12) (.t 13)⟩,
⟨some 15, none, .load 5 true (.t 14)⟩,
⟨some 16, none, .callv (.t 11) [(.shut, (.t 15))] [] 410016000⟩]
def ob117_1_4 : List Opn := [⟨some 17, none, .mov (.t 5)⟩,
⟨some 4, none, .mov (.t 17)⟩]
def ob117_1_5 : List Opn := [⟨some 18, none, .bin .add (.t 8) (.c (.int .i64 1))⟩,
⟨some 8, none, .mov (.t 18)⟩]
def b117_1 : IC := (.seq (.gh (.keep [0, 1, 7, 8] []))
(.seq (.reg ob117_1_1)
(.seq (.cond (.t 9) (.skip)
(.exit 0))
(.seq (.block 1 (.seq (.reg ob117_1_2)
(.seq (.reg ob117_1_3)
(.cond (.t 16) (.seq (.reg ob117_1_4)
(.ret))
(.skip)))))
(.reg ob117_1_5)))))
def o117_1 : List Opn := [⟨some 4, none, .mov (.c (.int .i64 0))⟩]
def o117_2 : List Opn := [⟨some 6, none, .mov (.t 0)⟩,
⟨some 7, none, .len (.t 6)⟩,
⟨some 8, none, .mov (.c (.int .i64 0))⟩]
def o117_3 : List Opn := [⟨some 4, none, .mov (.c (.int .i64 (-1)))⟩]
def c117 : IFn := ⟨2, [.t 4], [], [],
.seq (.reg o117_1)
(.seq (.seq (.reg o117_2)
(.block 0 (.loop b117_1)))
(.seq (.reg o117_3)
(.ret)))⟩
def o118_1 : List Opn := [⟨some 1, none, .box 100001 (.t 0)⟩,
⟨some 2, none, .mov (.c (.bool false))⟩]
def o118_2 : List Opn := [⟨some 3, none, .faddr 0 (.t 1)⟩,
⟨some 4, none, .load 1 false (.t 3)⟩,
⟨some 5, none, .lenS (.t 4)⟩,
⟨some 6, none, .bin .gtr (.t 5) (.c (.int .i64 0))⟩,
⟨some 7, none, .mov (.t 6)⟩,
⟨some 8, some (7, true), .faddr 0 (.t 1)⟩,
⟨some 9, some (7, true), .load 1 false (.t 8)⟩,
⟨some 10, some (7, true), .call 124 [(.shut, (.t 9))] [] 110010000⟩,
⟨some 11, some (7, true), .un .not (.t 10)⟩,
⟨some 12, none, .pick (.t 7) (.t 11) (.c (.bool false))⟩]
def o118_3 : List Opn := [⟨some 2, none, .mov (.c (.bool false))⟩]
def o118_4 : List Opn := [⟨some 13, none, .faddr 1 (.t 1)⟩,
⟨some 14, none, .load 1 false (.t 13)⟩,
⟨some 15, none, .lenS (.t 14)⟩,
⟨some 16, none, .eq false false [.i] (.t 15) (.c (.int .i64 0))⟩]
def o118_5 : List Opn := [⟨some 2, none, .mov (.c (.bool true))⟩]
def o118_6 : List Opn := [⟨some 17, none, .faddr 1 (.t 1)⟩,
⟨some 18, none, .load 1 false (.t 17)⟩,
⟨some 19, none, .call 124 [(.shut, (.t 18))] [] 510019000⟩,
⟨some 20, none, .mov (.t 19)⟩,
⟨some 21, some (20, true), .faddr 0 (.t 1)⟩,
⟨some 22, some (20, true), .load 1 false (.t 21)⟩,
⟨some 23, some (20, true), .faddr 1 (.t 1)⟩,
⟨some 24, some (20, true), .load 1 false (.t 23)⟩,
⟨some 25, some (20, true), .call 139 [(.shut, (.t 22)), (.shut, (.t 24))] [] 510025000⟩,
⟨some 26, some (20, true), .eq false false [.i] (.t 25) (.c (.int .i64 (-1)))⟩,
⟨some 27, none, .pick (.t 20) (.t 26) (.c (.bool false))⟩,
⟨some 2, none, .mov (.t 27)⟩]
def c118 : IFn := ⟨1, [.t 2], [], [],
.seq (.reg o118_1)
(.seq (.seq (.reg o118_2)
(.cond (.t 12) (.seq (.reg o118_3)
(.ret))
(.skip)))
(.seq (.seq (.reg o118_4)
(.cond (.t 16) (.seq (.reg o118_5)
(.ret))
(.skip)))
(.seq (.reg o118_6)
(.ret))))⟩
def o119_1 : List Opn := [⟨some 2, none, .box 100002 (.t 0)⟩,
⟨some 3, none, .mov (.c (.bool false))⟩]
def o119_2 : List Opn := [⟨some 4, none, .faddr 2 (.t 2)⟩,
⟨some 5, none, .load 1 false (.t 4)⟩,
⟨some 6, none, .load 1 false (.t 1)⟩,
⟨some 7, none, .eq false false [.i] (.t 5) (.t 6)⟩,
⟨some 3, none, .mov (.t 7)⟩]
def c119 : IFn := ⟨2, [.t 3], [], [],
.seq (.reg o119_1)
(.seq (.reg o119_2)
(.ret))⟩
def ob120_1_1 : List Opn := [⟨some 9, none, .nxt (.t 8)⟩,
⟨some 10, none, .ext (.t 9) 0⟩]
def ob120_1_2 : List Opn := [⟨some 11, none, .ext (.t 9) 1⟩,
⟨some 12, none, .ext (.t 9) 2⟩,
⟨some 3, none, .mov (.t 11)⟩,
⟨some 4, none, .mov (.t 12)⟩]
def ob120_1_3 : List Opn := [⟨some 14, none, .mov (.t 0)⟩,
⟨some 15, none, .mov (.t 3)⟩,
⟨some 16, none, .slcS (.t 14) (some (.t 15)) none⟩,
⟨some 17, none, .call 140 [(.shut, (.t 16))] [] 410017000⟩,
⟨some 13, none, .mov (.t 17)⟩,
⟨some 18, none, .ext (.t 13) 0⟩,
⟨some 19, none, .ext (.t 13) 1⟩,
⟨some 5, none, .mov (.t 18)⟩,
⟨some 6, none, .mov (.t 19)⟩]
def ob120_1_4 : List Opn := [⟨some 20, none, .mov (.t 4)⟩,
⟨some 21, none, .mov (.t 6)⟩,
⟨some 22, none, .call 141 [(.shut, (.t 20)), (.shut, (.t 21))] [] 510022000⟩,
⟨some 23, none, .un .not (.t 22)⟩]
def ob120_1_5 : List Opn := [⟨some 2, none, .mov (.c (.bool false))⟩]
def b120_1 : IC := (.seq (.gh (.keep [0, 8] [100008]))
(.seq (.reg ob120_1_1)
(.seq (.cond (.t 10) (.skip)
(.exit 0))
(.block 1 (.seq (.reg ob120_1_2)
(.seq (.reg ob120_1_3)
(.seq (.reg ob120_1_4)
(.cond (.t 23) (.seq (.reg ob120_1_5)
(.ret))
(.skip)))))))))
def o120_1 : List Opn := [⟨some 2, none, .mov (.c (.bool false))⟩]
def o120_2 : List Opn := [⟨some 7, none, .mov (.t 0)⟩,
⟨some 8, none, .rng 100008 (.t 7)⟩]
def o120_3 : List Opn := [⟨some 24, none, .mov (.t 0)⟩,
⟨some 25, none, .lenS (.t 24)⟩,
⟨some 26, none, .bin .geq (.t 25) (.c (.int .i64 1))⟩,
⟨some 27, none, .mov (.t 26)⟩,
⟨some 28, some (27, true), .mov (.t 0)⟩,
⟨some 29, some (27, true), .lenS (.t 28)⟩,
⟨some 30, some (27, true), .bin .leq (.t 29) (.c (.int .i64 16))⟩,
⟨some 31, none, .pick (.t 27) (.t 30) (.c (.bool false))⟩,
⟨some 2, none, .mov (.t 31)⟩]
def c120 : IFn := ⟨1, [.t 2], [], [],
.seq (.reg o120_1)
(.seq (.seq (.reg o120_2)
(.block 0 (.loop b120_1)))
(.seq (.reg o120_3)
(.ret)))⟩
def o121_1 : List Opn := [⟨some 2, none, .box 100002 (.t 0)⟩,
⟨some 4, none, .mov (.c (.bool false))⟩]
def o121_2 : List Opn := [⟨some 5, none, .load 2 true (.t 2)⟩,
⟨some 6, none, .call 108 [(.shut, (.t 5))] [] 110006000⟩,
⟨some 7, none, .mov (.t 6)⟩,
⟨some 8, some (7, true), .mov (.t 1)⟩,
⟨some 9, some (7, true), .call 120 [(.shut, (.t 8))] [] 110009000⟩,
⟨some 10, none, .pick (.t 7) (.t 9) (.c (.bool false))⟩,
⟨some 11, none, .mov (.t 10)⟩,
⟨some 12, some (11, true), .faddr 0 (.t 2)⟩,
⟨some 13, some (11, true), .load 1 false (.t 12)⟩,
⟨some 14, some (11, true), .mov (.t 1)⟩,
⟨some 15, some (11, true), .call 132 [(.shut, (.t 13)), (.shut, (.t 14))] [] 110015000⟩,
⟨some 16, some (11, true), .bin .leq (.t 15) (.c (.int .i64 0))⟩,
⟨some 17, none, .pick (.t 11) (.t 16) (.c (.bool false))⟩,
⟨some 18, none, .mov (.t 17)⟩,
⟨some 19, some (18, true), .faddr 1 (.t 2)⟩,
⟨some 20, some (18, true), .load 1 false (.t 19)⟩,
⟨some 21, some (18, true), .eq false false [.s] (.t 20) (.c (.str []))⟩,
⟨some 22, some (18, true), .mov (.t 21)⟩,
⟨some 23, some (22, false), .mov (.t 1)⟩,
⟨some 24, some (22, false), .faddr 1 (.t 2)⟩,
⟨some 25, some (22, false), .load 1 false (.t 24)⟩,
⟨some 26, some (22, false), .call 132 [(.shut, (.t 23)), (.shut, (.t 25))] [] 110026000⟩,
⟨some 27, some (22, false), .bin .lss (.t 26) (.c (.int .i64 0))⟩,
⟨some 28, some (18, true), .pick (.t 22) (.c (.bool true)) (.t 27)⟩,
⟨some 29, none, .pick (.t 18) (.t 28) (.c (.bool false))⟩,
⟨some 4, none, .mov (.t 29)⟩]
def c121 : IFn := ⟨2, [.t 4], [], [],
.seq (.reg o121_1)
(.seq (.reg o121_2)
(.ret))⟩
def ob124_1_1 : List Opn := [⟨some 13, none, .mov (.t 0)⟩,
⟨some 14, none, .lenS (.t 13)⟩,
⟨some 15, none, .bin .gtr (.t 14) (.c (.int .i64 0))⟩]
def ob124_1_2 : List Opn := [⟨some 17, none, .mov (.t 0)⟩,
⟨some 18, none, .call 143 [(.shut, (.t 17))] [] 410018000⟩,
⟨some 16, none, .mov (.t 18)⟩,
⟨some 19, none, .ext (.t 16) 0⟩,
⟨some 20, none, .ext (.t 16) 1⟩,
⟨some 3, none, .mov (.t 19)⟩,
⟨some 4, none, .mov (.t 20)⟩]
def ob124_1_3 : List Opn := [⟨some 21, none, .mov (.t 3)⟩,
⟨some 22, none, .call 144 [(.shut, (.t 21))] [] 510022000⟩,
⟨some 23, none, .un .not (.t 22)⟩]
def ob124_1_4 : List Opn := [⟨some 2, none, .mov (.c (.bool false))⟩]
def ob124_1_5 : List Opn := [⟨some 24, none, .mov (.t 0)⟩,
⟨some 25, none, .mov (.t 4)⟩,
⟨some 26, none, .slcS (.t 24) (some (.t 25)) none⟩,
⟨some 0, none, .mov (.t 26)⟩]
def b124_1 : IC := (.seq (.gh (.keep [0] []))
(.seq (.seq (.reg ob124_1_1)
(.cond (.t 15) (.skip)
(.exit 0)))
(.block 1 (.seq (.reg ob124_1_2)
(.seq (.seq (.reg ob124_1_3)
(.cond (.t 23) (.seq (.reg ob124_1_4)
(.ret))
(.skip)))
(.reg ob124_1_5))))))
def o124_1 : List Opn := [⟨some 2, none, .mov (.c (.bool false))⟩]
def o124_2 : List Opn := [⟨some 5, none, .mov (.t 0)⟩,
⟨some 6, none, .lenS (.t 5)⟩,
⟨some 7, none, .eq false false [.i] (.t 6) (.c (.int .i64 0))⟩,
⟨some 8, none, .mov (.t 7)⟩,
⟨some 9, some (8, false), .mov (.t 0)⟩,
⟨some 10, some (8, false), .lenS (.t 9)⟩,
⟨some 11, some (8, false), .bin .gtr (.t 10) (.c (.int .i64 16))⟩,
⟨some 12, none, .pick (.t 8) (.c (.bool true)) (.t 11)⟩]
def o124_3 : List Opn := [⟨some 2, none, .mov (.c (.bool false))⟩]
def o124_4 : List Opn := [⟨some 2, none, .mov (.c (.bool true))⟩]
def c124 : IFn := ⟨1, [.t 2], [], [],
.seq (.reg o124_1)
(.seq (.seq (.reg o124_2)
(.cond (.t 12) (.seq (.reg o124_3)
(.ret))
(.skip)))
(.seq (.block 0 (.loop b124_1))
(.seq (.reg o124_4)
(.ret))))⟩
def ob132_1_1 : List Opn := [⟨some 9, none, .mov (.t 0)⟩,
⟨some 10, none, .eq true false [.s] (.t 9) (.c (.str []))⟩,
⟨some 11, none, .mov (.t 10)⟩,
⟨some 12, some (11, true), .mov (.t 1)⟩,
⟨some 13, some (11, true), .eq true false [.s] (.t 12) (.c (.str []))⟩,
⟨some 14, none, .pick (.t 11) (.t 13) (.c (.bool false))⟩]
def ob132_1_2 : List Opn := [⟨some 16, none, .mov (.t 0)⟩,
⟨some 17, none, .call 140 [(.shut, (.t 16))] [] 210017000⟩,
⟨some 15, none, .mov (.t 17)⟩,
⟨some 18, none, .ext (.t 15) 0⟩,
⟨some 19, none, .ext (.t 15) 1⟩,
⟨some 5, none, .mov (.t 18)⟩,
⟨some 6, none, .mov (.t 19)⟩]
def ob132_1_3 : List Opn := [⟨some 21, none, .mov (.t 1)⟩,
⟨some 22, none, .call 140 [(.shut, (.t 21))] [] 310022000⟩,
⟨some 20, none, .mov (.t 22)⟩,
⟨some 23, none, .ext (.t 20) 0⟩,
⟨some 24, none, .ext (.t 20) 1⟩,
⟨some 7, none, .mov (.t 23)⟩,
⟨some 8, none, .mov (.t 24)⟩]
def ob132_1_4 : List Opn := [⟨some 26, none, .mov (.t 5)⟩,
⟨some 27, none, .mov (.t 7)⟩,
⟨some 28, none, .bin .lss (.t 26) (.t 27)⟩,
⟨some 25, none, .mov (.t 28)⟩]
def ob132_1_5 : List Opn := [⟨some 4, none, .mov (.c (.int .i64 (-1)))⟩]
def ob132_1_6 : List Opn := [⟨some 30, none, .mov (.t 5)⟩,
⟨some 31, none, .mov (.t 7)⟩,
⟨some 32, none, .bin .gtr (.t 30) (.t 31)⟩,
⟨some 29, none, .mov (.t 32)⟩]
def ob132_1_7 : List Opn := [⟨some 4, none, .mov (.c (.int .i64 1))⟩]
def ob132_1_8 : List Opn := [⟨some 33, none, .mov (.t 0)⟩,
⟨some 34, none, .mov (.t 6)⟩,
⟨some 35, none, .slcS (.t 33) (some (.t 34)) none⟩,
⟨some 36, none, .mov (.t 1)⟩,
⟨some 37, none, .mov (.t 8)⟩,
⟨some 38, none, .slcS (.t 36) (some (.t 37)) none⟩,
⟨some 0, none, .mov (.t 35)⟩,
⟨some 1, none, .mov (.t 38)⟩]
def b132_1 : IC := (.seq (.gh (.keep [0, 1] []))
(.seq (.seq (.reg ob132_1_1)
(.cond (.t 14) (.skip)
(.exit 0)))
(.block 1 (.seq (.reg ob132_1_2)
(.seq (.reg ob132_1_3)
(.seq (.block 2 (.seq (.reg ob132_1_4)
(.cond (.t 25) (.seq (.reg ob132_1_5)
(.ret))
(.seq (.reg ob132_1_6)
(.cond (.t 29) (.seq (.reg ob132_1_7)
(.ret))
(.skip))))))
(.dreg ob132_1_8
[])))))))
def o132_1 : List Opn := [⟨some 4, none, .mov (.c (.int .i64 0))⟩]
def o132_2 : List Opn := [⟨some 40, none, .mov (.t 0)⟩,
⟨some 41, none, .eq true false [.s] (.t 40) (.c (.str []))⟩,
⟨some 39, none, .mov (.t 41)⟩]
def o132_3 : List Opn := [⟨some 4, none, .mov (.c (.int .i64 1))⟩]
def o132_4 : List Opn := [⟨some 43, none, .mov (.t 1)⟩,
⟨some 44, none, .eq true false [.s] (.t 43) (.c (.str []))⟩,
⟨some 42, none, .mov (.t 44)⟩]
def o132_5 : List Opn := [⟨some 4, none, .mov (.c (.int .i64 (-1)))⟩]
def o132_6 : List Opn := [⟨some 4, none, .mov (.c (.int .i64 0))⟩]
def c132 : IFn := ⟨2, [.t 4], [], [],
.seq (.reg o132_1)
(.seq (.block 0 (.loop b132_1))
(.seq (.block 3 (.seq (.reg o132_2)
(.cond (.t 39) (.seq (.reg o132_3)
(.ret))
(.seq (.reg o132_4)
(.cond (.t 42) (.seq (.reg o132_5)
(.ret))
(.skip))))))
(.seq (.reg o132_6)
(.ret))))⟩
def o135_1 : List Opn := [⟨some 2, none, .mov (.c (.nul))⟩]
def o135_2 : List Opn := [⟨some 3, none, .mov (.t 0)⟩,
⟨some 4, none, .isnl false (.t 3)⟩]
def o135_3 : List Opn := [⟨some 2, none, .mov (.c (.nul))⟩]
def o135_4 : List Opn := [⟨some 5, none, .bslice 100005 7 []⟩,
⟨some 6, none, .mov (.t 0)⟩,
⟨some 7, none, .app 100007 7 56 (.t 5) (.t 6)⟩,
⟨some 2, none, .mov (.t 7)⟩]
def c135 : IFn := ⟨1, [.t 2], [7], [],
.seq (.reg o135_1)
(.seq (.seq (.reg o135_2)
(.cond (.t 4) (.seq (.reg o135_3)
(.ret))
(.skip)))
(.seq (.reg o135_4)
(.ret)))⟩
def ob139_1_1 : List Opn := [⟨some 12, none, .mov (.t 7)⟩,
⟨some 13, none, .mov (.t 5)⟩,
⟨some 14, none, .len (.t 13)⟩,
⟨some 15, none, .bin .lss (.t 12) (.t 14)⟩,
⟨some 16, none, .mov (.t 15)⟩,
⟨some 17, some (16, true), .mov (.t 7)⟩,
⟨some 18, some (16, true), .mov (.t 6)⟩,
⟨some 19, some (16, true), .len (.t 18)⟩,
⟨some 20, some (16, true), .bin .lss (.t 17) (.t 19)⟩,
⟨some 21, none, .pick (.t 16) (.t 20) (.c (.bool false))⟩]
def ob139_1_2 : List Opn := [⟨some 24, none, .mov (.t 5)⟩,
⟨some 25, none, .mov (.t 7)⟩,
⟨some 26, none, .iaddr 1 (.t 24) (.t 25)⟩,
⟨some 27, none, .load 1 false (.t 26)⟩,
⟨some 28, none, .mov (.t 6)⟩,
⟨some 29, none, .mov (.t 7)⟩,
⟨some 30, none, .iaddr 1 (.t 28) (.t 29)⟩,
⟨some 31, none, .load 1 false (.t 30)⟩,
⟨some 32, none, .bin .lss (.t 27) (.t 31)⟩]
def ob139_1_3 : List Opn := [⟨some 4, none, .mov (.c (.int .i64 (-1)))⟩]
def ob139_1_4 : List Opn := [⟨some 33, none, .mov (.t 5)⟩,
⟨some 34, none, .mov (.t 7)⟩,
⟨some 35, none, .iaddr 1 (.t 33) (.t 34)⟩,
⟨some 36, none, .load 1 false (.t 35)⟩,
⟨some 37, none, .mov (.t 6)⟩,
⟨some 38, none, .mov (.t 7)⟩,
⟨some 39, none, .iaddr 1 (.t 37) (.t 38)⟩,
⟨some 40, none, .load 1 false (.t 39)⟩,
⟨some 41, none, .bin .gtr (.t 36) (.t 40)⟩]
def ob139_1_5 : List Opn := [⟨some 4, none, .mov (.c (.int .i64 1))⟩]
def ob139_1_6 : List Opn := [⟨some 22, none, .mov (.t 7)⟩,
⟨some 23, none, .bin .add (.t 22) (.c (.int .i64 1))⟩,
⟨some 7, none, .mov (.t 23)⟩]
def b139_1 : IC := (.seq (.gh (.keep [5, 6, 7] []))
(.seq (.seq (.reg ob139_1_1)
(.cond (.t 21) (.skip)
(.exit 0)))
(.seq (.block 1 (.seq (.seq (.dreg ob139_1_2
[])
(.cond (.t 32) (.seq (.reg ob139_1_3)
(.ret))
(.skip)))
(.seq (.dreg ob139_1_4
[])
(.cond (.t 41) (.seq (.reg ob139_1_5)
(.ret))
(.skip)))))
(.reg ob139_1_6))))
def o139_1 : List Opn := [⟨some 4, none, .mov (.c (.int .i64 0))⟩]
def o139_2 : List Opn := [⟨some 8, none, .mov (.t 0)⟩,
⟨some 9, none, .call 153 [(.shut, (.t 8))] [] 110009000⟩,
⟨some 10, none, .mov (.t 1)⟩,
⟨some 11, none, .call 153 [(.shut, (.t 10))] [] 110011000⟩,
⟨some 5, none, .mov (.t 9)⟩,
⟨some 6, none, .mov (.t 11)⟩]
def o139_3 : List Opn := [⟨some 7, none, .mov (.c (.int .i64 0))⟩]
def o139_4 : List Opn := [⟨some 42, none, .mov (.t 5)⟩,
⟨some 43, none, .len (.t 42)⟩,
⟨some 44, none, .mov (.t 6)⟩,
⟨some 45, none, .len (.t 44)⟩,
⟨some 46, none, .bin .lss (.t 43) (.t 45)⟩]
def o139_5 : List Opn := [⟨some 4, none, .mov (.c (.int .i64 (-1)))⟩]
def o139_6 : List Opn := [⟨some 47, none, .mov (.t 5)⟩,
⟨some 48, none, .len (.t 47)⟩,
⟨some 49, none, .mov (.t 6)⟩,
⟨some 50, none, .len (.t 49)⟩,
⟨some 51, none, .bin .gtr (.t 48) (.t 50)⟩]
def o139_7 : List Opn := [⟨some 4, none, .mov (.c (.int .i64 1))⟩]
def o139_8 : List Opn := [⟨some 4, none, .mov (.c (.int .i64 0))⟩]
def c139 : IFn := ⟨2, [.t 4], [], [],
.seq (.reg o139_1)
(.seq (.reg o139_2)
(.seq (.seq (.reg o139_3)
(.block 0 (.loop b139_1)))
(.seq (.seq (.reg o139_4)
(.cond (.t 46) (.seq (.reg o139_5)
(.ret))
(.skip)))
(.seq (.seq (.reg o139_6)
(.cond (.t 51) (.seq (.reg o139_7)
(.ret))
(.skip)))
(.seq (.reg o139_8)
(.ret))))))⟩
def o140_1 : List Opn := [⟨some 2, none, .mov (.c (.int .i32 0))⟩,
⟨some 3, none, .mov (.c (.int .i64 0))⟩]
def o140_2 : List Opn := [⟨some 4, none, .mov (.t 0)⟩,
⟨some 5, none, .eq true false [.s] (.t 4) (.c (.str []))⟩,
⟨some 6, none, .mov (.t 5)⟩,
⟨some 7, some (6, true), .mov (.t 0)⟩,
⟨some 8, some (6, true), .idxS (.t 7) (.c (.int .i64 0))⟩,
⟨some 9, some (6, true), .bin .lss (.t 8) (.c (.int .u8 128))⟩,
⟨some 10, none, .pick (.t 6) (.t 9) (.c (.bool false))⟩]
def o140_3 : List Opn := [⟨some 11, none, .mov (.t 0)⟩,
⟨some 12, none, .idxS (.t 11) (.c (.int .i64 0))⟩,
⟨some 13, none, .toInt .i32 (.t 12)⟩,
⟨some 2, none, .mov (.t 13)⟩,
⟨some 3, none, .mov (.c (.int .i64 1))⟩]
def o140_4 : List Opn := [⟨some 15, none, .mov (.t 0)⟩,
⟨some 16, none, .call 154 [(.shut, (.t 15))] [] 310016000⟩,
⟨some 14, none, .mov (.t 16)⟩,
⟨some 17, none, .ext (.t 14) 0⟩,
⟨some 18, none, .ext (.t 14) 1⟩,
⟨some 2, none, .mov (.t 17)⟩,
⟨some 3, none, .mov (.t 18)⟩]
def c140 : IFn := ⟨1, [.t 2, .t 3], [], [],
.seq (.reg o140_1)
(.seq (.seq (.reg o140_2)
(.cond (.t 10) (.seq (.reg o140_3)
(.ret))
(.reg o140_4)))
(.ret))⟩
def o141_1 : List Opn := [⟨some 4, none, .mov (.c (.bool false))⟩]
def o141_2 : List Opn := [⟨some 5, none, .mov (.t 0)⟩,
⟨some 6, none, .bin .geq (.t 5) (.c (.int .i32 33))⟩,
⟨some 7, none, .mov (.t 6)⟩,
⟨some 8, some (7, true), .mov (.t 0)⟩,
⟨some 9, some (7, true), .bin .lss (.t 8) (.c (.int .i32 127))⟩,
⟨some 10, some (7, true), .mov (.t 9)⟩,
⟨some 11, some (10, false), .mov (.t 0)⟩,
⟨some 12, some (10, false), .bin .gtr (.t 11) (.c (.int .i32 159))⟩,
⟨some 13, some (7, true), .pick (.t 10) (.c (.bool true)) (.t 12)⟩,
⟨some 14, none, .pick (.t 7) (.t 13) (.c (.bool false))⟩,
⟨some 15, none, .mov (.t 14)⟩,
⟨some 16, some (15, true), .mov (.t 0)⟩,
⟨some 17, some (15, true), .eq true false [.i] (.t 16) (.c (.int .i32 65533))⟩,
⟨some 18, some (15, true), .mov (.t 17)⟩,
⟨some 19, some (18, false), .mov (.t 1)⟩,
⟨some 20, some (18, false), .eq false false [.i] (.t 19) (.c (.int .i64 3))⟩,
⟨some 21, some (15, true), .pick (.t 18) (.c (.bool true)) (.t 20)⟩,
⟨some 22, none, .pick (.t 15) (.t 21) (.c (.bool false))⟩,
⟨some 4, none, .mov (.t 22)⟩]
def c141 : IFn := ⟨2, [.t 4], [], [],
.seq (.reg o141_1)
(.seq (.reg o141_2)
(.ret))⟩
def ob143_1_1 : List Opn := [⟨some 46, none, .mov (.t 7)⟩,
⟨some 47, none, .mov (.t 5)⟩,
⟨some 48, none, .bin .lss (.t 46) (.t 47)⟩]
def ob143_1_2 : List Opn := [⟨some 51, none, .mov (.t 0)⟩,
⟨some 52, none, .mov (.t 7)⟩,
⟨some 53, none, .idxS (.t 51) (.t 52)⟩,
⟨some 54, none, .bin .lss (.t 53) (.c (.int .u8 128))⟩,
⟨some 55, none, .mov (.t 54)⟩,
⟨some 56, some (55, false), .mov (.t 0)⟩,
⟨some 57, some (55, false), .mov (.t 7)⟩,
⟨some 58, some (55, false), .idxS (.t 56) (.t 57)⟩,
⟨some 59, some (55, false), .bin .gtr (.t 58) (.c (.int .u8 191))⟩,
⟨some 60, none, .pick (.t 55) (.c (.bool true)) (.t 59)⟩]
def ob143_1_3 : List Opn := [⟨some 2, none, .mov (.c (.int .i64 (-1)))⟩,
⟨some 3, none, .mov (.c (.int .i64 1))⟩]
def ob143_1_4 : List Opn := [⟨some 61, none, .mov (.t 4)⟩,
⟨some 62, none, .bin .mul (.c (.int .i64 64)) (.t 61)⟩,
⟨some 63, none, .mov (.t 0)⟩,
⟨some 64, none, .mov (.t 7)⟩,
⟨some 65, none, .idxS (.t 63) (.t 64)⟩,
⟨some 66, none, .toInt .i64 (.t 65)⟩,
⟨some 67, none, .bin .add (.t 62) (.t 66)⟩,
⟨some 68, none, .bin .sub (.t 67) (.c (.int .i64 128))⟩,
⟨some 4, none, .mov (.t 68)⟩]
def ob143_1_5 : List Opn := [⟨some 49, none, .mov (.t 7)⟩,
⟨some 50, none, .bin .add (.t 49) (.c (.int .i64 1))⟩,
⟨some 7, none, .mov (.t 50)⟩]
def b143_1 : IC := (.seq (.gh (.keep [0, 4, 5, 6, 7] []))
(.seq (.seq (.reg ob143_1_1)
(.cond (.t 48) (.skip)
(.exit 0)))
(.seq (.block 1 (.seq (.seq (.reg ob143_1_2)
(.cond (.t 60) (.seq (.reg ob143_1_3)
(.ret))
(.skip)))
(.reg ob143_1_4)))
(.reg ob143_1_5))))
def o143_1 : List Opn := [⟨some 2, none, .mov (.c (.int .i64 0))⟩,
⟨some 3, none, .mov (.c (.int .i64 0))⟩]
def o143_2 : List Opn := [⟨some 8, none, .mov (.t 0)⟩,
⟨some 9, none, .idxS (.t 8) (.c (.int .i64 0))⟩,
⟨some 10, none, .toInt .i64 (.t 9)⟩,
⟨some 4, none, .mov (.t 10)⟩]
def o143_3 : List Opn := [⟨some 11, none, .mov (.t 4)⟩,
⟨some 12, none, .bin .lss (.t 11) (.c (.int .i64 128))⟩]
def o143_4 : List Opn := [⟨some 13, none, .mov (.t 4)⟩,
⟨some 2, none, .mov (.t 13)⟩,
⟨some 3, none, .mov (.c (.int .i64 1))⟩]
def o143_5 : List Opn := [⟨some 5, none, .mov (.c (.int .i64 0))⟩,
⟨some 6, none, .mov (.c (.int .i64 0))⟩]
def o143_6 : List Opn := [⟨some 14, none, .mov (.t 4)⟩,
⟨some 15, none, .bin .geq (.t 14) (.c (.int .i64 194))⟩,
⟨some 16, none, .mov (.t 15)⟩,
⟨some 17, some (16, true), .mov (.t 4)⟩,
⟨some 18, some (16, true), .bin .lss (.t 17) (.c (.int .i64 224))⟩,
⟨some 19, none, .pick (.t 16) (.t 18) (.c (.bool false))⟩]
def o143_7 : List Opn := [⟨some 20, none, .mov (.t 4)⟩,
⟨some 21, none, .bin .sub (.t 20) (.c (.int .i64 192))⟩,
⟨some 5, none, .mov (.c (.int .i64 2))⟩,
⟨some 6, none, .mov (.c (.int .i64 128))⟩,
⟨some 4, none, .mov (.t 21)⟩]
def o143_8 : List Opn := [⟨some 22, none, .mov (.t 4)⟩,
⟨some 23, none, .bin .geq (.t 22) (.c (.int .i64 224))⟩,
⟨some 24, none, .mov (.t 23)⟩,
⟨some 25, some (24, true), .mov (.t 4)⟩,
⟨some 26, some (24, true), .bin .lss (.t 25) (.c (.int .i64 240))⟩,
⟨some 27, none, .pick (.t 24) (.t 26) (.c (.bool false))⟩]
def o143_9 : List Opn := [⟨some 28, none, .mov (.t 4)⟩,
⟨some 29, none, .bin .sub (.t 28) (.c (.int .i64 224))⟩,
⟨some 5, none, .mov (.c (.int .i64 3))⟩,
⟨some 6, none, .mov (.c (.int .i64 2048))⟩,
⟨some 4, none, .mov (.t 29)⟩]
def o143_10 : List Opn := [⟨some 30, none, .mov (.t 4)⟩,
⟨some 31, none, .bin .geq (.t 30) (.c (.int .i64 240))⟩,
⟨some 32, none, .mov (.t 31)⟩,
⟨some 33, some (32, true), .mov (.t 4)⟩,
⟨some 34, some (32, true), .bin .lss (.t 33) (.c (.int .i64 245))⟩,
⟨some 35, none, .pick (.t 32) (.t 34) (.c (.bool false))⟩]
def o143_11 : List Opn := [⟨some 36, none, .mov (.t 4)⟩,
⟨some 37, none, .bin .sub (.t 36) (.c (.int .i64 240))⟩,
⟨some 5, none, .mov (.c (.int .i64 4))⟩,
⟨some 6, none, .mov (.c (.int .i64 65536))⟩,
⟨some 4, none, .mov (.t 37)⟩]
def o143_12 : List Opn := [⟨some 38, none, .mov (.t 5)⟩,
⟨some 39, none, .eq false false [.i] (.t 38) (.c (.int .i64 0))⟩,
⟨some 40, none, .mov (.t 39)⟩,
⟨some 41, some (40, false), .mov (.t 0)⟩,
⟨some 42, some (40, false), .lenS (.t 41)⟩,
⟨some 43, some (40, false), .mov (.t 5)⟩,
⟨some 44, some (40, false), .bin .lss (.t 42) (.t 43)⟩,
⟨some 45, none, .pick (.t 40) (.c (.bool true)) (.t 44)⟩]
def o143_13 : List Opn := [⟨some 2, none, .mov (.c (.int .i64 (-1)))⟩,
⟨some 3, none, .mov (.c (.int .i64 1))⟩]
def o143_14 : List Opn := [⟨some 7, none, .mov (.c (.int .i64 1))⟩]
def o143_15 : List Opn := [⟨some 69, none, .mov (.t 4)⟩,
⟨some 70, none, .mov (.t 6)⟩,
⟨some 71, none, .bin .lss (.t 69) (.t 70)⟩,
⟨some 72, none, .mov (.t 71)⟩,
⟨some 73, some (72, false), .mov (.t 4)⟩,
⟨some 74, some (72, false), .bin .gtr (.t 73) (.c (.int .i64 1114111))⟩,
⟨some 75, none, .pick (.t 72) (.c (.bool true)) (.t 74)⟩,
⟨some 76, none, .mov (.t 75)⟩,
⟨some 77, some (76, false), .mov (.t 4)⟩,
⟨some 78, some (76, false), .bin .geq (.t 77) (.c (.int .i64 55296))⟩,
⟨some 79, some (76, false), .mov (.t 78)⟩,
⟨some 80, some (79, true), .mov (.t 4)⟩,
⟨some 81, some (79, true), .bin .lss (.t 80) (.c (.int .i64 57344))⟩,
⟨some 82, some (76, false), .pick (.t 79) (.t 81) (.c (.bool false))⟩,
⟨some 83, none, .pick (.t 76) (.c (.bool true)) (.t 82)⟩]
def o143_16 : List Opn := [⟨some 2, none, .mov (.c (.int .i64 (-1)))⟩,
⟨some 3, none, .mov (.c (.int .i64 1))⟩]
def o143_17 : List Opn := [⟨some 84, none, .mov (.t 4)⟩,
⟨some 85, none, .mov (.t 5)⟩,
⟨some 2, none, .mov (.t 84)⟩,
⟨some 3, none, .mov (.t 85)⟩]
def c143 : IFn := ⟨1, [.t 2, .t 3], [], [],
.seq (.reg o143_1)
(.seq (.reg o143_2)
(.seq (.seq (.reg o143_3)
(.cond (.t 12) (.seq (.reg o143_4)
(.ret))
(.skip)))
(.seq (.reg o143_5)
(.seq (.seq (.reg o143_6)
(.cond (.t 19) (.reg o143_7)
(.seq (.reg o143_8)
(.cond (.t 27) (.reg o143_9)
(.seq (.reg o143_10)
(.cond (.t 35) (.reg o143_11)
(.skip)))))))
(.seq (.seq (.reg o143_12)
(.cond (.t 45) (.seq (.reg o143_13)
(.ret))
(.skip)))
(.seq (.seq (.reg o143_14)
(.block 0 (.loop b143_1)))
(.seq (.seq (.reg o143_15)
(.cond (.t 83) (.seq (.reg o143_16)
(.ret))
(.skip)))
(.seq (.reg o143_17)
(.ret)))))))))⟩
def o144_1 : List Opn := [⟨some 2, none, .mov (.c (.bool false))⟩]
def o144_2 : List Opn := [⟨some 3, none, .mov (.t 0)⟩,
⟨some 4, none, .bin .gtr (.t 3) (.c (.int .i64 32))⟩,
⟨some 5, none, .mov (.t 4)⟩,
⟨some 6, some (5, true), .mov (.t 0)⟩,
⟨some 7, some (5, true), .eq true false [.i] (.t 6) (.c (.int .i64 127))⟩,
⟨some 8, none, .pick (.t 5) (.t 7) (.c (.bool false))⟩,
⟨some 9, none, .mov (.t 8)⟩,
⟨some 10, some (9, true), .mov (.t 0)⟩,
⟨some 11, some (9, true), .bin .lss (.t 10) (.c (.int .i64 128))⟩,
⟨some 12, some (9, true), .mov (.t 11)⟩,
⟨some 13, some (12, false), .mov (.t 0)⟩,
⟨some 14, some (12, false), .bin .gtr (.t 13) (.c (.int .i64 159))⟩,
⟨some 15, some (9, true), .pick (.t 12) (.c (.bool true)) (.t 14)⟩,
⟨some 16, none, .pick (.t 9) (.t 15) (.c (.bool false))⟩,
⟨some 2, none, .mov (.t 16)⟩]
def c144 : IFn := ⟨1, [.t 2], [], [],
.seq (.reg o144_1)
(.seq (.reg o144_2)
(.ret))⟩
def ob153_1_1 : List Opn := [⟨some 6, none, .mov (.t 0)⟩,
⟨some 7, none, .lenS (.t 6)⟩,
⟨some 8, none, .bin .gtr (.t 7) (.c (.int .i64 0))⟩]
def ob153_1_2 : List Opn := [⟨some 10, none, .mov (.t 0)⟩,
⟨some 11, none, .call 143 [(.shut, (.t 10))] [] 310011000⟩,
⟨some 9, none, .mov (.t 11)⟩,
⟨some 12, none, .ext (.t 9) 0⟩,
⟨some 13, none, .ext (.t 9) 1⟩,
⟨some 4, none, .mov (.t 12)⟩,
⟨some 5, none, .mov (.t 13)⟩]
def ob153_1_3 : List Opn := [⟨some 14, none, .mov (.t 4)⟩,
⟨some 15, none, .bin .lss (.t 14) (.c (.int .i64 0))⟩]
def ob153_1_4 : List Opn := [⟨some 4, none, .mov (.c (.int .i64 65533))⟩]
def ob153_1_5 : List Opn := [⟨some 16, none, .mov (.t 3)⟩,
⟨some 17, none, .mov (.t 4)⟩,
⟨some 18, none, .bslice 100018 1 [(.t 17)]⟩,
⟨some 19, none, .app 100019 1 8 (.t 16) (.t 18)⟩,
⟨some 3, none, .mov (.t 19)⟩]
def ob153_1_6 : List Opn := [⟨some 20, none, .mov (.t 0)⟩,
⟨some 21, none, .mov (.t 5)⟩,
⟨some 22, none, .slcS (.t 20) (some (.t 21)) none⟩,
⟨some 0, none, .mov (.t 22)⟩]
def b153_1 : IC := (.seq (.gh (.keep [0, 3] [300003]))
(.seq (.seq (.reg ob153_1_1)
(.cond (.t 8) (.skip)
(.exit 0)))
(.block 1 (.seq (.reg ob153_1_2)
(.seq (.seq (.reg ob153_1_3)
(.cond (.t 15) (.reg ob153_1_4)
(.skip)))
(.seq (.reg ob153_1_5)
(.reg ob153_1_6)))))))
def o153_1 : List Opn := [⟨some 2, none, .mov (.c (.nul))⟩]
def o153_2 : List Opn := [⟨some 3, none, .mov (.c (.nul))⟩]
def o153_3 : List Opn := [⟨some 23, none, .mov (.t 3)⟩,
⟨some 2, none, .mov (.t 23)⟩]
def c153 : IFn := ⟨1, [.t 2], [], [],
.seq (.reg o153_1)
(.seq (.reg o153_2)
(.seq (.block 0 (.seq (.gh (.room 3 300003 1))
(.loop b153_1)))
(.seq (.reg o153_3)
(.ret))))⟩
def o154_1 : List Opn := [⟨some 2, none, .mov (.c (.int .i32 0))⟩,
⟨some 3, none, .mov (.c (.int .i64 0))⟩]
def o154_2 : List Opn := [⟨some 13, none, .mov (.t 0)⟩,
⟨some 14, none, .lenS (.t 13)⟩,
⟨some 4, none, .mov (.t 14)⟩]
def o154_3 : List Opn := [⟨some 15, none, .mov (.t 4)⟩,
⟨some 16, none, .bin .lss (.t 15) (.c (.int .i64 1))⟩]
def o154_4 : List Opn := [⟨some 2, none, .mov (.c (.int .i32 65533))⟩,
⟨some 3, none, .mov (.c (.int .i64 0))⟩]
def o154_5 : List Opn := [⟨some 17, none, .mov (.t 0)⟩,
⟨some 18, none, .idxS (.t 17) (.c (.int .i64 0))⟩,
⟨some 5, none, .mov (.t 18)⟩]
def o154_6 : List Opn := [⟨some 19, none, .mov (.t 5)⟩,
⟨some 20, none, .iaddrA 256 1 (.g 0) (.t 19)⟩,
⟨some 21, none, .load 1 false (.t 20)⟩,
⟨some 6, none, .mov (.t 21)⟩]
def o154_7 : List Opn := [⟨some 22, none, .mov (.t 6)⟩,
⟨some 23, none, .bin .geq (.t 22) (.c (.int .u8 240))⟩]
def o154_8 : List Opn := [⟨some 24, none, .mov (.t 6)⟩,
⟨some 25, none, .toInt .i32 (.t 24)⟩,
⟨some 26, none, .bin .shl (.t 25) (.c (.int .u64 31))⟩,
⟨some 27, none, .bin .shr (.t 26) (.c (.int .u64 31))⟩,
⟨some 7, none, .mov (.t 27)⟩]
def o154_9 : List Opn := [⟨some 28, none, .mov (.t 0)⟩,
⟨some 29, none, .idxS (.t 28) (.c (.int .i64 0))⟩,
⟨some 30, none, .toInt .i32 (.t 29)⟩,
⟨some 31, none, .mov (.t 7)⟩,
⟨some 32, none, .bin .andNot (.t 30) (.t 31)⟩,
⟨some 33, none, .mov (.t 7)⟩,
⟨some 34, none, .bin .and (.c (.int .i32 65533)) (.t 33)⟩,
⟨some 35, none, .bin .or (.t 32) (.t 34)⟩,
⟨some 2, none, .mov (.t 35)⟩,
⟨some 3, none, .mov (.c (.int .i64 1))⟩]
def o154_10 : List Opn := [⟨some 36, none, .mov (.t 6)⟩,
⟨some 37, none, .bin .and (.t 36) (.c (.int .u8 7))⟩,
⟨some 38, none, .toInt .i64 (.t 37)⟩,
⟨some 8, none, .mov (.t 38)⟩]
def o154_11 : List Opn := [⟨some 39, none, .mov (.t 6)⟩,
⟨some 40, none, .bin .shr (.t 39) (.c (.int .u64 4))⟩,
⟨some 41, none, .iaddrA 16 2 (.g 1) (.t 40)⟩,
⟨some 42, none, .load 2 true (.t 41)⟩,
⟨some 9, none, .alloc 100009 [.int .u8 0, .int .u8 0]⟩,
⟨none, none, .store 2 (.t 9) (.t 42)⟩]
def o154_12 : List Opn := [⟨some 43, none, .mov (.t 4)⟩,
⟨some 44, none, .mov (.t 8)⟩,
⟨some 45, none, .bin .lss (.t 43) (.t 44)⟩]
def o154_13 : List Opn := [⟨some 2, none, .mov (.c (.int .i32 65533))⟩,
⟨some 3, none, .mov (.c (.int .i64 1))⟩]
def o154_14 : List Opn := [⟨some 46, none, .mov (.t 0)⟩,
⟨some 47, none, .idxS (.t 46) (.c (.int .i64 1))⟩,
⟨some 10, none, .mov (.t 47)⟩]
def o154_15 : List Opn := [⟨some 48, none, .mov (.t 10)⟩,
⟨some 49, none, .faddr 0 (.t 9)⟩,
⟨some 50, none, .load 1 false (.t 49)⟩,
⟨some 51, none, .bin .lss (.t 48) (.t 50)⟩,
⟨some 52, none, .mov (.t 51)⟩,
⟨some 53, some (52, false), .faddr 1 (.t 9)⟩,
⟨some 54, some (52, false), .load 1 false (.t 53)⟩,
⟨some 55, some (52, false), .mov (.t 10)⟩,
⟨some 56, some (52, false), .bin .lss (.t 54) (.t 55)⟩,
⟨some 57, none, .pick (.t 52) (.c (.bool true)) (.t 56)⟩]
def o154_16 : List Opn := [⟨some 2, none, .mov (.c (.int .i32 65533))⟩,
⟨some 3, none, .mov (.c (.int .i64 1))⟩]
def o154_17 : List Opn := [⟨some 58, none, .mov (.t 8)⟩,
⟨some 59, none, .bin .leq (.t 58) (.c (.int .i64 2))⟩]
def o154_18 : List Opn := [⟨some 60, none, .mov (.t 5)⟩,
⟨some 61, none, .bin .and (.t 60) (.c (.int .u8 31))⟩,
⟨some 62, none, .toInt .i32 (.t 61)⟩,
⟨some 63, none, .bin .shl (.t 62) (.c (.int .u64 6))⟩,
⟨some 64, none, .mov (.t 10)⟩,
⟨some 65, none, .bin .and (.t 64) (.c (.int .u8 63))⟩,
⟨some 66, none, .toInt .i32 (.t 65)⟩,
⟨some 67, none, .bin .or (.t 63) (.t 66)⟩,
⟨some 2, none, .mov (.t 67)⟩,
⟨some 3, none, .mov (.c (.int .i64 2))⟩]
def o154_19 : List Opn := [⟨some 68, none, .mov (.t 0)⟩,
⟨some 69, none, .idxS (.t 68) (.c (.int .i64 2))⟩,
⟨some 11, none, .mov (.t 69)⟩]
def o154_20 : List Opn := [⟨some 70, none, .mov (.t 11)⟩,
⟨some 71, none, .bin .lss (.t 70) (.c (.int .u8 128))⟩,
⟨some 72, none, .mov (.t 71)⟩,
⟨some 73, some (72, false), .mov (.t 11)⟩,
⟨some 74, some (72, false), .bin .lss (.c (.int .u8 191)) (.t 73)⟩,
⟨some 75, none, .pick (.t 72) (.c (.bool true)) (.t 74)⟩]
def o154_21 : List Opn := [⟨some 2, none, .mov (.c (.int .i32 65533))⟩,
⟨some 3, none, .mov (.c (.int .i64 1))⟩]
def o154_22 : List Opn := [⟨some 76, none, .mov (.t 8)⟩,
⟨some 77, none, .bin .leq (.t 76) (.c (.int .i64 3))⟩]
def o154_23 : List Opn := [⟨some 78, none, .mov (.t 5)⟩,
⟨some 79, none, .bin .and (.t 78) (.c (.int .u8 15))⟩,
⟨some 80, none, .toInt .i32 (.t 79)⟩,
⟨some 81, none, .bin .shl (.t 80) (.c (.int .u64 12))⟩,
⟨some 82, none, .mov (.t 10)⟩,
⟨some 83, none, .bin .and (.t 82) (.c (.int .u8 63))⟩,
⟨some 84, none, .toInt .i32 (.t 83)⟩,
⟨some 85, none, .bin .shl (.t 84) (.c (.int .u64 6))⟩,
⟨some 86, none, .bin .or (.t 81) (.t 85)⟩,
⟨some 87, none, .mov (.t 11)⟩,
⟨some 88, none, .bin .and (.t 87) (.c (.int .u8 63))⟩,
⟨some 89, none, .toInt .i32 (.t 88)⟩,
⟨some 90, none, .bin .or (.t 86) (.t 89)⟩,
⟨some 2, none, .mov (.t 90)⟩,
⟨some 3, none, .mov (.c (.int .i64 3))⟩]
def o154_24 : List Opn := [⟨some 91, none, .mov (.t 0)⟩,
⟨some 92, none, .idxS (.t 91) (.c (.int .i64 3))⟩,
⟨some 12, none, .mov (.t 92)⟩]
def o154_25 : List Opn := [⟨some 93, none, .mov (.t 12)⟩,
⟨some 94, none, .bin .lss (.t 93) (.c (.int .u8 128))⟩,
⟨some 95, none, .mov (.t 94)⟩,
⟨some 96, some (95, false), .mov (.t 12)⟩,
⟨some 97, some (95, false), .bin .lss (.c (.int .u8 191)) (.t 96)⟩,
⟨some 98, none, .pick (.t 95) (.c (.bool true)) (.t 97)⟩]
def o154_26 : List Opn := [⟨some 2, none, .mov (.c (.int .i32 65533))⟩,
⟨some 3, none, .mov (.c (.int .i64 1))⟩]
def o154_27 : List Opn := [⟨some 99, none, .mov (.t 5)⟩,
⟨some 100, none, .bin .and (.t 99) (.c (.int .u8 7))⟩,
⟨some 101, none, .toInt .i32 (.t 100)⟩,
⟨some 102, none, .bin .shl (.t 101) (.c (.int .u64 18))⟩,
⟨some 103, none, .mov (.t 10)⟩,
⟨some 104, none, .bin .and (.t 103) (.c (.int .u8 63))⟩,
⟨some 105, none, .toInt .i32 (.t 104)⟩,
⟨some 106, none, .bin .shl (.t 105) (.c (.int .u64 12))⟩,
⟨some 107, none, .bin .or (.t 102) (.t 106)⟩,
⟨some 108, none, .mov (.t 11)⟩,
⟨some 109, none, .bin .and (.t 108) (.c (.int .u8 63))⟩,
⟨some 110, none, .toInt .i32 (.t 109)⟩,
⟨some 111, none, .bin .shl (.t 110) (.c (.int .u64 6))⟩,
⟨some 112, none, .bin .or (.t 107) (.t 111)⟩,
⟨some 113, none, .mov (.t 12)⟩,
⟨some 114, none, .bin .and (.t 113) (.c (.int .u8 63))⟩,
⟨some 115, none, .toInt .i32 (.t 114)⟩,
⟨some 116, none, .bin .or (.t 112) (.t 115)⟩,
⟨some 2, none, .mov (.t 116)⟩,
⟨some 3, none, .mov (.c (.int .i64 4))⟩]
def c154 : IFn := ⟨1, [.t 2, .t 3], [], [],
.seq (.reg o154_1)
(.seq (.reg o154_2)
(.seq (.seq (.reg o154_3)
(.cond (.t 16) (.seq (.reg o154_4)
(.ret))
(.skip)))
(.seq (.reg o154_5)
(.seq (.reg o154_6)
(.seq (.seq (.reg o154_7)
(.cond (.t 23) (.seq (.reg o154_8)
(.seq (.reg o154_9)
(.ret)))
(.skip)))
(.seq (.reg o154_10)
(.seq (.reg o154_11)
(.seq (.seq (.reg o154_12)
(.cond (.t 45) (.seq (.reg o154_13)
(.ret))
(.skip)))
(.seq (.reg o154_14)
(.seq (.seq (.reg o154_15)
(.cond (.t 57) (.seq (.reg o154_16)
(.ret))
(.skip)))
(.seq (.seq (.reg o154_17)
(.cond (.t 59) (.seq (.reg o154_18)
(.ret))
(.skip)))
(.seq (.reg o154_19)
(.seq (.seq (.reg o154_20)
(.cond (.t 75) (.seq (.reg o154_21)
(.ret))
(.skip)))
(.seq (.seq (.reg o154_22)
(.cond (.t 77) (.seq (.reg o154_23)
(.ret))
(.skip)))
(.seq (.reg o154_24)
(.seq (.seq (.reg o154_25)
(.cond (.t 98) (.seq (.reg o154_26)
(.ret))
(.skip)))
(.seq (.reg o154_27)
(.ret))))))))))))))))))⟩
end Go.Proofs.YtefoleocbhkobaaGreatDoor
namespace Go.Ev
open Go
set_option linter.unusedSectionVars false
set_option linter.unusedSimpArgs false
set_option linter.unusedVariables false
theorem Grow.below {w w' : World} {X : Nat → Prop} (h : Grow w X w') (hX : ∀ k, k < w.heap.size → ¬ X k) : RowKit.Below w.heap.size w w' :=
  ⟨h.os, h.tape, h.output, h.size, fun k hk => h.same k hk (hX k hk)⟩
end Go.Ev
namespace Go.Ev
open Go
set_option linter.unusedSectionVars false
set_option linter.unusedSimpArgs false
set_option linter.unusedVariables false
theorem AnsOK.empty {P : Program} {glob : Nat → List PV} {gs : List Nat} {f : FuncId} {r : PV} (h1 : AnsOK P glob gs f [.nils] r) (h2 : AnsOK P glob gs f [.emp] r) : AnsOK P glob gs f [.ro []] r := by
  intro Z w vs ks a1 a2 a3 a4 hL
  have key : ∀ (ad : Option Addr) (c : Nat), ListR w Z [.nils] [.slice none 0 c] [] ∧ ∀ x, ListR w Z [.emp] [.slice (some x) 0 c] [] :=
    fun ad c => ⟨.cons _ _ [] _ _ [] (.plain _ _ rfl (.nils _ _)) .nil, fun x => .cons _ _ [] _ _ [] (.plain _ _ rfl (.emp _ _ _)) .nil⟩
  generalize hvs : vs.toList = l at hL
  have go : ∀ (ad : Option Addr) (c : Nat), l = [.slice ad 0 c] → ks = [] → _ := fun ad c e1 e2 => by
    subst e2
    cases ad with
    | none => exact h1 Z w vs [] a1 a2 a3 a4 (by rw [hvs, e1]; exact (key none c).1)
    | some x => exact h2 Z w vs [] a1 a2 a3 a4 (by rw [hvs, e1]; exact (key none c).2 x)
  cases hL with
  | cons _ v k1 _ vs' k2 hc hr =>
    cases hr
    cases hc with
    | plain _ _ _ hp =>
      cases hp with
      | ro0 _ a c => exact go a c rfl rfl
      | ro _ k o sz _ c => exact go _ c rfl rfl
def primC (glob : Nat → List PV) (cl : Nat → Option (IFn × PV)) (f : FuncId) (args : List PV) : Option (PV × List (List PV)) :=
  match cl f with
  | some (c, r) => match args with
    | [.ro []] => some (r, [])
    | args => evFn ⟨fun _ _ => none, glob⟩ (iter 0) c args
  | none => none
theorem primC_ok {P : Program} {glob : Nat → List PV} {gs : List Nat} {cl : Nat → Option (IFn × PV)} (hP : P.follows .mixedOrders = true)
    (h : ∀ f c r, cl f = some (c, r) → mFn P gs f c = true ∧ evFn ⟨fun _ _ => none, glob⟩ (iter 0) c [.nils] = some (r, []) ∧ evFn ⟨fun _ _ => none, glob⟩ (iter 0) c [.emp] = some (r, []))
    {f : FuncId} {args : List PV} {r : PV} (he : primC glob cl f args = some (r, [])) : ownFn P f = true ∧ AnsOK P glob gs f args r := by
  unfold primC at he
  split at he <;> first | (cases he; done) | skip
  rename_i c r0 hc
  obtain ⟨h1, h2, h3⟩ := h f c r0 hc
  have hcall : ∀ g, FnOK P glob gs (fun _ _ => none) g := fun g args r h => by cases h
  split at he
  · cases he
    obtain ⟨q1, q2⟩ := fn_ok hP hcall 0 h1 h2
    exact ⟨q1, q2.empty (fn_ok hP hcall 0 h1 h3).2⟩
  · exact fn_ok hP hcall 0 h1 he
end Go.Ev
namespace Go.Proofs.YtefoleocbhkobaaGreatDoor
open Go Go.Ev
set_option linter.unusedSectionVars false
set_option linter.unusedSimpArgs false
set_option linter.unusedVariables false
def tabL : List (Nat × IFn) := [(3, c3), (4, c4), (5, c5), (8, c8), (9, c9), (10, c10), (11, c11), (12, c12), (13, c13), (14, c14), (15, c15), (16, c16), (17, c17), (21, c21), (22, c22), (24, c24), (25, c25), (26, c26), (27, c27), (28, c28), (29, c29), (30, c30), (31, c31), (32, c32), (33, c33), (34, c34), (35, c35), (36, c36), (37, c37), (38, c38), (39, c39), (40, c40), (41, c41), (42, c42), (44, c44), (45, c45), (46, c46), (47, c47), (48, c48), (49, c49), (50, c50), (51, c51), (52, c52), (53, c53), (54, c54), (55, c55), (56, c56), (57, c57), (58, c58), (59, c59), (61, c61), (62, c62), (70, c70), (71, c71), (72, c72), (73, c73), (74, c74), (75, c75), (76, c76), (77, c77), (78, c78), (79, c79), (80, c80), (81, c81), (82, c82), (83, c83), (84, c84), (85, c85), (86, c86), (87, c87), (88, c88), (89, c89), (90, c90), (92, c92), (93, c93), (94, c94), (95, c95), (97, c97), (98, c98), (108, c108), (114, c114), (115, c115), (116, c116), (117, c117), (118, c118), (119, c119), (120, c120), (121, c121), (124, c124), (132, c132), (139, c139), (140, c140), (141, c141), (143, c143), (144, c144), (153, c153), (154, c154)]
theorem tabL_ok : (tabL.all fun p => mFn Tryz.prog [0, 1] p.1 p.2) = true := by decide +kernel
def clonesL : List (Nat × IFn × Nat) := [(43, c43, 1), (64, c64, 5), (102, c102, 5), (103, c103, 3), (106, c106, 3), (113, c113, 1), (135, c135, 7)]
theorem clonesL_ok : (clonesL.all fun p => mFn Tryz.prog [0, 1] p.1 p.2.1) = true := by decide +kernel
def insL : List (Nat × IFn × Nat) := [(91, c91, 5)]
theorem insL_ok : (insL.all fun p => mFn Tryz.prog [0, 1] p.1 p.2.1) = true := by decide +kernel
end Go.Proofs.YtefoleocbhkobaaGreatDoor
namespace Go.Ev
open Go
set_option linter.unusedSectionVars false
set_option linter.unusedSimpArgs false
set_option linter.unusedVariables false
theorem ev_there (cx : Cx) (L : Looper) : ∃ (C : IC → Env → Heap → Out) (E : List Opn → Env → Heap → Option (Env × Heap)) (D : List Opn → Env → Heap → Option ((Env × Heap) × List (List Nat × List Nat))),
    C = evCode cx L ∧ E = evOps cx ∧ D = evOpsD cx := ⟨_, _, _, rfl, rfl, rfl⟩
noncomputable def EC (cx : Cx) (L : Looper) : IC → Env → Heap → Out := Classical.choose (ev_there cx L)
noncomputable def EO (cx : Cx) (L : Looper) : List Opn → Env → Heap → Option (Env × Heap) := Classical.choose (Classical.choose_spec (ev_there cx L))
noncomputable def ED (cx : Cx) (L : Looper) : List Opn → Env → Heap → Option ((Env × Heap) × List (List Nat × List Nat)) := Classical.choose (Classical.choose_spec (Classical.choose_spec (ev_there cx L)))
theorem EC_eq (cx : Cx) (L : Looper) : EC cx L = evCode cx L := (Classical.choose_spec (Classical.choose_spec (Classical.choose_spec (ev_there cx L)))).1
theorem EO_eq (cx : Cx) (L : Looper) : EO cx L = evOps cx := (Classical.choose_spec (Classical.choose_spec (Classical.choose_spec (ev_there cx L)))).2.1
theorem ED_eq (cx : Cx) (L : Looper) : ED cx L = evOpsD cx := (Classical.choose_spec (Classical.choose_spec (Classical.choose_spec (ev_there cx L)))).2.2
section
variable (cx : Cx) (L : Looper) (env : Env) (H : Heap)
theorem EC_of (c : IC) : evCode cx L c env H = EC cx L c env H := by rw [EC_eq]
theorem EC_skip : EC cx L .skip env H = some (.nor, env, H) := by rw [EC_eq]; rfl
theorem EC_reg (ops : List Opn) : EC cx L (.reg ops) env H = (match EO cx L ops env H with | some (env, H) => some (.nor, env, H) | none => none) := by rw [EC_eq, EO_eq]; rfl
theorem EC_dreg (ops : List Opn) (chk : List (Nat × Nat)) : EC cx L (.dreg ops chk) env H = (match ED cx L ops env H with | some ((env, H), l) => (match apartAll l chk with | true => some (.nor, env, H) | false => none) | none => none) := by
  rw [EC_eq, ED_eq]; rfl
theorem EC_gh (g : Gh) : EC cx L (.gh g) env H = (match evGh g env H with | some (env, H) => some (.nor, env, H) | none => none) := by rw [EC_eq]; rfl
theorem EC_seq (a b : IC) : EC cx L (.seq a b) env H = (match EC cx L a env H with | some (.nor, env, H) => EC cx L b env H | r => r) := by rw [EC_eq]; rfl
theorem EC_cond (c : Opd) (a b : IC) : EC cx L (.cond c a b) env H = (match opd cx env c with | .bool c => (match c with | true => EC cx L a env H | false => EC cx L b env H) | _ => none) := by rw [EC_eq]; rfl
theorem EC_block (id : Nat) (b : IC) : EC cx L (.block id b) env H = (match EC cx L b env H with | some (.exit i, env, H) => (match Nat.beq i id with | true => some (.nor, env, H) | false => some (.exit i, env, H)) | r => r) := by rw [EC_eq]; rfl
theorem EC_loop (b : IC) : EC cx L (.loop b) env H = L (evCode cx L b) env H := by rw [EC_eq]; rfl
theorem EC_exit (id : Nat) : EC cx L (.exit id) env H = some (.exit id, env, H) := by rw [EC_eq]; rfl
theorem EC_ret : EC cx L .ret env H = some (.ret, env, H) := by rw [EC_eq]; rfl
theorem EO_nil : EO cx L [] env H = some (env, H) := by rw [EO_eq]; rfl
theorem EO_cons (o : Opn) (os : List Opn) : EO cx L (o :: os) env H = (match wants env o.guard with
    | some b => (match b with
      | true => (match evOp cx env H o.op with
        | some e => EO cx L os (put env o.dst e.v) (hsets e.upd H)
        | none => none)
      | false => EO cx L os (put env o.dst .undef) H)
    | none => none) := by rw [EO_eq]; rfl
theorem ED_nil : ED cx L [] env H = some ((env, H), []) := by rw [ED_eq]; rfl
theorem ED_cons (o : Opn) (os : List Opn) : ED cx L (o :: os) env H = (match wants env o.guard with
    | some b => (match b with
      | true => (match evOp cx env H o.op with
        | some e => (match ED cx L os (put env o.dst e.v) (hsets e.upd H) with
          | some (st, l) => some (st, (e.rd, keys e.upd) :: l)
          | none => none)
        | none => none)
      | false => (match ED cx L os (put env o.dst .undef) H with
        | some (st, l) => some (st, ([], []) :: l)
        | none => none))
    | none => none) := by rw [ED_eq]; rfl
end
theorem rdc_t (cells : List PV) (j sz : Nat) : rdc cells j sz true = (match Nat.ble (j + sz) cells.length with | true => some (.agg ((cells.drop j).take sz)) | false => none) := rfl
theorem rdc_f (cells : List PV) (j sz : Nat) : rdc cells j sz false = cells[j]? := rfl
attribute [go_sem] evFn enter enterC evOp wants opd opds getT put mcells cellV allCell hget hset hsets rdc_t rdc_f fillc splice binv unv intBin eqcells eqk Ev.flip isnil leave gives1 give1 mov1 movC lentOf lends getR List.map_cons List.map_nil clo clo2 clo2s cloP cloPs cloL clo1 args1 arg1 evCall back frz_nil frz_cons flatv flat2 flat2L flatL flat1 frees hasAll adoptR adopt adoptL takeL deads newIds memN apartN nodupN sameLen apartAll apartFP keys rowOf rowsOf rowsIn szOK isStrV bytesOf within bound validO shifts List.getElem?_cons_succ List.getElem?_cons_zero List.getElem?_nil Nat.add_zero Nat.zero_add List.drop_succ_cons List.drop_zero List.drop_nil List.take_succ_cons List.take_zero List.take_nil List.length_cons List.length_nil List.nil_append List.cons_append List.append_nil List.filter_nil List.filter_cons Option.map_some Option.map_none if_true if_false decide_true decide_false Bool.not_true Bool.not_false beq_self_eq_true eq_self Bool.and_true Bool.true_and Bool.false_and Bool.and_false Bool.or_true Bool.true_or Bool.or_false Bool.false_or Nat.mul_one Int.toNat_natCast Int.cast_ofNat_Int ge_iff_le gt_iff_lt EC_of EC_skip EC_reg EC_dreg EC_gh EC_seq EC_cond EC_block EC_loop EC_exit EC_ret EO_nil EO_cons ED_nil ED_cons
end Go.Ev
namespace Go.Ev
open Go
set_option linter.unusedSectionVars false
set_option linter.unusedSimpArgs false
set_option linter.unusedVariables false
theorem join_flat : ∀ l : List (List UInt8), Lib.join l [] = l.flatten
  | [] => rfl
  | [x] => by simp [Lib.join]
  | x :: y :: r => by
    have := join_flat (y :: r)
    simp [Lib.join] at this ⊢
    exact this
theorem grow_of_below {w w' : World} {X : Nat → Prop} (h : RowKit.Below w.heap.size w w') : Grow w X w' :=
  ⟨h.size, fun k hk _ => h.block k hk, fun k cs et fr hc => ⟨cs, (h.block k (Array.getElem?_eq_some_iff.1 hc).1).trans hc, rfl⟩, h.os, h.tape, h.output, fun a ha => h.frozen ha⟩
theorem join_ans {P : Program} {glob : Nat → List PV} {gs : List Nat} {f : FuncId}
    (h0 : ∀ (a : Option Addr) (c : Nat) (sep : ByteArray) (w : World), Calls P f #[.slice a 0 c, .string sep] w fun e w' => e = .returned (.string ⟨#[]⟩) ∧ w' = w)
    (h1 : ∀ (bk o c : Nat) (xs : List ByteArray) (sep : ByteArray) (w : World), (∀ (j : Nat) x, xs[j]? = some x → w.cell? ⟨bk, o + j, none⟩ = some (.string x)) → bk < w.heap.size → xs.length ≤ 140737488355328 → xs.length ≤ c →
      (Lib.join (xs.map (·.data.toList)) sep.data.toList).length ≤ 140737488355328 →
      Calls P f #[.slice (some ⟨bk, o, none⟩) xs.length c, .string sep] w fun e w' => e = .returned (.string ⟨(Lib.join (xs.map (·.data.toList)) sep.data.toList).toArray⟩) ∧ RowKit.Below w.heap.size w w')
    (l : List (List UInt8)) (hl : l.length ≤ 140737488355328) (hs : l.flatten.length ≤ 140737488355328) :
    AnsOK P glob gs f [.ro (l.map fun s => [.str s]), .str []] (.str l.flatten) := by
  intro Z w vs ks hZ hks hnd hg hL
  obtain ⟨vl⟩ := vs
  simp only at hL
  have fin : ∀ (v : Value), (Calls P f #[v, .string ⟨#[]⟩] w fun e w' => e = .returned (.string ⟨l.flatten.toArray⟩) ∧ RowKit.Below w.heap.size w w') → vl = [v, .string ⟨#[]⟩] → ks = [] → Calls P f ⟨vl⟩ w fun e w' => ∃ v, e = .returned v ∧ Grow w (fun k => k ∈ ks) w' ∧
      ∃ (Z' : Nat → Prop) (ks' : List Nat), (∀ k, Z k → k ∉ ks → Z' k) ∧ (∀ k ∈ ks', Z' k ∧ (k ∈ ks ∨ w.heap.size ≤ k)) ∧ (∀ k, Z' k → k < w'.heap.size) ∧ ks'.Nodup ∧ RetR w' Z' (.str l.flatten) v ks' := by
    intro v hc e1 e2
    subst e1 e2
    refine hc.mono fun e w' ⟨he, hb⟩ => ⟨_, he, grow_of_below hb, Z, [], (fun k h _ => h), (fun k h => by cases h), (fun k h => Nat.lt_of_lt_of_le (hZ k h) hb.size), List.nodup_nil, ?_⟩
    exact .one _ _ _ (fun vs h => by cases h) (.plain _ _ rfl (.str _ _))
  cases hL with
  | cons _ v k1 _ vs' k2 hc hr =>
    cases hr with
    | cons _ v2 k3 _ vs2 k4 hc2 hr2 =>
      cases hr2
      cases hc2 with
      | plain _ _ _ hp2 =>
        cases hp2
        cases hc with
        | plain _ _ _ hp =>
          generalize hrows : (l.map fun s => [PV.str s]) = rows at hp
          cases hp with
          | ro0 _ a c =>
            have : l = [] := by simpa using hrows
            subst this
            refine fin _ ((h0 a c ⟨#[]⟩ w).mono fun e w' ⟨he, hw⟩ => ⟨he, hw ▸ RowKit.Below.refl _ _⟩) rfl rfl
          | ro _ k o sz _ c vs hk hsz hlc hz hcl hrl =>
            subst hrows
            have hrow : ∀ (j : Nat) (s : List UInt8), l[j]? = some s → (l.map fun s => [PV.str s])[j]? = some [.str s] := fun j s h => by simp [h]
            have hcell : ∀ (j : Nat) (x : ByteArray), (l.map fun s => (⟨s.toArray⟩ : ByteArray))[j]? = some x → w.cell? ⟨k, o + j, none⟩ = some (.string x) := by
              intro j x hx
              simp only [List.getElem?_map, Option.map_eq_some_iff] at hx
              obtain ⟨s, h2, rfl⟩ := hx
              have e1 := hz j _ (hrow j s h2)
              simp only [List.length_cons, List.length_nil] at e1
              obtain ⟨c1, _⟩ := hcl j _ 0 (.str s) (hrow j s h2) rfl
              have c2 := hrl j _ 0 (.str s) (hrow j s h2) rfl
              rw [cell?_eq, show o + j = o + j * sz + 0 by rw [← e1]; omega, c1]
              generalize vs j 0 = u at c2
              cases c2; rfl
            have hmap : (l.map fun s => (⟨s.toArray⟩ : ByteArray)).map (·.data.toList) = l := by simp [List.map_map, Function.comp_def]
            have := h1 k o c (l.map fun s => ⟨s.toArray⟩) ⟨#[]⟩ w hcell hsz (by simpa using hl) (by simpa using hlc) (by
              rw [hmap]; show (Lib.join l []).length ≤ _; rw [join_flat]; exact hs)
            rw [hmap] at this
            refine fin _ (this.mono fun e w' ⟨he, hb⟩ => ⟨?_, hb⟩) (by simp) rfl
            have e3 : Lib.join l (⟨#[]⟩ : ByteArray).data.toList = l.flatten := join_flat l
            rw [he, e3]
def textsOf : List (List PV) → Option (List (List UInt8))
  | [] => some []
  | [.str s] :: r => (textsOf r).map (s :: ·)
  | _ => none
theorem textsOf_map : ∀ l : List (List UInt8), textsOf (l.map fun s => [.str s]) = some l
  | [] => rfl
  | s :: r => by simp [textsOf, textsOf_map r]
theorem textsOf_inv : ∀ (rows : List (List PV)) (l : List (List UInt8)), textsOf rows = some l → rows = l.map fun s => [.str s]
  | [], l, h => by cases h; rfl
  | r :: rs, l, h => by
    unfold textsOf at h
    split at h <;> first | (cases h; done) | skip
    · rename_i e; cases e
    · rename_i s r' e
      cases e
      obtain ⟨l', h1, rfl⟩ := Option.map_eq_some_iff.1 h
      rw [textsOf_inv _ _ h1]
      rfl
def joinC : List PV → Option (PV × List (List PV))
  | [.ro rows, .str []] => match textsOf rows with
    | some l => if l.length ≤ 140737488355328 ∧ l.flatten.length ≤ 140737488355328 then some (.str l.flatten, []) else none
    | none => none
  | _ => none
end Go.Ev
namespace Go.Proofs
open Go.Shelf
set_option linter.unusedSectionVars false
set_option linter.unusedSimpArgs false
set_option linter.unusedVariables false
def Tryz.lays156_ren : Go.Shelf.Ren := ⟨fun | 156 => 125 | 165 => 145 | 166 => 146 | 169 => 147 | 240 => 156 | 241 => 157 | 276 => 162 | 277 => 163 | n => n, fun | 31 => 28 | 9 => 9 | 3 => 3 | 4 => 4 | 0 => 0 | 20 => 20 | 72 => 193 | 76 => 197 | 70 => 190 | 37 => 191 | 75 => 196 | 127 => 209 | 164 => 216 | 5 => 5 | 80 => 199 | n => n, fun | n => n⟩
theorem Tryz.lays156 : Go.Proofs.Lays.n156 Tryz.prog Tryz.lays156_ren := {
  mixed := by kernel_rfl
  f156 := Tryz.func125.trans (congrArg some (by kernel_rfl))
  f165 := Tryz.func145.trans (congrArg some (by kernel_rfl))
  f166 := Tryz.func146.trans (congrArg some (by kernel_rfl))
  f169 := Tryz.func147.trans (congrArg some (by kernel_rfl))
  f240 := Tryz.func156.trans (congrArg some (by kernel_rfl))
  f241 := Tryz.func157.trans (congrArg some (by kernel_rfl))
  f276 := Tryz.func162.trans (congrArg some (by kernel_rfl))
  f277 := Tryz.func163.trans (congrArg some (by kernel_rfl))
  t0 := Tryz.underlying0
  a0 := Tryz.isAgg0
  z0 := Tryz.sizeOf0
  v0 := Tryz.zeroValue0
  t3 := Tryz.underlying3
  a3 := Tryz.isAgg3
  z3 := Tryz.sizeOf3
  v3 := Tryz.zeroValue3
  t4 := Tryz.underlying4
  a4 := Tryz.isAgg4
  z4 := Tryz.sizeOf4
  v4 := Tryz.zeroValue4
  t9 := Tryz.underlying9
  a9 := Tryz.isAgg9
  z9 := Tryz.sizeOf9
  v9 := Tryz.zeroValue9
  t20 := Tryz.underlying20
  a20 := Tryz.isAgg20
  z20 := Tryz.sizeOf20
  v20 := Tryz.zeroValue20
  t31 := Tryz.underlying28
  a31 := Tryz.isAgg28
  z31 := Tryz.sizeOf28
  v31 := Tryz.zeroValue28
  t37 := Tryz.underlying191
  a37 := Tryz.isAgg191
  z37 := Tryz.sizeOf191
  v37 := Tryz.zeroValue191
  t70 := Tryz.underlying190
  a70 := Tryz.isAgg190
  z70 := Tryz.sizeOf190
  v70 := Tryz.zeroValue190
  t72 := Tryz.underlying193
  a72 := Tryz.isAgg193
  z72 := Tryz.sizeOf193
  v72 := Tryz.zeroValue193
  t75 := Tryz.underlying196
  a75 := Tryz.isAgg196
  z75 := Tryz.sizeOf196
  v75 := Tryz.zeroValue196
  t76 := Tryz.underlying197
  a76 := Tryz.isAgg197
  z76 := Tryz.sizeOf197
  v76 := Tryz.zeroValue197
  t127 := Tryz.underlying209
  a127 := Tryz.isAgg209
  z127 := Tryz.sizeOf209
  v127 := Tryz.zeroValue209
  t164 := Tryz.underlying216
  a164 := Tryz.isAgg216
  z164 := Tryz.sizeOf216
  v164 := Tryz.zeroValue216 }
theorem Tryz.Builder_Extra_156 : Builder.Extra Tryz.prog Tryz.lays156_ren := {
  sizeBuilder := by kernel_rfl
  liesBuilder := by kernel_rfl
  t5 := Tryz.underlying5
  a5 := Tryz.isAgg5
  z5 := Tryz.sizeOf5
  v5 := Tryz.zeroValue5
  infoByte := by kernel_rfl
  cellsByte := by kernel_rfl
  sizeByte := by kernel_rfl
  neB5 := by decide }
open Go.RowKit in
theorem Tryz.strings_Join_none (a : Option Addr) (c : Nat) (sep : ByteArray) (w : World) :
    Calls Tryz.prog 125 #[.slice a 0 c, .string sep] w fun e w' => e = .returned (.string ⟨#[]⟩) ∧ w' = w := Any.strings_Join_none Tryz.lays156 Tryz.Builder_Extra_156 a c sep w
open Go.RowKit in
theorem Tryz.strings_Join (bk o c : Nat) (xs : List ByteArray) (sep : ByteArray) (w : World) (hcells : ∀ (j : Nat) x, xs[j]? = some x → w.cell? ⟨bk, o + j, none⟩ = some (.string x)) (hbk : bk < w.heap.size) (hN : xs.length ≤ 140737488355328) (hcap : xs.length ≤ c) (hlen : (Lib.join (xs.map (·.data.toList)) sep.data.toList).length ≤ 140737488355328) :
    Calls Tryz.prog 125 #[.slice (some ⟨bk, o, none⟩) xs.length c, .string sep] w fun e w' => e = .returned (.string ⟨(Lib.join (xs.map (·.data.toList)) sep.data.toList).toArray⟩) ∧ Below w.heap.size w w' := Any.strings_Join Tryz.lays156 Tryz.Builder_Extra_156 bk o c xs sep w hcells hbk hN hcap hlen
end Go.Proofs
namespace Go.Ev
open Go
set_option linter.unusedSectionVars false
set_option linter.unusedSimpArgs false
set_option linter.unusedVariables false
theorem cell_of {w : World} {b : Nat} {cs : Array Value} {t : TypeId} {fr : Nat × Nat} (h : w.heap[b]? = some (.cells cs t fr)) (o : Nat) : w.cell? ⟨b, o, none⟩ = cs[o]? := by
  unfold World.cell?
  simp [h]
theorem frozen_of {w : World} {b : Nat} {cs : Array Value} {t : TypeId} (h : w.heap[b]? = some (.cells cs t (0, 0))) (o : Nat) : w.frozen? ⟨b, o, none⟩ = false := by
  unfold World.frozen?
  simp [h]
theorem shape_of {w : World} {b : Nat} {cs : Array Value} {t : TypeId} {fr : Nat × Nat} (h : w.heap[b]? = some (.cells cs t fr)) : w.shape? b = some (t, cs.size) := by
  unfold World.shape?
  simp [h]
theorem copy_rows_run {P : Program} (w : World) (dT sT ty elem : TypeId) (sz b o dLen dCap : Nat) (cur : Array Value) (et : TypeId) (hb : w.heap[b]? = some (.cells cur et (0, 0)))
    (sb so sLen sCap : Nat) (scs : Array Value) (st : TypeId) (sfr : Nat × Nat) (hsb : w.heap[sb]? = some (.cells scs st sfr)) (k : Nat) (cs : List Value)
    (hu : P.underlying dT = some (.slice elem)) (hs : (P.info? elem).map (·.size) = some sz) (hk : Nat.min sLen dLen = k) (hn : cs.length = k * sz)
    (hsrc : ∀ j v, cs[j]? = some v → scs[so + j]? = some v) (hfit : o + cs.length ≤ cur.size) (h1 : ∀ v ∈ cs, v.oneCell' = true) :
    (Builtin.copy_ #[dT, sT] ty #[.slice (some ⟨b, o, none⟩) dLen dCap, .slice (some ⟨sb, so, none⟩) sLen sCap]).run P w = .ok (goInt k) (w.setRow b (putRow cur o cs)) := by
  have hl := run_loadCells_list (P := P) w ⟨sb, so, none⟩ cs (fun j v hj => by rw [Addr.add_lit, cell_of hsb]; exact hsrc j v hj)
  have hst := run_storeCells_at (P := P) b o et cs 0 cur w hb (by omega) h1
  cases hq : P.info? elem with
  | none => simp [hq] at hs
  | some i =>
    have hi : i.size = sz := by simpa [hq] using hs
    rw [hn] at hl
    rw [Nat.add_zero] at hst
    simp [Builtin.copy_, run_underlying hu, Builtin.lenOf, Builtin.firstCells, sizeOf, typeInfo, hq, hi, hk, hl, hst, putRow]
theorem putRow_size0 {cur : Array Value} {off : Nat} {vs : List Value} (h : off + vs.length ≤ cur.size) : (putRow cur off vs).size = cur.size := by
  simp [putRow]; omega
theorem setRow_same0 {w : World} {k : Nat} {cur new : Array Value} {et : TypeId} {fr : Nat × Nat} (hw : w.heap[k]? = some (.cells cur et fr)) : (w.setRow k new).heap[k]? = some (.cells new et fr) :=
  setRow_heap w k cur new et fr hw
theorem setRow_other0 {w : World} {k j : Nat} {new : Array Value} (h : j ≠ k) : (w.setRow k new).heap[j]? = w.heap[j]? := by
  simp only [World.setRow, Array.getElem?_modify]
  rw [if_neg (by omega)]
end Go.Ev
namespace Go.Ev
open Go
set_option linter.unusedSectionVars false
set_option linter.unusedSimpArgs false
set_option linter.unusedVariables false
variable {P : Program}
theorem rows_cells {w : World} {Z : Nat → Prop} {cs : Array Value} {base sz : Nat} {rows : List (List PV)} (hr : RowsAt w Z cs base sz rows) (hs : base + rows.length * sz ≤ cs.size) :
    ∃ L : List Value, L.length = rows.length * sz ∧ (∀ j v, L[j]? = some v → cs[base + j]? = some v) ∧ (∀ v ∈ L, v.oneCell' = true) ∧ (∀ p m, p + m ≤ rows.length → RowsAt w Z ((L.drop (p * sz)).take (m * sz)).toArray 0 sz ((rows.drop p).take m)) := by
  refine ⟨(cs.toList.drop base).take (rows.length * sz), by simp; omega, fun j v hj => ?_, fun v hv => ?_, fun p m hpm => ?_⟩
  · rw [List.getElem?_take] at hj
    split at hj
    · rw [List.getElem?_drop] at hj; simpa using hj
    · cases hj
  · obtain ⟨j, hj, rfl⟩ := List.getElem_of_mem hv
    have hj' : j < rows.length * sz := by simp at hj; omega
    have hsz : 0 < sz := by
      rcases Nat.eq_zero_or_pos sz with h | h
      · subst h; omega
      · exact h
    have hq : j / sz < rows.length := (Nat.div_lt_iff_lt_mul hsz).2 hj'
    have hrow := List.getElem?_eq_getElem hq
    have hm : j % sz < sz := Nat.mod_lt _ hsz
    have hlen := hr.1 _ _ hrow
    obtain ⟨v, h1, h2, _⟩ := hr.2 _ _ (j % sz) _ hrow (List.getElem?_eq_getElem (by omega))
    have e : base + j / sz * sz + j % sz = base + j := by
      have := Nat.div_add_mod j sz
      rw [Nat.mul_comm] at this
      omega
    rw [e] at h1
    have h3 : ((cs.toList.drop base).take (rows.length * sz))[j]? = some v := by
      rw [List.getElem?_take, if_pos hj', List.getElem?_drop]; simpa using h1
    rw [List.getElem?_eq_getElem hj] at h3
    cases h3
    exact h2
  · have hget : ∀ (i : Nat) (row : List PV), ((rows.drop p).take m)[i]? = some row → i < m ∧ rows[p + i]? = some row := by
      intro i row hi
      rw [List.getElem?_take] at hi
      split at hi
      · rename_i h; rw [List.getElem?_drop] at hi; exact ⟨h, hi⟩
      · cases hi
    refine ⟨fun i row hi => hr.1 _ row (hget i row hi).2, fun i row j pv hi hj => ?_⟩
    obtain ⟨h1, h2⟩ := hget i row hi
    obtain ⟨v, a1, a2, a3⟩ := hr.2 _ row j pv h2 hj
    refine ⟨v, ?_, a2, a3⟩
    have hjl : j < sz := by rw [← hr.1 _ row h2]; exact (List.getElem?_eq_some_iff.1 hj).1
    have hl1 := Nat.mul_le_mul_right sz (show i + 1 ≤ m by omega)
    have hl2 := Nat.mul_le_mul_right sz (show p + m ≤ rows.length by omega)
    rw [Nat.add_mul] at hl1 hl2
    rw [List.getElem?_toArray, List.getElem?_take, if_pos (by omega), List.getElem?_drop, List.getElem?_take, if_pos (by omega), List.getElem?_drop]
    rw [show base + (p * sz + (0 + i * sz + j)) = base + (p + i) * sz + j by rw [Nat.add_mul]; omega]
    simpa using a1
theorem ins_ans {glob : Nat → List PV} {gs : List Nat} {F : FuncId} {S : Nat} (E : TypeId)
    (hroom : ∀ (b off n c i vb voff vc : Nat) (CS VS : Array Value) (et vt : TypeId) (cs vs : List Value) (w : World), i < n → n + 1 ≤ c → n ≤ 1000000000 → vb ≠ b →
      w.heap[b]? = some (.cells CS et (0, 0)) → w.heap[vb]? = some (.cells VS vt (0, 0)) → cs.length = n * S → vs.length = S → off + (n + 1) * S ≤ CS.size →
      (∀ j v, cs[j]? = some v → CS[off + j]? = some v) → (∀ j v, vs[j]? = some v → VS[voff + j]? = some v) → (∀ v ∈ cs, v.oneCell' = true) → (∀ v ∈ vs, v.oneCell' = true) →
      Calls P F #[.slice (some ⟨b, off, none⟩) n c, .int .i64 i, .slice (some ⟨vb, voff, none⟩) 1 vc] w fun e w' =>
        e = .returned (.slice (some ⟨b, off, none⟩) (n + 1) c) ∧ w' = (w.drew.setRow b (putRow CS (off + (i + 1) * S) (cs.drop (i * S)))).setRow b (putRow (putRow CS (off + (i + 1) * S) (cs.drop (i * S))) (off + i * S) vs))
    (hgrow : ∀ (b off n i vb voff vc : Nat) (CS VS : Array Value) (et vt : TypeId) (fr fr' : Nat × Nat) (cs vs : List Value) (w : World), i < n → n ≤ 1000000000 →
      w.heap[b]? = some (.cells CS et fr) → w.heap[vb]? = some (.cells VS vt fr') → cs.length = n * S → vs.length = S →
      (∀ j v, cs[j]? = some v → CS[off + j]? = some v) → (∀ j v, vs[j]? = some v → VS[voff + j]? = some v) → (∀ v ∈ cs, v.oneCell' = true) → (∀ v ∈ vs, v.oneCell' = true) →
      Calls P F #[.slice (some ⟨b, off, none⟩) n n, .int .i64 i, .slice (some ⟨vb, voff, none⟩) 1 vc] w fun e w' =>
        ∃ (G : Nat) (rest : Array Value), e = .returned (.slice (some ⟨w.heap.size, 0, none⟩) (n + 1) G) ∧ n + 1 ≤ G ∧ rest.size = (n + 1 - i) * S + (G - (n + 1)) * S ∧
        w' = (((w.alloc (.cells ((cs.take (i * S)).toArray ++ rest) E)).drew.setRow w.heap.size (putRow ((cs.take (i * S)).toArray ++ rest) (i * S) vs)).drew).setRow w.heap.size (putRow (putRow ((cs.take (i * S)).toArray ++ rest) (i * S) vs) ((i + 1) * S) (cs.drop (i * S))))
    (rows : List (List PV)) (row : List PV) (i : Nat) (hi : i < rows.length) (hn : rows.length ≤ 1000000000) :
    AnsOK P glob gs F [.fresh S rows, .int .i64 i, .fresh S [row]] (.fresh S (rows.take i ++ [row] ++ rows.drop i)) := by
  letI : Frame := ⟨fun _ => False⟩
  intro Z w vs ks hZ hks hnd hg hL
  obtain ⟨vl⟩ := vs
  simp only at hL
  cases hL with
  | cons _ v1 k1 _ vs1 k2 hc1 hr1 =>
  cases hr1 with
  | cons _ v2 k3 _ vs2 k4 hc2 hr2 =>
  cases hr2 with
  | cons _ v3 k5 _ vs3 k6 hc3 hr3 =>
  cases hr3
  cases hc2 with
  | plain _ _ _ hp2 =>
  cases hp2
  cases hc1 with
  | plain _ _ hb _ => cases hb
  | fresh _ _ _ _ h1 =>
  cases hc3 with
  | plain _ _ hb _ => cases hb
  | fresh _ _ _ _ h3 =>
  cases h1 with
  | none ad h => rw [h] at hi; simp at hi
  | some k base c CS et hw hc hs hr =>
  cases h3 with
  | none ad h => cases h
  | some vk vbase vc VS vt hw' hc' hs' hr' =>
  have hne : vk ≠ k := by
    intro e; subst e
    simp at hnd
  have hlenS : row.length = S := hr'.1 0 row rfl
  have hnc := Nat.mul_le_mul_right S hc
  obtain ⟨cs, c1, c2, c3, c4⟩ := rows_cells hr (by omega)
  have hvc := Nat.mul_le_mul_right S hc'
  obtain ⟨vsL, d1, d2, d3, d4⟩ := rows_cells hr' (by omega)
  have d1' : vsL.length = S := by simpa using d1
  have d4' : RowsAt w Z vsL.toArray 0 S [row] := by
    have := d4 0 1 (by simp)
    simp only [Nat.zero_mul, List.drop_zero, Nat.one_mul] at this
    rw [List.take_of_length_le (by omega)] at this
    simpa using this
  have hdr : RowsAt w Z (cs.drop (i * S)).toArray 0 S (rows.drop i) := by
    have := c4 i (rows.length - i) (by omega)
    rw [List.take_of_length_le (by rw [List.length_drop, c1, Nat.sub_mul]; omega), List.take_of_length_le (by simp)] at this
    exact this
  have hdl : (cs.drop (i * S)).length = (rows.length - i) * S := by rw [List.length_drop, c1, Nat.sub_mul]
  have hZk : Z k := hks k (by simp)
  have hkw : k < w.heap.size := hZ k hZk
  have hm1 := Nat.mul_le_mul_right S (show i + 1 ≤ rows.length by omega)
  have hm2 : (rows.length - i) * S = rows.length * S - i * S := Nat.sub_mul _ _ _
  have hm3 : (i + 1) * S = i * S + S := by rw [Nat.add_mul, Nat.one_mul]
  by_cases hroomy : rows.length + 1 ≤ c
  ·
    have hm4 := Nat.mul_le_mul_right S hroomy
    rw [Nat.add_mul, Nat.one_mul] at hm4
    have hcall := hroom k base rows.length c i vk vbase vc CS VS et vt cs vsL w hi hroomy hn hne hw hw' c1 d1' (by rw [Nat.add_mul, Nat.one_mul]; omega) c2 d2 c3 d3
    refine hcall.mono fun e w' ⟨he, hW⟩ => ?_
    have p1 := putRow_rows (p := i + 1) hr hdr (by simp only [List.size_toArray]; rw [hdl, List.length_drop]) (by omega) (by rw [List.length_drop, show i + 1 + (rows.length - i) = rows.length + 1 by omega, Nat.add_mul, Nat.one_mul]; omega)
    simp only [List.length_drop] at p1
    rw [show rows.drop (i + 1 + (rows.length - i)) = [] from List.drop_of_length_le (by omega), List.append_nil] at p1
    have hfit1 : base + (i + 1) * S + (cs.drop (i * S)).length ≤ CS.size := by rw [hdl]; omega
    have s1 := putRow_size0 hfit1
    have hR1l : (rows.take (i + 1) ++ rows.drop i).length = rows.length + 1 := by simp; omega
    have p2 := putRow_rows (p := i) p1 d4' (by simp [d1']) (by rw [hR1l]; omega) (by
      rw [s1]
      simp only [List.length_cons, List.length_nil]
      rw [show i + (0 + 1) = i + 1 by omega]; omega)
    have hfit2 : base + i * S + vsL.length ≤ (putRow CS (base + (i + 1) * S) (cs.drop (i * S))).size := by rw [s1, d1']; omega
    have s2 := putRow_size0 hfit2
    have eR : (rows.take (i + 1) ++ rows.drop i).take i ++ [row] ++ (rows.take (i + 1) ++ rows.drop i).drop (i + [row].length) = rows.take i ++ [row] ++ rows.drop i := by
      have h1 : (rows.take (i + 1)).length = i + 1 := by simp; omega
      rw [List.take_append_of_le_length (by omega), List.take_take, show min i (i + 1) = i by omega]
      congr 1
      show ((rows.take (i + 1) ++ rows.drop i).drop (i + 1)) = _
      rw [List.drop_append_of_le_length (by omega), List.drop_of_length_le (by omega), List.nil_append]
    rw [eR] at p2
    have g0 : Grow w Z (w.drew.setRow k (putRow CS (base + (i + 1) * S) (cs.drop (i * S)))) := Grow.trans (X' := Z) (w' := w.drew) ⟨Nat.le_refl _, fun _ _ _ => rfl, fun _ cs _ _ h => ⟨cs, h, rfl⟩, rfl, rfl, rfl, fun _ _ => rfl⟩ (Grow.setRow (w := w.drew) hw s1 hZk) (fun _ _ h => h)
    have hwk : (w.drew.setRow k (putRow CS (base + (i + 1) * S) (cs.drop (i * S)))).heap[k]? = some (.cells (putRow CS (base + (i + 1) * S) (cs.drop (i * S))) et (0, 0)) := setRow_same0 hw
    have g1 : Grow (w.drew.setRow k (putRow CS (base + (i + 1) * S) (cs.drop (i * S)))) Z w' := by rw [hW]; exact Grow.setRow hwk s2 hZk
    have hG := g0.trans g1 (fun _ _ h => h)
    have hwk2 : w'.heap[k]? = some (.cells (putRow (putRow CS (base + (i + 1) * S) (cs.drop (i * S))) (base + i * S) vsL) et (0, 0)) := by rw [hW]; exact setRow_same0 hwk
    refine ⟨_, he, ⟨hG.size, fun j hj hn => ?_, hG.shape, hG.os, hG.tape, hG.output, hG.froz⟩, Z, [k], fun k' h _ => h, fun k' h => ?_, fun k' h => Nat.lt_of_lt_of_le (hZ k' h) hG.size, by simp, ?_⟩
    · have hjk : j ≠ k := fun e => hn (by rw [e]; simp)
      rw [hW, setRow_other0 hjk, setRow_other0 hjk]
      rfl
    · simp only [List.mem_singleton] at h
      subst h
      exact ⟨hZk, .inl (by simp)⟩
    · refine .one _ _ _ (fun vs h => by cases h) (.fresh _ _ _ _ ?_)
      have hl : (rows.take i ++ [row] ++ rows.drop i).length = rows.length + 1 := by simp; omega
      rw [← hl]
      exact .some k base c _ et hwk2 (by rw [hl]; exact hroomy) (by rw [s2, s1]; exact hs) (p2.mono hG (fun _ _ h => h))
  ·
    have hcn : c = rows.length := by omega
    subst hcn
    have hcall := hgrow k base rows.length i vk vbase vc CS VS et vt (0, 0) (0, 0) cs vsL w hi hn hw hw' c1 d1' c2 d2 c3 d3
    refine hcall.mono fun e w' ⟨G, rest, he, hGn, hrs, hW⟩ => ?_
    have htk : RowsAt w Z (cs.take (i * S)).toArray 0 S (rows.take i) := by
      have := c4 0 i (by omega)
      simpa using this
    have hGm := Nat.mul_le_mul_right S hGn
    have hm5 : (rows.length + 1 - i) * S = (rows.length + 1) * S - i * S := Nat.sub_mul _ _ _
    have hm6 : (G - (rows.length + 1)) * S = G * S - (rows.length + 1) * S := Nat.sub_mul _ _ _
    have hm7 : (rows.length + 1) * S = rows.length * S + S := by rw [Nat.add_mul, Nat.one_mul]
    have hRs : ((cs.take (i * S)).toArray ++ rest).size = G * S := by
      rw [Array.size_append, hrs]
      simp only [List.size_toArray, List.length_take, c1]
      omega
    have q0 : RowsAt w Z ((cs.take (i * S)).toArray ++ rest) 0 S (rows.take i) := RowsAt.head htk
    have htl : (rows.take i).length = i := by simp; omega
    have q1 := putRow_rows (p := i) q0 d4' (by simp [d1']) (by omega) (by rw [hRs]; simp only [List.length_cons, List.length_nil, Nat.zero_add]; omega)
    rw [Nat.zero_add, show (rows.take i).take i ++ [row] ++ (rows.take i).drop (i + [row].length) = rows.take i ++ [row] by
      rw [List.take_of_length_le (by omega), List.drop_of_length_le (by simp; omega), List.append_nil]] at q1
    have hfit1 : i * S + vsL.length ≤ ((cs.take (i * S)).toArray ++ rest).size := by rw [hRs, d1']; omega
    have s1 := putRow_size0 hfit1
    have ht2 : (rows.take i ++ [row]).length = i + 1 := by simp; omega
    have q2 := putRow_rows (p := i + 1) q1 hdr (by simp only [List.size_toArray]; rw [hdl, List.length_drop]) (by omega) (by
      rw [s1, hRs, List.length_drop, show i + 1 + (rows.length - i) = rows.length + 1 by omega]; omega)
    have x1 : (rows.take i ++ [row]).take (i + 1) = rows.take i ++ [row] := List.take_of_length_le (by omega)
    have x2 : (rows.take i ++ [row]).drop (i + 1 + (rows.drop i).length) = [] := List.drop_of_length_le (by omega)
    rw [Nat.zero_add, x1, x2, List.append_nil] at q2
    have hfit2 : (i + 1) * S + (cs.drop (i * S)).length ≤ (putRow ((cs.take (i * S)).toArray ++ rest) (i * S) vsL).size := by rw [s1, hRs, hdl]; omega
    have s2 := putRow_size0 hfit2
    have n1 : (w.alloc (.cells ((cs.take (i * S)).toArray ++ rest) E)).drew.heap[w.heap.size]? = some (.cells ((cs.take (i * S)).toArray ++ rest) E (0, 0)) := by show (w.heap.push _)[w.heap.size]? = _; simp
    have n2 : ∀ j, j < w.heap.size → w'.heap[j]? = w.heap[j]? := fun j hj => by
      rw [hW, setRow_other0 (by omega)]
      show ((w.alloc (.cells ((cs.take (i * S)).toArray ++ rest) E)).drew.setRow w.heap.size _).heap[j]? = _
      rw [setRow_other0 (by omega)]
      show (w.heap.push _)[j]? = _
      rw [Array.getElem?_push]
      simp only [Nat.ne_of_lt hj, if_false]
    have n3 : w'.heap.size = w.heap.size + 1 := by
      rw [hW, setRow_size]
      show ((w.alloc (.cells ((cs.take (i * S)).toArray ++ rest) E)).drew.setRow w.heap.size _).heap.size = _
      rw [setRow_size]
      show (w.heap.push _).size = _
      simp
    have n4 : w'.heap[w.heap.size]? = some (.cells (putRow (putRow ((cs.take (i * S)).toArray ++ rest) (i * S) vsL) ((i + 1) * S) (cs.drop (i * S))) E (0, 0)) := by rw [hW]; exact setRow_same0 (setRow_same0 n1)
    have hb : RowKit.Below w.heap.size w w' := ⟨by rw [hW]; rfl, by rw [hW]; rfl, by rw [hW]; rfl, by omega, n2⟩
    have hGZ : Grow w Z w' := grow_of_below hb
    refine ⟨_, he, grow_of_below hb, fun k' => Z k' ∨ k' = w.heap.size, [w.heap.size], fun k' h _ => .inl h, fun k' h => ?_, fun k' h => ?_, by simp, ?_⟩
    · simp only [List.mem_singleton] at h
      subst h
      exact ⟨.inr rfl, .inr (Nat.le_refl _)⟩
    · rcases h with h | h
      · have := hZ k' h; omega
      · omega
    · refine .one _ _ _ (fun vs h => by cases h) (.fresh _ _ _ _ ?_)
      have hl : (rows.take i ++ [row] ++ rows.drop i).length = rows.length + 1 := by simp; omega
      rw [← hl]
      refine .some w.heap.size 0 G _ E n4 (by rw [hl]; exact hGn) (by rw [s2, s1, hRs]; omega) (q2.mono hGZ (fun j hj h h' => ?_))
      rcases h' with h' | h'
      · exact h h'
      · omega
end Go.Ev
namespace Go.Proofs.YtefoleocbhkobaaGreatDoor
open Go Go.Ev Go.Shelf Go.RowKit Go.Lib Go.Proofs
set_option linter.unusedSectionVars false
set_option linter.unusedSimpArgs false
set_option linter.unusedVariables false
set_option maxHeartbeats 1000000 in
set_option maxRecDepth 100000 in
theorem ins_room91 (b off n c i vb voff vc : Nat) (CS VS : Array Value) (et vt : TypeId) (cs vs : List Value) (w : World) (hi : i < n) (hroom : n + 1 ≤ c) (hn : n ≤ 1000000000) (hvb : vb ≠ b)
    (hw : w.heap[b]? = some (.cells CS et (0, 0))) (hv : w.heap[vb]? = some (.cells VS vt (0, 0))) (hcl : cs.length = n * 5) (hvl : vs.length = 5) (hfit : off + (n + 1) * 5 ≤ CS.size)
    (hcs : ∀ j v, cs[j]? = some v → CS[off + j]? = some v) (hvs : ∀ j v, vs[j]? = some v → VS[voff + j]? = some v) (h1c : ∀ v ∈ cs, v.oneCell' = true) (h1v : ∀ v ∈ vs, v.oneCell' = true) :
    Calls Tryz.prog 91 #[.slice (some ⟨b, off, none⟩) n c, .int .i64 i, .slice (some ⟨vb, voff, none⟩) 1 vc] w fun e w' =>
      e = .returned (.slice (some ⟨b, off, none⟩) (n + 1) c) ∧ w' = (w.drew.setRow b (putRow CS (off + (i + 1) * 5) (cs.drop (i * 5)))).setRow b (putRow (putRow CS (off + (i + 1) * 5) (cs.drop (i * 5))) (off + i * 5) vs) := by
  have u1 := run_underlying Tryz.underlying22
  have u2 := run_underlying Tryz.underlying47
  have mixed : Tryz.prog.follows .mixedOrders = true := by kernel_rfl
  have hz2 : ¬ ((i : Int) = (n : Int)) := by omega
  have hsz : (Tryz.prog.info? 47).map (·.size) = some 5 := by kernel_rfl
  have hov : ∀ lb cb, (callFunc 122 #[.slice (some ⟨vb, voff, none⟩) 1 vc, .slice (some ⟨b, off + (i + 1) * 5, none⟩) lb cb]).run Tryz.prog w = .ok (.value (.bool false)) w := fun lb cb => by
    rw [run_callFunc_extern Tryz.func122 (by kernel_rfl) (by kernel_rfl) (by kernel_rfl) (e := Extern.SlicesOverlaps.overlaps #[22, 22] #[4]) (by kernel_rfl),
      Lib.run_overlaps_apart w 22 4 47 Tryz.underlying22 5 Tryz.sizeOf47 ⟨vb, voff, none⟩ ⟨b, off + (i + 1) * 5, none⟩ 1 vc lb cb hvb vt et VS.size CS.size (shape_of hv) (shape_of hw) (by omega) (frozen_of hv _) (frozen_of hv _)]
    rfl
  have hdl : (cs.drop (i * 5)).length = (n - i) * 5 := by rw [List.length_drop, hcl, Nat.sub_mul]
  have hf1 : off + (i + 1) * 5 + (cs.drop (i * 5)).length ≤ CS.size := by rw [hdl]; omega
  have hsz1 := putRow_size0 hf1
  have hcp1 : ∀ ty dc sc, (Builtin.copy_ #[22, 22] ty #[.slice (some ⟨b, off + (i + 1) * 5, none⟩) (n - i) dc, .slice (some ⟨b, off + i * 5, none⟩) (n + 1 - i) sc]).run Tryz.prog w.drew = .ok (goInt (n - i : Nat)) (w.drew.setRow b (putRow CS (off + (i + 1) * 5) (cs.drop (i * 5)))) := fun ty dc sc =>
    copy_rows_run (P := Tryz.prog) w.drew 22 22 ty 47 5 b (off + (i + 1) * 5) (n - i) dc CS et hw b (off + i * 5) (n + 1 - i) sc CS et (0, 0) hw (n - i) (cs.drop (i * 5)) Tryz.underlying22 hsz (by show min _ _ = _; omega) hdl
      (fun j v hj => by rw [Nat.add_assoc]; exact hcs (i * 5 + j) v (by rwa [List.getElem?_drop] at hj)) hf1 (fun v hv => h1c v (List.mem_of_mem_drop hv))
  obtain ⟨C1, hC1⟩ : ∃ C1, C1 = putRow CS (off + (i + 1) * 5) (cs.drop (i * 5)) := ⟨_, rfl⟩
  rw [← hC1] at hcp1 hsz1 ⊢
  have hcp2 : ∀ (W : World), W.heap[b]? = some (.cells C1 et (0, 0)) → W.heap[vb]? = some (.cells VS vt (0, 0)) → ∀ ty dc, (Builtin.copy_ #[22, 22] ty #[.slice (some ⟨b, off + i * 5, none⟩) (n + 1 - i) dc, .slice (some ⟨vb, voff, none⟩) 1 vc]).run Tryz.prog W = .ok (goInt (1 : Nat)) (W.setRow b (putRow C1 (off + i * 5) vs)) := fun W h1 h2 ty dc =>
    copy_rows_run W _ _ ty 47 5 b (off + i * 5) (n + 1 - i) dc C1 et h1 vb voff 1 vc VS vt (0, 0) h2 1 vs Tryz.underlying22 hsz (by show min _ _ = _; omega) (by rw [hvl]) hvs (by rw [hsz1, hvl]; omega) h1v
  have e1 : (w.drew.setRow b C1).heap[b]? = some (.cells C1 et (0, 0)) := setRow_same0 hw
  have e2 : (w.drew.setRow b C1).heap[vb]? = some (.cells VS vt (0, 0)) := (setRow_other0 hvb).trans hv
  have hw1 : IntKind.i64.wrap ((i : Int) + 1) = (i : Int) + 1 := by rw [IntKind.wrap_i64]; omega
  have hb1 : (0 : Int) ≤ (i : Int) + 1 := by omega
  have hin : i ≤ n := by omega
  have htn : ((i : Int) + 1).toNat = i + 1 := by omega
  have hb2 : ¬ (c = i + 1) := by omega
  have hb3 : (i : Int) ≤ (n : Int) + 1 := by omega
  have hb4 : ¬ (c = i) := by omega
  have hb5 : (i : Int) + 1 ≤ (n : Int) + 1 := by omega
  clear hC1 hcs hvs h1c h1v
  go_enter Tryz.func91, Tryz.ntmps91
  go_wp2_with (simp only [hov])
  go_region_law_o (refine step_copy_runI rfl _ _ 22 22 rfl _ _ (by simp [Act.eval, Act.put]) (by simp [Act.eval, Act.put]) (hcp1 _ _ _) ?_)
  go_wp2_with (at_builtin; refine wpList_copy_runI _ rfl _ _ 22 22 rfl _ _ rfl rfl (hcp2 _ e1 e2 _ _) ?_)
  go_ret
  exact ⟨rfl, rfl⟩
set_option maxHeartbeats 1000000 in
set_option maxRecDepth 100000 in
theorem ins_grow91 (b off n i vb voff vc : Nat) (CS VS : Array Value) (et vt : TypeId) (fr fr' : Nat × Nat) (cs vs : List Value) (w : World) (hi : i < n) (hn : n ≤ 1000000000)
    (hw : w.heap[b]? = some (.cells CS et fr)) (hv : w.heap[vb]? = some (.cells VS vt fr')) (hcl : cs.length = n * 5) (hvl : vs.length = 5)
    (hcs : ∀ j v, cs[j]? = some v → CS[off + j]? = some v) (hvs : ∀ j v, vs[j]? = some v → VS[voff + j]? = some v) (h1c : ∀ v ∈ cs, v.oneCell' = true) (h1v : ∀ v ∈ vs, v.oneCell' = true) :
    Calls Tryz.prog 91 #[.slice (some ⟨b, off, none⟩) n n, .int .i64 i, .slice (some ⟨vb, voff, none⟩) 1 vc] w fun e w' =>
      ∃ (G : Nat) (rest : Array Value), e = .returned (.slice (some ⟨w.heap.size, 0, none⟩) (n + 1) G) ∧ n + 1 ≤ G ∧ rest.size = (n + 1 - i) * 5 + (G - (n + 1)) * 5 ∧
      w' = (((w.alloc (.cells ((cs.take (i * 5)).toArray ++ rest) 47)).drew.setRow w.heap.size (putRow ((cs.take (i * 5)).toArray ++ rest) (i * 5) vs)).drew).setRow w.heap.size (putRow (putRow ((cs.take (i * 5)).toArray ++ rest) (i * 5) vs) ((i + 1) * 5) (cs.drop (i * 5))) := by
  have u1 := run_underlying Tryz.underlying22
  have u2 := run_underlying Tryz.underlying47
  have u3 := run_underlying Tryz.underlying3
  have mixed : Tryz.prog.follows .mixedOrders = true := by kernel_rfl
  have hz2 : ¬ ((i : Int) = (n : Int)) := by omega
  have hz3 : (n : Int) < (n : Int) + 1 := by omega
  obtain ⟨i0, z, hi0, hz0, hzs, hzb, hzc⟩ : ∃ i0 z, Tryz.prog.info? 47 = some i0 ∧ i0.zero = some z ∧ i0.size = 5 ∧ i0.bytes = 56 ∧ z.cells.size = 5 := by
    have h : (Tryz.prog.info? 47).map (fun i => (i.size, i.bytes, i.zero.map (·.cells.size))) = some (5, 56, some 5) := by kernel_rfl
    cases hq : Tryz.prog.info? 47 with
    | none => rw [hq] at h; cases h
    | some i0 =>
      rw [hq] at h
      simp only [Option.map_some, Option.some.injEq, Prod.mk.injEq] at h
      cases hz : i0.zero with
      | none => rw [hz] at h; simp at h
      | some z => rw [hz] at h; simp at h; exact ⟨i0, z, rfl, hz, h.1, h.2.1, h.2.2⟩
  have hsz : (Tryz.prog.info? 47).map (·.size) = some 5 := by rw [hi0]; simp [hzs]
  have hbw : b < w.heap.size := (Array.getElem?_eq_some_iff.1 hw).1
  have hvw : vb < w.heap.size := (Array.getElem?_eq_some_iff.1 hv).1
  have hkk : (n : Int) + 1 - (i : Int) = ((n + 1 - i : Nat) : Int) := by omega
  have hik : i + (n + 1 - i) = n + 1 := by omega
  have htk : (cs.take (i * 5)).length = i * 5 := by rw [List.length_take]; omega
  have hold : (Builtin.firstCells i0.size i (.slice (some ⟨b, off, none⟩) i n)).run Tryz.prog w.drew = .ok (cs.take (i * 5)).toArray w.drew := by
    rw [hzs]
    exact run_firstCells_some w.drew 5 i ⟨b, off, none⟩ i n (cs.take (i * 5)) htk (fun j v hj => by
      rw [Addr.add_lit, cell_of (w := w.drew) hw]
      rw [List.getElem?_take] at hj
      split at hj
      · exact hcs j v hj
      · cases hj)
  have hrz : ∀ ty, (Builtin.append_ #[22, 3] ty #[.slice (some ⟨b, off, none⟩) i n, .int .i64 ((n : Int) + 1 - (i : Int))]).run Tryz.prog w =
      .ok (.slice (some ⟨w.heap.size, 0, none⟩) (n + 1) (grownCap w (n + 1) n 47)) (w.drew.alloc (.cells ((cs.take (i * 5)).toArray ++ Builtin.zeroCells z.cells (n + 1 - i) ++ Builtin.zeroCells z.cells (grownCap w (n + 1) n 47 - (n + 1))) 47)) := fun ty => by
    have h := Lib.run_append_grow_zeros w 22 3 ty 47 i0 z .i64 .i64 Tryz.underlying22 Tryz.underlying3 hi0 hz0 (some ⟨b, off, none⟩) i n (cs.take (i * 5)) hold (n + 1 - i) (by omega) (by omega) (by omega) (by omega) (by rw [hzb]; omega) (by rw [hzb, hik]; exact growslice_fits (by omega) (by omega))
    rw [hik] at h
    rw [hkk]
    exact h
  have hGn : n + 1 ≤ grownCap w (n + 1) n 47 := grownCap_ge w _ _ _
  obtain ⟨G, hG⟩ : ∃ G, G = grownCap w (n + 1) n 47 := ⟨_, rfl⟩
  rw [← hG] at hrz hGn
  obtain ⟨rest, hrest⟩ : ∃ rest, rest = Builtin.zeroCells z.cells (n + 1 - i) ++ Builtin.zeroCells z.cells (G - (n + 1)) := ⟨_, rfl⟩
  have hrs : rest.size = (n + 1 - i) * 5 + (G - (n + 1)) * 5 := by rw [hrest]; simp [Builtin.zeroCells, hzc]
  rw [Array.append_assoc, ← hrest] at hrz
  obtain ⟨ROW, hROW⟩ : ∃ ROW : Array Value, ROW = (cs.take (i * 5)).toArray ++ rest := ⟨_, rfl⟩
  have hRs : ROW.size = i * 5 + ((n + 1 - i) * 5 + (G - (n + 1)) * 5) := by rw [hROW, Array.size_append, hrs]; simp [htk]
  rw [← hROW] at hrz
  have hgoal : ∀ w', (w' = (((w.alloc (.cells ROW 47)).drew.setRow w.heap.size (putRow ROW (i * 5) vs)).drew).setRow w.heap.size (putRow (putRow ROW (i * 5) vs) ((i + 1) * 5) (cs.drop (i * 5)))) → ∃ (G' : Nat) (rest' : Array Value), (Ending.returned (.slice (some ⟨w.heap.size, 0, none⟩) (n + 1) G)) = .returned (.slice (some ⟨w.heap.size, 0, none⟩) (n + 1) G') ∧ n + 1 ≤ G' ∧ rest'.size = (n + 1 - i) * 5 + (G' - (n + 1)) * 5 ∧
      w' = (((w.alloc (.cells ((cs.take (i * 5)).toArray ++ rest') 47)).drew.setRow w.heap.size (putRow ((cs.take (i * 5)).toArray ++ rest') (i * 5) vs)).drew).setRow w.heap.size (putRow (putRow ((cs.take (i * 5)).toArray ++ rest') (i * 5) vs) ((i + 1) * 5) (cs.drop (i * 5))) := fun w' h =>
    ⟨G, rest, rfl, hGn, hrs, by rw [← hROW]; exact h⟩
  have hdl : (cs.drop (i * 5)).length = (n - i) * 5 := by rw [List.length_drop, hcl, Nat.sub_mul]
  have hf1 : i * 5 + vs.length ≤ ROW.size := by rw [hRs, hvl]; omega
  have hsz1 := putRow_size0 hf1
  have hcpA : ∀ (W : World), W.heap[w.heap.size]? = some (.cells ROW 47 (0, 0)) → W.heap[vb]? = some (.cells VS vt fr') → ∀ ty dc, (Builtin.copy_ #[22, 22] ty #[.slice (some ⟨w.heap.size, i * 5, none⟩) (n + 1 - i) dc, .slice (some ⟨vb, voff, none⟩) 1 vc]).run Tryz.prog W = .ok (goInt (1 : Nat)) (W.setRow w.heap.size (putRow ROW (i * 5) vs)) := fun W h1 h2 ty dc =>
    copy_rows_run W _ _ ty 47 5 w.heap.size (i * 5) (n + 1 - i) dc ROW 47 h1 vb voff 1 vc VS vt fr' h2 1 vs Tryz.underlying22 hsz (by show min _ _ = _; omega) (by rw [hvl]) hvs hf1 h1v
  have hcpB : ∀ (W : World), W.heap[w.heap.size]? = some (.cells (putRow ROW (i * 5) vs) 47 (0, 0)) → W.heap[b]? = some (.cells CS et fr) → ∀ ty dc sc, (Builtin.copy_ #[22, 22] ty #[.slice (some ⟨w.heap.size, (i + 1) * 5, none⟩) (n - i) dc, .slice (some ⟨b, off + i * 5, none⟩) (n - i) sc]).run Tryz.prog W = .ok (goInt (n - i : Nat)) (W.setRow w.heap.size (putRow (putRow ROW (i * 5) vs) ((i + 1) * 5) (cs.drop (i * 5)))) := fun W h1 h2 ty dc sc =>
    copy_rows_run W _ _ ty 47 5 w.heap.size ((i + 1) * 5) (n - i) dc (putRow ROW (i * 5) vs) 47 h1 b (off + i * 5) (n - i) sc CS et fr h2 (n - i) (cs.drop (i * 5)) Tryz.underlying22 hsz (by show min _ _ = _; omega) hdl
      (fun j v hj => by rw [Nat.add_assoc]; exact hcs (i * 5 + j) v (by rwa [List.getElem?_drop] at hj)) (by rw [hsz1, hRs, hdl]; omega) (fun v hv => h1c v (List.mem_of_mem_drop hv))
  have n1 : (w.alloc (.cells ROW 47)).drew.heap[w.heap.size]? = some (.cells ROW 47 (0, 0)) := by show (w.heap.push _)[w.heap.size]? = _; simp
  have n2 : ∀ k, k < w.heap.size → (w.alloc (.cells ROW 47)).drew.heap[k]? = w.heap[k]? := fun k hk => by show (w.heap.push _)[k]? = _; simp [Array.getElem?_push]; omega
  have e1 := (n2 vb hvw).trans hv
  have e2 : ((w.alloc (.cells ROW 47)).drew.setRow w.heap.size (putRow ROW (i * 5) vs)).drew.heap[w.heap.size]? = some (.cells (putRow ROW (i * 5) vs) 47 (0, 0)) := setRow_same0 n1
  have e3 : ((w.alloc (.cells ROW 47)).drew.setRow w.heap.size (putRow ROW (i * 5) vs)).drew.heap[b]? = some (.cells CS et fr) := (setRow_other0 (by omega)).trans ((n2 b hbw).trans hw)
  have hw1 : IntKind.i64.wrap ((i : Int) + 1) = (i : Int) + 1 := by rw [IntKind.wrap_i64]; omega
  have hw2 : IntKind.i64.wrap ((n : Int) + 1) = (n : Int) + 1 := by rw [IntKind.wrap_i64]; omega
  have hw3 : IntKind.i64.wrap ((n : Int) + 1 - (i : Int)) = (n : Int) + 1 - (i : Int) := by rw [IntKind.wrap_i64]; omega
  have hb1 : (0 : Int) ≤ (i : Int) + 1 := by omega
  have hin : i ≤ n := by omega
  have htn : ((i : Int) + 1).toNat = i + 1 := by omega
  have hb3 : (i : Int) ≤ (n : Int) := by omega
  have hb5 : (i : Int) + 1 ≤ (n : Int) + 1 := by omega
  have hb6 : (i : Int) ≤ (n : Int) + 1 := by omega
  have hGi : ¬ (G = i) := by omega
  have hGim : ¬ (G = i + 1) := by omega
  have hci : ¬ (n = i) := by omega
  clear hkk hik hold hG hrest hrs hROW hRs hcs hvs h1c h1v hzb hzs hzc hz0 hsz htk hdl hf1 hsz1
  have hA := hcpA _ n1 e1
  have hB := hcpB _ e2 e3
  clear hcpA hcpB n1 e1 e2 e3 n2
  go_enter Tryz.func91, Tryz.ntmps91
  go_wp2_with (at_builtin; refine Lib.wpList_append_run _ rfl _ _ _ _ rfl _ _ rfl rfl _ _ (hrz _) ?_)
  go_region_law_o (refine step_copy_runI rfl _ _ 22 22 rfl (.slice (some ⟨w.heap.size, (i + 1) * 5, none⟩) (n - i) (G - (i + 1))) (.slice (some ⟨b, off + i * 5, none⟩) (n - i) (n - i)) (by simp [Act.eval, Act.put]) (by simp [Act.eval, Act.put]) (hB 3 (G - (i + 1)) (n - i)) ?_)
  go_wp2
  go_ret
  exact hgoal _ rfl
end Go.Proofs.YtefoleocbhkobaaGreatDoor
namespace Go.Proofs.YtefoleocbhkobaaGreatDoor
open Go Go.Ev
set_option linter.unusedSectionVars false
set_option linter.unusedSimpArgs false
set_option linter.unusedVariables false
def tab : Nat → Option IFn := lookT tabL
def utf8first : List PV := (List.range 256).map fun i => .int .u8 (if i < 0x80 then 0xF0 else if i < 0xC2 then 0xF1 else if i < 0xE0 then 0x02 else if i = 0xE0 then 0x13 else if i < 0xED then 0x03 else if i = 0xED then 0x23 else if i < 0xF0 then 0x03 else if i = 0xF0 then 0x34 else if i < 0xF4 then 0x04 else if i = 0xF4 then 0x44 else 0xF1)
def utf8ranges : List PV := ([0x80, 0xBF, 0xA0, 0xBF, 0x80, 0x9F, 0x90, 0xBF, 0x80, 0x8F] ++ List.replicate 22 0 : List Int).map fun n => .int .u8 n
def glob : Nat → List PV
  | 0 => utf8first
  | 1 => utf8ranges
  | _ => []
def lookC : List (Nat × IFn × Nat) → Nat → Option (IFn × PV)
  | [], _ => none
  | (k, c, z) :: r, f => match Nat.beq k f with | true => some (c, .fresh z []) | false => lookC r f
def lookI : List (Nat × IFn × Nat) → Nat → Option (IFn × Nat)
  | [], _ => none
  | (k, c, z) :: r, f => match Nat.beq k f with | true => some (c, z) | false => lookI r f
def insC (c : IFn) (S : Nat) (args : List PV) : Option (PV × List (List PV)) := match args with
  | [.fresh s rows, .int .i64 i, .fresh t [row]] =>
    if s = S ∧ t = S ∧ 0 ≤ i ∧ i.toNat < rows.length ∧ rows.length ≤ 1000000000 then some (.fresh S (rows.take i.toNat ++ [row] ++ rows.drop i.toNat), []) else evFn ⟨fun _ _ => none, glob⟩ (iter 0) c args
  | args => evFn ⟨fun _ _ => none, glob⟩ (iter 0) c args
def prim (f : Nat) (args : List PV) : Option (PV × List (List PV)) := match Nat.beq f 125 with
  | true => joinC args
  | false => match lookI insL f with
    | some (c, S) => insC c S args
    | none => primC glob (lookC clonesL) f args
theorem prim_join (l : List (List UInt8)) (h1 : l.length ≤ 140737488355328) (h2 : l.flatten.length ≤ 140737488355328) : prim 125 [.ro (l.map fun s => [.str s]), .str []] = some (.str l.flatten, []) := by
  have hb : Nat.beq 125 125 = true := Nat.beq_refl 125
  unfold prim
  rw [hb]
  have h3 : l.length ≤ 140737488355328 ∧ l.flatten.length ≤ 140737488355328 := ⟨h1, h2⟩
  simp only [joinC, textsOf_map, h3, and_self, if_true]
theorem tab_ok (f : Nat) (fn : IFn) (h : tab f = some fn) : mFn Tryz.prog [0, 1] f fn = true :=
  List.all_eq_true.1 tabL_ok (f, fn) (lookT_mem h)
theorem lookC_mem : ∀ {l : List (Nat × IFn × Nat)} {f : Nat} {c : IFn} {r : PV}, lookC l f = some (c, r) → ∃ z, (f, c, z) ∈ l ∧ r = .fresh z []
  | [], _, _, _, h => by cases h
  | (k, d, z) :: l, f, c, r, h => by
    simp only [lookC] at h
    cases hb : Nat.beq k f with
    | true => rw [hb] at h; cases h; have := Nat.eq_of_beq_eq_true hb; subst this; exact ⟨z, .head _, rfl⟩
    | false => rw [hb] at h; obtain ⟨z', h1, h2⟩ := lookC_mem h; exact ⟨z', .tail _ h1, h2⟩
theorem lookI_mem : ∀ {l : List (Nat × IFn × Nat)} {f : Nat} {c : IFn} {z : Nat}, lookI l f = some (c, z) → (f, c, z) ∈ l
  | [], _, _, _, h => by cases h
  | (k, d, y) :: l, f, c, z, h => by
    simp only [lookI] at h
    cases hb : Nat.beq k f with
    | true => rw [hb] at h; cases h; have := Nat.eq_of_beq_eq_true hb; subst this; exact .head _
    | false => rw [hb] at h; exact .tail _ (lookI_mem h)
theorem ins_all {f : Nat} {c : IFn} {S : Nat} (h : lookI insL f = some (c, S)) (rows : List (List PV)) (row : List PV) (i : Nat) (hi : i < rows.length) (hn : rows.length ≤ 1000000000) :
    AnsOK Tryz.prog glob [0, 1] f [.fresh S rows, .int .i64 i, .fresh S [row]] (.fresh S (rows.take i ++ [row] ++ rows.drop i)) := by
  have h1 := lookI_mem h
  simp only [insL, List.mem_cons, List.not_mem_nil, or_false] at h1
  cases h1
  exact ins_ans 47 ins_room91 ins_grow91 rows row i hi hn
theorem own91 : ownFn Tryz.prog 91 = true := by kernel_rfl
theorem clo_both : ∀ p ∈ clonesL, evFn ⟨fun _ _ => none, glob⟩ (iter 0) p.2.1 [.nils] = some (.fresh p.2.2 [], []) ∧ evFn ⟨fun _ _ => none, glob⟩ (iter 0) p.2.1 [.emp] = some (.fresh p.2.2 [], []) := by
  intro p hp
  simp only [clonesL, List.mem_cons, List.not_mem_nil, or_false] at hp
  rcases hp with rfl | rfl | rfl | rfl | rfl | rfl | rfl <;> exact ⟨by kernel_rfl, by kernel_rfl⟩
theorem mixed : Tryz.prog.follows .mixedOrders = true := by kernel_rfl
theorem prim_ok (f : Nat) (args : List PV) (r : PV) (h : prim f args = some (r, [])) : ownFn Tryz.prog f = true ∧ AnsOK Tryz.prog glob [0, 1] f args r := by
  unfold prim at h
  cases hb : Nat.beq f 125 with
  | true =>
    have := Nat.eq_of_beq_eq_true hb
    subst this
    rw [hb] at h
    refine ⟨by kernel_rfl, ?_⟩
    simp only at h
    unfold joinC at h
    split at h <;> first | (cases h; done) | skip
    split at h <;> first | (cases h; done) | skip
    rename_i l hl
    split at h <;> first | (cases h; done) | skip
    rename_i hc
    cases h
    rw [textsOf_inv _ _ hl]
    exact join_ans Tryz.strings_Join_none Tryz.strings_Join l hc.1 hc.2
  | false =>
    rw [hb] at h
    simp only at h
    split at h
    · rename_i c S hl
      have hm := List.all_eq_true.1 insL_ok _ (lookI_mem hl)
      simp only at hm
      have hcall : ∀ g, FnOK Tryz.prog glob [0, 1] (fun _ _ => none) g := fun g args r h => by cases h
      unfold insC at h
      split at h
      · rename_i s rows i t row
        split at h
        · rename_i hc
          obtain ⟨rfl, rfl, h0, h1, h2⟩ := hc
          cases h
          refine ⟨?_, ?_⟩
          · have h1 := lookI_mem hl
            simp only [insL, List.mem_cons, List.not_mem_nil, or_false] at h1
            cases h1
            exact own91
          · have := ins_all hl rows row i.toNat h1 h2
            rwa [Int.toNat_of_nonneg h0] at this
        · exact fn_ok mixed hcall 0 hm h
      · exact fn_ok mixed hcall 0 hm h
    refine primC_ok (cl := lookC clonesL) mixed (fun f c r h => ?_) h
    obtain ⟨z, h1, rfl⟩ := lookC_mem h
    have h2 := List.all_eq_true.1 clonesL_ok _ h1
    obtain ⟨h3, h4⟩ := clo_both _ h1
    exact ⟨h2, h3, h4⟩
theorem ans {n f : Nat} {args : List PV} {r : PV} (h : run tab prim glob n f args = some (r, [])) : AnsOK Tryz.prog glob [0, 1] f args r :=
  (run_ok mixed tab_ok (fun f args r _ h => prim_ok f args r h) n f args r h).2
theorem enters {f n : Nat} {fn : IFn} {args : List PV} (h : tab f = some fn) : run tab prim glob (n + 1) f args = evFn ⟨run tab prim glob n, glob⟩ (iter n) fn args := by
  simp only [run, h]
theorem awake_ok (n : Nat) : run tab prim glob (n + 60) 10 [] = some (.bool true, []) := by kernel_rfl
end Go.Proofs.YtefoleocbhkobaaGreatDoor
namespace Go.Proofs.YtefoleocbhkobaaGreatDoor
open Go Go.Ev
set_option linter.unusedSectionVars false
set_option linter.unusedSimpArgs false
set_option linter.unusedVariables false
structure St where
  wall : Int
  tick : Int
  node : Int
structure Pl where
  lo : List UInt8
  hi : List UInt8
  shard : Int
  cell : Int
  epoch : Int
structure Inf where
  view : Int
  members : List Int
  whole : Bool
structure Le where
  id : Int
  left : Int
  tm : St
structure Rw where
  client : Int
  req : Int
  lease : Int
  tm : St
  err : Int
structure Jb where
  kind : Int
  step : Int
  id : Int
  shard : Int
  other : Int
  cell : Int
  to : Int
  epoch : Int
  key : List UInt8
  parts : List (List UInt8)
  part : Int
  client : Int
  req : Int
  lo : List UInt8
  hi : List UInt8
  wait : List Int
  tm : St
  members : List Int
structure Dr where
  places : List Pl
  cells : List Inf
  next : Int
  leases : List Le
  lows : List St
  mark : St
  job : Jb
  opened : List Rw
abbrev i64 (n : Int) : PV := .int .i64 n
def ints (l : List Int) : PV := .ro (l.map fun n => [.int .i64 n])
def St.cells (s : St) : List PV := [.int .i64 s.wall, .int .i64 s.tick, .int .i64 s.node]
def Pl.cells (p : Pl) : List PV := [.str p.lo, .str p.hi, .int .i64 p.shard, .int .i64 p.cell, .int .i64 p.epoch]
def Inf.cells (p : Inf) : List PV := [.int .i64 p.view, ints p.members, .bool p.whole]
def Le.cells (p : Le) : List PV := [.int .i64 p.id, .int .i64 p.left, .int .i64 p.tm.wall, .int .i64 p.tm.tick, .int .i64 p.tm.node]
def Rw.cells (p : Rw) : List PV := [.int .i64 p.client, .int .i64 p.req, .int .i64 p.lease, .int .i64 p.tm.wall, .int .i64 p.tm.tick, .int .i64 p.tm.node, .int .i64 p.err]
def St.pv (s : St) : PV := .agg [.int .i64 s.wall, .int .i64 s.tick, .int .i64 s.node]
def rng (least most x : Int) : Bool := decide (least ≤ x) && decide (x ≤ most)
def St.right (s : St) : Bool := rng 0 1099511627776 s.wall && rng 0 1048576 s.tick && rng 0 255 s.node
theorem within_ok {N : Nat} (hN : 1 ≤ N) (x m : Int) : run tab prim glob N 83 [.int .i64 x, .int .i64 m] = some (.bool (rng 0 m x), []) := by
  obtain ⟨n, rfl⟩ : ∃ n, N = n + 1 := ⟨N - 1, by omega⟩
  rw [enters (fn := c83) rfl]
  by_cases h1_ : 0 ≤ x
  · by_cases h2_ : x ≤ m
    · simp only [go_sem, Nat.reduceAdd, Nat.reduceMul, reduceIte, Nat.reduceLeDiff, Int.reduceLE, Int.reduceLT, Int.reduceToNat, c83, o83_1, o83_2, rng, h1_, Int.not_lt.2 h1_, h2_, Int.not_lt.2 h2_]
    · simp only [go_sem, Nat.reduceAdd, Nat.reduceMul, reduceIte, Nat.reduceLeDiff, Int.reduceLE, Int.reduceLT, Int.reduceToNat, c83, o83_1, o83_2, rng, h1_, Int.not_lt.2 h1_, h2_, Int.not_le.1 h2_]
  · simp only [go_sem, Nat.reduceAdd, Nat.reduceMul, reduceIte, Nat.reduceLeDiff, Int.reduceLE, Int.reduceLT, Int.reduceToNat, c83, o83_1, o83_2, rng, h1_, Int.not_le.1 h1_]
theorem stampR_ok {N : Nat} (hN : 2 ≤ N) (s : St) : run tab prim glob N 31 [s.pv] = some (.bool s.right, []) := by
  obtain ⟨n, rfl⟩ : ∃ n, N = n + 2 := ⟨N - 2, by omega⟩
  rw [enters (n := n + 1) (fn := c31) rfl]
  by_cases h1_ : rng 0 1099511627776 s.wall = true
  · by_cases h2_ : rng 0 1048576 s.tick = true
    · by_cases h3_ : rng 0 255 s.node = true
      · simp only [go_sem, Nat.reduceAdd, Nat.reduceMul, reduceIte, Nat.reduceLeDiff, Int.reduceLE, Int.reduceLT, Int.reduceToNat, c31, o31_1, o31_2, St.pv, St.right, within_ok, Bool.not_eq_true, h1_, h2_, h3_]
      · simp only [go_sem, Nat.reduceAdd, Nat.reduceMul, reduceIte, Nat.reduceLeDiff, Int.reduceLE, Int.reduceLT, Int.reduceToNat, c31, o31_1, o31_2, St.pv, St.right, within_ok, Bool.not_eq_true, h1_, h2_, h3_]
    · simp only [go_sem, Nat.reduceAdd, Nat.reduceMul, reduceIte, Nat.reduceLeDiff, Int.reduceLE, Int.reduceLT, Int.reduceToNat, c31, o31_1, o31_2, St.pv, St.right, within_ok, Bool.not_eq_true, h1_, h2_]
  · simp only [go_sem, Nat.reduceAdd, Nat.reduceMul, reduceIte, Nat.reduceLeDiff, Int.reduceLE, Int.reduceLT, Int.reduceToNat, c31, o31_1, o31_2, St.pv, St.right, within_ok, Bool.not_eq_true, h1_]
theorem stampR05_ok {N : Nat} (hN : 1 ≤ N) (s : St) : run tab prim glob N 38 [s.pv] = some (.bool s.right, []) := by
  obtain ⟨n, rfl⟩ : ∃ n, N = n + 1 := ⟨N - 1, by omega⟩
  rw [enters (fn := c38) rfl]
  by_cases h1_ : 0 ≤ s.wall
  · by_cases h2_ : s.wall ≤ 1099511627776
    · by_cases h3_ : 0 ≤ s.tick
      · by_cases h4_ : s.tick ≤ 1048576
        · by_cases h5_ : 0 ≤ s.node
          · by_cases h6_ : s.node ≤ 255
            · simp only [go_sem, Nat.reduceAdd, Nat.reduceMul, reduceIte, Nat.reduceLeDiff, Int.reduceLE, Int.reduceLT, Int.reduceToNat, c38, o38_1, o38_2, St.pv, St.right, rng, h1_, Int.not_lt.2 h1_, h2_, Int.not_lt.2 h2_, h3_, Int.not_lt.2 h3_, h4_, Int.not_lt.2 h4_, h5_, Int.not_lt.2 h5_, h6_, Int.not_lt.2 h6_]
            · simp only [go_sem, Nat.reduceAdd, Nat.reduceMul, reduceIte, Nat.reduceLeDiff, Int.reduceLE, Int.reduceLT, Int.reduceToNat, c38, o38_1, o38_2, St.pv, St.right, rng, h1_, Int.not_lt.2 h1_, h2_, Int.not_lt.2 h2_, h3_, Int.not_lt.2 h3_, h4_, Int.not_lt.2 h4_, h5_, Int.not_lt.2 h5_, h6_, Int.not_le.1 h6_]
          · simp only [go_sem, Nat.reduceAdd, Nat.reduceMul, reduceIte, Nat.reduceLeDiff, Int.reduceLE, Int.reduceLT, Int.reduceToNat, c38, o38_1, o38_2, St.pv, St.right, rng, h1_, Int.not_lt.2 h1_, h2_, Int.not_lt.2 h2_, h3_, Int.not_lt.2 h3_, h4_, Int.not_lt.2 h4_, h5_, Int.not_le.1 h5_]
        · simp only [go_sem, Nat.reduceAdd, Nat.reduceMul, reduceIte, Nat.reduceLeDiff, Int.reduceLE, Int.reduceLT, Int.reduceToNat, c38, o38_1, o38_2, St.pv, St.right, rng, h1_, Int.not_lt.2 h1_, h2_, Int.not_lt.2 h2_, h3_, Int.not_lt.2 h3_, h4_, Int.not_le.1 h4_]
      · simp only [go_sem, Nat.reduceAdd, Nat.reduceMul, reduceIte, Nat.reduceLeDiff, Int.reduceLE, Int.reduceLT, Int.reduceToNat, c38, o38_1, o38_2, St.pv, St.right, rng, h1_, Int.not_lt.2 h1_, h2_, Int.not_lt.2 h2_, h3_, Int.not_le.1 h3_]
    · simp only [go_sem, Nat.reduceAdd, Nat.reduceMul, reduceIte, Nat.reduceLeDiff, Int.reduceLE, Int.reduceLT, Int.reduceToNat, c38, o38_1, o38_2, St.pv, St.right, rng, h1_, Int.not_lt.2 h1_, h2_, Int.not_le.1 h2_]
  · simp only [go_sem, Nat.reduceAdd, Nat.reduceMul, reduceIte, Nat.reduceLeDiff, Int.reduceLE, Int.reduceLT, Int.reduceToNat, c38, o38_1, o38_2, St.pv, St.right, rng, h1_, Int.not_le.1 h1_]
theorem fits_ok {N : Nat} (hN : 1 ≤ N) (x : Int) : run tab prim glob N 37 [.int .i64 x] = some (.bool (rng 0 1099511627776 x), []) := by
  obtain ⟨n, rfl⟩ : ∃ n, N = n + 1 := ⟨N - 1, by omega⟩
  rw [enters (fn := c37) rfl]
  by_cases h1_ : 0 ≤ x
  · by_cases h2_ : x ≤ 1099511627776
    · simp only [go_sem, Nat.reduceAdd, Nat.reduceMul, reduceIte, Nat.reduceLeDiff, Int.reduceLE, Int.reduceLT, Int.reduceToNat, c37, o37_1, o37_2, rng, h1_, Int.not_lt.2 h1_, h2_, Int.not_lt.2 h2_]
    · simp only [go_sem, Nat.reduceAdd, Nat.reduceMul, reduceIte, Nat.reduceLeDiff, Int.reduceLE, Int.reduceLT, Int.reduceToNat, c37, o37_1, o37_2, rng, h1_, Int.not_lt.2 h1_, h2_, Int.not_le.1 h2_]
  · simp only [go_sem, Nat.reduceAdd, Nat.reduceMul, reduceIte, Nat.reduceLeDiff, Int.reduceLE, Int.reduceLT, Int.reduceToNat, c37, o37_1, o37_2, rng, h1_, Int.not_le.1 h1_]
theorem number_ok {N : Nat} (hN : 1 ≤ N) (x : Int) : run tab prim glob N 78 [.int .i64 x] = some (.bool (rng 1 1099511627776 x), []) := by
  obtain ⟨n, rfl⟩ : ∃ n, N = n + 1 := ⟨N - 1, by omega⟩
  rw [enters (fn := c78) rfl]
  by_cases h1_ : 1 ≤ x
  · by_cases h2_ : x ≤ 1099511627776
    · simp only [go_sem, Nat.reduceAdd, Nat.reduceMul, reduceIte, Nat.reduceLeDiff, Int.reduceLE, Int.reduceLT, Int.reduceToNat, c78, o78_1, o78_2, rng, h1_, Int.not_lt.2 h1_, h2_, Int.not_lt.2 h2_]
    · simp only [go_sem, Nat.reduceAdd, Nat.reduceMul, reduceIte, Nat.reduceLeDiff, Int.reduceLE, Int.reduceLT, Int.reduceToNat, c78, o78_1, o78_2, rng, h1_, Int.not_lt.2 h1_, h2_, Int.not_le.1 h2_]
  · simp only [go_sem, Nat.reduceAdd, Nat.reduceMul, reduceIte, Nat.reduceLeDiff, Int.reduceLE, Int.reduceLT, Int.reduceToNat, c78, o78_1, o78_2, rng, h1_, Int.not_le.1 h1_]
theorem number15_ok {N : Nat} (hN : 1 ≤ N) (x : Int) : run tab prim glob N 85 [.int .i64 x] = some (.bool (rng 1 1099511627776 x), []) := by
  obtain ⟨n, rfl⟩ : ∃ n, N = n + 1 := ⟨N - 1, by omega⟩
  rw [enters (fn := c85) rfl]
  have e : (0 < x) = (1 ≤ x) := by simp; omega
  by_cases h1_ : 1 ≤ x
  · by_cases h2_ : x ≤ 1099511627776
    · simp only [go_sem, Nat.reduceAdd, Nat.reduceMul, reduceIte, Nat.reduceLeDiff, Int.reduceLE, Int.reduceLT, Int.reduceToNat, c85, o85_1, o85_2, rng, e, h1_, Int.not_lt.2 h1_, h2_, Int.not_lt.2 h2_]
    · simp only [go_sem, Nat.reduceAdd, Nat.reduceMul, reduceIte, Nat.reduceLeDiff, Int.reduceLE, Int.reduceLT, Int.reduceToNat, c85, o85_1, o85_2, rng, e, h1_, Int.not_lt.2 h1_, h2_, Int.not_le.1 h2_]
  · simp only [go_sem, Nat.reduceAdd, Nat.reduceMul, reduceIte, Nat.reduceLeDiff, Int.reduceLE, Int.reduceLT, Int.reduceToNat, c85, o85_1, o85_2, rng, e, h1_, Int.not_le.1 h1_]
theorem cell_ok {N : Nat} (hN : 1 ≤ N) (x : Int) : run tab prim glob N 79 [.int .i64 x] = some (.bool (rng 1 3 x), []) := by
  obtain ⟨n, rfl⟩ : ∃ n, N = n + 1 := ⟨N - 1, by omega⟩
  rw [enters (fn := c79) rfl]
  by_cases h1_ : 1 ≤ x
  · by_cases h2_ : x ≤ 3
    · simp only [go_sem, Nat.reduceAdd, Nat.reduceMul, reduceIte, Nat.reduceLeDiff, Int.reduceLE, Int.reduceLT, Int.reduceToNat, c79, o79_1, o79_2, rng, h1_, Int.not_lt.2 h1_, h2_, Int.not_lt.2 h2_]
    · simp only [go_sem, Nat.reduceAdd, Nat.reduceMul, reduceIte, Nat.reduceLeDiff, Int.reduceLE, Int.reduceLT, Int.reduceToNat, c79, o79_1, o79_2, rng, h1_, Int.not_lt.2 h1_, h2_, Int.not_le.1 h2_]
  · simp only [go_sem, Nat.reduceAdd, Nat.reduceMul, reduceIte, Nat.reduceLeDiff, Int.reduceLE, Int.reduceLT, Int.reduceToNat, c79, o79_1, o79_2, rng, h1_, Int.not_le.1 h1_]
end Go.Proofs.YtefoleocbhkobaaGreatDoor
namespace Go.Proofs.YtefoleocbhkobaaGreatDoor
open Go Go.Ev
set_option linter.unusedSectionVars false
set_option linter.unusedSimpArgs false
set_option linter.unusedVariables false
def Ends (o : Out) (P : Ex → Env → Heap → Prop) : Prop := ∃ ex env H, o = some (ex, env, H) ∧ P ex env H
def afterIt (o : Out) (g : Env → Heap → Out) : Out :=
  match o with
  | some (.nor, e, h) => g e h
  | r => r
theorem iter_step (m : Nat) (f : Env → Heap → Out) (env : Env) (H : Heap) : iter (m + 1) f env H = afterIt (f env H) (iter m f) := rfl
theorem Ends.of {ex : Ex} {env : Env} {H : Heap} {P : Ex → Env → Heap → Prop} (h : P ex env H) : Ends (some (ex, env, H)) P := ⟨_, _, _, rfl, h⟩
def leasesFrom (last : Int) : List Le → Bool
  | [] => true
  | l :: r => decide (last < l.id) && decide (l.id ≤ 1099511627776) && decide (1 ≤ l.left) && decide (l.left ≤ 20) && l.tm.right && leasesFrom l.id r
def leasesRight (l : List Le) : Bool := leasesFrom 0 l && decide (l.length ≤ 4)
theorem cast_add {i : Nat} (h : i ≤ 1000000000) : IntKind.i64.wrap ((i : Int) + 1) = ((i + 1 : Nat) : Int) := by
  rw [IntWalk.i64_in _ (by omega)]; omega
theorem Ends.at {g : Env → Heap → Out} {c : Option (Env × Heap)} {gh : Gh} {P : Ex → Env → Heap → Prop} (h : ∀ env H, evGh gh env H = c → Ends (g env H) P) {env : Env} {H : Heap} {o : Out} (ho : g env H = o) (hk : evGh gh env H = c) :
    ∃ ex e h, o = some (ex, e, h) ∧ P ex e h := by
  subst ho
  exact h env H hk
def Tells (b : Bool) (k : Nat) (v : PV) (t : Nat) (u : PV) : Ex → Env → Heap → Prop := fun ex e _ => if b then ex = .exit 0 ∧ getT e k = v else ex = .ret ∧ getT e t = u
theorem loop30 {n : Nat} (l : List Le) (hl : l.length ≤ 2000000) : ∀ (rest pre : List Le) (last : Int) (m : Nat) (env : Env) (H : Heap), l = pre ++ rest → rest.length + 1 ≤ m →
    evGh (.keep [0, 3, 6, 7, 8] []) env H = some ([(0, .ro (l.map Le.cells)), (3, .int .i64 last), (6, .ro (l.map Le.cells)), (7, .int .i64 l.length), (8, .int .i64 pre.length)], []) →
    Ends (iter m (evCode ⟨run tab prim glob (n + 2), glob⟩ (iter (n + 2)) b30_1) env H) (Tells (leasesFrom last rest) 0 (.ro (l.map Le.cells)) 2 (.bool false))
  | [], pre, last, m + 1, env, H, hp, hm, hk => by
    have e1 : pre.length = l.length := by rw [hp]; simp
    rw [iter_step]
    generalize iter m (evCode ⟨run tab prim glob (n + 2), glob⟩ (iter (n + 2)) b30_1) = g
    simp only [b30_1, ob30_1_1, ob30_1_2, ob30_1_3, ob30_1_4, ob30_1_5, ob30_1_6, hk, go_sem, Nat.reduceAdd, Nat.reduceMul, reduceIte, Nat.reduceLeDiff, Int.reduceLE, Int.reduceLT, Int.reduceToNat, e1, Int.lt_irrefl, afterIt]
    exact Ends.of ⟨rfl, rfl⟩
  | x :: rest, pre, last, m + 1, env, H, hp, hm, hk => by
    have e0 : pre.length < l.length := by rw [hp]; simp
    have e1 : (pre.length : Int) < (l.length : Int) := by omega
    have e2 : (0 : Int) ≤ (pre.length : Int) := by omega
    have e3 : (l.map Le.cells)[pre.length]? = some [.int .i64 x.id, .int .i64 x.left, .int .i64 x.tm.wall, .int .i64 x.tm.tick, .int .i64 x.tm.node] := by rw [hp]; simp [Le.cells]
    have e4 : IntKind.i64.wrap ((pre.length : Int) + 1) = ((pre.length + 1 : Nat) : Int) := cast_add (by omega)
    have hs : run tab prim glob (n + 2) 31 [.agg [.int .i64 x.tm.wall, .int .i64 x.tm.tick, .int .i64 x.tm.node]] = some (.bool x.tm.right, []) := stampR_ok (by omega) x.tm
    have ih := loop30 (n := n) l hl rest (pre ++ [x]) x.id m
    rw [iter_step]
    generalize iter m (evCode ⟨run tab prim glob (n + 2), glob⟩ (iter (n + 2)) b30_1) = g at ih ⊢
    by_cases h1_ : last < x.id
    · by_cases h2_ : x.id ≤ 1099511627776
      · by_cases h3_ : 1 ≤ x.left
        · by_cases h4_ : x.left ≤ 20
          · by_cases h5_ : x.tm.right = true
            · simp only [go_sem, Nat.reduceAdd, Nat.reduceMul, reduceIte, Nat.reduceLeDiff, Int.reduceLE, Int.reduceLT, Int.reduceToNat, b30_1, ob30_1_1, ob30_1_2, ob30_1_3, ob30_1_4, ob30_1_5, ob30_1_6, hk, e1, e2, e3, e4, hs, leasesFrom, afterIt, h1_, Int.not_le.2 h1_, h2_, Int.not_lt.2 h2_, h3_, Int.not_lt.2 h3_, h4_, Int.not_lt.2 h4_, h5_]
              refine ih _ _ (by rw [hp]; simp) (by simp at hm; omega) ?_
              rw [List.length_append]; rfl
            · simp only [go_sem, Nat.reduceAdd, Nat.reduceMul, reduceIte, Nat.reduceLeDiff, Int.reduceLE, Int.reduceLT, Int.reduceToNat, b30_1, ob30_1_1, ob30_1_2, ob30_1_3, ob30_1_4, ob30_1_5, ob30_1_6, hk, e1, e2, e3, e4, hs, leasesFrom, afterIt, h1_, Int.not_le.2 h1_, h2_, Int.not_lt.2 h2_, h3_, Int.not_lt.2 h3_, h4_, Int.not_lt.2 h4_, h5_]
              exact Ends.of ⟨rfl, rfl⟩
          · simp only [go_sem, Nat.reduceAdd, Nat.reduceMul, reduceIte, Nat.reduceLeDiff, Int.reduceLE, Int.reduceLT, Int.reduceToNat, b30_1, ob30_1_1, ob30_1_2, ob30_1_3, ob30_1_4, ob30_1_5, ob30_1_6, hk, e1, e2, e3, e4, hs, leasesFrom, afterIt, h1_, Int.not_le.2 h1_, h2_, Int.not_lt.2 h2_, h3_, Int.not_lt.2 h3_, h4_, Int.not_le.1 h4_]
            exact Ends.of ⟨rfl, rfl⟩
        · simp only [go_sem, Nat.reduceAdd, Nat.reduceMul, reduceIte, Nat.reduceLeDiff, Int.reduceLE, Int.reduceLT, Int.reduceToNat, b30_1, ob30_1_1, ob30_1_2, ob30_1_3, ob30_1_4, ob30_1_5, ob30_1_6, hk, e1, e2, e3, e4, hs, leasesFrom, afterIt, h1_, Int.not_le.2 h1_, h2_, Int.not_lt.2 h2_, h3_, Int.not_le.1 h3_]
          exact Ends.of ⟨rfl, rfl⟩
      · simp only [go_sem, Nat.reduceAdd, Nat.reduceMul, reduceIte, Nat.reduceLeDiff, Int.reduceLE, Int.reduceLT, Int.reduceToNat, b30_1, ob30_1_1, ob30_1_2, ob30_1_3, ob30_1_4, ob30_1_5, ob30_1_6, hk, e1, e2, e3, e4, hs, leasesFrom, afterIt, h1_, Int.not_le.2 h1_, h2_, Int.not_le.1 h2_]
        exact Ends.of ⟨rfl, rfl⟩
    · simp only [go_sem, Nat.reduceAdd, Nat.reduceMul, reduceIte, Nat.reduceLeDiff, Int.reduceLE, Int.reduceLT, Int.reduceToNat, b30_1, ob30_1_1, ob30_1_2, ob30_1_3, ob30_1_4, ob30_1_5, ob30_1_6, hk, e1, e2, e3, e4, hs, leasesFrom, afterIt, h1_, Int.not_lt.1 h1_]
      exact Ends.of ⟨rfl, rfl⟩
theorem leaseR_ok {N : Nat} (l : List Le) (hl : l.length ≤ 2000000) (hN : l.length + 4 ≤ N) : run tab prim glob N 30 [.ro (l.map Le.cells)] = some (.bool (leasesRight l), []) := by
  obtain ⟨n, rfl⟩ : ∃ n, N = n + 3 := ⟨N - 3, by omega⟩
  rw [enters (n := n + 2) (fn := c30) rfl]
  have hL := fun env H h => loop30 (n := n) l hl l [] 0 (n + 2) env H rfl (by omega) h
  simp only [c30, o30_1, o30_2, o30_3, o30_4, go_sem, Nat.reduceAdd, Nat.reduceMul, reduceIte, Nat.reduceLeDiff, Int.reduceLE, Int.reduceLT, Int.reduceToNat, List.length_map]
  generalize iter (n + 2) (evCode ⟨run tab prim glob (n + 2), glob⟩ (iter (n + 2)) b30_1) = g at hL ⊢
  generalize hE : g _ _ = o
  obtain ⟨ex, env', H', rfl, h2⟩ := Ends.at hL hE rfl
  unfold Tells at h2
  have e5 : ((l.length : Int) ≤ 4) = (l.length ≤ 4) := by simp; omega
  cases hb : leasesFrom 0 l
  · rw [hb] at h2
    obtain ⟨rfl, h3⟩ := h2
    simp only [go_sem, Nat.reduceAdd, Nat.reduceMul, reduceIte, Nat.reduceLeDiff, Int.reduceLE, Int.reduceLT, Int.reduceToNat, h3, leasesRight, hb]
  · rw [hb] at h2
    obtain ⟨rfl, h3⟩ := h2
    simp only [go_sem, Nat.reduceAdd, Nat.reduceMul, reduceIte, Nat.reduceLeDiff, Int.reduceLE, Int.reduceLT, Int.reduceToNat, h3, leasesRight, hb, List.length_map, e5]
end Go.Proofs.YtefoleocbhkobaaGreatDoor
namespace Go.Proofs.YtefoleocbhkobaaGreatDoor
open Go Go.Ev
set_option linter.unusedSectionVars false
set_option linter.unusedSimpArgs false
set_option linter.unusedVariables false
def contB (b : Nat) : Bool := Nat.ble 128 b && Nat.ble b 191
def letter : List Nat → Option (Nat × Nat)
  | [] => none
  | a :: r =>
    if a < 128 then some (a, 1)
    else if a < 194 then none
    else if a < 224 then match r with
      | b :: _ => if contB b then some ((a - 192) * 64 + (b - 128), 2) else none
      | _ => none
    else if a < 240 then match r with
      | b :: c :: _ => if contB b && contB c then
          if ((a - 224) * 64 + (b - 128)) * 64 + (c - 128) < 2048 then none
          else if 55296 ≤ ((a - 224) * 64 + (b - 128)) * 64 + (c - 128) ∧ ((a - 224) * 64 + (b - 128)) * 64 + (c - 128) < 57344 then none
          else some (((a - 224) * 64 + (b - 128)) * 64 + (c - 128), 3)
        else none
      | _ => none
    else if a < 245 then match r with
      | b :: c :: d :: _ => if contB b && contB c && contB d then
          if (((a - 240) * 64 + (b - 128)) * 64 + (c - 128)) * 64 + (d - 128) < 65536 then none
          else if 1114111 < (((a - 240) * 64 + (b - 128)) * 64 + (c - 128)) * 64 + (d - 128) then none
          else some ((((a - 240) * 64 + (b - 128)) * 64 + (c - 128)) * 64 + (d - 128), 4)
        else none
      | _ => none
    else none
def byte (b : UInt8) : Nat := b.toNat
theorem byte_lt (b : UInt8) : b.toNat < 256 := b.toNat_lt
def firstOf (a : Nat) : Int :=
  if a < 128 then 240 else if a < 194 then 241 else if a < 224 then 2 else if a = 224 then 19 else if a < 237 then 3 else if a = 237 then 35 else if a < 240 then 3 else if a = 240 then 52 else if a < 244 then 4 else if a = 244 then 68 else 241
theorem first_all : ((List.range 256).all fun a => decide ((utf8first.drop a)[0]?.bind (fun v => match v with | .int .u8 n => some n | _ => none) = some (firstOf a))) = true := by decide +kernel
theorem first_at {a : Nat} (h : a < 256) : (utf8first.drop a)[0]? = some (.int .u8 (firstOf a)) := by
  have := List.all_eq_true.1 first_all a (List.mem_range.2 h)
  have := of_decide_eq_true this
  cases hx : (utf8first.drop a)[0]? with
  | none => rw [hx] at this; cases this
  | some v =>
    rw [hx] at this
    simp only [Option.bind_some] at this
    split at this <;> first | (cases this; done) | skip
    cases this; rfl
theorem mask_all (m : Nat) (hm : m = 63 ∨ m = 31 ∨ m = 15 ∨ m = 7) : ∀ a : Nat, a < 256 → IntKind.u8.wrap (((BitVec.ofInt IntKind.u8.bits (a : Int) &&& BitVec.ofInt IntKind.u8.bits (m : Int)).toNat : Nat) : Int) = ((a % (m + 1) : Nat) : Int) := by
  have key : ∀ m ∈ [63, 31, 15, 7], ((List.range 256).all fun a => decide (IntKind.u8.wrap (((BitVec.ofInt IntKind.u8.bits (a : Int) &&& BitVec.ofInt IntKind.u8.bits ((m : Nat) : Int)).toNat : Nat) : Int) = ((a % (m + 1) : Nat) : Int))) = true := by
    decide +kernel
  intro a ha
  have h1 : m ∈ [63, 31, 15, 7] := by rcases hm with h | h | h | h <;> simp [h]
  exact of_decide_eq_true (List.all_eq_true.1 (key m h1) a (List.mem_range.2 ha))
theorem or_add (u q k : Nat) (hq : q < 2 ^ k) (hs : u * 2 ^ k + q < 2147483648) : IntKind.i32.wrap (((BitVec.ofInt IntKind.i32.bits ((u * 2 ^ k : Nat) : Int) ||| BitVec.ofInt IntKind.i32.bits ((q : Nat) : Int)).toNat : Nat) : Int) = ((u * 2 ^ k + q : Nat) : Int) := by
  have hb : IntKind.i32.bits = 32 := rfl
  rw [hb, BitVec.ofInt_natCast, BitVec.ofInt_natCast, BitVec.toNat_or, BitVec.toNat_ofNat, BitVec.toNat_ofNat, Nat.mod_eq_of_lt (by omega), Nat.mod_eq_of_lt (by omega)]
  have e : u * 2 ^ k ||| q = u * 2 ^ k + q := by
    rw [Nat.mul_comm, Nat.two_pow_add_eq_or_of_lt hq]
  rw [e]
  exact IntWalk.i32_in _ (by omega)
theorem shl32 (u k : Nat) (hk : k ≤ 32) (hs : u * 2 ^ k < 2147483648) : IntKind.i32.wrap ((u : Int) * 2 ^ (min ((k : Int).toNat) IntKind.i32.bits)) = ((u * 2 ^ k : Nat) : Int) := by
  have : min ((k : Int).toNat) IntKind.i32.bits = k := by
    have hb : IntKind.i32.bits = 32 := rfl
    rw [hb]; simp; omega
  rw [this]
  have e : (u : Int) * 2 ^ k = ((u * 2 ^ k : Nat) : Int) := by simp
  rw [e]
  exact IntWalk.i32_in _ (by omega)
end Go.Proofs.YtefoleocbhkobaaGreatDoor
namespace Go.Proofs.YtefoleocbhkobaaGreatDoor
open Go Go.Ev
set_option linter.unusedSectionVars false
set_option linter.unusedSimpArgs false
set_option linter.unusedVariables false
def noLetter : PV := .tuple [.int .i32 65533, .int .i64 1]
theorem contB_eq (b : Nat) : contB b = (decide ((128 : Int) ≤ b) && decide ((b : Int) ≤ 191)) := by
  have e : ∀ p q : Nat, Nat.ble p q = decide ((p : Int) ≤ (q : Int)) := by
    intro p q
    cases h : Nat.ble p q
    · rw [eq_comm, decide_eq_false_iff_not]
      intro hh
      have := Nat.ble_eq_true_of_le (show p ≤ q by omega)
      rw [h] at this; cases this
    · have := Nat.le_of_ble_eq_true h
      rw [eq_comm, decide_eq_true_eq]; omega
  rw [contB, e, e]; rfl
section
variable {n : Nat} {a : UInt8} {r : List UInt8} {F : Int}
theorem ble_first (a : UInt8) : Nat.ble a.toNat utf8first.length = true := by
  have : utf8first.length = 256 := by decide +kernel
  rw [this]; exact Nat.ble_eq_true_of_le (Nat.le_of_lt a.toNat_lt)
theorem slow_bad (hF : firstOf a.toNat = 241) : run tab prim glob (n + 1) 154 [.str (a :: r)] = some (noLetter, []) := by
  have f0 := first_at a.toNat_lt
  rw [hF] at f0
  have b0 := ble_first a
  have l0 : ¬ (((r.length + 1 : Nat) : Int) < 1) := by omega
  have a0 : (0 : Int) ≤ (a.toNat : Int) := by omega
  have a1 : (a.toNat : Int) < 256 := by have := a.toNat_lt; omega
  have w1 : IntKind.i32.wrap 241 = 241 := by decide
  have w2 : IntKind.i32.wrap (241 * 2 ^ min 31 IntKind.i32.bits) = -2147483648 := by decide
  have w3 : (-2147483648 : Int).fdiv (2 ^ min 31 IntKind.i32.bits) = -1 := by decide
  have w4 : ∀ x, IntKind.i32.wrap (((BitVec.ofInt IntKind.i32.bits x &&& ~~~BitVec.ofInt IntKind.i32.bits (-1)).toNat : Nat) : Int) = 0 := by
    intro x
    have : ~~~BitVec.ofInt IntKind.i32.bits (-1) = 0 := by decide
    rw [this, show BitVec.ofInt IntKind.i32.bits x &&& 0 = 0 from BitVec.and_zero]; decide
  have w5 : IntKind.i32.wrap (((BitVec.ofInt IntKind.i32.bits 65533 &&& BitVec.ofInt IntKind.i32.bits (-1)).toNat : Nat) : Int) = 65533 := by decide
  have w6 : IntKind.i32.wrap (((BitVec.ofInt IntKind.i32.bits 0 ||| BitVec.ofInt IntKind.i32.bits 65533).toNat : Nat) : Int) = 65533 := by decide
  have s1 : ((31 : Int) < 0) = False := by decide
  rw [enters (fn := c154) rfl]
  simp only [c154, o154_1, o154_2, o154_3, o154_4, o154_5, o154_6, o154_7, o154_8, o154_9, o154_10, o154_11, o154_12, o154_13, o154_14, o154_15, o154_16, o154_17, o154_18, o154_19, o154_20, o154_21, o154_22, o154_23, o154_24, o154_25, o154_26, o154_27, noLetter, glob, w1, w2, w3, w4, w5, w6, s1, evFn, enter, enterC, EC_of, EC_skip, EC_reg, EC_dreg, EC_gh, EC_seq, EC_cond, EC_block, EC_loop, EC_exit, EC_ret, EO_nil, EO_cons, ED_nil, ED_cons, evOp, wants, opd, opds, getT, put, mcells, cellV, allCell, hget, hset, hsets, rdc, fillc, splice, binv, unv, intBin, eqcells, eqk, Ev.flip, isnil, leave, gives1, give1, mov1, movC, lentOf, lends, getR, List.map_cons, List.map_nil, clo, clo2, clo2s, cloP, cloPs, cloL, clo1, args1, arg1, evCall, back, frz_nil, frz_cons, flatv, flat2, flat2L, flatL, flat1, frees, hasAll, adoptR, adopt, adoptL, takeL, deads, newIds, memN, apartN, nodupN, sameLen, apartAll, apartFP, keys, rowOf, rowsOf, rowsIn, szOK, isStrV, bytesOf, within, bound, validO, shifts, List.getElem?_cons_succ, List.getElem?_cons_zero, List.getElem?_nil, Nat.add_zero, Nat.zero_add, Nat.reduceAdd, Nat.reduceMul, List.drop_succ_cons, List.drop_zero, List.drop_nil, List.take_succ_cons, List.take_zero, List.take_nil, List.length_cons, List.length_nil, List.nil_append, List.cons_append, List.append_nil, List.filter_nil, List.filter_cons, Option.map_some, Option.map_none, if_true, if_false, reduceIte, decide_true, decide_false, Bool.not_true, Bool.not_false, beq_self_eq_true, eq_self, Bool.and_true, Bool.true_and, Bool.false_and, Bool.and_false, Bool.or_true, Bool.true_or, Bool.or_false, Bool.false_or, Nat.reduceLeDiff, Int.reduceLE, Int.reduceLT, Int.reduceToNat, Nat.mul_one, Int.toNat_natCast, Int.cast_ofNat_Int, ge_iff_le, gt_iff_lt, f0, b0, l0, a0, a1]
theorem slow2 (hF : firstOf a.toNat = 2) : run tab prim glob (n + 1) 154 [.str (a :: r)] = some (match r with
    | b :: _ => if contB b.toNat then .tuple [.int .i32 ((a.toNat % 32 * 64 + b.toNat % 64 : Nat) : Int), .int .i64 2] else noLetter
    | [] => noLetter, []) := by
  have f0 := first_at a.toNat_lt
  rw [hF] at f0
  have b0 := ble_first a
  have l0 : ¬ (((r.length + 1 : Nat) : Int) < 1) := by omega
  have a0 : (0 : Int) ≤ (a.toNat : Int) := by omega
  have a1 : (a.toNat : Int) < 256 := by have := a.toNat_lt; omega
  have w1 : IntKind.u8.wrap (((BitVec.ofInt IntKind.u8.bits 2 &&& BitVec.ofInt IntKind.u8.bits 7).toNat : Nat) : Int) = 2 := by decide
  have w2 : IntKind.i64.wrap 2 = 2 := by decide
  have w3 : (2 : Int).fdiv (2 ^ min 4 IntKind.u8.bits) = 0 := by decide
  have w4 : (0 : Int) < 16 := by decide
  have w5 : Nat.ble 0 utf8ranges.length = true := by decide
  have w6 : Nat.ble 2 utf8ranges.length = true := by decide +kernel
  have w7 : List.take 2 utf8ranges = [.int .u8 128, .int .u8 191] := by rfl
  have s1 : ((4 : Int) < 0) = False := by decide
  have s2 : ((6 : Int) < 0) = False := by decide
  have m1 := mask_all 31 (by simp) a.toNat a.toNat_lt
  rw [enters (fn := c154) rfl]
  match r with
  | [] =>
    have l1 : (1 : Int) < 2 := by decide
    have l2 : ¬ ((1 : Int) < 1) := by decide
    simp only [c154, o154_1, o154_2, o154_3, o154_4, o154_5, o154_6, o154_7, o154_8, o154_9, o154_10, o154_11, o154_12, o154_13, o154_14, o154_15, o154_16, o154_17, o154_18, o154_19, o154_20, o154_21, o154_22, o154_23, o154_24, o154_25, o154_26, o154_27, noLetter, glob, w1, w2, w3, w4, w5, w6, w7, s1, evFn, enter, enterC, EC_of, EC_skip, EC_reg, EC_dreg, EC_gh, EC_seq, EC_cond, EC_block, EC_loop, EC_exit, EC_ret, EO_nil, EO_cons, ED_nil, ED_cons, evOp, wants, opd, opds, getT, put, mcells, cellV, allCell, hget, hset, hsets, rdc, fillc, splice, binv, unv, intBin, eqcells, eqk, Ev.flip, isnil, leave, gives1, give1, mov1, movC, lentOf, lends, getR, List.map_cons, List.map_nil, clo, clo2, clo2s, cloP, cloPs, cloL, clo1, args1, arg1, evCall, back, frz_nil, frz_cons, flatv, flat2, flat2L, flatL, flat1, frees, hasAll, adoptR, adopt, adoptL, takeL, deads, newIds, memN, apartN, nodupN, sameLen, apartAll, apartFP, keys, rowOf, rowsOf, rowsIn, szOK, isStrV, bytesOf, within, bound, validO, shifts, List.getElem?_cons_succ, List.getElem?_cons_zero, List.getElem?_nil, Nat.add_zero, Nat.zero_add, Nat.reduceAdd, Nat.reduceMul, List.drop_succ_cons, List.drop_zero, List.drop_nil, List.take_succ_cons, List.take_zero, List.take_nil, List.length_cons, List.length_nil, List.nil_append, List.cons_append, List.append_nil, List.filter_nil, List.filter_cons, Option.map_some, Option.map_none, if_true, if_false, reduceIte, decide_true, decide_false, Bool.not_true, Bool.not_false, beq_self_eq_true, eq_self, Bool.and_true, Bool.true_and, Bool.false_and, Bool.and_false, Bool.or_true, Bool.true_or, Bool.or_false, Bool.false_or, Nat.reduceLeDiff, Int.reduceLE, Int.reduceLT, Int.reduceToNat, Nat.mul_one, Int.toNat_natCast, Int.cast_ofNat_Int, ge_iff_le, gt_iff_lt, f0, b0, l0, a0, a1, l1, l2, Nat.zero_mul, List.drop_zero]
  | b :: r =>
    have l1 : ¬ (((((b :: r).length) + 1 : Nat) : Int) < 2) := by simp; omega
    have m2 := mask_all 63 (by simp) b.toNat b.toNat_lt
    have v1 : IntKind.i32.wrap ((a.toNat % 32 : Nat) : Int) = ((a.toNat % 32 : Nat) : Int) := IntWalk.i32_in _ (by omega)
    have v2 : IntKind.i32.wrap ((b.toNat % 64 : Nat) : Int) = ((b.toNat % 64 : Nat) : Int) := IntWalk.i32_in _ (by omega)
    have v3 := shl32 (a.toNat % 32) 6 (by omega) (by omega)
    have v4 := or_add (a.toNat % 32) (b.toNat % 64) 6 (by omega) (by omega)
    simp only [Int.toNat_natCast, Nat.reducePow, Nat.reduceAdd] at v3 v4 m1 m2
    simp only [Int.cast_ofNat_Int] at m1 m2 v3 v4
    have l3 : ¬ (((r.length + 1 + 1 : Nat) : Int) < 1) := by omega
    have l4 : ¬ (((r.length + 1 + 1 : Nat) : Int) < 2) := by omega
    have l5 : (2 : Int) ≤ 2 := by decide
    have q1 := contB_eq b.toNat
    by_cases h1_ : 128 ≤ (b.toNat : Int)
    · by_cases h2_ : (b.toNat : Int) ≤ 191
      · simp only [evFn, enter, enterC, EC_of, EC_skip, EC_reg, EC_dreg, EC_gh, EC_seq, EC_cond, EC_block, EC_loop, EC_exit, EC_ret, EO_nil, EO_cons, ED_nil, ED_cons, evOp, wants, opd, opds, getT, put, mcells, cellV, allCell, hget, hset, hsets, rdc, fillc, splice, binv, unv, intBin, eqcells, eqk, Ev.flip, isnil, leave, gives1, give1, mov1, movC, lentOf, lends, getR, List.map_cons, List.map_nil, clo, clo2, clo2s, cloP, cloPs, cloL, clo1, args1, arg1, evCall, back, frz_nil, frz_cons, flatv, flat2, flat2L, flatL, flat1, frees, hasAll, adoptR, adopt, adoptL, takeL, deads, newIds, memN, apartN, nodupN, sameLen, apartAll, apartFP, keys, rowOf, rowsOf, rowsIn, szOK, isStrV, bytesOf, within, bound, validO, shifts, List.getElem?_cons_succ, List.getElem?_cons_zero, List.getElem?_nil, Nat.add_zero, Nat.zero_add, Nat.reduceAdd, Nat.reduceMul, List.drop_succ_cons, List.drop_zero, List.drop_nil, List.take_succ_cons, List.take_zero, List.take_nil, List.length_cons, List.length_nil, List.nil_append, List.cons_append, List.append_nil, List.filter_nil, List.filter_cons, Option.map_some, Option.map_none, if_true, if_false, reduceIte, decide_true, decide_false, Bool.not_true, Bool.not_false, beq_self_eq_true, eq_self, Bool.and_true, Bool.true_and, Bool.false_and, Bool.and_false, Bool.or_true, Bool.true_or, Bool.or_false, Bool.false_or, Nat.reduceLeDiff, Int.reduceLE, Int.reduceLT, Int.reduceToNat, Nat.mul_one, Int.toNat_natCast, Int.cast_ofNat_Int, ge_iff_le, gt_iff_lt, c154, o154_1, o154_2, o154_3, o154_4, o154_5, o154_6, o154_7, o154_8, o154_9, o154_10, o154_11, o154_12, o154_13, o154_14, o154_15, o154_16, o154_17, o154_18, o154_19, o154_20, o154_21, o154_22, o154_23, o154_24, o154_25, o154_26, o154_27, noLetter, glob, w1, w2, w3, w4, w5, w6, w7, s1, s2, f0, b0, a0, a1, l3, l4, l5, m1, m2, v1, v2, v3, v4, q1, Nat.zero_mul, List.drop_zero, Bool.false_eq_true, h1_, Int.not_lt.2 h1_, h2_, Int.not_lt.2 h2_]
      · simp only [evFn, enter, enterC, EC_of, EC_skip, EC_reg, EC_dreg, EC_gh, EC_seq, EC_cond, EC_block, EC_loop, EC_exit, EC_ret, EO_nil, EO_cons, ED_nil, ED_cons, evOp, wants, opd, opds, getT, put, mcells, cellV, allCell, hget, hset, hsets, rdc, fillc, splice, binv, unv, intBin, eqcells, eqk, Ev.flip, isnil, leave, gives1, give1, mov1, movC, lentOf, lends, getR, List.map_cons, List.map_nil, clo, clo2, clo2s, cloP, cloPs, cloL, clo1, args1, arg1, evCall, back, frz_nil, frz_cons, flatv, flat2, flat2L, flatL, flat1, frees, hasAll, adoptR, adopt, adoptL, takeL, deads, newIds, memN, apartN, nodupN, sameLen, apartAll, apartFP, keys, rowOf, rowsOf, rowsIn, szOK, isStrV, bytesOf, within, bound, validO, shifts, List.getElem?_cons_succ, List.getElem?_cons_zero, List.getElem?_nil, Nat.add_zero, Nat.zero_add, Nat.reduceAdd, Nat.reduceMul, List.drop_succ_cons, List.drop_zero, List.drop_nil, List.take_succ_cons, List.take_zero, List.take_nil, List.length_cons, List.length_nil, List.nil_append, List.cons_append, List.append_nil, List.filter_nil, List.filter_cons, Option.map_some, Option.map_none, if_true, if_false, reduceIte, decide_true, decide_false, Bool.not_true, Bool.not_false, beq_self_eq_true, eq_self, Bool.and_true, Bool.true_and, Bool.false_and, Bool.and_false, Bool.or_true, Bool.true_or, Bool.or_false, Bool.false_or, Nat.reduceLeDiff, Int.reduceLE, Int.reduceLT, Int.reduceToNat, Nat.mul_one, Int.toNat_natCast, Int.cast_ofNat_Int, ge_iff_le, gt_iff_lt, c154, o154_1, o154_2, o154_3, o154_4, o154_5, o154_6, o154_7, o154_8, o154_9, o154_10, o154_11, o154_12, o154_13, o154_14, o154_15, o154_16, o154_17, o154_18, o154_19, o154_20, o154_21, o154_22, o154_23, o154_24, o154_25, o154_26, o154_27, noLetter, glob, w1, w2, w3, w4, w5, w6, w7, s1, s2, f0, b0, a0, a1, l3, l4, l5, m1, m2, v1, v2, v3, v4, q1, Nat.zero_mul, List.drop_zero, Bool.false_eq_true, h1_, Int.not_lt.2 h1_, h2_, Int.not_le.1 h2_]
    · simp only [evFn, enter, enterC, EC_of, EC_skip, EC_reg, EC_dreg, EC_gh, EC_seq, EC_cond, EC_block, EC_loop, EC_exit, EC_ret, EO_nil, EO_cons, ED_nil, ED_cons, evOp, wants, opd, opds, getT, put, mcells, cellV, allCell, hget, hset, hsets, rdc, fillc, splice, binv, unv, intBin, eqcells, eqk, Ev.flip, isnil, leave, gives1, give1, mov1, movC, lentOf, lends, getR, List.map_cons, List.map_nil, clo, clo2, clo2s, cloP, cloPs, cloL, clo1, args1, arg1, evCall, back, frz_nil, frz_cons, flatv, flat2, flat2L, flatL, flat1, frees, hasAll, adoptR, adopt, adoptL, takeL, deads, newIds, memN, apartN, nodupN, sameLen, apartAll, apartFP, keys, rowOf, rowsOf, rowsIn, szOK, isStrV, bytesOf, within, bound, validO, shifts, List.getElem?_cons_succ, List.getElem?_cons_zero, List.getElem?_nil, Nat.add_zero, Nat.zero_add, Nat.reduceAdd, Nat.reduceMul, List.drop_succ_cons, List.drop_zero, List.drop_nil, List.take_succ_cons, List.take_zero, List.take_nil, List.length_cons, List.length_nil, List.nil_append, List.cons_append, List.append_nil, List.filter_nil, List.filter_cons, Option.map_some, Option.map_none, if_true, if_false, reduceIte, decide_true, decide_false, Bool.not_true, Bool.not_false, beq_self_eq_true, eq_self, Bool.and_true, Bool.true_and, Bool.false_and, Bool.and_false, Bool.or_true, Bool.true_or, Bool.or_false, Bool.false_or, Nat.reduceLeDiff, Int.reduceLE, Int.reduceLT, Int.reduceToNat, Nat.mul_one, Int.toNat_natCast, Int.cast_ofNat_Int, ge_iff_le, gt_iff_lt, c154, o154_1, o154_2, o154_3, o154_4, o154_5, o154_6, o154_7, o154_8, o154_9, o154_10, o154_11, o154_12, o154_13, o154_14, o154_15, o154_16, o154_17, o154_18, o154_19, o154_20, o154_21, o154_22, o154_23, o154_24, o154_25, o154_26, o154_27, noLetter, glob, w1, w2, w3, w4, w5, w6, w7, s1, s2, f0, b0, a0, a1, l3, l4, l5, m1, m2, v1, v2, v3, v4, q1, Nat.zero_mul, List.drop_zero, Bool.false_eq_true, h1_, Int.not_le.1 h1_]
theorem slow3 {lo hi : Int} {q0 : Nat} (hF : firstOf a.toNat = F) (g1 : ¬ (240 ≤ F)) (g2 : IntKind.u8.wrap (((BitVec.ofInt IntKind.u8.bits F &&& BitVec.ofInt IntKind.u8.bits 7).toNat : Nat) : Int) = 3)
    (g3 : F.fdiv (2 ^ min 4 IntKind.u8.bits) = (q0 : Int)) (g4 : (q0 : Int) < 16) (g5 : Nat.ble (q0 * 2) utf8ranges.length = true) (g6 : Nat.ble 2 (utf8ranges.drop (q0 * 2)).length = true)
    (g7 : (utf8ranges.drop (q0 * 2)).take 2 = [.int .u8 lo, .int .u8 hi]) : run tab prim glob (n + 1) 154 [.str (a :: r)] = some (match r with
    | b :: c :: _ => if decide (lo ≤ (b.toNat : Int)) && decide ((b.toNat : Int) ≤ hi) && contB c.toNat then .tuple [.int .i32 ((a.toNat % 16 * 4096 + b.toNat % 64 * 64 + c.toNat % 64 : Nat) : Int), .int .i64 3] else noLetter
    | _ => noLetter, []) := by
  have f0 := first_at a.toNat_lt
  rw [hF] at f0
  have b0 := ble_first a
  have l0 : ¬ (((r.length + 1 : Nat) : Int) < 1) := by omega
  have a0 : (0 : Int) ≤ (a.toNat : Int) := by omega
  have a1 : (a.toNat : Int) < 256 := by have := a.toNat_lt; omega
  have a2 : (0 : Int) ≤ (q0 : Int) := by omega
  have w2 : IntKind.i64.wrap 3 = 3 := by decide
  have s1 : ((4 : Int) < 0) = False := by decide
  have s2 : ((6 : Int) < 0) = False := by decide
  have s3 : ((12 : Int) < 0) = False := by decide
  have s4 : ¬ ((3 : Int) ≤ 2) := by decide
  have s5 : (3 : Int) ≤ 3 := by decide
  have m1 := mask_all 15 (by simp) a.toNat a.toNat_lt
  rw [enters (fn := c154) rfl]
  match r with
  | [] =>
    have l1 : (1 : Int) < 3 := by decide
    have l2 : ¬ ((1 : Int) < 1) := by decide
    simp only [c154, o154_1, o154_2, o154_3, o154_4, o154_5, o154_6, o154_7, o154_8, o154_9, o154_10, o154_11, o154_12, o154_13, o154_14, o154_15, o154_16, o154_17, o154_18, o154_19, o154_20, o154_21, o154_22, o154_23, o154_24, o154_25, o154_26, o154_27, noLetter, glob, g1, g2, g3, g4, g5, g6, g7, w2, s1, evFn, enter, enterC, EC_of, EC_skip, EC_reg, EC_dreg, EC_gh, EC_seq, EC_cond, EC_block, EC_loop, EC_exit, EC_ret, EO_nil, EO_cons, ED_nil, ED_cons, evOp, wants, opd, opds, getT, put, mcells, cellV, allCell, hget, hset, hsets, rdc, fillc, splice, binv, unv, intBin, eqcells, eqk, Ev.flip, isnil, leave, gives1, give1, mov1, movC, lentOf, lends, getR, List.map_cons, List.map_nil, clo, clo2, clo2s, cloP, cloPs, cloL, clo1, args1, arg1, evCall, back, frz_nil, frz_cons, flatv, flat2, flat2L, flatL, flat1, frees, hasAll, adoptR, adopt, adoptL, takeL, deads, newIds, memN, apartN, nodupN, sameLen, apartAll, apartFP, keys, rowOf, rowsOf, rowsIn, szOK, isStrV, bytesOf, within, bound, validO, shifts, List.getElem?_cons_succ, List.getElem?_cons_zero, List.getElem?_nil, Nat.add_zero, Nat.zero_add, Nat.reduceAdd, Nat.reduceMul, List.drop_succ_cons, List.drop_zero, List.drop_nil, List.take_succ_cons, List.take_zero, List.take_nil, List.length_cons, List.length_nil, List.nil_append, List.cons_append, List.append_nil, List.filter_nil, List.filter_cons, Option.map_some, Option.map_none, if_true, if_false, reduceIte, decide_true, decide_false, Bool.not_true, Bool.not_false, beq_self_eq_true, eq_self, Bool.and_true, Bool.true_and, Bool.false_and, Bool.and_false, Bool.or_true, Bool.true_or, Bool.or_false, Bool.false_or, Nat.reduceLeDiff, Int.reduceLE, Int.reduceLT, Int.reduceToNat, Nat.mul_one, Int.toNat_natCast, Int.cast_ofNat_Int, ge_iff_le, gt_iff_lt, f0, b0, l0, a0, a1, a2, l1, l2]
  | [b] =>
    have l1 : (2 : Int) < 3 := by decide
    have l2 : ¬ ((2 : Int) < 1) := by decide
    simp only [c154, o154_1, o154_2, o154_3, o154_4, o154_5, o154_6, o154_7, o154_8, o154_9, o154_10, o154_11, o154_12, o154_13, o154_14, o154_15, o154_16, o154_17, o154_18, o154_19, o154_20, o154_21, o154_22, o154_23, o154_24, o154_25, o154_26, o154_27, noLetter, glob, g1, g2, g3, g4, g5, g6, g7, w2, s1, evFn, enter, enterC, EC_of, EC_skip, EC_reg, EC_dreg, EC_gh, EC_seq, EC_cond, EC_block, EC_loop, EC_exit, EC_ret, EO_nil, EO_cons, ED_nil, ED_cons, evOp, wants, opd, opds, getT, put, mcells, cellV, allCell, hget, hset, hsets, rdc, fillc, splice, binv, unv, intBin, eqcells, eqk, Ev.flip, isnil, leave, gives1, give1, mov1, movC, lentOf, lends, getR, List.map_cons, List.map_nil, clo, clo2, clo2s, cloP, cloPs, cloL, clo1, args1, arg1, evCall, back, frz_nil, frz_cons, flatv, flat2, flat2L, flatL, flat1, frees, hasAll, adoptR, adopt, adoptL, takeL, deads, newIds, memN, apartN, nodupN, sameLen, apartAll, apartFP, keys, rowOf, rowsOf, rowsIn, szOK, isStrV, bytesOf, within, bound, validO, shifts, List.getElem?_cons_succ, List.getElem?_cons_zero, List.getElem?_nil, Nat.add_zero, Nat.zero_add, Nat.reduceAdd, Nat.reduceMul, List.drop_succ_cons, List.drop_zero, List.drop_nil, List.take_succ_cons, List.take_zero, List.take_nil, List.length_cons, List.length_nil, List.nil_append, List.cons_append, List.append_nil, List.filter_nil, List.filter_cons, Option.map_some, Option.map_none, if_true, if_false, reduceIte, decide_true, decide_false, Bool.not_true, Bool.not_false, beq_self_eq_true, eq_self, Bool.and_true, Bool.true_and, Bool.false_and, Bool.and_false, Bool.or_true, Bool.true_or, Bool.or_false, Bool.false_or, Nat.reduceLeDiff, Int.reduceLE, Int.reduceLT, Int.reduceToNat, Nat.mul_one, Int.toNat_natCast, Int.cast_ofNat_Int, ge_iff_le, gt_iff_lt, f0, b0, l0, a0, a1, a2, l1, l2]
  | b :: c :: r =>
    have m2 := mask_all 63 (by simp) b.toNat b.toNat_lt
    have m3 := mask_all 63 (by simp) c.toNat c.toNat_lt
    have v1 : IntKind.i32.wrap ((a.toNat % 16 : Nat) : Int) = ((a.toNat % 16 : Nat) : Int) := IntWalk.i32_in _ (by omega)
    have v2 : IntKind.i32.wrap ((b.toNat % 64 : Nat) : Int) = ((b.toNat % 64 : Nat) : Int) := IntWalk.i32_in _ (by omega)
    have v3 : IntKind.i32.wrap ((c.toNat % 64 : Nat) : Int) = ((c.toNat % 64 : Nat) : Int) := IntWalk.i32_in _ (by omega)
    have v4 := shl32 (a.toNat % 16) 12 (by omega) (by omega)
    have v5 := shl32 (b.toNat % 64) 6 (by omega) (by omega)
    have v6 := or_add (a.toNat % 16) (b.toNat % 64 * 64) 12 (by omega) (by omega)
    have v7 := or_add (a.toNat % 16 * 64 + b.toNat % 64) (c.toNat % 64) 6 (by omega) (by omega)
    rw [show (a.toNat % 16 * 64 + b.toNat % 64) * 2 ^ 6 = a.toNat % 16 * 4096 + b.toNat % 64 * 64 by omega] at v7
    simp only [Int.toNat_natCast, Nat.reducePow, Nat.reduceAdd, Int.cast_ofNat_Int, Int.reduceToNat] at m1 m2 m3 v4 v5 v6 v7
    have l3 : ¬ (((r.length + 1 + 1 + 1 : Nat) : Int) < 1) := by omega
    have l4 : ¬ (((r.length + 1 + 1 + 1 : Nat) : Int) < 3) := by omega
    have q1 := contB_eq c.toNat
    by_cases h1_ : lo ≤ (b.toNat : Int)
    · by_cases h2_ : (b.toNat : Int) ≤ hi
      · by_cases h3_ : 128 ≤ (c.toNat : Int)
        · by_cases h4_ : (c.toNat : Int) ≤ 191
          · simp only [evFn, enter, enterC, EC_of, EC_skip, EC_reg, EC_dreg, EC_gh, EC_seq, EC_cond, EC_block, EC_loop, EC_exit, EC_ret, EO_nil, EO_cons, ED_nil, ED_cons, evOp, wants, opd, opds, getT, put, mcells, cellV, allCell, hget, hset, hsets, rdc, fillc, splice, binv, unv, intBin, eqcells, eqk, Ev.flip, isnil, leave, gives1, give1, mov1, movC, lentOf, lends, getR, List.map_cons, List.map_nil, clo, clo2, clo2s, cloP, cloPs, cloL, clo1, args1, arg1, evCall, back, frz_nil, frz_cons, flatv, flat2, flat2L, flatL, flat1, frees, hasAll, adoptR, adopt, adoptL, takeL, deads, newIds, memN, apartN, nodupN, sameLen, apartAll, apartFP, keys, rowOf, rowsOf, rowsIn, szOK, isStrV, bytesOf, within, bound, validO, shifts, List.getElem?_cons_succ, List.getElem?_cons_zero, List.getElem?_nil, Nat.add_zero, Nat.zero_add, Nat.reduceAdd, Nat.reduceMul, List.drop_succ_cons, List.drop_zero, List.drop_nil, List.take_succ_cons, List.take_zero, List.take_nil, List.length_cons, List.length_nil, List.nil_append, List.cons_append, List.append_nil, List.filter_nil, List.filter_cons, Option.map_some, Option.map_none, if_true, if_false, reduceIte, decide_true, decide_false, Bool.not_true, Bool.not_false, beq_self_eq_true, eq_self, Bool.and_true, Bool.true_and, Bool.false_and, Bool.and_false, Bool.or_true, Bool.true_or, Bool.or_false, Bool.false_or, Nat.reduceLeDiff, Int.reduceLE, Int.reduceLT, Int.reduceToNat, Nat.mul_one, Int.toNat_natCast, Int.cast_ofNat_Int, ge_iff_le, gt_iff_lt, c154, o154_1, o154_2, o154_3, o154_4, o154_5, o154_6, o154_7, o154_8, o154_9, o154_10, o154_11, o154_12, o154_13, o154_14, o154_15, o154_16, o154_17, o154_18, o154_19, o154_20, o154_21, o154_22, o154_23, o154_24, o154_25, o154_26, o154_27, noLetter, glob, g1, g2, g3, g4, g5, g6, g7, w2, s1, s2, s3, s4, s5, f0, b0, a0, a1, a2, l3, l4, m1, m2, m3, v1, v2, v3, v4, v5, v6, v7, q1, Bool.false_eq_true, h1_, Int.not_lt.2 h1_, h2_, Int.not_lt.2 h2_, h3_, Int.not_lt.2 h3_, h4_, Int.not_lt.2 h4_]
          · simp only [evFn, enter, enterC, EC_of, EC_skip, EC_reg, EC_dreg, EC_gh, EC_seq, EC_cond, EC_block, EC_loop, EC_exit, EC_ret, EO_nil, EO_cons, ED_nil, ED_cons, evOp, wants, opd, opds, getT, put, mcells, cellV, allCell, hget, hset, hsets, rdc, fillc, splice, binv, unv, intBin, eqcells, eqk, Ev.flip, isnil, leave, gives1, give1, mov1, movC, lentOf, lends, getR, List.map_cons, List.map_nil, clo, clo2, clo2s, cloP, cloPs, cloL, clo1, args1, arg1, evCall, back, frz_nil, frz_cons, flatv, flat2, flat2L, flatL, flat1, frees, hasAll, adoptR, adopt, adoptL, takeL, deads, newIds, memN, apartN, nodupN, sameLen, apartAll, apartFP, keys, rowOf, rowsOf, rowsIn, szOK, isStrV, bytesOf, within, bound, validO, shifts, List.getElem?_cons_succ, List.getElem?_cons_zero, List.getElem?_nil, Nat.add_zero, Nat.zero_add, Nat.reduceAdd, Nat.reduceMul, List.drop_succ_cons, List.drop_zero, List.drop_nil, List.take_succ_cons, List.take_zero, List.take_nil, List.length_cons, List.length_nil, List.nil_append, List.cons_append, List.append_nil, List.filter_nil, List.filter_cons, Option.map_some, Option.map_none, if_true, if_false, reduceIte, decide_true, decide_false, Bool.not_true, Bool.not_false, beq_self_eq_true, eq_self, Bool.and_true, Bool.true_and, Bool.false_and, Bool.and_false, Bool.or_true, Bool.true_or, Bool.or_false, Bool.false_or, Nat.reduceLeDiff, Int.reduceLE, Int.reduceLT, Int.reduceToNat, Nat.mul_one, Int.toNat_natCast, Int.cast_ofNat_Int, ge_iff_le, gt_iff_lt, c154, o154_1, o154_2, o154_3, o154_4, o154_5, o154_6, o154_7, o154_8, o154_9, o154_10, o154_11, o154_12, o154_13, o154_14, o154_15, o154_16, o154_17, o154_18, o154_19, o154_20, o154_21, o154_22, o154_23, o154_24, o154_25, o154_26, o154_27, noLetter, glob, g1, g2, g3, g4, g5, g6, g7, w2, s1, s2, s3, s4, s5, f0, b0, a0, a1, a2, l3, l4, m1, m2, m3, v1, v2, v3, v4, v5, v6, v7, q1, Bool.false_eq_true, h1_, Int.not_lt.2 h1_, h2_, Int.not_lt.2 h2_, h3_, Int.not_lt.2 h3_, h4_, Int.not_le.1 h4_]
        · simp only [evFn, enter, enterC, EC_of, EC_skip, EC_reg, EC_dreg, EC_gh, EC_seq, EC_cond, EC_block, EC_loop, EC_exit, EC_ret, EO_nil, EO_cons, ED_nil, ED_cons, evOp, wants, opd, opds, getT, put, mcells, cellV, allCell, hget, hset, hsets, rdc, fillc, splice, binv, unv, intBin, eqcells, eqk, Ev.flip, isnil, leave, gives1, give1, mov1, movC, lentOf, lends, getR, List.map_cons, List.map_nil, clo, clo2, clo2s, cloP, cloPs, cloL, clo1, args1, arg1, evCall, back, frz_nil, frz_cons, flatv, flat2, flat2L, flatL, flat1, frees, hasAll, adoptR, adopt, adoptL, takeL, deads, newIds, memN, apartN, nodupN, sameLen, apartAll, apartFP, keys, rowOf, rowsOf, rowsIn, szOK, isStrV, bytesOf, within, bound, validO, shifts, List.getElem?_cons_succ, List.getElem?_cons_zero, List.getElem?_nil, Nat.add_zero, Nat.zero_add, Nat.reduceAdd, Nat.reduceMul, List.drop_succ_cons, List.drop_zero, List.drop_nil, List.take_succ_cons, List.take_zero, List.take_nil, List.length_cons, List.length_nil, List.nil_append, List.cons_append, List.append_nil, List.filter_nil, List.filter_cons, Option.map_some, Option.map_none, if_true, if_false, reduceIte, decide_true, decide_false, Bool.not_true, Bool.not_false, beq_self_eq_true, eq_self, Bool.and_true, Bool.true_and, Bool.false_and, Bool.and_false, Bool.or_true, Bool.true_or, Bool.or_false, Bool.false_or, Nat.reduceLeDiff, Int.reduceLE, Int.reduceLT, Int.reduceToNat, Nat.mul_one, Int.toNat_natCast, Int.cast_ofNat_Int, ge_iff_le, gt_iff_lt, c154, o154_1, o154_2, o154_3, o154_4, o154_5, o154_6, o154_7, o154_8, o154_9, o154_10, o154_11, o154_12, o154_13, o154_14, o154_15, o154_16, o154_17, o154_18, o154_19, o154_20, o154_21, o154_22, o154_23, o154_24, o154_25, o154_26, o154_27, noLetter, glob, g1, g2, g3, g4, g5, g6, g7, w2, s1, s2, s3, s4, s5, f0, b0, a0, a1, a2, l3, l4, m1, m2, m3, v1, v2, v3, v4, v5, v6, v7, q1, Bool.false_eq_true, h1_, Int.not_lt.2 h1_, h2_, Int.not_lt.2 h2_, h3_, Int.not_le.1 h3_]
      · simp only [evFn, enter, enterC, EC_of, EC_skip, EC_reg, EC_dreg, EC_gh, EC_seq, EC_cond, EC_block, EC_loop, EC_exit, EC_ret, EO_nil, EO_cons, ED_nil, ED_cons, evOp, wants, opd, opds, getT, put, mcells, cellV, allCell, hget, hset, hsets, rdc, fillc, splice, binv, unv, intBin, eqcells, eqk, Ev.flip, isnil, leave, gives1, give1, mov1, movC, lentOf, lends, getR, List.map_cons, List.map_nil, clo, clo2, clo2s, cloP, cloPs, cloL, clo1, args1, arg1, evCall, back, frz_nil, frz_cons, flatv, flat2, flat2L, flatL, flat1, frees, hasAll, adoptR, adopt, adoptL, takeL, deads, newIds, memN, apartN, nodupN, sameLen, apartAll, apartFP, keys, rowOf, rowsOf, rowsIn, szOK, isStrV, bytesOf, within, bound, validO, shifts, List.getElem?_cons_succ, List.getElem?_cons_zero, List.getElem?_nil, Nat.add_zero, Nat.zero_add, Nat.reduceAdd, Nat.reduceMul, List.drop_succ_cons, List.drop_zero, List.drop_nil, List.take_succ_cons, List.take_zero, List.take_nil, List.length_cons, List.length_nil, List.nil_append, List.cons_append, List.append_nil, List.filter_nil, List.filter_cons, Option.map_some, Option.map_none, if_true, if_false, reduceIte, decide_true, decide_false, Bool.not_true, Bool.not_false, beq_self_eq_true, eq_self, Bool.and_true, Bool.true_and, Bool.false_and, Bool.and_false, Bool.or_true, Bool.true_or, Bool.or_false, Bool.false_or, Nat.reduceLeDiff, Int.reduceLE, Int.reduceLT, Int.reduceToNat, Nat.mul_one, Int.toNat_natCast, Int.cast_ofNat_Int, ge_iff_le, gt_iff_lt, c154, o154_1, o154_2, o154_3, o154_4, o154_5, o154_6, o154_7, o154_8, o154_9, o154_10, o154_11, o154_12, o154_13, o154_14, o154_15, o154_16, o154_17, o154_18, o154_19, o154_20, o154_21, o154_22, o154_23, o154_24, o154_25, o154_26, o154_27, noLetter, glob, g1, g2, g3, g4, g5, g6, g7, w2, s1, s2, s3, s4, s5, f0, b0, a0, a1, a2, l3, l4, m1, m2, m3, v1, v2, v3, v4, v5, v6, v7, q1, Bool.false_eq_true, h1_, Int.not_lt.2 h1_, h2_, Int.not_le.1 h2_]
    · simp only [evFn, enter, enterC, EC_of, EC_skip, EC_reg, EC_dreg, EC_gh, EC_seq, EC_cond, EC_block, EC_loop, EC_exit, EC_ret, EO_nil, EO_cons, ED_nil, ED_cons, evOp, wants, opd, opds, getT, put, mcells, cellV, allCell, hget, hset, hsets, rdc, fillc, splice, binv, unv, intBin, eqcells, eqk, Ev.flip, isnil, leave, gives1, give1, mov1, movC, lentOf, lends, getR, List.map_cons, List.map_nil, clo, clo2, clo2s, cloP, cloPs, cloL, clo1, args1, arg1, evCall, back, frz_nil, frz_cons, flatv, flat2, flat2L, flatL, flat1, frees, hasAll, adoptR, adopt, adoptL, takeL, deads, newIds, memN, apartN, nodupN, sameLen, apartAll, apartFP, keys, rowOf, rowsOf, rowsIn, szOK, isStrV, bytesOf, within, bound, validO, shifts, List.getElem?_cons_succ, List.getElem?_cons_zero, List.getElem?_nil, Nat.add_zero, Nat.zero_add, Nat.reduceAdd, Nat.reduceMul, List.drop_succ_cons, List.drop_zero, List.drop_nil, List.take_succ_cons, List.take_zero, List.take_nil, List.length_cons, List.length_nil, List.nil_append, List.cons_append, List.append_nil, List.filter_nil, List.filter_cons, Option.map_some, Option.map_none, if_true, if_false, reduceIte, decide_true, decide_false, Bool.not_true, Bool.not_false, beq_self_eq_true, eq_self, Bool.and_true, Bool.true_and, Bool.false_and, Bool.and_false, Bool.or_true, Bool.true_or, Bool.or_false, Bool.false_or, Nat.reduceLeDiff, Int.reduceLE, Int.reduceLT, Int.reduceToNat, Nat.mul_one, Int.toNat_natCast, Int.cast_ofNat_Int, ge_iff_le, gt_iff_lt, c154, o154_1, o154_2, o154_3, o154_4, o154_5, o154_6, o154_7, o154_8, o154_9, o154_10, o154_11, o154_12, o154_13, o154_14, o154_15, o154_16, o154_17, o154_18, o154_19, o154_20, o154_21, o154_22, o154_23, o154_24, o154_25, o154_26, o154_27, noLetter, glob, g1, g2, g3, g4, g5, g6, g7, w2, s1, s2, s3, s4, s5, f0, b0, a0, a1, a2, l3, l4, m1, m2, m3, v1, v2, v3, v4, v5, v6, v7, q1, Bool.false_eq_true, h1_, Int.not_le.1 h1_]
theorem slow4 {lo hi : Int} {q0 : Nat} (hF : firstOf a.toNat = F) (g1 : ¬ (240 ≤ F)) (g2 : IntKind.u8.wrap (((BitVec.ofInt IntKind.u8.bits F &&& BitVec.ofInt IntKind.u8.bits 7).toNat : Nat) : Int) = 4)
    (g3 : F.fdiv (2 ^ min 4 IntKind.u8.bits) = (q0 : Int)) (g4 : (q0 : Int) < 16) (g5 : Nat.ble (q0 * 2) utf8ranges.length = true) (g6 : Nat.ble 2 (utf8ranges.drop (q0 * 2)).length = true)
    (g7 : (utf8ranges.drop (q0 * 2)).take 2 = [.int .u8 lo, .int .u8 hi]) : run tab prim glob (n + 1) 154 [.str (a :: r)] = some (match r with
    | b :: c :: d :: _ => if decide (lo ≤ (b.toNat : Int)) && decide ((b.toNat : Int) ≤ hi) && contB c.toNat && contB d.toNat then .tuple [.int .i32 ((a.toNat % 8 * 262144 + b.toNat % 64 * 4096 + c.toNat % 64 * 64 + d.toNat % 64 : Nat) : Int), .int .i64 4] else noLetter
    | _ => noLetter, []) := by
  have f0 := first_at a.toNat_lt
  rw [hF] at f0
  have b0 := ble_first a
  have l0 : ¬ (((r.length + 1 : Nat) : Int) < 1) := by omega
  have a0 : (0 : Int) ≤ (a.toNat : Int) := by omega
  have a1 : (a.toNat : Int) < 256 := by have := a.toNat_lt; omega
  have a2 : (0 : Int) ≤ (q0 : Int) := by omega
  have w2 : IntKind.i64.wrap 4 = 4 := by decide
  have s1 : ((4 : Int) < 0) = False := by decide
  have s2 : ((6 : Int) < 0) = False := by decide
  have s3 : ((12 : Int) < 0) = False := by decide
  have s4 : ¬ ((4 : Int) ≤ 2) := by decide
  have s5 : ¬ (4 : Int) ≤ 3 := by decide
  have s6 : ((18 : Int) < 0) = False := by decide
  have m1 := mask_all 7 (by simp) a.toNat a.toNat_lt
  rw [enters (fn := c154) rfl]
  match r with
  | [] =>
    have l1 : (1 : Int) < 4 := by decide
    have l2 : ¬ ((1 : Int) < 1) := by decide
    simp only [c154, o154_1, o154_2, o154_3, o154_4, o154_5, o154_6, o154_7, o154_8, o154_9, o154_10, o154_11, o154_12, o154_13, o154_14, o154_15, o154_16, o154_17, o154_18, o154_19, o154_20, o154_21, o154_22, o154_23, o154_24, o154_25, o154_26, o154_27, noLetter, glob, g1, g2, g3, g4, g5, g6, g7, w2, s1, evFn, enter, enterC, EC_of, EC_skip, EC_reg, EC_dreg, EC_gh, EC_seq, EC_cond, EC_block, EC_loop, EC_exit, EC_ret, EO_nil, EO_cons, ED_nil, ED_cons, evOp, wants, opd, opds, getT, put, mcells, cellV, allCell, hget, hset, hsets, rdc, fillc, splice, binv, unv, intBin, eqcells, eqk, Ev.flip, isnil, leave, gives1, give1, mov1, movC, lentOf, lends, getR, List.map_cons, List.map_nil, clo, clo2, clo2s, cloP, cloPs, cloL, clo1, args1, arg1, evCall, back, frz_nil, frz_cons, flatv, flat2, flat2L, flatL, flat1, frees, hasAll, adoptR, adopt, adoptL, takeL, deads, newIds, memN, apartN, nodupN, sameLen, apartAll, apartFP, keys, rowOf, rowsOf, rowsIn, szOK, isStrV, bytesOf, within, bound, validO, shifts, List.getElem?_cons_succ, List.getElem?_cons_zero, List.getElem?_nil, Nat.add_zero, Nat.zero_add, Nat.reduceAdd, Nat.reduceMul, List.drop_succ_cons, List.drop_zero, List.drop_nil, List.take_succ_cons, List.take_zero, List.take_nil, List.length_cons, List.length_nil, List.nil_append, List.cons_append, List.append_nil, List.filter_nil, List.filter_cons, Option.map_some, Option.map_none, if_true, if_false, reduceIte, decide_true, decide_false, Bool.not_true, Bool.not_false, beq_self_eq_true, eq_self, Bool.and_true, Bool.true_and, Bool.false_and, Bool.and_false, Bool.or_true, Bool.true_or, Bool.or_false, Bool.false_or, Nat.reduceLeDiff, Int.reduceLE, Int.reduceLT, Int.reduceToNat, Nat.mul_one, Int.toNat_natCast, Int.cast_ofNat_Int, ge_iff_le, gt_iff_lt, f0, b0, l0, a0, a1, a2, l1, l2]
  | [b] =>
    have l1 : (2 : Int) < 4 := by decide
    have l2 : ¬ ((2 : Int) < 1) := by decide
    simp only [c154, o154_1, o154_2, o154_3, o154_4, o154_5, o154_6, o154_7, o154_8, o154_9, o154_10, o154_11, o154_12, o154_13, o154_14, o154_15, o154_16, o154_17, o154_18, o154_19, o154_20, o154_21, o154_22, o154_23, o154_24, o154_25, o154_26, o154_27, noLetter, glob, g1, g2, g3, g4, g5, g6, g7, w2, s1, evFn, enter, enterC, EC_of, EC_skip, EC_reg, EC_dreg, EC_gh, EC_seq, EC_cond, EC_block, EC_loop, EC_exit, EC_ret, EO_nil, EO_cons, ED_nil, ED_cons, evOp, wants, opd, opds, getT, put, mcells, cellV, allCell, hget, hset, hsets, rdc, fillc, splice, binv, unv, intBin, eqcells, eqk, Ev.flip, isnil, leave, gives1, give1, mov1, movC, lentOf, lends, getR, List.map_cons, List.map_nil, clo, clo2, clo2s, cloP, cloPs, cloL, clo1, args1, arg1, evCall, back, frz_nil, frz_cons, flatv, flat2, flat2L, flatL, flat1, frees, hasAll, adoptR, adopt, adoptL, takeL, deads, newIds, memN, apartN, nodupN, sameLen, apartAll, apartFP, keys, rowOf, rowsOf, rowsIn, szOK, isStrV, bytesOf, within, bound, validO, shifts, List.getElem?_cons_succ, List.getElem?_cons_zero, List.getElem?_nil, Nat.add_zero, Nat.zero_add, Nat.reduceAdd, Nat.reduceMul, List.drop_succ_cons, List.drop_zero, List.drop_nil, List.take_succ_cons, List.take_zero, List.take_nil, List.length_cons, List.length_nil, List.nil_append, List.cons_append, List.append_nil, List.filter_nil, List.filter_cons, Option.map_some, Option.map_none, if_true, if_false, reduceIte, decide_true, decide_false, Bool.not_true, Bool.not_false, beq_self_eq_true, eq_self, Bool.and_true, Bool.true_and, Bool.false_and, Bool.and_false, Bool.or_true, Bool.true_or, Bool.or_false, Bool.false_or, Nat.reduceLeDiff, Int.reduceLE, Int.reduceLT, Int.reduceToNat, Nat.mul_one, Int.toNat_natCast, Int.cast_ofNat_Int, ge_iff_le, gt_iff_lt, f0, b0, l0, a0, a1, a2, l1, l2]
  | [b, c] =>
    have l1 : (3 : Int) < 4 := by decide
    have l2 : ¬ ((3 : Int) < 1) := by decide
    simp only [c154, o154_1, o154_2, o154_3, o154_4, o154_5, o154_6, o154_7, o154_8, o154_9, o154_10, o154_11, o154_12, o154_13, o154_14, o154_15, o154_16, o154_17, o154_18, o154_19, o154_20, o154_21, o154_22, o154_23, o154_24, o154_25, o154_26, o154_27, noLetter, glob, g1, g2, g3, g4, g5, g6, g7, w2, s1, evFn, enter, enterC, EC_of, EC_skip, EC_reg, EC_dreg, EC_gh, EC_seq, EC_cond, EC_block, EC_loop, EC_exit, EC_ret, EO_nil, EO_cons, ED_nil, ED_cons, evOp, wants, opd, opds, getT, put, mcells, cellV, allCell, hget, hset, hsets, rdc, fillc, splice, binv, unv, intBin, eqcells, eqk, Ev.flip, isnil, leave, gives1, give1, mov1, movC, lentOf, lends, getR, List.map_cons, List.map_nil, clo, clo2, clo2s, cloP, cloPs, cloL, clo1, args1, arg1, evCall, back, frz_nil, frz_cons, flatv, flat2, flat2L, flatL, flat1, frees, hasAll, adoptR, adopt, adoptL, takeL, deads, newIds, memN, apartN, nodupN, sameLen, apartAll, apartFP, keys, rowOf, rowsOf, rowsIn, szOK, isStrV, bytesOf, within, bound, validO, shifts, List.getElem?_cons_succ, List.getElem?_cons_zero, List.getElem?_nil, Nat.add_zero, Nat.zero_add, Nat.reduceAdd, Nat.reduceMul, List.drop_succ_cons, List.drop_zero, List.drop_nil, List.take_succ_cons, List.take_zero, List.take_nil, List.length_cons, List.length_nil, List.nil_append, List.cons_append, List.append_nil, List.filter_nil, List.filter_cons, Option.map_some, Option.map_none, if_true, if_false, reduceIte, decide_true, decide_false, Bool.not_true, Bool.not_false, beq_self_eq_true, eq_self, Bool.and_true, Bool.true_and, Bool.false_and, Bool.and_false, Bool.or_true, Bool.true_or, Bool.or_false, Bool.false_or, Nat.reduceLeDiff, Int.reduceLE, Int.reduceLT, Int.reduceToNat, Nat.mul_one, Int.toNat_natCast, Int.cast_ofNat_Int, ge_iff_le, gt_iff_lt, f0, b0, l0, a0, a1, a2, l1, l2]
  | b :: c :: d :: r =>
    have m2 := mask_all 63 (by simp) b.toNat b.toNat_lt
    have m3 := mask_all 63 (by simp) c.toNat c.toNat_lt
    have m4 := mask_all 63 (by simp) d.toNat d.toNat_lt
    have v1 : IntKind.i32.wrap ((a.toNat % 8 : Nat) : Int) = ((a.toNat % 8 : Nat) : Int) := IntWalk.i32_in _ (by omega)
    have v2 : IntKind.i32.wrap ((b.toNat % 64 : Nat) : Int) = ((b.toNat % 64 : Nat) : Int) := IntWalk.i32_in _ (by omega)
    have v3 : IntKind.i32.wrap ((c.toNat % 64 : Nat) : Int) = ((c.toNat % 64 : Nat) : Int) := IntWalk.i32_in _ (by omega)
    have v0 : IntKind.i32.wrap ((d.toNat % 64 : Nat) : Int) = ((d.toNat % 64 : Nat) : Int) := IntWalk.i32_in _ (by omega)
    have v4 := shl32 (a.toNat % 8) 18 (by omega) (by omega)
    have v5 := shl32 (b.toNat % 64) 12 (by omega) (by omega)
    have v8 := shl32 (c.toNat % 64) 6 (by omega) (by omega)
    have v6 := or_add (a.toNat % 8) (b.toNat % 64 * 4096) 18 (by omega) (by omega)
    have v7 := or_add (a.toNat % 8 * 64 + b.toNat % 64) (c.toNat % 64 * 64) 12 (by omega) (by omega)
    have v9 := or_add ((a.toNat % 8 * 64 + b.toNat % 64) * 64 + c.toNat % 64) (d.toNat % 64) 6 (by omega) (by omega)
    rw [show (a.toNat % 8 * 64 + b.toNat % 64) * 2 ^ 12 = a.toNat % 8 * 262144 + b.toNat % 64 * 4096 by omega] at v7
    rw [show ((a.toNat % 8 * 64 + b.toNat % 64) * 64 + c.toNat % 64) * 2 ^ 6 = a.toNat % 8 * 262144 + b.toNat % 64 * 4096 + c.toNat % 64 * 64 by omega] at v9
    simp only [Int.toNat_natCast, Nat.reducePow, Nat.reduceAdd, Int.cast_ofNat_Int, Int.reduceToNat] at m1 m2 m3 m4 v4 v5 v6 v7 v8 v9
    have l3 : ¬ (((r.length + 1 + 1 + 1 + 1 : Nat) : Int) < 1) := by omega
    have l4 : ¬ (((r.length + 1 + 1 + 1 + 1 : Nat) : Int) < 4) := by omega
    have q1 := contB_eq c.toNat
    have q2 := contB_eq d.toNat
    by_cases h1_ : lo ≤ (b.toNat : Int)
    · by_cases h2_ : (b.toNat : Int) ≤ hi
      · by_cases h3_ : 128 ≤ (c.toNat : Int)
        · by_cases h4_ : (c.toNat : Int) ≤ 191
          · by_cases h5_ : 128 ≤ (d.toNat : Int)
            · by_cases h6_ : (d.toNat : Int) ≤ 191
              · simp only [evFn, enter, enterC, EC_of, EC_skip, EC_reg, EC_dreg, EC_gh, EC_seq, EC_cond, EC_block, EC_loop, EC_exit, EC_ret, EO_nil, EO_cons, ED_nil, ED_cons, evOp, wants, opd, opds, getT, put, mcells, cellV, allCell, hget, hset, hsets, rdc, fillc, splice, binv, unv, intBin, eqcells, eqk, Ev.flip, isnil, leave, gives1, give1, mov1, movC, lentOf, lends, getR, List.map_cons, List.map_nil, clo, clo2, clo2s, cloP, cloPs, cloL, clo1, args1, arg1, evCall, back, frz_nil, frz_cons, flatv, flat2, flat2L, flatL, flat1, frees, hasAll, adoptR, adopt, adoptL, takeL, deads, newIds, memN, apartN, nodupN, sameLen, apartAll, apartFP, keys, rowOf, rowsOf, rowsIn, szOK, isStrV, bytesOf, within, bound, validO, shifts, List.getElem?_cons_succ, List.getElem?_cons_zero, List.getElem?_nil, Nat.add_zero, Nat.zero_add, Nat.reduceAdd, Nat.reduceMul, List.drop_succ_cons, List.drop_zero, List.drop_nil, List.take_succ_cons, List.take_zero, List.take_nil, List.length_cons, List.length_nil, List.nil_append, List.cons_append, List.append_nil, List.filter_nil, List.filter_cons, Option.map_some, Option.map_none, if_true, if_false, reduceIte, decide_true, decide_false, Bool.not_true, Bool.not_false, beq_self_eq_true, eq_self, Bool.and_true, Bool.true_and, Bool.false_and, Bool.and_false, Bool.or_true, Bool.true_or, Bool.or_false, Bool.false_or, Nat.reduceLeDiff, Int.reduceLE, Int.reduceLT, Int.reduceToNat, Nat.mul_one, Int.toNat_natCast, Int.cast_ofNat_Int, ge_iff_le, gt_iff_lt, c154, o154_1, o154_2, o154_3, o154_4, o154_5, o154_6, o154_7, o154_8, o154_9, o154_10, o154_11, o154_12, o154_13, o154_14, o154_15, o154_16, o154_17, o154_18, o154_19, o154_20, o154_21, o154_22, o154_23, o154_24, o154_25, o154_26, o154_27, noLetter, glob, g1, g2, g3, g4, g5, g6, g7, w2, s1, s2, s3, s4, s5, s6, f0, b0, a0, a1, a2, l3, l4, m1, m2, m3, m4, v0, v1, v2, v3, v4, v5, v6, v7, v8, v9, q1, q2, Bool.false_eq_true, h1_, Int.not_lt.2 h1_, h2_, Int.not_lt.2 h2_, h3_, Int.not_lt.2 h3_, h4_, Int.not_lt.2 h4_, h5_, Int.not_lt.2 h5_, h6_, Int.not_lt.2 h6_]
              · simp only [evFn, enter, enterC, EC_of, EC_skip, EC_reg, EC_dreg, EC_gh, EC_seq, EC_cond, EC_block, EC_loop, EC_exit, EC_ret, EO_nil, EO_cons, ED_nil, ED_cons, evOp, wants, opd, opds, getT, put, mcells, cellV, allCell, hget, hset, hsets, rdc, fillc, splice, binv, unv, intBin, eqcells, eqk, Ev.flip, isnil, leave, gives1, give1, mov1, movC, lentOf, lends, getR, List.map_cons, List.map_nil, clo, clo2, clo2s, cloP, cloPs, cloL, clo1, args1, arg1, evCall, back, frz_nil, frz_cons, flatv, flat2, flat2L, flatL, flat1, frees, hasAll, adoptR, adopt, adoptL, takeL, deads, newIds, memN, apartN, nodupN, sameLen, apartAll, apartFP, keys, rowOf, rowsOf, rowsIn, szOK, isStrV, bytesOf, within, bound, validO, shifts, List.getElem?_cons_succ, List.getElem?_cons_zero, List.getElem?_nil, Nat.add_zero, Nat.zero_add, Nat.reduceAdd, Nat.reduceMul, List.drop_succ_cons, List.drop_zero, List.drop_nil, List.take_succ_cons, List.take_zero, List.take_nil, List.length_cons, List.length_nil, List.nil_append, List.cons_append, List.append_nil, List.filter_nil, List.filter_cons, Option.map_some, Option.map_none, if_true, if_false, reduceIte, decide_true, decide_false, Bool.not_true, Bool.not_false, beq_self_eq_true, eq_self, Bool.and_true, Bool.true_and, Bool.false_and, Bool.and_false, Bool.or_true, Bool.true_or, Bool.or_false, Bool.false_or, Nat.reduceLeDiff, Int.reduceLE, Int.reduceLT, Int.reduceToNat, Nat.mul_one, Int.toNat_natCast, Int.cast_ofNat_Int, ge_iff_le, gt_iff_lt, c154, o154_1, o154_2, o154_3, o154_4, o154_5, o154_6, o154_7, o154_8, o154_9, o154_10, o154_11, o154_12, o154_13, o154_14, o154_15, o154_16, o154_17, o154_18, o154_19, o154_20, o154_21, o154_22, o154_23, o154_24, o154_25, o154_26, o154_27, noLetter, glob, g1, g2, g3, g4, g5, g6, g7, w2, s1, s2, s3, s4, s5, s6, f0, b0, a0, a1, a2, l3, l4, m1, m2, m3, m4, v0, v1, v2, v3, v4, v5, v6, v7, v8, v9, q1, q2, Bool.false_eq_true, h1_, Int.not_lt.2 h1_, h2_, Int.not_lt.2 h2_, h3_, Int.not_lt.2 h3_, h4_, Int.not_lt.2 h4_, h5_, Int.not_lt.2 h5_, h6_, Int.not_le.1 h6_]
            · simp only [evFn, enter, enterC, EC_of, EC_skip, EC_reg, EC_dreg, EC_gh, EC_seq, EC_cond, EC_block, EC_loop, EC_exit, EC_ret, EO_nil, EO_cons, ED_nil, ED_cons, evOp, wants, opd, opds, getT, put, mcells, cellV, allCell, hget, hset, hsets, rdc, fillc, splice, binv, unv, intBin, eqcells, eqk, Ev.flip, isnil, leave, gives1, give1, mov1, movC, lentOf, lends, getR, List.map_cons, List.map_nil, clo, clo2, clo2s, cloP, cloPs, cloL, clo1, args1, arg1, evCall, back, frz_nil, frz_cons, flatv, flat2, flat2L, flatL, flat1, frees, hasAll, adoptR, adopt, adoptL, takeL, deads, newIds, memN, apartN, nodupN, sameLen, apartAll, apartFP, keys, rowOf, rowsOf, rowsIn, szOK, isStrV, bytesOf, within, bound, validO, shifts, List.getElem?_cons_succ, List.getElem?_cons_zero, List.getElem?_nil, Nat.add_zero, Nat.zero_add, Nat.reduceAdd, Nat.reduceMul, List.drop_succ_cons, List.drop_zero, List.drop_nil, List.take_succ_cons, List.take_zero, List.take_nil, List.length_cons, List.length_nil, List.nil_append, List.cons_append, List.append_nil, List.filter_nil, List.filter_cons, Option.map_some, Option.map_none, if_true, if_false, reduceIte, decide_true, decide_false, Bool.not_true, Bool.not_false, beq_self_eq_true, eq_self, Bool.and_true, Bool.true_and, Bool.false_and, Bool.and_false, Bool.or_true, Bool.true_or, Bool.or_false, Bool.false_or, Nat.reduceLeDiff, Int.reduceLE, Int.reduceLT, Int.reduceToNat, Nat.mul_one, Int.toNat_natCast, Int.cast_ofNat_Int, ge_iff_le, gt_iff_lt, c154, o154_1, o154_2, o154_3, o154_4, o154_5, o154_6, o154_7, o154_8, o154_9, o154_10, o154_11, o154_12, o154_13, o154_14, o154_15, o154_16, o154_17, o154_18, o154_19, o154_20, o154_21, o154_22, o154_23, o154_24, o154_25, o154_26, o154_27, noLetter, glob, g1, g2, g3, g4, g5, g6, g7, w2, s1, s2, s3, s4, s5, s6, f0, b0, a0, a1, a2, l3, l4, m1, m2, m3, m4, v0, v1, v2, v3, v4, v5, v6, v7, v8, v9, q1, q2, Bool.false_eq_true, h1_, Int.not_lt.2 h1_, h2_, Int.not_lt.2 h2_, h3_, Int.not_lt.2 h3_, h4_, Int.not_lt.2 h4_, h5_, Int.not_le.1 h5_]
          · simp only [evFn, enter, enterC, EC_of, EC_skip, EC_reg, EC_dreg, EC_gh, EC_seq, EC_cond, EC_block, EC_loop, EC_exit, EC_ret, EO_nil, EO_cons, ED_nil, ED_cons, evOp, wants, opd, opds, getT, put, mcells, cellV, allCell, hget, hset, hsets, rdc, fillc, splice, binv, unv, intBin, eqcells, eqk, Ev.flip, isnil, leave, gives1, give1, mov1, movC, lentOf, lends, getR, List.map_cons, List.map_nil, clo, clo2, clo2s, cloP, cloPs, cloL, clo1, args1, arg1, evCall, back, frz_nil, frz_cons, flatv, flat2, flat2L, flatL, flat1, frees, hasAll, adoptR, adopt, adoptL, takeL, deads, newIds, memN, apartN, nodupN, sameLen, apartAll, apartFP, keys, rowOf, rowsOf, rowsIn, szOK, isStrV, bytesOf, within, bound, validO, shifts, List.getElem?_cons_succ, List.getElem?_cons_zero, List.getElem?_nil, Nat.add_zero, Nat.zero_add, Nat.reduceAdd, Nat.reduceMul, List.drop_succ_cons, List.drop_zero, List.drop_nil, List.take_succ_cons, List.take_zero, List.take_nil, List.length_cons, List.length_nil, List.nil_append, List.cons_append, List.append_nil, List.filter_nil, List.filter_cons, Option.map_some, Option.map_none, if_true, if_false, reduceIte, decide_true, decide_false, Bool.not_true, Bool.not_false, beq_self_eq_true, eq_self, Bool.and_true, Bool.true_and, Bool.false_and, Bool.and_false, Bool.or_true, Bool.true_or, Bool.or_false, Bool.false_or, Nat.reduceLeDiff, Int.reduceLE, Int.reduceLT, Int.reduceToNat, Nat.mul_one, Int.toNat_natCast, Int.cast_ofNat_Int, ge_iff_le, gt_iff_lt, c154, o154_1, o154_2, o154_3, o154_4, o154_5, o154_6, o154_7, o154_8, o154_9, o154_10, o154_11, o154_12, o154_13, o154_14, o154_15, o154_16, o154_17, o154_18, o154_19, o154_20, o154_21, o154_22, o154_23, o154_24, o154_25, o154_26, o154_27, noLetter, glob, g1, g2, g3, g4, g5, g6, g7, w2, s1, s2, s3, s4, s5, s6, f0, b0, a0, a1, a2, l3, l4, m1, m2, m3, m4, v0, v1, v2, v3, v4, v5, v6, v7, v8, v9, q1, q2, Bool.false_eq_true, h1_, Int.not_lt.2 h1_, h2_, Int.not_lt.2 h2_, h3_, Int.not_lt.2 h3_, h4_, Int.not_le.1 h4_]
        · simp only [evFn, enter, enterC, EC_of, EC_skip, EC_reg, EC_dreg, EC_gh, EC_seq, EC_cond, EC_block, EC_loop, EC_exit, EC_ret, EO_nil, EO_cons, ED_nil, ED_cons, evOp, wants, opd, opds, getT, put, mcells, cellV, allCell, hget, hset, hsets, rdc, fillc, splice, binv, unv, intBin, eqcells, eqk, Ev.flip, isnil, leave, gives1, give1, mov1, movC, lentOf, lends, getR, List.map_cons, List.map_nil, clo, clo2, clo2s, cloP, cloPs, cloL, clo1, args1, arg1, evCall, back, frz_nil, frz_cons, flatv, flat2, flat2L, flatL, flat1, frees, hasAll, adoptR, adopt, adoptL, takeL, deads, newIds, memN, apartN, nodupN, sameLen, apartAll, apartFP, keys, rowOf, rowsOf, rowsIn, szOK, isStrV, bytesOf, within, bound, validO, shifts, List.getElem?_cons_succ, List.getElem?_cons_zero, List.getElem?_nil, Nat.add_zero, Nat.zero_add, Nat.reduceAdd, Nat.reduceMul, List.drop_succ_cons, List.drop_zero, List.drop_nil, List.take_succ_cons, List.take_zero, List.take_nil, List.length_cons, List.length_nil, List.nil_append, List.cons_append, List.append_nil, List.filter_nil, List.filter_cons, Option.map_some, Option.map_none, if_true, if_false, reduceIte, decide_true, decide_false, Bool.not_true, Bool.not_false, beq_self_eq_true, eq_self, Bool.and_true, Bool.true_and, Bool.false_and, Bool.and_false, Bool.or_true, Bool.true_or, Bool.or_false, Bool.false_or, Nat.reduceLeDiff, Int.reduceLE, Int.reduceLT, Int.reduceToNat, Nat.mul_one, Int.toNat_natCast, Int.cast_ofNat_Int, ge_iff_le, gt_iff_lt, c154, o154_1, o154_2, o154_3, o154_4, o154_5, o154_6, o154_7, o154_8, o154_9, o154_10, o154_11, o154_12, o154_13, o154_14, o154_15, o154_16, o154_17, o154_18, o154_19, o154_20, o154_21, o154_22, o154_23, o154_24, o154_25, o154_26, o154_27, noLetter, glob, g1, g2, g3, g4, g5, g6, g7, w2, s1, s2, s3, s4, s5, s6, f0, b0, a0, a1, a2, l3, l4, m1, m2, m3, m4, v0, v1, v2, v3, v4, v5, v6, v7, v8, v9, q1, q2, Bool.false_eq_true, h1_, Int.not_lt.2 h1_, h2_, Int.not_lt.2 h2_, h3_, Int.not_le.1 h3_]
      · simp only [evFn, enter, enterC, EC_of, EC_skip, EC_reg, EC_dreg, EC_gh, EC_seq, EC_cond, EC_block, EC_loop, EC_exit, EC_ret, EO_nil, EO_cons, ED_nil, ED_cons, evOp, wants, opd, opds, getT, put, mcells, cellV, allCell, hget, hset, hsets, rdc, fillc, splice, binv, unv, intBin, eqcells, eqk, Ev.flip, isnil, leave, gives1, give1, mov1, movC, lentOf, lends, getR, List.map_cons, List.map_nil, clo, clo2, clo2s, cloP, cloPs, cloL, clo1, args1, arg1, evCall, back, frz_nil, frz_cons, flatv, flat2, flat2L, flatL, flat1, frees, hasAll, adoptR, adopt, adoptL, takeL, deads, newIds, memN, apartN, nodupN, sameLen, apartAll, apartFP, keys, rowOf, rowsOf, rowsIn, szOK, isStrV, bytesOf, within, bound, validO, shifts, List.getElem?_cons_succ, List.getElem?_cons_zero, List.getElem?_nil, Nat.add_zero, Nat.zero_add, Nat.reduceAdd, Nat.reduceMul, List.drop_succ_cons, List.drop_zero, List.drop_nil, List.take_succ_cons, List.take_zero, List.take_nil, List.length_cons, List.length_nil, List.nil_append, List.cons_append, List.append_nil, List.filter_nil, List.filter_cons, Option.map_some, Option.map_none, if_true, if_false, reduceIte, decide_true, decide_false, Bool.not_true, Bool.not_false, beq_self_eq_true, eq_self, Bool.and_true, Bool.true_and, Bool.false_and, Bool.and_false, Bool.or_true, Bool.true_or, Bool.or_false, Bool.false_or, Nat.reduceLeDiff, Int.reduceLE, Int.reduceLT, Int.reduceToNat, Nat.mul_one, Int.toNat_natCast, Int.cast_ofNat_Int, ge_iff_le, gt_iff_lt, c154, o154_1, o154_2, o154_3, o154_4, o154_5, o154_6, o154_7, o154_8, o154_9, o154_10, o154_11, o154_12, o154_13, o154_14, o154_15, o154_16, o154_17, o154_18, o154_19, o154_20, o154_21, o154_22, o154_23, o154_24, o154_25, o154_26, o154_27, noLetter, glob, g1, g2, g3, g4, g5, g6, g7, w2, s1, s2, s3, s4, s5, s6, f0, b0, a0, a1, a2, l3, l4, m1, m2, m3, m4, v0, v1, v2, v3, v4, v5, v6, v7, v8, v9, q1, q2, Bool.false_eq_true, h1_, Int.not_lt.2 h1_, h2_, Int.not_le.1 h2_]
    · simp only [evFn, enter, enterC, EC_of, EC_skip, EC_reg, EC_dreg, EC_gh, EC_seq, EC_cond, EC_block, EC_loop, EC_exit, EC_ret, EO_nil, EO_cons, ED_nil, ED_cons, evOp, wants, opd, opds, getT, put, mcells, cellV, allCell, hget, hset, hsets, rdc, fillc, splice, binv, unv, intBin, eqcells, eqk, Ev.flip, isnil, leave, gives1, give1, mov1, movC, lentOf, lends, getR, List.map_cons, List.map_nil, clo, clo2, clo2s, cloP, cloPs, cloL, clo1, args1, arg1, evCall, back, frz_nil, frz_cons, flatv, flat2, flat2L, flatL, flat1, frees, hasAll, adoptR, adopt, adoptL, takeL, deads, newIds, memN, apartN, nodupN, sameLen, apartAll, apartFP, keys, rowOf, rowsOf, rowsIn, szOK, isStrV, bytesOf, within, bound, validO, shifts, List.getElem?_cons_succ, List.getElem?_cons_zero, List.getElem?_nil, Nat.add_zero, Nat.zero_add, Nat.reduceAdd, Nat.reduceMul, List.drop_succ_cons, List.drop_zero, List.drop_nil, List.take_succ_cons, List.take_zero, List.take_nil, List.length_cons, List.length_nil, List.nil_append, List.cons_append, List.append_nil, List.filter_nil, List.filter_cons, Option.map_some, Option.map_none, if_true, if_false, reduceIte, decide_true, decide_false, Bool.not_true, Bool.not_false, beq_self_eq_true, eq_self, Bool.and_true, Bool.true_and, Bool.false_and, Bool.and_false, Bool.or_true, Bool.true_or, Bool.or_false, Bool.false_or, Nat.reduceLeDiff, Int.reduceLE, Int.reduceLT, Int.reduceToNat, Nat.mul_one, Int.toNat_natCast, Int.cast_ofNat_Int, ge_iff_le, gt_iff_lt, c154, o154_1, o154_2, o154_3, o154_4, o154_5, o154_6, o154_7, o154_8, o154_9, o154_10, o154_11, o154_12, o154_13, o154_14, o154_15, o154_16, o154_17, o154_18, o154_19, o154_20, o154_21, o154_22, o154_23, o154_24, o154_25, o154_26, o154_27, noLetter, glob, g1, g2, g3, g4, g5, g6, g7, w2, s1, s2, s3, s4, s5, s6, f0, b0, a0, a1, a2, l3, l4, m1, m2, m3, m4, v0, v1, v2, v3, v4, v5, v6, v7, v8, v9, q1, q2, Bool.false_eq_true, h1_, Int.not_le.1 h1_]
end
end Go.Proofs.YtefoleocbhkobaaGreatDoor
namespace Go.Proofs.YtefoleocbhkobaaGreatDoor
open Go Go.Ev
set_option linter.unusedSectionVars false
set_option linter.unusedSimpArgs false
set_option linter.unusedVariables false
def nats (s : List UInt8) : List Nat := s.map UInt8.toNat
def rune (s : List UInt8) : Nat × Nat := match letter (nats s) with | some p => p | none => (65533, 1)
def runePV (s : List UInt8) : PV := .tuple [.int .i32 ((rune s).1 : Nat), .int .i64 ((rune s).2 : Nat)]
theorem rune_none {s : List UInt8} (h : letter (nats s) = none) : runePV s = noLetter := by
  unfold runePV rune; rw [h]; rfl
theorem rune_some {s : List UInt8} {c k : Nat} (h : letter (nats s) = some (c, k)) : runePV s = .tuple [.int .i32 c, .int .i64 k] := by
  unfold runePV rune; rw [h]
theorem contB_iff {b : Nat} : contB b = true ↔ 128 ≤ b ∧ b ≤ 191 := by
  rw [contB_eq]; simp; omega
theorem three {a : UInt8} {r : List UInt8} {lo hi : Int} (ha : 224 ≤ a.toNat) (ha2 : a.toNat < 240)
    (h : ∀ b c : Nat, contB c = true → (lo ≤ (b : Int) ∧ (b : Int) ≤ hi ↔ 128 ≤ b ∧ b ≤ 191 ∧ ¬ (((a.toNat - 224) * 64 + (b - 128)) * 64 + (c - 128) < 2048) ∧ ¬ (55296 ≤ ((a.toNat - 224) * 64 + (b - 128)) * 64 + (c - 128) ∧ ((a.toNat - 224) * 64 + (b - 128)) * 64 + (c - 128) < 57344))) :
    (match r with
    | b :: c :: _ => if decide (lo ≤ (b.toNat : Int)) && decide ((b.toNat : Int) ≤ hi) && contB c.toNat then PV.tuple [.int .i32 ((a.toNat % 16 * 4096 + b.toNat % 64 * 64 + c.toNat % 64 : Nat) : Int), .int .i64 3] else noLetter
    | _ => noLetter) = runePV (a :: r) := by
  have e1 : ¬ a.toNat < 128 := by omega
  have e2 : ¬ a.toNat < 194 := by omega
  have e3 : ¬ a.toNat < 224 := by omega
  match r with
  | [] => exact (rune_none (by simp [nats, letter, e1, e2, e3, ha2])).symm
  | [b] => exact (rune_none (by simp [nats, letter, e1, e2, e3, ha2])).symm
  | b :: c :: r =>
    by_cases hc : contB c.toNat = true
    · have hh := h b.toNat c.toNat hc
      have hc2 := contB_iff.1 hc
      by_cases hb : lo ≤ (b.toNat : Int) ∧ (b.toNat : Int) ≤ hi
      · obtain ⟨p1, p2, p3, p4⟩ := hh.1 hb
        have hbb : contB b.toNat = true := contB_iff.2 ⟨p1, p2⟩
        rw [rune_some (c := ((a.toNat - 224) * 64 + (b.toNat - 128)) * 64 + (c.toNat - 128)) (k := 3) (by
          simp only [nats, List.map_cons, letter]
          rw [if_neg e1, if_neg e2, if_neg e3, if_pos ha2]
          simp only [hbb, hc, Bool.and_self, if_true]
          rw [if_neg p3, if_neg p4])]
        simp only [hb.1, hb.2, hc, decide_true, Bool.and_self, if_true]
        have : a.toNat % 16 * 4096 + b.toNat % 64 * 64 + c.toNat % 64 = ((a.toNat - 224) * 64 + (b.toNat - 128)) * 64 + (c.toNat - 128) := by omega
        rw [this]; rfl
      · have hn : (decide (lo ≤ (b.toNat : Int)) && decide ((b.toNat : Int) ≤ hi) && contB c.toNat) = false := by
          rw [← Bool.not_eq_true]; simp only [Bool.and_eq_true, decide_eq_true_eq]
          exact fun h => hb h.1
        simp only [hn, Bool.false_eq_true, if_false]
        refine (rune_none ?_).symm
        simp only [nats, List.map_cons, letter]
        rw [if_neg e1, if_neg e2, if_neg e3, if_pos ha2]
        split
        · rename_i hbc
          simp only [Bool.and_eq_true] at hbc
          have hb2 := contB_iff.1 hbc.1
          split
          · rfl
          · split
            · rfl
            · rename_i p3 p4
              exact absurd (hh.2 ⟨hb2.1, hb2.2, p3, p4⟩) hb
        · rfl
    · have hn : (decide (lo ≤ (b.toNat : Int)) && decide ((b.toNat : Int) ≤ hi) && contB c.toNat) = false := by
        rw [Bool.not_eq_true] at hc
        rw [hc, Bool.and_false]
      simp only [hn, Bool.false_eq_true, if_false]
      refine (rune_none ?_).symm
      simp only [nats, List.map_cons, letter]
      rw [if_neg e1, if_neg e2, if_neg e3, if_pos ha2]
      rw [Bool.not_eq_true] at hc
      simp [hc]
theorem four {a : UInt8} {r : List UInt8} {lo hi : Int} (ha : 240 ≤ a.toNat) (ha2 : a.toNat < 245)
    (h : ∀ b c d : Nat, contB c = true → contB d = true → (lo ≤ (b : Int) ∧ (b : Int) ≤ hi ↔ 128 ≤ b ∧ b ≤ 191 ∧ ¬ ((((a.toNat - 240) * 64 + (b - 128)) * 64 + (c - 128)) * 64 + (d - 128) < 65536) ∧ ¬ (1114111 < (((a.toNat - 240) * 64 + (b - 128)) * 64 + (c - 128)) * 64 + (d - 128)))) :
    (match r with
    | b :: c :: d :: _ => if decide (lo ≤ (b.toNat : Int)) && decide ((b.toNat : Int) ≤ hi) && contB c.toNat && contB d.toNat then PV.tuple [.int .i32 ((a.toNat % 8 * 262144 + b.toNat % 64 * 4096 + c.toNat % 64 * 64 + d.toNat % 64 : Nat) : Int), .int .i64 4] else noLetter
    | _ => noLetter) = runePV (a :: r) := by
  have e1 : ¬ a.toNat < 128 := by omega
  have e2 : ¬ a.toNat < 194 := by omega
  have e3 : ¬ a.toNat < 224 := by omega
  have e4 : ¬ a.toNat < 240 := by omega
  match r with
  | [] => exact (rune_none (by simp [nats, letter, e1, e2, e3, e4, ha2])).symm
  | [b] => exact (rune_none (by simp [nats, letter, e1, e2, e3, e4, ha2])).symm
  | [b, c] => exact (rune_none (by simp [nats, letter, e1, e2, e3, e4, ha2])).symm
  | b :: c :: d :: r =>
    by_cases hcd : contB c.toNat = true ∧ contB d.toNat = true
    · obtain ⟨hc, hd⟩ := hcd
      have hh := h b.toNat c.toNat d.toNat hc hd
      have hc2 := contB_iff.1 hc
      have hd2 := contB_iff.1 hd
      by_cases hb : lo ≤ (b.toNat : Int) ∧ (b.toNat : Int) ≤ hi
      · obtain ⟨p1, p2, p3, p4⟩ := hh.1 hb
        have hbb : contB b.toNat = true := contB_iff.2 ⟨p1, p2⟩
        rw [rune_some (c := (((a.toNat - 240) * 64 + (b.toNat - 128)) * 64 + (c.toNat - 128)) * 64 + (d.toNat - 128)) (k := 4) (by
          simp only [nats, List.map_cons, letter]
          rw [if_neg e1, if_neg e2, if_neg e3, if_neg e4, if_pos ha2]
          simp only [hbb, hc, hd, Bool.and_self, if_true]
          rw [if_neg p3, if_neg p4])]
        simp only [hb.1, hb.2, hc, hd, decide_true, Bool.and_self, if_true]
        have : a.toNat % 8 * 262144 + b.toNat % 64 * 4096 + c.toNat % 64 * 64 + d.toNat % 64 = (((a.toNat - 240) * 64 + (b.toNat - 128)) * 64 + (c.toNat - 128)) * 64 + (d.toNat - 128) := by omega
        rw [this]; rfl
      · have hn : (decide (lo ≤ (b.toNat : Int)) && decide ((b.toNat : Int) ≤ hi) && contB c.toNat && contB d.toNat) = false := by
          rw [← Bool.not_eq_true]; simp only [Bool.and_eq_true, decide_eq_true_eq]
          exact fun h => hb h.1.1
        simp only [hn, Bool.false_eq_true, if_false]
        refine (rune_none ?_).symm
        simp only [nats, List.map_cons, letter]
        rw [if_neg e1, if_neg e2, if_neg e3, if_neg e4, if_pos ha2]
        split
        · rename_i hbc
          simp only [Bool.and_eq_true] at hbc
          have hb2 := contB_iff.1 hbc.1.1
          split
          · rfl
          · split
            · rfl
            · rename_i p3 p4
              exact absurd (hh.2 ⟨hb2.1, hb2.2, p3, p4⟩) hb
        · rfl
    · have hn : (contB c.toNat && contB d.toNat) = false := by
        rw [← Bool.not_eq_true]; simp only [Bool.and_eq_true]; exact hcd
      have hn2 : ∀ x : Bool, (x && contB c.toNat && contB d.toNat) = false := fun x => by rw [Bool.and_assoc, hn, Bool.and_false]
      simp only [hn2, Bool.false_eq_true, if_false]
      refine (rune_none ?_).symm
      simp only [nats, List.map_cons, letter]
      rw [if_neg e1, if_neg e2, if_neg e3, if_neg e4, if_pos ha2]
      simp only [hn2, Bool.false_eq_true, if_false]
theorem slow_ok {n : Nat} {a : UInt8} {r : List UInt8} (ha : 128 ≤ a.toNat) : run tab prim glob (n + 1) 154 [.str (a :: r)] = some (runePV (a :: r), []) := by
  have hlt := a.toNat_lt
  have e1 : ¬ a.toNat < 128 := by omega
  by_cases c1 : a.toNat < 194
  · rw [slow_bad (by simp [firstOf, e1, c1])]
    rw [rune_none (by simp [nats, letter, e1, c1])]
  · by_cases c2 : a.toNat < 224
    · rw [slow2 (by simp [firstOf, e1, c1, c2])]
      match r with
      | [] => rw [rune_none (by simp [nats, letter, e1, c1, c2])]
      | b :: r =>
        simp only
        by_cases hb : contB b.toNat = true
        · have hb2 := contB_iff.1 hb
          rw [rune_some (c := (a.toNat - 192) * 64 + (b.toNat - 128)) (k := 2) (by simp [nats, letter, e1, c1, c2, hb]), if_pos hb]
          have : a.toNat % 32 * 64 + b.toNat % 64 = (a.toNat - 192) * 64 + (b.toNat - 128) := by omega
          rw [this]; rfl
        · rw [rune_none (by simp [nats, letter, e1, c1, c2, hb]), if_neg hb]
    · by_cases c3 : a.toNat < 240
      · by_cases d1 : a.toNat = 224
        · rw [slow3 (F := 19) (lo := 160) (hi := 191) (q0 := 1) (by simp [firstOf, d1]) (by decide) (by decide) (by decide) (by decide) (by decide +kernel) (by decide +kernel) (by rfl)]
          exact congrArg (fun v => some (v, ([] : List (List PV)))) (three (a := a) (r := r) (lo := 160) (hi := 191) (by omega) c3 fun b c hc => by have := contB_iff.1 hc; omega)
        · by_cases d2 : a.toNat = 237
          · rw [slow3 (F := 35) (lo := 128) (hi := 159) (q0 := 2) (by simp [firstOf, d2]) (by decide) (by decide) (by decide) (by decide) (by decide +kernel) (by decide +kernel) (by rfl)]
            exact congrArg (fun v => some (v, ([] : List (List PV)))) (three (a := a) (r := r) (lo := 128) (hi := 159) (by omega) c3 fun b c hc => by have := contB_iff.1 hc; omega)
          · rw [slow3 (F := 3) (lo := 128) (hi := 191) (q0 := 0) (by
              simp only [firstOf, e1, c1, c2, d1, d2, c3, o3_1, o3_2, o3_3, o3_4, o3_5, o3_6, o3_7, if_false, if_true]; split <;> rfl) (by decide) (by decide) (by decide) (by decide) (by decide +kernel) (by decide +kernel) (by rfl)]
            exact congrArg (fun v => some (v, ([] : List (List PV)))) (three (a := a) (r := r) (lo := 128) (hi := 191) (by omega) c3 fun b c hc => by have := contB_iff.1 hc; omega)
      · have e3 : ¬ a.toNat = 224 := by omega
        have e4 : ¬ a.toNat < 237 := by omega
        have e5 : ¬ a.toNat = 237 := by omega
        by_cases d0 : a.toNat < 245
        · by_cases d1 : a.toNat = 240
          · rw [slow4 (F := 52) (lo := 144) (hi := 191) (q0 := 3) (by simp [firstOf, d1]) (by decide) (by decide) (by decide) (by decide) (by decide +kernel) (by decide +kernel) (by rfl)]
            exact congrArg (fun v => some (v, ([] : List (List PV)))) (four (a := a) (r := r) (lo := 144) (hi := 191) (by omega) d0 fun b c d hc hd => by have := contB_iff.1 hc; have := contB_iff.1 hd; omega)
          · by_cases d2 : a.toNat = 244
            · rw [slow4 (F := 68) (lo := 128) (hi := 143) (q0 := 4) (by simp [firstOf, d2]) (by decide) (by decide) (by decide) (by decide) (by decide +kernel) (by decide +kernel) (by rfl)]
              exact congrArg (fun v => some (v, ([] : List (List PV)))) (four (a := a) (r := r) (lo := 128) (hi := 143) (by omega) d0 fun b c d hc hd => by have := contB_iff.1 hc; have := contB_iff.1 hd; omega)
            · have d3 : a.toNat < 244 := by omega
              rw [slow4 (F := 4) (lo := 128) (hi := 191) (q0 := 0) (by simp [firstOf, e1, c1, c2, c3, e3, e4, e5, d1, d3]) (by decide) (by decide) (by decide) (by decide) (by decide +kernel) (by decide +kernel) (by rfl)]
              exact congrArg (fun v => some (v, ([] : List (List PV)))) (four (a := a) (r := r) (lo := 128) (hi := 191) (by omega) d0 fun b c d hc hd => by have := contB_iff.1 hc; have := contB_iff.1 hd; omega)
        · have d1 : ¬ a.toNat = 240 := by omega
          have d2 : ¬ a.toNat < 244 := by omega
          have d3 : ¬ a.toNat = 244 := by omega
          rw [slow_bad (by simp [firstOf, e1, c1, c2, c3, e3, e4, e5, d1, d2, d3])]
          rw [rune_none (by simp [nats, letter, e1, c1, c2, c3, d0])]
theorem decode_ok {N : Nat} (hN : 2 ≤ N) (a : UInt8) (r : List UInt8) : run tab prim glob N 140 [.str (a :: r)] = some (runePV (a :: r), []) := by
  obtain ⟨n, rfl⟩ : ∃ n, N = n + 2 := ⟨N - 2, by omega⟩
  rw [enters (n := n + 1) (fn := c140) rfl]
  have hlt := a.toNat_lt
  have e0 : (a :: r = []) = False := by simp
  have z0 : (0 : Int) ≤ 0 := by decide
  by_cases h : (a.toNat : Int) < 128
  · have w1 : IntKind.i32.wrap (a.toNat : Int) = (a.toNat : Int) := IntWalk.i32_in _ (by omega)
    rw [rune_some (c := a.toNat) (k := 1) (by simp only [nats, List.map_cons, letter]; rw [if_pos (by omega)])]
    simp only [c140, o140_1, o140_2, o140_3, o140_4, go_sem, Nat.reduceAdd, Nat.reduceMul, reduceIte, Nat.reduceLeDiff, Int.reduceLE, Int.reduceLT, Int.reduceToNat, e0, z0, h, w1]
  · have hs := slow_ok (n := n) (a := a) (r := r) (by omega)
    simp only [runePV] at hs ⊢
    simp only [c140, o140_1, o140_2, o140_3, o140_4, go_sem, Nat.reduceAdd, Nat.reduceMul, reduceIte, Nat.reduceLeDiff, Int.reduceLE, Int.reduceLT, Int.reduceToNat, e0, z0, h, hs]
end Go.Proofs.YtefoleocbhkobaaGreatDoor
namespace Go.Proofs.YtefoleocbhkobaaGreatDoor
open Go Go.Ev
set_option linter.unusedSectionVars false
set_option linter.unusedSimpArgs false
set_option linter.unusedVariables false
theorem get_at {s : List UInt8} {pos k : Nat} {t : List UInt8} {b : UInt8} (h : s.drop pos = t) (hb : t[k]? = some b) : ((⟨s.toArray⟩ : ByteArray).get! (pos + k)) = b := by
  have : s[pos + k]? = some b := by rw [← hb, ← h, List.getElem?_drop]
  show s.toArray[pos + k]! = b
  simp [this]
theorem size_at {s : List UInt8} {pos k : Nat} {t : List UInt8} (h : s.drop pos = t) (ht : t ≠ []) : (pos + k < (⟨s.toArray⟩ : ByteArray).size) = (k < t.length) := by
  have h1 : t.length = s.length - pos := by rw [← h]; simp
  have h2 : 0 < t.length := List.length_pos_iff.2 ht
  show (pos + k < s.toArray.size) = _
  simp only [List.size_toArray, eq_iff_iff]
  omega
theorem div_cont {b : Nat} : (b / 64 == 2) = contB b := by
  cases h : contB b
  · have : ¬ (128 ≤ b ∧ b ≤ 191) := fun hh => by rw [contB_iff.2 hh] at h; cases h
    simp; omega
  · have := contB_iff.1 h
    simp; omega
theorem beqf {x y : Nat} (h : ¬ x = y) : (x == y) = false := by simp [h]
theorem beqt {x y : Nat} (h : x = y) : (x == y) = true := by simp [h]
theorem decode_model {s : List UInt8} {pos : Nat} {a : UInt8} {r : List UInt8} (h : s.drop pos = a :: r) : Utf8.decode ⟨s.toArray⟩ pos = rune (a :: r) := by
  have hlt := a.toNat_lt
  have g0 : ((⟨s.toArray⟩ : ByteArray).get! (pos + 0)) = a := get_at h rfl
  have z : ∀ k, (pos + k < (⟨s.toArray⟩ : ByteArray).size) = (k < (a :: r).length) := fun k => size_at h (by simp)
  have none_ : letter (nats (a :: r)) = none → rune (a :: r) = (Utf8.runeError, 1) := fun h => by unfold rune; rw [h]; rfl
  have some_ : ∀ c k, letter (nats (a :: r)) = some (c, k) → rune (a :: r) = (c, k) := fun c k h => by unfold rune; rw [h]
  unfold Utf8.decode
  simp only [z, g0, div_cont]
  by_cases c0 : a.toNat < 128
  · rw [if_pos c0, some_ a.toNat 1 (by simp [nats, letter, c0])]
  rw [if_neg c0]
  by_cases c1 : a.toNat < 194
  · rw [none_ (by simp [nats, letter, c0, c1])]
    have e3 := beqf (show ¬ a.toNat / 16 = 14 by omega)
    have e4 := beqf (show ¬ a.toNat / 8 = 30 by omega)
    simp only [e3, e4, Bool.false_and, Bool.false_eq_true, if_false]
    split
    · rename_i hh
      simp only [Bool.and_eq_true, beq_iff_eq] at hh
      rw [if_neg (by omega)]
    · rfl
  by_cases c2 : a.toNat < 224
  · have e2 := beqt (show a.toNat / 32 = 6 by omega)
    have e3 := beqf (show ¬ a.toNat / 16 = 14 by omega)
    have e4 := beqf (show ¬ a.toNat / 8 = 30 by omega)
    match r, h, z, none_, some_ with
    | [], h, z, none_, some_ =>
      rw [none_ (by simp [nats, letter, c0, c1, c2])]
      simp [e2, e3, e4]
    | b :: r, h, z, none_, some_ =>
      have g1 : ((⟨s.toArray⟩ : ByteArray).get! (pos + 1)) = b := get_at h rfl
      have l1 : (1 < (a :: b :: r).length) = True := by simp
      simp only [e2, e3, e4, g1, l1, decide_true, Bool.true_and, Bool.false_and, Bool.false_eq_true, if_false]
      by_cases hb : contB b.toNat = true
      · have := contB_iff.1 hb
        have ev : a.toNat % 32 * 64 + b.toNat % 64 = (a.toNat - 192) * 64 + (b.toNat - 128) := by omega
        have hge : (a.toNat - 192) * 64 + (b.toNat - 128) ≥ 128 := by omega
        rw [if_pos hb, ev, some_ ((a.toNat - 192) * 64 + (b.toNat - 128)) 2 (by
          simp only [nats, List.map_cons, letter]
          rw [if_neg c0, if_neg c1, if_pos c2, if_pos hb])]
        simp only [hge, if_true]
      · rw [if_neg hb, none_ (by simp [nats, letter, c0, c1, c2, hb])]
  have e2 := beqf (show ¬ a.toNat / 32 = 6 by omega)
  by_cases c3 : a.toNat < 240
  · have e3 := beqt (show a.toNat / 16 = 14 by omega)
    have e4 := beqf (show ¬ a.toNat / 8 = 30 by omega)
    match r, h, z, none_, some_ with
    | [], h, z, none_, some_ =>
      rw [none_ (by simp [nats, letter, c0, c1, c2, c3])]
      simp [e2, e3, e4]
    | [b], h, z, none_, some_ =>
      rw [none_ (by simp [nats, letter, c0, c1, c2, c3])]
      simp [e2, e3, e4]
    | b :: c :: r, h, z, none_, some_ =>
      have g1 : ((⟨s.toArray⟩ : ByteArray).get! (pos + 1)) = b := get_at h rfl
      have g2 : ((⟨s.toArray⟩ : ByteArray).get! (pos + 2)) = c := get_at h rfl
      have l1 : (1 < (a :: b :: c :: r).length) = True := by simp
      have l2 : (2 < (a :: b :: c :: r).length) = True := by simp
      simp only [e2, e3, e4, g1, g2, l1, l2, decide_true, Bool.true_and, Bool.false_and, Bool.false_eq_true, if_false]
      by_cases hb : (contB b.toNat && contB c.toNat) = true
      · rw [if_pos hb]
        simp only [Bool.and_eq_true] at hb
        have hb1 := contB_iff.1 hb.1
        have hc1 := contB_iff.1 hb.2
        have ev : a.toNat % 16 * 4096 + b.toNat % 64 * 64 + c.toNat % 64 = ((a.toNat - 224) * 64 + (b.toNat - 128)) * 64 + (c.toNat - 128) := by omega
        rw [ev]
        generalize hv : ((a.toNat - 224) * 64 + (b.toNat - 128)) * 64 + (c.toNat - 128) = v
        have hL : letter (nats (a :: b :: c :: r)) = if v < 2048 then none else if 55296 ≤ v ∧ v < 57344 then none else some (v, 3) := by
          simp only [nats, List.map_cons, letter]
          rw [if_neg c0, if_neg c1, if_neg c2, if_pos c3]
          simp only [hb.1, hb.2, Bool.and_self, if_true, hv]
        have hv2 : v < 65536 := by omega
        by_cases k1 : v < 2048
        · rw [none_ (by rw [hL, if_pos k1])]
          have : ¬ (v ≥ 2048) := by omega
          simp [this]
        · by_cases k2 : 55296 ≤ v ∧ v < 57344
          · rw [none_ (by rw [hL, if_neg k1, if_pos k2])]
            have : Utf8.valid (v : Int) = false := by
              unfold Utf8.valid
              rw [← Bool.not_eq_true]
              simp only [Bool.or_eq_true, Bool.and_eq_true, decide_eq_true_eq]
              omega
            simp [this]
          · rw [some_ v 3 (by rw [hL, if_neg k1, if_neg k2])]
            have h1 : Utf8.valid (v : Int) = true := by
              unfold Utf8.valid
              simp only [Bool.or_eq_true, Bool.and_eq_true, decide_eq_true_eq]
              omega
            have h2 : v ≥ 2048 := by omega
            simp [h1, h2]
      · rw [if_neg hb, none_ (by
          simp only [nats, List.map_cons, letter]
          rw [if_neg c0, if_neg c1, if_neg c2, if_pos c3, if_neg hb])]
  have e3 := beqf (show ¬ a.toNat / 16 = 14 by omega)
  by_cases c4 : a.toNat < 245
  · have e4 := beqt (show a.toNat / 8 = 30 by omega)
    match r, h, z, none_, some_ with
    | [], h, z, none_, some_ =>
      rw [none_ (by simp [nats, letter, c0, c1, c2, c3, c4])]
      simp [e2, e3, e4]
    | [b], h, z, none_, some_ =>
      rw [none_ (by simp [nats, letter, c0, c1, c2, c3, c4])]
      simp [e2, e3, e4]
    | [b, c], h, z, none_, some_ =>
      rw [none_ (by simp [nats, letter, c0, c1, c2, c3, c4])]
      simp [e2, e3, e4]
    | b :: c :: d :: r, h, z, none_, some_ =>
      have g1 : ((⟨s.toArray⟩ : ByteArray).get! (pos + 1)) = b := get_at h rfl
      have g2 : ((⟨s.toArray⟩ : ByteArray).get! (pos + 2)) = c := get_at h rfl
      have g3 : ((⟨s.toArray⟩ : ByteArray).get! (pos + 3)) = d := get_at h rfl
      have l1 : (1 < (a :: b :: c :: d :: r).length) = True := by simp
      have l2 : (2 < (a :: b :: c :: d :: r).length) = True := by simp
      have l3 : (3 < (a :: b :: c :: d :: r).length) = True := by simp
      simp only [e2, e3, e4, g1, g2, g3, l1, l2, l3, decide_true, Bool.true_and, Bool.false_and, Bool.false_eq_true, if_false]
      by_cases hb : (contB b.toNat && contB c.toNat && contB d.toNat) = true
      · rw [if_pos hb]
        simp only [Bool.and_eq_true] at hb
        have hb1 := contB_iff.1 hb.1.1
        have hc1 := contB_iff.1 hb.1.2
        have hd1 := contB_iff.1 hb.2
        have ev : a.toNat % 8 * 262144 + b.toNat % 64 * 4096 + c.toNat % 64 * 64 + d.toNat % 64 = (((a.toNat - 240) * 64 + (b.toNat - 128)) * 64 + (c.toNat - 128)) * 64 + (d.toNat - 128) := by omega
        rw [ev]
        generalize hv : (((a.toNat - 240) * 64 + (b.toNat - 128)) * 64 + (c.toNat - 128)) * 64 + (d.toNat - 128) = v
        have hL : letter (nats (a :: b :: c :: d :: r)) = if v < 65536 then none else if 1114111 < v then none else some (v, 4) := by
          simp only [nats, List.map_cons, letter]
          rw [if_neg c0, if_neg c1, if_neg c2, if_neg c3, if_pos c4]
          simp only [hb.1.1, hb.1.2, hb.2, Bool.and_self, if_true, hv]
        by_cases k1 : v < 65536
        · rw [none_ (by rw [hL, if_pos k1])]
          have : ¬ (v ≥ 65536) := by omega
          simp [this]
        · by_cases k2 : 1114111 < v
          · rw [none_ (by rw [hL, if_neg k1, if_pos k2])]
            have : Utf8.valid (v : Int) = false := by
              unfold Utf8.valid
              rw [← Bool.not_eq_true]
              simp only [Bool.or_eq_true, Bool.and_eq_true, decide_eq_true_eq]
              omega
            simp [this]
          · rw [some_ v 4 (by rw [hL, if_neg k1, if_neg k2])]
            have h1 : Utf8.valid (v : Int) = true := by
              unfold Utf8.valid
              simp only [Bool.or_eq_true, Bool.and_eq_true, decide_eq_true_eq]
              omega
            have h2 : v ≥ 65536 := by omega
            simp [h1, h2]
      · rw [if_neg hb, none_ (by
          simp only [nats, List.map_cons, letter]
          rw [if_neg c0, if_neg c1, if_neg c2, if_neg c3, if_pos c4, if_neg hb])]
  · rw [none_ (by simp [nats, letter, c0, c1, c2, c3, c4])]
    simp only [e2, e3, Bool.false_and, Bool.false_eq_true, if_false]
    split
    · rename_i hh
      simp only [Bool.and_eq_true, beq_iff_eq] at hh
      have h8 : a.toNat / 8 = 30 := hh.1.1.1
      have hbig : 1114111 < a.toNat % 8 * 262144 + ((⟨s.toArray⟩ : ByteArray).get! (pos + 1)).toNat % 64 * 4096 + ((⟨s.toArray⟩ : ByteArray).get! (pos + 2)).toNat % 64 * 64 + ((⟨s.toArray⟩ : ByteArray).get! (pos + 3)).toNat % 64 := by omega
      generalize a.toNat % 8 * 262144 + ((⟨s.toArray⟩ : ByteArray).get! (pos + 1)).toNat % 64 * 4096 + ((⟨s.toArray⟩ : ByteArray).get! (pos + 2)).toNat % 64 * 64 + ((⟨s.toArray⟩ : ByteArray).get! (pos + 3)).toNat % 64 = v at hbig ⊢
      have : Utf8.valid (v : Int) = false := by
        unfold Utf8.valid
        rw [← Bool.not_eq_true]
        simp only [Bool.or_eq_true, Bool.and_eq_true, decide_eq_true_eq]
        omega
      simp [this]
    · rfl
end Go.Proofs.YtefoleocbhkobaaGreatDoor
